/- TopDownward: storing.Accept. -/
import Derived.Test.YtlkhjalnnciocaaGreatDwnC

namespace Go.Fw
open Go.Proofs
set_option maxHeartbeats 8000000
set_option maxRecDepth 4000
def newerC (a b : Int) : Bool :=
  if a ≥ 128 ∧ b ≥ 128 then decide (a > b ∧ a - b ≤ 16)
  else if a < 128 ∧ b < 128 then decide (1 ≤ (a - b + 128).tmod 128 ∧ (a - b + 128).tmod 128 ≤ 16)
  else if a < 128 then decide (a + 256 - b ≤ 16)
  else decide (b + 256 - a > 16)
theorem k_rNewer (a b : Int) (ha : 0 ≤ a ∧ a ≤ 255) (hb : 0 ≤ b ∧ b ≤ 255) : Con Tryz.prog 65 [.v (.int .u8 a), .v (.int .u8 b)] [] (bool (newerC a b)) [] := by
  refine spec_of_run ttok mixed (T0 := 70369012617459) (ts := [.tmp 4]) 59 rfl rfl rfl rfl (by simp) rfl ?_
  conv => whnf
  repeat' (first | ((first | ((with_reducible apply Wr.i64); focus omega) | ((with_reducible apply Need.mk); focus omega) | (with_reducible first | apply Bif.T | apply Bif.F) | ((with_reducible apply Bif.dec) <;> intro h <;> (try simp only [lns] at h) <;> (try (exfalso; omega))) | (with_reducible apply Frz.l)) <;> conv => whnf) | fail)
  all_goals (apply Same.bool (by unfold newerC; (repeat' split) <;> first | (exfalso; omega) | (rw [Bool.eq_iff_iff]; simp <;> omega) | (simp; done) | (simp; omega)); (conv => whnf); repeat' (first | with_reducible apply True.intro | ((with_reducible apply Frz.l) <;> conv => whnf) | fail))
/-- The table with the route. -/
def insR (l : List Ro) (r : Ro) : List Ro := if fnR l r.i = true then l.set (atR l r.i) r else l.take (atR l r.i) ++ r :: l.drop (atR l r.i)
/-- The route that is known, if there is one, is older. -/
def OldR (l : List Ro) (i s : Nat) : Prop := fnR l i = true → newerC ((gt l (atR l i)).seq : Int) (s : Int) = false ∧ (gt l (atR l i)).seq ≠ s ∧ (gt l (atR l i)).seq ≤ 255
theorem k_sAcceptF (l : List Ro) (T : Tb l) (now x i s : Nat) (hi : i < 7) (hx : x ≠ 0 ∧ x ≤ 18446744073709551615) (hn : now ≤ 1000) (hs : s ≤ 255) (he : ∀ r ∈ l, now < r.exp) (ho : OldR l i s) (hf : fnR l i = true) :
    Con Tryz.prog 24 [.fs .no 20 (lst roV l), int (now : Int), q64 (x : Int), .agg [pfxV (tgt i), .v (.int .u8 (s : Int)), int 500]] []
      (.tup [.ov 20 0 0 l.length, bool true, int 0]) [.arr none 20 (lst roV (l.set (atR l i) ⟨i, x, s, now + 500⟩))] := by
  have hl := T.len
  have cV := k_sValid l T
  have cR := k_sRegister i s 500 hi (by decide)
  have ct := k_isTime (now : Int)
  rw [decide_eq_true (by omega)] at ct
  have cf := k_sfind l T i hi
  rw [hf] at cf
  obtain ⟨o1, o2, o3⟩ := ho hf
  obtain ⟨g1, g2⟩ := of_decide_eq_true hf
  have h4 := he _ (gt_mem g1)
  have cN := k_rNewer ((gt l (atR l i)).seq : Int) (s : Int) (by omega) (by omega)
  rw [o1] at cN
  have e : min ((now : Int) + 500) 1099511627776 = ((now + 500 : Nat) : Int) := by omega
  have hS : (lst roV l).set (atR l i) (SV.agg [pfxV (tgt i), q64 (x : Int), .v (.int .u8 (s : Int)), .v (.int .i64 (min ((now : Int) + 500) 1099511627776))]) = lst roV (l.set (atR l i) ⟨i, x, s, now + 500⟩) := by
    rw [e]; exact lst_set l (atR l i) (⟨i, x, s, now + 500⟩ : Ro)
  refine spec_of_run ttok mixed (T0 := 730750818665456651400258050002617487088509124495) (ts := [.tmp 8, .tmp 9, .tmp 10]) 166 rfl rfl rfl rfl (by simp) rfl ?_
  conv => whnf
  repeat' (first | with_reducible apply True.intro | ((apply Same.mk hS); (conv => whnf)) | ((first | ((with_reducible apply Nm.mk); focus ((try simp only [lns]); exact rfl)) | ((with_reducible apply Wr.i64); focus omega) | ((with_reducible apply Need.mk); focus first | omega | (simp only [lns]; omega) | kernel_rfl | (unfold roomOK; simp only [lns]; omega)) | ((with_reducible apply Elem.lst); focus omega) | (apply CallN.mk (cV)) | (apply CallN.mk (cR)) | (apply CallN.mk (ct)) | (apply CallN.mk (cf)) | (apply CallN.mk (cN)) | (with_reducible first | apply Bif.T | apply Bif.F) | ((with_reducible first | apply Bif.dec | apply Bif.beq | apply Bif.bne) <;> intro h <;> (try simp only [lns] at h) <;> (try (exfalso; omega))) | (with_reducible apply Bif.not) | (with_reducible apply Same.rfl) | (apply Same.int; focus rfl) | (apply Same.bool; focus (with_reducible rfl)) | (with_reducible apply Cut.l) | (with_reducible apply Frz.l)) <;> conv => whnf) | fail)
theorem insCopy {α : Type} (L : List α) (z : α) (k : Nat) (hk : k ≤ L.length) : ∃ w, w ∈ L ++ [z] ∧ List.take ((k : Int) + 1).toNat (L ++ [z]) ++ List.take (L.length + 1 - ((k : Int) + 1).toNat) (List.take (L.length + 1 - k) (List.drop k (L ++ [z]))) ++
    List.drop (((k : Int) + 1).toNat + min (L.length + 1 - ((k : Int) + 1).toNat) (min (L.length + 1 - k) (L.length + 1 - k))) (L ++ [z]) = L.take k ++ w :: L.drop k := by
  have e : ((k : Int) + 1).toNat = k + 1 := by omega
  have hl : (L ++ [z]).length = L.length + 1 := by simp
  have hd : List.drop (L.length + 1) (L ++ [z]) = [] := List.drop_eq_nil_of_le (by omega)
  refine ⟨(L ++ [z])[k]'(by omega), List.getElem_mem _, ?_⟩
  rw [e, Nat.min_self, Nat.min_eq_left (by omega), show k + 1 + (L.length + 1 - (k + 1)) = L.length + 1 by omega, hd, List.append_nil, List.take_take, Nat.min_eq_left (by omega),
    List.take_add_one, List.getElem?_eq_getElem (by omega), List.append_assoc]
  have h1 : (L ++ [z]).take k = L.take k := List.take_append_of_le_length hk
  have h2 : (L ++ [z]).drop k = L.drop k ++ [z] := List.drop_append_of_le_length hk
  have h3 : (L.drop k ++ [z]).take (L.length + 1 - (k + 1)) = L.drop k := by
    rw [List.take_append_of_le_length (by rw [List.length_drop]; omega), List.take_of_length_le (by rw [List.length_drop]; omega)]
  rw [h1, h2, h3]
  rfl
theorem k_sAcceptI (l : List Ro) (T : Tb l) (now x i s : Nat) (hi : i < 7) (hx : x ≠ 0 ∧ x ≤ 18446744073709551615) (hn : now ≤ 1000) (hs : s ≤ 255) (hf : fnR l i = false) :
    Con Tryz.prog 24 [.fs .no 20 (lst roV l), int (now : Int), q64 (x : Int), .agg [pfxV (tgt i), .v (.int .u8 (s : Int)), int 500]] []
      (.tup [.ov 20 0 0 (l.length + 1), bool true, int 0]) [.arr none 20 (lst roV (l.take (atR l i) ++ (⟨i, x, s, now + 500⟩ : Ro) :: l.drop (atR l i)))] := by
  have hl := T.len
  have hle := atR_le l i
  have cV := k_sValid l T
  have cR := k_sRegister i s 500 hi (by decide)
  have ct := k_isTime (now : Int)
  rw [decide_eq_true (by omega)] at ct
  have cf := k_sfind l T i hi
  rw [hf] at cf
  have e : min ((now : Int) + 500) 1099511627776 = ((now + 500 : Nat) : Int) := by omega
  obtain ⟨w, hm, hw⟩ := insCopy (lst roV l) (SV.agg [SV.agg [SV.ba 16 [0, 0, 0, 0, 0, 0, 0, 0, 0, 0, 0, 0, 0, 0, 0, 0], SV.v (Value.int IntKind.i64 0)], SV.v (Value.int IntKind.u64 0), SV.v (Value.int IntKind.u8 0), SV.v (Value.int IntKind.i64 0)]) (atR l i) (by rw [lst_len]; exact hle)
  rw [lst_len, lst_take, lst_drop] at hw
  have hg : (lst roV (l.take (atR l i)) ++ w :: lst roV (l.drop (atR l i)))[atR l i]? = some w := by
    rw [List.getElem?_append_right (by rw [lst_len, List.length_take]; omega), lst_len, List.length_take, Nat.min_eq_left hle, Nat.sub_self]; rfl
  have hS : (lst roV (l.take (atR l i)) ++ w :: lst roV (l.drop (atR l i))).set (atR l i) (SV.agg [pfxV (tgt i), q64 (x : Int), .v (.int .u8 (s : Int)), .v (.int .i64 (min ((now : Int) + 500) 1099511627776))]) = lst roV (l.take (atR l i) ++ (⟨i, x, s, now + 500⟩ : Ro) :: l.drop (atR l i)) := by
    rw [List.set_append_right _ _ (by rw [lst_len, List.length_take]; omega), lst_len, List.length_take, Nat.min_eq_left hle, Nat.sub_self, List.set_cons_zero, e, ← lst_app]; rfl
  have hm2 : w = SV.agg [SV.agg [SV.ba 16 [0, 0, 0, 0, 0, 0, 0, 0, 0, 0, 0, 0, 0, 0, 0, 0], SV.v (Value.int IntKind.i64 0)], SV.v (Value.int IntKind.u64 0), SV.v (Value.int IntKind.u8 0), SV.v (Value.int IntKind.i64 0)] ∨ ∃ r, w = roV r := by
    rcases List.mem_append.1 hm with h | h
    · simp only [lst, List.mem_map] at h
      obtain ⟨r, _, h⟩ := h
      exact .inr ⟨r, h.symm⟩
    · exact .inl (List.mem_singleton.1 h)
  clear hm
  rcases hm2 with rfl | ⟨r, rfl⟩
  all_goals (
    refine spec_of_run ttok mixed (T0 := 730750818665456651400258050002617487088509124495) (ts := [.tmp 8, .tmp 9, .tmp 10]) 166 rfl rfl rfl rfl (by simp) rfl ?_
    conv => whnf
    repeat' (first | with_reducible apply True.intro | ((rw [hw]); (apply Elem.mk _ hg); (conv => whnf)) | ((apply Same.mk hS); (conv => whnf)) | ((first | ((with_reducible apply Nm.mk); focus ((try simp only [lns]); exact rfl)) | ((with_reducible apply Wr.i64); focus omega) | ((with_reducible apply Need.mk); focus first | omega | (simp only [lns]; omega) | kernel_rfl | (unfold roomOK; simp only [lns]; omega)) | (apply CallN.mk (cV)) | (apply CallN.mk (cR)) | (apply CallN.mk (ct)) | (apply CallN.mk (cf)) | (with_reducible first | apply Bif.T | apply Bif.F) | ((with_reducible first | apply Bif.dec | apply Bif.beq | apply Bif.bne) <;> intro h <;> (try simp only [lns] at h) <;> (try (exfalso; omega))) | (with_reducible apply Bif.not) | (with_reducible apply Same.rfl) | (apply Same.int; focus rfl) | (apply Same.bool; focus (with_reducible rfl)) | (with_reducible first | apply Alt.l | apply Cut.l) | (with_reducible apply Frz.l)) <;> conv => whnf) | fail))
  done
end Go.Fw

/- TopDownward: the plain law of tables. -/
namespace Go.Fw
set_option maxRecDepth 4000
open Go.Proofs
set_option maxHeartbeats 8000000
theorem mem_gt {l : List Ro} {r : Ro} : r ∈ l ↔ ∃ k, k < l.length ∧ gt l k = r := by
  constructor
  · intro h
    obtain ⟨k, hk, e⟩ := List.mem_iff_getElem.1 h
    exact ⟨k, hk, by rw [gt_eq hk]; exact e⟩
  · rintro ⟨k, hk, rfl⟩
    exact gt_mem hk
theorem Tb.mem_at {l : List Ro} (T : Tb l) {r : Ro} (h : r ∈ l) : fnR l r.i = true ∧ gt l (atR l r.i) = r := by
  obtain ⟨k, hk, rfl⟩ := mem_gt.1 h
  obtain ⟨h1, h2⟩ := T.at_eq hk rfl
  exact ⟨h2, by rw [← h1]⟩
theorem fnR_mem {l : List Ro} {i : Nat} (h : fnR l i = true) : gt l (atR l i) ∈ l ∧ (gt l (atR l i)).i = i := by
  obtain ⟨h1, h2⟩ := of_decide_eq_true h
  exact ⟨gt_mem h1, h2⟩
theorem fnR_no {l : List Ro} (T : Tb l) {i : Nat} (h : fnR l i = false) {r : Ro} (hr : r ∈ l) : r.i ≠ i := fun e => by
  have := (T.mem_at hr).1
  rw [e, h] at this
  cases this
theorem mem_insR {l : List Ro} (T : Tb l) {r y : Ro} : y ∈ insR l r ↔ y = r ∨ (y ∈ l ∧ y.i ≠ r.i) := by
  unfold insR
  cases hf : fnR l r.i
  · rw [if_neg (by decide)]
    constructor
    · intro h
      rcases List.mem_append.1 h with h | h
      · exact .inr ⟨List.mem_of_mem_take h, fnR_no T hf (List.mem_of_mem_take h)⟩
      · rcases List.mem_cons.1 h with h | h
        · exact .inl h
        · exact .inr ⟨List.mem_of_mem_drop h, fnR_no T hf (List.mem_of_mem_drop h)⟩
    · rintro (rfl | ⟨h, _⟩)
      · simp
      · rw [← List.take_append_drop (atR l r.i) l] at h
        rcases List.mem_append.1 h with h | h
        · exact List.mem_append_left _ h
        · exact List.mem_append_right _ (List.mem_cons_of_mem _ h)
  · rw [if_pos rfl]
    obtain ⟨h1, h2⟩ := of_decide_eq_true hf
    constructor
    · intro h
      obtain ⟨k, hk, e⟩ := mem_gt.1 h
      rw [List.length_set] at hk
      rw [gt_set h1] at e
      by_cases g : k = atR l r.i
      · rw [if_pos g] at e; exact .inl e.symm
      · rw [if_neg g] at e
        subst e
        refine .inr ⟨gt_mem hk, fun h3 => g (T.at_eq hk h3).1⟩
    · rintro (rfl | ⟨h, hn⟩)
      · exact mem_gt.2 ⟨atR l y.i, by rw [List.length_set]; exact h1, by rw [gt_set h1, if_pos rfl]⟩
      · obtain ⟨k, hk, rfl⟩ := mem_gt.1 h
        refine mem_gt.2 ⟨k, by rw [List.length_set]; exact hk, ?_⟩
        rw [gt_set h1, if_neg]
        rintro rfl
        exact hn h2
theorem tb_pw {l : List Ro} (h : ∀ r ∈ l, r.i < 7 ∧ r.via ≠ 0 ∧ r.exp ≤ 1099511627776) (p : l.Pairwise fun a b => a.i < b.i) : Tb l := by
  refine ⟨h, fun k hk => ?_⟩
  have := List.pairwise_iff_getElem.1 p k (k + 1) (by omega) hk (by omega)
  rw [gt_eq (by omega), gt_eq hk]
  exact this
theorem Tb.pw {l : List Ro} (T : Tb l) : l.Pairwise fun a b => a.i < b.i := by
  rw [List.pairwise_iff_getElem]
  intro j k hj hk hjk
  have := T.lt hjk hk
  rwa [gt_eq hj, gt_eq hk] at this
theorem Tb.ins {l : List Ro} (T : Tb l) {r : Ro} (h : r.i < 7 ∧ r.via ≠ 0 ∧ r.exp ≤ 1099511627776) : Tb (insR l r) := by
  refine tb_pw (fun y hy => ?_) ?_
  · rcases (mem_insR T).1 hy with rfl | ⟨g, _⟩
    · exact h
    · exact T.ok y g
  · unfold insR
    cases hf : fnR l r.i
    · rw [if_neg (by decide)]
      have p := T.pw
      rw [← List.take_append_drop (atR l r.i) l, List.pairwise_append] at p
      obtain ⟨p1, p2, p3⟩ := p
      have lo : ∀ y ∈ l.take (atR l r.i), y.i < r.i := fun y hy => by
        obtain ⟨k, hk, e⟩ := List.mem_iff_getElem.1 hy
        rw [List.length_take] at hk
        have := atR_lt (l := l) (i := r.i) (k := k) (by omega)
        rw [gt_eq (by omega)] at this
        rw [← e, List.getElem_take]
        exact this
      have hi : ∀ y ∈ l.drop (atR l r.i), r.i < y.i := fun y hy => by
        have hn := fnR_no T hf (List.mem_of_mem_drop hy)
        obtain ⟨k, hk, e⟩ := List.mem_iff_getElem.1 hy
        rw [List.length_drop] at hk
        rw [List.getElem_drop] at e
        have h1 := atR_at (l := l) (i := r.i) (by omega)
        have h2 : (gt l (atR l r.i)).i ≤ (gt l (atR l r.i + k)).i := by
          rcases Nat.eq_zero_or_pos k with g | g
          · subst g; exact Nat.le_refl _
          · exact Nat.le_of_lt (T.lt (by omega) (by omega))
        rw [gt_eq (i := atR l r.i + k) (by omega), e] at h2
        omega
      exact List.pairwise_append.2 ⟨p1, List.pairwise_cons.2 ⟨hi, p2⟩, fun a ha b hb => by
        rcases List.mem_cons.1 hb with rfl | hb
        · exact lo a ha
        · exact p3 a ha b hb⟩
    · rw [if_pos rfl]
      obtain ⟨h1, h2⟩ := of_decide_eq_true hf
      rw [List.pairwise_iff_getElem]
      intro j k hj hk hjk
      rw [List.length_set] at hj hk
      have := T.lt hjk hk
      rw [gt_eq hj, gt_eq hk] at this
      rw [List.getElem_set, List.getElem_set]
      rw [gt_eq h1] at h2
      split <;> split
      · omega
      · rename_i a b; subst a; omega
      · rename_i a b; subst b; omega
      · exact this
end Go.Fw
