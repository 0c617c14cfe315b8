/- Renumber: the plain law. -/
import Derived.Test.YtpmiaggdjgfjgaaGreatParN

namespace Go.Fw
open Go.Proofs
set_option maxHeartbeats 4000000
set_option maxRecDepth 4000
/-! ### Free addresses -/
abbrev isU (v : Int) : Prop := 0 ≤ v ∧ v < 18446744073709551616
def seqV (v : Int) (i : Nat) : Int := (v + i) % 18446744073709551616
theorem seqV_u (v : Int) (i : Nat) : isU (seqV v i) := by unfold seqV isU; omega
theorem seqV_zero {v : Int} (h : isU v) : seqV v 0 = v := by unfold seqV; unfold isU at h; omega
theorem seqV_succ (v : Int) (i : Nat) : (seqV v i + 1) % 18446744073709551616 = seqV v (i + 1) := by unfold seqV; omega
theorem seqV_inj {v : Int} {i j : Nat} (h : seqV v i = seqV v j) (hi : i < 1000000) (hj : j < 1000000) : i = j := by unfold seqV at h; omega
theorem be8_eq (v : Int) : be8 v 8 = [v / 72057594037927936 % 256, v / 281474976710656 % 256, v / 1099511627776 % 256, v / 4294967296 % 256, v / 16777216 % 256, v / 65536 % 256, v / 256 % 256, v / 1 % 256] := rfl
theorem be8_inj {v w : Int} (hv : isU v) (hw : isU w) (h : be8 v 8 = be8 w 8) : v = w := by
  rw [be8_eq, be8_eq] at h
  simp only [List.cons.injEq, and_true] at h
  obtain ⟨e7, e6, e5, e4, e3, e2, e1, e0⟩ := h
  unfold isU at hv hw
  have h7 : v / 72057594037927936 = w / 72057594037927936 := by omega
  clear e7
  have h6 : v / 281474976710656 = w / 281474976710656 := by omega
  clear e6 h7
  have h5 : v / 1099511627776 = w / 1099511627776 := by omega
  clear e5 h6
  have h4 : v / 4294967296 = w / 4294967296 := by omega
  clear e4 h5
  have h3 : v / 16777216 = w / 16777216 := by omega
  clear e3 h4
  have h2 : v / 65536 = w / 65536 := by omega
  clear e2 h3
  have h1 : v / 256 = w / 256 := by omega
  omega
theorem ipJ_inj {a : IP} {v w : Int} (hv : isU v) (hw : isU w) (h : (ipJ a v).1 = (ipJ a w).1) : v = w :=
  be8_inj hv hw (List.append_cancel_left h)
theorem nodup_le {α : Type} [DecidableEq α] : ∀ {L cs : List α}, L.Nodup → (∀ x ∈ L, x ∈ cs) → L.length ≤ cs.length
  | [], _, _, _ => Nat.zero_le _
  | x :: L, cs, h, g => by
    rw [List.nodup_cons] at h
    have hx := g x (by simp)
    have ih := nodup_le (L := L) (cs := cs.erase x) h.2 fun y hy => (List.mem_erase_of_ne (fun e => h.1 (by rw [← e]; exact hy))).2 (g y (by simp [hy]))
    rw [List.length_erase_of_mem hx] at ih
    have := List.length_pos_of_mem hx
    rw [List.length_cons]
    omega
/-- An address is taken. -/
def tk (R : List Clm) (a : IP) : Bool := R.any fun c => c.ip.1 == a.1
theorem tk_iff {R : List Clm} {a : IP} : tk R a = true ↔ ∃ c ∈ R, c.ip.1 = a.1 := by simp [tk]
theorem tk_no {R : List Clm} {a : IP} (h : tk R a = false) : ∀ c ∈ R, c.ip ≠ a := fun c hc e => by
  rw [tk_iff.2 ⟨c, hc, by rw [e]⟩] at h; cases h
theorem tk_all {R : List Clm} {a : IP} {v : Int} {n : Nat} (hn : n < 1000000) (h : ∀ i, i < n → tk R (ipJ a (seqV v i)) = true) : n ≤ R.length := by
  have h1 : ((List.range n).map fun i => (ipJ a (seqV v i)).1).Nodup := by
    rw [List.nodup_iff_pairwise_ne, List.pairwise_map]
    refine List.nodup_range.imp_of_mem fun {i j} hi hj hij e => hij ?_
    exact seqV_inj (ipJ_inj (seqV_u v i) (seqV_u v j) e) (by have := List.mem_range.1 hi; omega) (by have := List.mem_range.1 hj; omega)
  have h2 := nodup_le (cs := R.map fun c => c.ip.1) h1 fun x hx => by
    obtain ⟨i, hi, rfl⟩ := List.mem_map.1 hx
    obtain ⟨c, hc, e⟩ := tk_iff.1 (h i (List.mem_range.1 hi))
    exact List.mem_map.2 ⟨c, hc, e⟩
  simpa using h2
def frJ (R : List Clm) (a : IP) (v : Int) : Nat → Nat → Nat
  | 0, i => i
  | n + 1, i => if tk R (ipJ a (seqV v i)) = true then frJ R a v n (i + 1) else i
theorem frJ_spec (R : List Clm) (a : IP) (v : Int) : ∀ n i, (∀ k, k < i → tk R (ipJ a (seqV v k)) = true) → frJ R a v n i ≤ i + n ∧ (∀ k, k < frJ R a v n i → tk R (ipJ a (seqV v k)) = true) ∧ (frJ R a v n i < i + n → tk R (ipJ a (seqV v (frJ R a v n i))) = false)
  | 0, i, h => by simp only [frJ]; exact ⟨by omega, h, fun g => by omega⟩
  | n + 1, i, h => by
    simp only [frJ]
    by_cases ht : tk R (ipJ a (seqV v i)) = true
    · rw [if_pos ht]
      have ih := frJ_spec R a v n (i + 1) fun k hk => by
        rcases Nat.lt_or_ge k i with g | g
        · exact h k g
        · rw [show k = i by omega]; exact ht
      exact ⟨by omega, ih.2.1, fun g => ih.2.2 (by omega)⟩
    · rw [if_neg ht]
      exact ⟨by omega, h, fun _ => by simpa using ht⟩
/-- So many are taken ahead of the first that is free. -/
def freeJ (R : List Clm) (a : IP) (v : Int) : Nat := frJ R a v (R.length + 1) 0
theorem freeJ_ok (R : List Clm) (a : IP) (v : Int) (hR : R.length < 999999) : freeJ R a v ≤ R.length ∧ (∀ k, k < freeJ R a v → tk R (ipJ a (seqV v k)) = true) ∧ tk R (ipJ a (seqV v (freeJ R a v))) = false := by
  have h := frJ_spec R a v (R.length + 1) 0 fun k hk => by omega
  have h1 : freeJ R a v ≤ R.length := tk_all (by have := h.1; unfold freeJ; omega) h.2.1
  exact ⟨h1, h.2.1, h.2.2 (by have : freeJ R a v = frJ R a v (R.length + 1) 0 := rfl; omega)⟩
theorem freeJ_eq {R : List Clm} {a : IP} {v : Int} {j : Nat} (hR : R.length < 999999) (h1 : ∀ k, k < j → tk R (ipJ a (seqV v k)) = true) (h2 : tk R (ipJ a (seqV v j)) = false) : freeJ R a v = j := by
  obtain ⟨_, g1, g2⟩ := freeJ_ok R a v hR
  rcases Nat.lt_trichotomy (freeJ R a v) j with h | h | h
  · rw [h1 _ h] at g2; cases g2
  · exact h
  · rw [g1 _ h] at h2; cases h2
/-! ### New addresses -/
def renC (now lt : Int) (a : IP) (C : List Clm) (o : Clm) : Clm := ⟨ipJ a (seqV o.eui (freeJ C a o.eui)), o.eui, o.seq, now, min (now + lt) 1099511627776⟩
def renS (now lt : Int) (a : IP) (s : List Clm × List Clm) (o : Clm) : List Clm × List Clm := (insM s.1 (renC now lt a s.1 o), s.2 ++ [renC now lt a s.1 o])
def renT (now lt : Int) (a : IP) (C L : List Clm) : List Clm × List Clm := L.foldl (renS now lt a) (C, [])
theorem renT_step (now lt : Int) (a : IP) (C : List Clm) {L : List Clm} {j : Nat} (h : j < L.length) : renT now lt a C (L.take (j + 1)) = renS now lt a (renT now lt a C (L.take j)) (gt L j) := by
  rw [take_gt h, renT, List.foldl_append]; rfl
/-- What holds of the claims while new addresses are given. -/
structure RenI (now lt : Int) (a : IP) (C : List Clm) (L : List Clm) (s : List Clm × List Clm) : Prop where
  pw : s.1.Pairwise byIP
  ok : ∀ x ∈ s.1, clmOK x = true
  l1 : s.1.length = C.length + L.length
  l2 : s.2.length = L.length
  old : ∀ x ∈ C, x ∈ s.1
  new : ∀ x ∈ L, ∃ y ∈ s.1, y.eui = x.eui ∧ y.upto = min (now + lt) 1099511627776
theorem renT_ok {now lt : Int} {a : IP} {C : List Clm} (hn : isTm now) (hlt : 1 ≤ lt ∧ lt ≤ 1099511627776) (pC : C.Pairwise byIP) (vC : ∀ x ∈ C, clmOK x = true) {L : List Clm} (hL : ∀ x ∈ L, clmOK x = true) (hl : C.length + L.length < 999999) :
    ∀ j, j ≤ L.length → RenI now lt a C (L.take j) (renT now lt a C (L.take j))
  | 0, _ => ⟨by simpa [renT] using pC, by simpa [renT] using vC, by simp [renT], by simp [renT], by simp [renT], by simp⟩
  | j + 1, hj => by
    have ih := renT_ok (a := a) hn hlt pC vC hL hl j (by omega)
    rw [renT_step now lt a C (by omega), take_gt (by omega)]
    have hlj : (L.take j).length = j := by rw [List.length_take]; omega
    have i1 := ih.l1
    have i2 := ih.l2
    have hf := freeJ_ok (renT now lt a C (L.take j)).1 a (gt L j).eui (by omega)
    have hg := hL _ (gt_mem (l := L) (i := j) (by omega))
    generalize renT now lt a C (L.take j) = s at *
    have hne := tk_no hf.2.2
    have hm : ∀ x, x ∈ insM s.1 (renC now lt a s.1 (gt L j)) ↔ x ∈ s.1 ∨ x = renC now lt a s.1 (gt L j) := fun x => insM_mem _ _ x
    refine ⟨insM_pw ih.pw hne, fun x hx => ?_, ?_, ?_, fun x hx => (hm x).2 (.inl (ih.old x hx)), fun x hx => ?_⟩
    · rcases (hm x).1 hx with h | h
      · exact ih.ok x h
      · rw [h]
        simp only [clmOK, decide_eq_true_eq] at hg ⊢
        simp only [renC]
        omega
    · show (insM s.1 _).length = _
      rw [insM_len, List.length_append, hlj]
      simp only [List.length_cons, List.length_nil]
      omega
    · show (s.2 ++ [_]).length = _
      rw [List.length_append, List.length_append, hlj]
      simp only [List.length_cons, List.length_nil]
      omega
    · rcases List.mem_append.1 hx with h | h
      · obtain ⟨y, hy, e⟩ := ih.new x h
        exact ⟨y, (hm y).2 (.inl hy), e⟩
      · rw [List.mem_singleton.1 h]
        exact ⟨renC now lt a s.1 (gt L j), (hm _).2 (.inr rfl), rfl, rfl⟩
/-- partition.Renumber -/
def renM (n : Net) (now : Int) (p : Pfx) (lost : List Clm) (lt : Int) : Net × List Clm × Int :=
  if validN n = true ∧ vPfx p = true ∧ lost.all clmOK = true then
    (if isTm now ∧ p.bits ≤ 64 ∧ 1 ≤ lt ∧ lt ≤ 1099511627776 then
      (if (cur n.cl now).length + lost.length > 64 then (net0, [], 10) else (⟨n.ep, n.rt, n.mem, (renT now lt p.ip (cur n.cl now) lost).1⟩, (renT now lt p.ip (cur n.cl now) lost).2, 0))
    else (net0, [], 2))
  else (net0, [], 1)
end Go.Fw

/- Renumber: what it calls. -/
namespace Go.Fw
open Go.Proofs
set_option maxHeartbeats 4000000
set_option maxRecDepth 4000
theorem k_IdxIP (g : FuncId) (a : IP) (p : Clm → Bool) (hg : ∀ c, Con Tryz.prog g [clmV c, .pb 0 []] [.cells (ipV a)] (bool (p c)) [.cells (ipV a)]) (l : List Clm) (t : Tg) (hl : l.length ≤ 1000000) :
    Con Tryz.prog 67 [.fs t 20 (lst clmV l), .clo g [.pb 0 []]] [.cells (ipV a)] (int (idxF p l)) [.cells (ipV a)] := by
  refine spec_of_run ttok mixed (T0 := 66483) (ts := [.tmp 4]) 19 rfl rfl rfl rfl (by simp) rfl ?_
  conv => whnf
  repeat' (first | ((first | ((with_reducible apply Nm.mk); focus ((try simp only [lns]); exact rfl)) | (with_reducible apply Frz.l)) <;> conv => whnf) | fail)
  refine loop_keep ttok mixed (T0 := 66483) [0, 1, 7] (ι := {k : Nat // k ≤ l.length ∧ ∀ j, j < k → p (gt l j) = false})
    (fun k => [(8, int (k.1 : Int))]) (fun _ => [.cells (ipV a)]) (fun k => l.length - k.1) ⟨0, by omega, none_lt⟩ ?_
  conv => whnf
  repeat' (first | ((first | (with_reducible apply Same.rfl) | (apply Same.int; focus rfl) | (with_reducible apply Frz.l)) <;> conv => whnf) | fail)
  rintro ⟨k, hk, he⟩
  dsimp only
  conv => whnf
  repeat' (first | ((first | ((with_reducible apply Nm.mk); focus ((try simp only [lns]); exact rfl)) | ((with_reducible apply Wr.i64); focus omega) | ((with_reducible apply Need.mk); focus (simp only [lns]; omega)) | ((with_reducible apply Elem.lst); focus omega) | (apply CallN.mk (hg _)) | ((with_reducible apply Bif.dec) <;> intro h <;> (try simp only [lns] at h)) | ((with_reducible apply Bif.mk) <;> intro h) | (with_reducible apply Frz.l)) <;> conv => whnf) | fail)
  · apply Same.int (idxF_some (by omega) h he).symm
    conv => whnf
    repeat' (first | with_reducible apply True.intro | ((first | (with_reducible apply Same.rfl) | (with_reducible apply Frz.l)) <;> conv => whnf) | fail)
  · (refine ⟨⟨k + 1, by omega, step_lt he h⟩, ?_⟩; (try dsimp only); conv => whnf); repeat' (first | with_reducible apply True.intro | ((first | ((with_reducible apply Need.mk); focus omega) | (with_reducible apply Same.rfl) | (apply Same.int; focus rfl) | (with_reducible apply Turn.l) | (with_reducible apply Frz.l)) <;> conv => whnf) | fail)
  · have hkl : k = l.length := by omega
    subst hkl
    apply Same.int (idxF_none he).symm
    conv => whnf
    repeat' (first | with_reducible apply True.intro | ((first | (with_reducible apply Same.rfl) | (with_reducible apply Frz.l)) <;> conv => whnf) | fail)
theorem k_sameIP (a : IP) (c : Clm) : Con Tryz.prog 44 [clmV c, .pb 0 []] [.cells (ipV a)] (bool (c.ip.1 == a.1)) [.cells (ipV a)] := by
  refine spec_of_run ttok mixed (T0 := 15) (ts := [.tmp 3]) 8 rfl rfl rfl rfl (by simp) rfl ?_
  conv => whnf
  repeat' (first | with_reducible apply True.intro | ((first | (with_reducible apply Same.rfl) | (apply Same.bool; focus (with_reducible rfl)) | (with_reducible apply Frz.l)) <;> conv => whnf) | fail)
theorem tk_idx (l : List Clm) (a : IP) : decide (idxF (fun c => c.ip.1 == a.1) l ≥ 0) = tk l a := by
  rcases idxF_cases (fun c : Clm => c.ip.1 == a.1) l with ⟨hi, he⟩ | ⟨k, hk, hi, hp, he⟩
  · rw [hi]
    have : tk l a = false := by
      rw [Bool.eq_false_iff]
      intro h
      obtain ⟨c, hc, e⟩ := tk_iff.1 h
      obtain ⟨j, hj, rfl⟩ := List.mem_iff_getElem.1 hc
      have := he j hj
      rw [gt_eq hj] at this
      simp [e] at this
    rw [this]; rfl
  · rw [hi, tk_iff.2 ⟨gt l k, gt_mem hk, by simpa using hp⟩]
    simp
theorem k_ContIP (a : IP) (l : List Clm) (t : Tg) (hl : l.length ≤ 1000000) :
    Con Tryz.prog 41 [.fs t 20 (lst clmV l), .clo 44 [.pb 0 []]] [.cells (ipV a)] (bool (tk l a)) [.cells (ipV a)] := by
  have hk := k_IdxIP 44 a (fun c => c.ip.1 == a.1) (k_sameIP a) l
  refine spec_of_run ttok mixed (T0 := 19) (ts := [.tmp 4]) 9 rfl rfl rfl rfl (by simp) rfl ?_
  conv => whnf
  repeat' (first | with_reducible apply True.intro | ((apply Same.bool (tk_idx l a)); (conv => whnf)) | ((first | (apply CallN.mk (hk _ hl)) | (with_reducible apply Same.rfl) | (with_reducible apply Frz.l)) <;> conv => whnf) | fail)
theorem k_taken (a : IP) (l : List Clm) (hl : l.length ≤ 1000000) :
    ConK Tryz.prog 43 [ipV a, .pb 0 []] [.cells (.ov 20 1 0 l.length), .arr none 20 (lst clmV l)] (bool (tk l a)) [.cells (.ov 20 1 0 l.length), .arr none 20 (lst clmV l)] := by
  refine spec_of_runK ttok mixed (T0 := 15) (ts := [.tmp 3]) 7 rfl rfl rfl rfl (by simp) rfl ?_
  conv => whnf
  repeat' (first | with_reducible apply True.intro | ((first | ((with_reducible apply Nm.mk); focus ((try simp only [lns]); exact rfl)) | ((with_reducible apply Need.mk); focus first | (simp only [lns]; omega) | exact CleanP.cell rfl rfl) | (apply CallN.mk (k_ContIP a l _ hl)) | (with_reducible apply Same.rfl) | (with_reducible first | apply Cut.l | apply GiveN.lend) | (with_reducible apply Frz.l)) <;> conv => whnf) | fail)
theorem k_invalid (c : Clm) : Con Tryz.prog 42 [clmV c] [] (bool (!clmOK c)) [] := by
  have hv : validR [c] = clmOK c := by
    rw [Bool.eq_iff_iff]
    exact ⟨fun h => validR_ok h c (by simp), fun h => validR_mk (by simp) (by simpa using h) (List.pairwise_singleton _ _)⟩
  have hk := fun t => k_Valid [c] t (by simp)
  simp only [hv] at hk
  refine spec_of_run ttok mixed (T0 := 7) (ts := [.tmp 2]) 7 rfl rfl rfl rfl (by simp) rfl ?_
  conv => whnf
  repeat' (first | with_reducible apply True.intro | ((first | ((with_reducible apply Nm.mk); focus ((try simp only [lns]); exact rfl)) | ((with_reducible apply Need.mk); focus first | (simp only [lns]; omega) | exact CleanP.nil rfl) | (apply CallN.mk (hk _)) | (apply Same.bool; focus (with_reducible rfl)) | (with_reducible apply GiveN.lend) | (with_reducible apply Frz.l)) <;> conv => whnf) | fail)
theorem k_IdxInv (l : List Clm) (t : Tg) (hl : l.length ≤ 1000000) :
    Con Tryz.prog 67 [.fs t 20 (lst clmV l), .clo 42 []] [] (int (idxF (fun c => !clmOK c) l)) [] := by
  have hg := k_invalid
  refine spec_of_run ttok mixed (T0 := 66483) (ts := [.tmp 4]) 19 rfl rfl rfl rfl (by simp) rfl ?_
  conv => whnf
  repeat' (first | ((first | ((with_reducible apply Nm.mk); focus ((try simp only [lns]); exact rfl)) | (with_reducible apply Frz.l)) <;> conv => whnf) | fail)
  refine loop_keep ttok mixed (T0 := 66483) [0, 1, 7] (ι := {k : Nat // k ≤ l.length ∧ ∀ j, j < k → (!clmOK (gt l j)) = false})
    (fun k => [(8, int (k.1 : Int))]) (fun _ => []) (fun k => l.length - k.1) ⟨0, by omega, none_lt⟩ ?_
  conv => whnf
  repeat' (first | ((first | (with_reducible apply Same.rfl) | (apply Same.int; focus rfl) | (with_reducible apply Frz.l)) <;> conv => whnf) | fail)
  rintro ⟨k, hk, he⟩
  dsimp only
  conv => whnf
  repeat' (first | ((first | ((with_reducible apply Nm.mk); focus ((try simp only [lns]); exact rfl)) | ((with_reducible apply Wr.i64); focus omega) | ((with_reducible apply Need.mk); focus (simp only [lns]; omega)) | ((with_reducible apply Elem.lst); focus omega) | (apply CallN.mk (hg _)) | ((with_reducible apply Bif.dec) <;> intro h <;> (try simp only [lns] at h)) | (with_reducible apply Bif.not) | ((with_reducible apply Bif.mk) <;> intro h) | (with_reducible apply Frz.l)) <;> conv => whnf) | fail)
  · (refine ⟨⟨k + 1, by omega, step_lt he (by simp [h])⟩, ?_⟩; (try dsimp only); conv => whnf); repeat' (first | with_reducible apply True.intro | ((first | ((with_reducible apply Need.mk); focus omega) | (with_reducible apply Same.rfl) | (apply Same.int; focus rfl) | (with_reducible apply Turn.l) | (with_reducible apply Frz.l)) <;> conv => whnf) | fail)
  · apply Same.int (idxF_some (p := fun c => !clmOK c) (by omega) (by simpa using h) he).symm
    conv => whnf
    repeat' (first | with_reducible apply True.intro | ((with_reducible apply Frz.l) <;> conv => whnf) | fail)
  · have hkl : k = l.length := by omega
    subst hkl
    apply Same.int (idxF_none (p := fun c => !clmOK c) he).symm
    conv => whnf
    repeat' (first | with_reducible apply True.intro | ((with_reducible apply Frz.l) <;> conv => whnf) | fail)
theorem inv_idx (l : List Clm) : decide (idxF (fun c => !clmOK c) l ≥ 0) = !l.all clmOK := by
  rcases idxF_cases (fun c : Clm => !clmOK c) l with ⟨hi, he⟩ | ⟨k, hk, hi, hp, he⟩
  · rw [hi]
    have : l.all clmOK = true := List.all_eq_true.2 fun c hc => by
      obtain ⟨j, hj, rfl⟩ := List.mem_iff_getElem.1 hc
      have := he j hj
      rw [gt_eq hj] at this
      simpa using this
    rw [this]; rfl
  · rw [hi]
    have : l.all clmOK = false := by
      rw [Bool.eq_false_iff]
      intro h
      have := List.all_eq_true.1 h _ (gt_mem hk)
      rw [this] at hp; cases hp
    rw [this]; simp
theorem k_ContInv (l : List Clm) (t : Tg) (hl : l.length ≤ 1000000) :
    Con Tryz.prog 41 [.fs t 20 (lst clmV l), .clo 42 []] [] (bool (!l.all clmOK)) [] := by
  have hk := k_IdxInv l
  refine spec_of_run ttok mixed (T0 := 19) (ts := [.tmp 4]) 9 rfl rfl rfl rfl (by simp) rfl ?_
  conv => whnf
  repeat' (first | with_reducible apply True.intro | ((apply Same.bool (inv_idx l)); (conv => whnf)) | ((first | (apply CallN.mk (hk _ hl)) | (with_reducible apply Frz.l)) <;> conv => whnf) | fail)
end Go.Fw
