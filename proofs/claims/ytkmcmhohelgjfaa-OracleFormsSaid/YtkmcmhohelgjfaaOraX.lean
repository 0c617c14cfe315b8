/- oracle.Components: the walk. -/
import Derived.Test.YtkmcmhohelgjfaaOraW
namespace Go.Fw
set_option maxRecDepth 4000
open Go.Proofs
set_option maxHeartbeats 4000000
theorem Sub.forget {n : Sz} {e : List (Nat × SV)} {h : List OB} (k : Nat) {x : Option Nat} {E : Nat} {r : List SV} (hk : h[k]? = some (.arr x E r)) : Sub n e h e (h.set k (.arr none E r)) := by
  intro B cx a w hB hs
  have hlt : k < h.length := (List.getElem?_eq_some_iff.1 hk).1
  have hg : ∀ j, nthB (h.set k (.arr none E r)) j = if k = j then some (.arr none E r) else nthB h j := fun j => by
    rw [nthB_eq, nthB_eq, List.getElem?_set]
    split
    · rename_i e; subst e; simp [hlt]
    · rfl
  have back : ∀ j ob, nthB (h.set k (.arr none E r)) j = some ob → ∃ ob', nthB h j = some ob' ∧ (ob ≠ .gone → ob' ≠ .gone) := fun j ob hj => by
    rw [hg] at hj
    split at hj
    · rename_i e; subst e; exact ⟨_, by rw [nthB_eq]; exact hk, fun _ h => by cases h⟩
    · exact ⟨ob, hj, id⟩
  refine ⟨cx, hs.df, hs.sz, hs.sl, ⟨fun j ob hj => ?_, fun j j' o1 o2 b C C' h1 h2 n1 n2 b1 b2 => ?_, fun j hj => ?_, hs.mem.lt⟩, hs.fr⟩
  · rw [hg] at hj
    split at hj
    · rename_i e; subst e; cases hj
      exact live_arr (hs.mem.live k _ (by rw [nthB_eq]; exact hk)) (fun c hc => by cases hc) rfl rfl
    · exact hs.mem.live j ob hj
  · obtain ⟨o1', a1, g1⟩ := back j o1 h1
    obtain ⟨o2', a2, g2⟩ := back j' o2 h2
    exact hs.mem.inj j j' o1' o2' b C C' a1 a2 (g1 n1) (g2 n2) b1 b2
  · rw [hg] at hj
    split at hj
    · cases hj
    · exact hs.mem.dom j hj
theorem LoopN.forget {P : Program} {n : Sz} {c : Code} {e : List (Nat × SV)} {h : List OB} {K : Exit → List (Nat × SV) → List OB → Prop} (k : Nat) {x : Option Nat} {E : Nat} {r : List SV} (hk : h[k]? = some (.arr x E r))
    (hl : LoopN P n c e (h.set k (.arr none E r)) K) : LoopN P n c e h K := by
  rw [loopN_iff] at hl ⊢
  obtain ⟨x', e', h', h1, h2⟩ := hl
  refine ⟨x', e', h', h1, fun B cx a w Q hB hs hK => ?_⟩
  obtain ⟨cx1, hs1⟩ := Sub.forget k hk B cx a w hB hs
  exact h2 B cx1 a w Q hB hs1 hK
theorem k_Components_bad (M : List (Tg × List Int)) (t : Tg) (hv : validT (rowsM M) = false) :
    Con Try.prog 21 [.fs t 1 (mat M)] [] (.v (.slice none 0 0)) [] := by
  refine spec_of_run ttok mixed (T0 := 1180843831110288544765) (ts := [.tmp 2]) 82 rfl rfl rfl rfl (by simp) rfl ?_
  conv => whnf
  repeat' (first | with_reducible apply True.intro | ((with_reducible apply Bif.ff hv); conv => whnf) | ((first | (apply CallN.mk (k_Valid M t)) | (with_reducible apply Bif.not) | (with_reducible apply Same.rfl) | (with_reducible apply Frz.l)) <;> conv => whnf) | fail)
theorem cnt_set {c : List Int} {k : Nat} {v : Int} (hk : k < c.length) (h : gt c k = -1) (hv : v ≠ -1) : (c.set k v).count (-1) + 1 = c.count (-1) := by
  rw [gt_eq hk] at h
  have : 0 < c.count (-1) := List.count_pos_iff.2 (h ▸ List.getElem_mem hk)
  rw [List.count_set hk, h]
  simp [hv]
  omega
theorem stk_set (st : List Int) (y : Int) (g : List Int) (k : Int) : (Fw.lst int (st ++ y :: g)).take (0 + st.length) ++ [int k] ++ (Fw.lst int (st ++ y :: g)).drop (0 + st.length + [int k].length) = Fw.lst int (st ++ [k] ++ g) := by
  simp [lst, List.drop_append]
theorem k_Components (M : List (Tg × List Int)) (t : Tg) (hv : validT (rowsM M) = true) :
    ∃ r hp', (∃ c, Comp (rowsM M) c ∧ r = .ov 1 0 0 c.length ∧ hp' = [.arr none 1 (ints c)]) ∧ Con Try.prog 21 [.fs t 1 (mat M)] [] r hp' := by
  have hM := mat_len M
  have hr : (rowsM M).length = M.length := by simp [rowsM]
  have h12 : 1 ≤ M.length ∧ M.length ≤ 12 := by have := validT_n hv; omega
  refine spec_of_runR ttok mixed (T0 := 1180843831110288544765) (ts := [.tmp 2]) 82 rfl rfl rfl rfl (by simp) rfl ?_
  conv => whnf
  repeat' (first | ((with_reducible apply Bif.tt hv); conv => whnf) | ((first | (with_reducible apply Nm.rep _ (int_mk _)) | ((with_reducible apply Nm.mk); focus ((try simp only [lns, mat_len, mat_take]); exact rfl)) | ((with_reducible apply Need.mk); focus (unfold roomOK; simp only [lns, mat_len, mat_take]; omega)) | (apply CallN.mk (k_Valid M t)) | (with_reducible apply Bif.not) | (with_reducible apply Frz.l)) <;> conv => whnf) | fail)
  refine loop_keep ttok mixed (T0 := 1180843831110288544765) [0, 3, 4, 18] (ι := {p : Nat × List Int // p.1 ≤ M.length ∧ p.2.length = M.length ∧ ∀ j, j < p.1 → gt p.2 j = -1})
    (fun p => [(19, int (p.1.1 : Int))]) (fun p => [.arr (some M.length) 1 (ints p.1.2)]) (fun p => M.length - p.1.1) ⟨(0, List.replicate M.length 0), by omega, by simp, none_lt⟩ ?_
  conv => whnf
  repeat' (first | ((first | (with_reducible apply Same.rfl) | (apply Same.int; focus rfl) | (with_reducible apply Frz.l)) <;> conv => whnf) | fail)
  rintro ⟨⟨k, d⟩, hk, hd, hall⟩
  dsimp only at hk hd hall ⊢
  conv => whnf
  repeat' (first | ((first | (with_reducible apply Nm.set _ (int_mk _)) | ((with_reducible apply Nm.mk); focus ((try simp only [lns, mat_len, mat_take]); exact rfl)) | ((with_reducible apply Wr.i64); focus omega) | ((with_reducible apply Need.mk); focus omega) | ((with_reducible apply Elem.lst); focus omega) | ((with_reducible apply Bif.dec) <;> intro h <;> (try simp only [lns, mat_len, mat_take] at h)) | (with_reducible apply Frz.l)) <;> conv => whnf) | fail)
  · (refine ⟨⟨(k + 1, d.set k (-1)), by omega, by simp [hd], step_lt (fun j hj => by rw [gt_set (by omega), hall j hj]; simp) (by rw [gt_set (by omega)]; simp)⟩, ?_⟩; (try dsimp only); conv => whnf); repeat' (first | with_reducible apply True.intro | ((first | ((with_reducible apply Need.mk); focus omega) | (with_reducible apply Same.rfl) | (apply Same.int; focus rfl) | (with_reducible apply Turn.l) | (with_reducible apply Frz.l)) <;> conv => whnf) | fail)
  have e1 : k = M.length := by omega
  subst e1
  refine loop_keep ttok mixed (T0 := 1180843831110288544765) [0, 3, 4, 26] (ι := {p : Nat × List Int // p.1 ≤ M.length ∧ FL (rowsM M) p.2 p.1})
    (fun p => [(27, int (p.1.1 : Int))]) (fun p => [.arr (some M.length) 1 (ints p.1.2)]) (fun p => M.length - p.1.1) ⟨(0, d), by omega, FL.start _ (by show d.length = _; omega) (by rw [hr]; exact hall)⟩ ?_
  conv => whnf
  repeat' (first | ((first | (with_reducible apply Same.rfl) | (apply Same.int; focus rfl) | (with_reducible apply Frz.l)) <;> conv => whnf) | fail)
  clear hall hk hd
  rintro ⟨⟨f, c⟩, hf, s⟩
  dsimp only at hf s ⊢
  have lc := s.len
  rw [hr] at lc
  conv => whnf
  repeat' (first | ((first | (with_reducible apply Nm.set _ (rfl)) | ((with_reducible apply Nm.mk); focus ((try simp only [lns, mat_len, mat_take]); exact rfl)) | ((with_reducible apply Wr.i64); focus omega) | ((with_reducible apply Need.mk); focus omega) | ((with_reducible apply Elem.lst); focus omega) | ((with_reducible apply Bif.dec) <;> intro h <;> (try simp only [lns, mat_len, mat_take] at h)) | (with_reducible apply Frz.l)) <;> conv => whnf) | fail)
  · (refine ⟨⟨(f + 1, c), by omega, s.skip h⟩, ?_⟩; (try dsimp only); conv => whnf); repeat' (first | with_reducible apply True.intro | ((first | ((with_reducible apply Need.mk); focus omega) | (with_reducible apply Same.rfl) | (apply Same.int; focus rfl) | (with_reducible apply Turn.l) | (with_reducible apply Frz.l)) <;> conv => whnf) | fail)
  · refine LoopN.forget 1 rfl ?_
    refine loop_keep ttok mixed (T0 := 1180843831110288544765) [0, 3, 4, 6, 26, 27] (ι := {p : List Int × List Int × List Int // FN (rowsM M) p.1 f p.2.1 none 0 ∧ p.1.count (-1) + p.2.1.length ≤ M.length})
      (fun p => [(7, .ov 1 1 0 p.1.2.1.length)]) (fun p => [.arr (some M.length) 1 (ints p.1.1), .arr none 1 (ints (p.1.2.1 ++ p.1.2.2))]) (fun p => p.1.1.count (-1) * 2 + p.1.2.1.length) ⟨(c.set f (f : Int), [(f : Int)], []), s.enter (by omega) (by omega), by have := cnt_set (c := c) (k := f) (v := (f : Int)) (by omega) (by have := s.neg f (by omega); omega) (by omega); have := List.count_le_length (a := (-1 : Int)) (l := c); show (c.set f (f : Int)).count (-1) + 1 ≤ _; omega⟩ ?_
    conv => whnf
    repeat' (first | ((apply Same.mk rfl); conv => whnf) | ((with_reducible apply Frz.l) <;> conv => whnf) | fail)
    rintro ⟨⟨c, st, g⟩, s, hcn⟩
    dsimp only at s hcn ⊢
    have lc := s.len
    rw [hr] at lc
    have hst : st = [] ∨ ∃ s' x, st = s' ++ [x] := by simpa [List.concat_eq_append] using List.eq_nil_or_concat st
    rcases hst with rfl | ⟨st, x, rfl⟩
    · conv => whnf
      repeat' (first | ((first | ((with_reducible apply Wr.i64); focus omega) | ((with_reducible apply Bif.dec) <;> intro h <;> (try simp only [lns, mat_len, mat_take] at h) <;> (try (exfalso; omega))) | (with_reducible apply Frz.l)) <;> conv => whnf) | fail)
      (refine ⟨⟨(f + 1, c), by omega, s.leave (by omega)⟩, ?_⟩; (try dsimp only); conv => whnf); repeat' (first | with_reducible apply True.intro | ((first | ((with_reducible apply Need.mk); focus omega) | (with_reducible apply Same.rfl) | (apply Same.int; focus rfl) | (with_reducible apply Turn.l) | (with_reducible apply Frz.l)) <;> conv => whnf) | fail)
    · have hx := (s.stk x (by simp)).1
      obtain ⟨a, rfl⟩ : ∃ a : Nat, x = (a : Int) := ⟨x.toNat, by have := hx.1; omega⟩
      have e1 : (((st.length + 1 : Nat) : Int) - 1).toNat = st.length := by omega
      have g1 : gt (st ++ [(a : Int)] ++ g) st.length = (a : Int) := by simp [gt]
      have haM : a < M.length := by have := hx.2; omega
      have ls : (st ++ [(a : Int)]).length = st.length + 1 := by simp
      conv => whnf
      repeat' (first | ((first | ((with_reducible apply Nm.mk); focus ((try simp only [lns, mat_len, mat_take, e1]); exact rfl)) | ((with_reducible apply Wr.i64); focus omega) | ((with_reducible apply Need.mk); focus omega) | ((with_reducible apply Elem.lst); focus (simp only [lns, mat_len, mat_take, e1]; omega)) | ((with_reducible apply Bif.dec) <;> intro h <;> (try simp only [lns, mat_len, mat_take, e1] at h) <;> (try (exfalso; omega))) | (with_reducible apply Frz.l)) <;> conv => whnf) | fail)
      refine loop_keep ttok mixed (T0 := 1180843831110288544765) [0, 3, 4, 6, 26, 27, 55] (ι := {p : Nat × List Int × List Int × List Int // p.1 ≤ M.length ∧ FN (rowsM M) p.2.1 f p.2.2.1 (some a) p.1 ∧ p.2.1.count (-1) + p.2.2.1.length + 1 ≤ c.count (-1) + (st ++ [(a : Int)]).length ∧ p.2.1.count (-1) ≤ c.count (-1)})
        (fun p => [(7, .ov 1 1 0 p.1.2.2.1.length), (8, int (a : Int)), (56, int (p.1.1 : Int))]) (fun p => [.arr (some M.length) 1 (ints p.1.2.1), .arr none 1 (ints (p.1.2.2.1 ++ p.1.2.2.2))]) (fun p => M.length - p.1.1) ⟨(0, c, st, (a : Int) :: g), by omega, s.pop, by show c.count (-1) + st.length + 1 ≤ _; omega, Nat.le_refl _⟩ ?_
      conv => whnf
      repeat' (first | ((apply Same.int g1); conv => whnf) | ((apply Same.lst (by simp)); conv => whnf) | ((first | (with_reducible apply Same.rfl) | (apply Same.int; focus rfl) | (with_reducible apply Frz.l)) <;> conv => whnf) | fail)
      rintro ⟨⟨k, c2, st2, g2⟩, hk, s2, hb, hb2⟩
      dsimp only at hk s2 hb hb2 ⊢
      have lc2 := s2.len
      rw [hr] at lc2
      conv => whnf
      rcases g2 with _ | ⟨y, g2⟩
      · repeat' (first | ((first | (with_reducible first | apply Nm.set _ (rfl) | apply Nm.snoc _ (rfl)) | ((with_reducible apply Nm.mk); focus ((try simp only [lns, mat_len, mat_take, List.append_nil]); exact rfl)) | ((with_reducible apply Wr.i64); focus omega) | ((with_reducible apply Need.mk); focus first | omega | (simp only [lns, mat_len, mat_take, List.append_nil]; omega) | (unfold roomOK; simp only [lns, mat_len, mat_take, List.append_nil]; omega)) | ((with_reducible apply Elem.lst); focus omega) | (apply CallN.mk (k_cost M t a k hv (by omega) (by omega))) | (with_reducible first | apply Bif.T | apply Bif.F) | ((with_reducible first | apply Bif.dec | apply Bif.bne) <;> intro h <;> (try simp only [lns, mat_len, mat_take, List.append_nil] at h)) | (with_reducible apply Alt.l) | (with_reducible apply Frz.l)) <;> conv => whnf) | fail)
        · have hm1 : gt c2 k = -1 := by have := s2.neg k (by omega); omega
          have cs := cnt_set (c := c2) (k := k) (v := (f : Int)) (by omega) hm1 (by omega)
          have lk : lnk (rowsM M) a k := by have := costT_range (rowsM M) a k; unfold lnk; omega
          (refine ⟨⟨(k + 1, c2.set k (f : Int), st2 ++ [(k : Int)], []), by omega, s2.push (by omega) (by omega) (by omega) lk, by show (c2.set k (f : Int)).count (-1) + (st2 ++ [(k : Int)]).length + 1 ≤ _; rw [List.length_append, List.length_singleton]; omega, by show (c2.set k (f : Int)).count (-1) ≤ _; omega⟩, ?_⟩; (try dsimp only); conv => whnf); repeat' (first | with_reducible apply True.intro | ((apply Same.lst (by simp)); conv => whnf) | ((first | ((with_reducible apply Need.mk); focus omega) | (with_reducible apply Same.rfl) | (apply Same.int; focus rfl) | (apply Same.ov; (focus rfl); focus (simp only [lns, mat_len, mat_take]; first | done | omega)) | (with_reducible apply Turn.l) | (with_reducible apply Frz.l)) <;> conv => whnf) | fail)
        · have lk : ¬ lnk (rowsM M) a k := by unfold lnk; omega
          (refine ⟨⟨(k + 1, c2, st2, []), by omega, s2.same (by omega) (.inr lk), hb, hb2⟩, ?_⟩; (try dsimp only); conv => whnf); repeat' (first | with_reducible apply True.intro | ((first | ((with_reducible apply Need.mk); focus omega) | (with_reducible apply Same.rfl) | (apply Same.int; focus rfl) | (with_reducible apply Turn.l) | (with_reducible apply Frz.l)) <;> conv => whnf) | fail)
        · (refine ⟨⟨(k + 1, c2, st2, []), by omega, s2.same (by omega) (.inl (by omega)), hb, hb2⟩, ?_⟩; (try dsimp only); conv => whnf); repeat' (first | with_reducible apply True.intro | ((first | ((with_reducible apply Need.mk); focus omega) | (with_reducible apply Same.rfl) | (apply Same.int; focus rfl) | (with_reducible apply Turn.l) | (with_reducible apply Frz.l)) <;> conv => whnf) | fail)
        · have e2 : k = (rowsM M).length := by omega
          subst e2
          (refine ⟨⟨(c2, st2, []), s2.round, by show c2.count (-1) + st2.length ≤ _; omega⟩, ?_⟩; (try dsimp only); conv => whnf); repeat' (first | with_reducible apply True.intro | ((first | ((with_reducible apply Need.mk); focus omega) | (with_reducible apply Same.rfl) | (with_reducible apply Turn.l) | (with_reducible apply Frz.l)) <;> conv => whnf) | fail)
      · repeat' (first | ((with_reducible apply Alt.r); (with_reducible apply Alt.l); conv => whnf) | ((apply Nm.mk (stk_set st2 y g2 _)); conv => whnf) | ((first | (with_reducible apply Nm.set _ (rfl)) | ((with_reducible apply Nm.mk); focus ((try simp only [lns, mat_len, mat_take]); exact rfl)) | ((with_reducible apply Wr.i64); focus omega) | ((with_reducible apply Need.mk); focus first | omega | (simp only [lns, mat_len, mat_take]; omega)) | ((with_reducible apply Elem.lst); focus omega) | (apply CallN.mk (k_cost M t a k hv (by omega) (by omega))) | (with_reducible first | apply Bif.T | apply Bif.F) | ((with_reducible first | apply Bif.dec | apply Bif.bne) <;> intro h <;> (try simp only [lns, mat_len, mat_take] at h)) | (with_reducible apply Frz.l)) <;> conv => whnf) | fail)
        · have hm1 : gt c2 k = -1 := by have := s2.neg k (by omega); omega
          have cs := cnt_set (c := c2) (k := k) (v := (f : Int)) (by omega) hm1 (by omega)
          have lk : lnk (rowsM M) a k := by have := costT_range (rowsM M) a k; unfold lnk; omega
          (refine ⟨⟨(k + 1, c2.set k (f : Int), st2 ++ [(k : Int)], g2), by omega, s2.push (by omega) (by omega) (by omega) lk, by show (c2.set k (f : Int)).count (-1) + (st2 ++ [(k : Int)]).length + 1 ≤ _; rw [List.length_append, List.length_singleton]; omega, by show (c2.set k (f : Int)).count (-1) ≤ _; omega⟩, ?_⟩; (try dsimp only); conv => whnf); repeat' (first | with_reducible apply True.intro | ((apply Same.lst (by simp)); conv => whnf) | ((first | ((with_reducible apply Need.mk); focus omega) | (with_reducible apply Same.rfl) | (apply Same.int; focus rfl) | (apply Same.ov; (focus rfl); focus (simp only [lns, mat_len, mat_take]; first | done | omega)) | (with_reducible apply Turn.l) | (with_reducible apply Frz.l)) <;> conv => whnf) | fail)
        · have lk : ¬ lnk (rowsM M) a k := by unfold lnk; omega
          (refine ⟨⟨(k + 1, c2, st2, y :: g2), by omega, s2.same (by omega) (.inr lk), hb, hb2⟩, ?_⟩; (try dsimp only); conv => whnf); repeat' (first | with_reducible apply True.intro | ((first | ((with_reducible apply Need.mk); focus omega) | (with_reducible apply Same.rfl) | (apply Same.int; focus rfl) | (with_reducible apply Turn.l) | (with_reducible apply Frz.l)) <;> conv => whnf) | fail)
        · (refine ⟨⟨(k + 1, c2, st2, y :: g2), by omega, s2.same (by omega) (.inl (by omega)), hb, hb2⟩, ?_⟩; (try dsimp only); conv => whnf); repeat' (first | with_reducible apply True.intro | ((first | ((with_reducible apply Need.mk); focus omega) | (with_reducible apply Same.rfl) | (apply Same.int; focus rfl) | (with_reducible apply Turn.l) | (with_reducible apply Frz.l)) <;> conv => whnf) | fail)
        · have e2 : k = (rowsM M).length := by omega
          subst e2
          (refine ⟨⟨(c2, st2, y :: g2), s2.round, by show c2.count (-1) + st2.length ≤ _; omega⟩, ?_⟩; (try dsimp only); conv => whnf); repeat' (first | with_reducible apply True.intro | ((first | ((with_reducible apply Need.mk); focus omega) | (with_reducible apply Same.rfl) | (with_reducible apply Turn.l) | (with_reducible apply Frz.l)) <;> conv => whnf) | fail)
  · have e2 : f = (rowsM M).length := by omega
    subst e2
    (refine ⟨_, _, ⟨c, s.comp, rfl, rfl⟩, ?_⟩; conv => whnf); repeat' (first | with_reducible apply True.intro | ((first | (with_reducible apply Same.rfl) | ((with_reducible apply Same.mk); focus omega) | (with_reducible apply Cut.l) | (with_reducible apply Frz.l)) <;> conv => whnf) | fail)
end Go.Fw
