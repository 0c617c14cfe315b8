/- Hops of both. -/
import Derived.Test.YtkmcmhohelgjfaaOraO
namespace Go.Fw
set_option maxRecDepth 4000
open Go.Proofs
set_option maxHeartbeats 4000000
def hopF (m : List (List Int)) (e : List Int) (i : Nat) : Nat → Int
  | 0 => -1
  | k + 1 => if hopF m e i k < 0 ∧ addM (costT m i k) (gt e k) = gt e i then (k : Int) else hopF m e i k
def hopV (m : List (List Int)) (to : Nat) (e : List Int) (i : Nat) : Int := if i = to ∨ gt e i = 65535 then -1 else hopF m e i m.length
def hopsL (m : List (List Int)) (to : Nat) (e : List Int) : List Int := (List.range m.length).map (hopV m to e)
theorem hopsL_len {m : List (List Int)} {to : Nat} {e : List Int} : (hopsL m to e).length = m.length := by simp [hopsL]
theorem hopF_ge {m : List (List Int)} {e : List Int} {i : Nat} : ∀ k, -1 ≤ hopF m e i k
  | 0 => by simp [hopF]
  | k + 1 => by have := hopF_ge (m := m) (e := e) (i := i) k; rw [hopF]; split <;> omega
theorem hopF_keep {m : List (List Int)} {e : List Int} {i k : Nat} (h : 0 ≤ hopF m e i k) : ∀ j, hopF m e i (k + j) = hopF m e i k
  | 0 => rfl
  | j + 1 => by
    have := hopF_keep h j
    rw [← Nat.add_assoc, hopF, this, if_neg (by omega)]
theorem hopF_found {m : List (List Int)} {e : List Int} {i k n : Nat} (h0 : hopF m e i k = -1) (h : addM (costT m i k) (gt e k) = gt e i) (hk : k < n) : hopF m e i n = k := by
  have h1 : hopF m e i (k + 1) = k := by rw [hopF, if_pos ⟨by omega, h⟩]
  have h2 := hopF_keep (m := m) (e := e) (i := i) (k := k + 1) (by omega) (n - (k + 1))
  rwa [show k + 1 + (n - (k + 1)) = n by omega, h1] at h2
theorem hopF_no {m : List (List Int)} {e : List Int} {i k : Nat} (h : ¬ addM (costT m i k) (gt e k) = gt e i) : hopF m e i (k + 1) = hopF m e i k := by
  rw [hopF, if_neg (fun hc => h hc.2)]
theorem hopsL_of {m : List (List Int)} {to : Nat} {e h : List Int} (hl : h.length = m.length) (hh : ∀ j, j < m.length → gt h j = hopV m to e j) : h = hopsL m to e :=
  ext_gt (by rw [hopsL_len, hl]) fun i hi => by
    rw [hl] at hi
    rw [hh i hi, hopsL, gt_map (by simpa using hi), gt_range hi]
theorem k_Hops (M : List (Tg × List Int)) (t : Tg) (to : Nat) (e : List Int) (hv : validT (rowsM M) = true) (hto : to < M.length) (he : Bell (rowsM M) to e) :
    Con Try.prog 19 [.fs t 1 (mat M), int (to : Int)] [] (.ov 1 0 0 (hopsL (rowsM M) to e).length) [.arr none 1 (ints (hopsL (rowsM M) to e))] := by
  have hM := mat_len M
  have hr : (rowsM M).length = M.length := by simp [rowsM]
  have h12 : 1 ≤ M.length ∧ M.length ≤ 12 := by have := validT_n hv; omega
  have le := he.len
  rw [hr] at le
  refine spec_of_run ttok mixed (T0 := 9007697472791027) (ts := [.tmp 4]) 61 rfl rfl rfl rfl (by simp) rfl ?_
  conv => whnf
  repeat' (first | ((first | (with_reducible apply Nm.rep _ (int_mk _)) | ((with_reducible apply Nm.mk); focus ((try simp only [lns, mat_len]); exact rfl)) | ((with_reducible apply Need.mk); focus first | omega | (unfold roomOK; simp only [lns, mat_len]; omega)) | (apply CallN.mk (k_Distances M t to e hv hto he)) | (with_reducible apply Bif.F) | (with_reducible apply Frz.l)) <;> conv => whnf) | fail)
  refine loop_keep ttok mixed (T0 := 9007697472791027) [0, 1, 5, 6, 18] (ι := {p : Nat × List Int // p.1 ≤ M.length ∧ p.2.length = M.length ∧ ∀ j, j < p.1 → gt p.2 j = hopV (rowsM M) to e j})
    (fun p => [(19, int (p.1.1 : Int))]) (fun p => [.arr none 1 (ints e), .arr (some M.length) 1 (ints p.1.2)]) (fun p => M.length - p.1.1) ⟨(0, List.replicate M.length 0), by omega, by simp, none_lt⟩ ?_
  conv => whnf
  repeat' (first | ((first | (with_reducible apply Same.rfl) | (apply Same.int; focus rfl) | (with_reducible apply Frz.l)) <;> conv => whnf) | fail)
  rintro ⟨⟨i, g⟩, hil, hl, hall⟩
  dsimp only at hil hl hall ⊢
  conv => whnf
  repeat' (first | ((first | (with_reducible apply Nm.set _ (int_mk _)) | ((with_reducible apply Nm.mk); focus ((try simp only [lns, mat_len]); exact rfl)) | ((with_reducible apply Wr.i64); focus omega) | ((with_reducible apply Need.mk); focus omega) | ((with_reducible apply Elem.lst); focus omega) | (with_reducible first | apply Bif.T | apply Bif.F) | ((with_reducible first | apply Bif.dec | apply Bif.beq) <;> intro h <;> (try simp only [lns, mat_len] at h)) | (with_reducible apply Same.rfl) | (with_reducible apply Frz.l)) <;> conv => whnf) | fail)
  · have e1 : i = to := by omega
    (refine ⟨⟨(i + 1, g.set i (-1)), by omega, by simp [hl], step_lt (fun j hj => by rw [gt_set (by omega), if_neg (by omega)]; exact hall j hj) (by rw [gt_set (by omega), if_pos rfl, hopV, if_pos (.inl e1)])⟩, ?_⟩; (try dsimp only); conv => whnf); repeat' (first | with_reducible apply True.intro | ((first | ((with_reducible apply Need.mk); focus omega) | (with_reducible apply Same.rfl) | (apply Same.int; focus rfl) | (with_reducible apply Turn.l) | (with_reducible apply Frz.l)) <;> conv => whnf) | fail)
  · have e1 : gt e i = 65535 := h
    (refine ⟨⟨(i + 1, g.set i (-1)), by omega, by simp [hl], step_lt (fun j hj => by rw [gt_set (by omega), if_neg (by omega)]; exact hall j hj) (by rw [gt_set (by omega), if_pos rfl, hopV, if_pos (.inr e1)])⟩, ?_⟩; (try dsimp only); conv => whnf); repeat' (first | with_reducible apply True.intro | ((first | ((with_reducible apply Need.mk); focus omega) | (with_reducible apply Same.rfl) | (apply Same.int; focus rfl) | (with_reducible apply Turn.l) | (with_reducible apply Frz.l)) <;> conv => whnf) | fail)
  · have hc : ¬ (i = to ∨ gt e i = 65535) := by omega
    refine loop_keep ttok mixed (T0 := 9007697472791027) [0, 1, 5, 6, 7, 18, 19, 36] (ι := {k : Nat // k ≤ M.length ∧ hopF (rowsM M) e i k = -1})
      (fun k => [(37, int (k.1 : Int))]) (fun k => [.arr none 1 (ints e), .arr (some M.length) 1 (ints (g.set i (-1)))]) (fun k => M.length - k.1) ⟨0, by omega, rfl⟩ ?_
    conv => whnf
    repeat' (first | ((first | (with_reducible apply Same.rfl) | (apply Same.int; focus rfl) | (with_reducible apply Frz.l)) <;> conv => whnf) | fail)
    rintro ⟨k, hkl, hf⟩
    dsimp only
    conv => whnf
    repeat' (first | ((first | (with_reducible apply Nm.set _ (rfl)) | ((with_reducible apply Nm.mk); focus ((try simp only [lns, mat_len]); exact rfl)) | ((with_reducible apply Wr.i64); focus omega) | ((with_reducible apply Need.mk); focus first | omega | kernel_rfl) | ((with_reducible apply Elem.lst); focus first | omega | (simp only [lns, mat_len]; omega)) | (apply CallN.mk (k_cost M t i k hv (by omega) (by omega))) | (apply CallN.mk (k_metricAdd _ _)) | ((with_reducible first | apply Bif.dec | apply Bif.beq) <;> intro h <;> (try simp only [lns, mat_len] at h)) | (with_reducible apply Frz.l)) <;> conv => whnf) | fail)
    · have h' := h
      have e1 := hopF_found (n := (rowsM M).length) hf h' (by omega)
      (refine ⟨⟨(i + 1, (g.set i (-1)).set i (k : Int)), by omega, by simp [hl], step_lt (fun j hj => by rw [gt_set (by simp; omega), if_neg (by omega), gt_set (by omega), if_neg (by omega)]; exact hall j hj) (by rw [gt_set (by simp; omega), if_pos rfl, hopV, if_neg hc, e1])⟩, ?_⟩; (try dsimp only); conv => whnf); repeat' (first | with_reducible apply True.intro | ((first | ((with_reducible apply Need.mk); focus omega) | (with_reducible apply Same.rfl) | (apply Same.int; focus rfl) | (with_reducible apply Turn.l) | (with_reducible apply Frz.l)) <;> conv => whnf) | fail)
    · have h' := h
      (refine ⟨⟨k + 1, by omega, by rw [hopF_no h']; exact hf⟩, ?_⟩; (try dsimp only); conv => whnf); repeat' (first | with_reducible apply True.intro | ((first | ((with_reducible apply Need.mk); focus omega) | (with_reducible apply Same.rfl) | (apply Same.int; focus rfl) | (with_reducible apply Turn.l) | (with_reducible apply Frz.l)) <;> conv => whnf) | fail)
    · have e1 : k = (rowsM M).length := by omega
      subst e1
      (refine ⟨⟨(i + 1, g.set i (-1)), by omega, by simp [hl], step_lt (fun j hj => by rw [gt_set (by omega), if_neg (by omega)]; exact hall j hj) (by rw [gt_set (by omega), if_pos rfl, hopV, if_neg hc, hf])⟩, ?_⟩; (try dsimp only); conv => whnf); repeat' (first | with_reducible apply True.intro | ((first | ((with_reducible apply Need.mk); focus omega) | (with_reducible apply Same.rfl) | (apply Same.int; focus rfl) | (with_reducible apply Turn.l) | (with_reducible apply Frz.l)) <;> conv => whnf) | fail)
  · have e1 : i = M.length := by omega
    subst e1
    have hh := hopsL_of (m := rowsM M) (to := to) (e := e) (h := g) (by omega) (by rw [hr]; exact hall)
    rw [← hh]
    repeat' (first | with_reducible apply True.intro | ((first | (with_reducible apply Same.rfl) | ((with_reducible apply Same.mk); focus omega) | (with_reducible apply Cut.l) | (with_reducible apply Frz.l)) <;> conv => whnf) | fail)
theorem k_Hops_bad (M : List (Tg × List Int)) (t : Tg) (to : Int) (hb : ¬ (validT (rowsM M) = true ∧ inN to M.length)) :
    Con Try.prog 19 [.fs t 1 (mat M), int to] [] (.v (.slice none 0 0)) [] := by
  refine spec_of_run ttok mixed (T0 := 9007697472791027) (ts := [.tmp 4]) 61 rfl rfl rfl rfl (by simp) rfl ?_
  conv => whnf
  repeat' (first | with_reducible apply True.intro | ((first | (apply CallN.mk (k_Distances_bad M t to hb)) | (with_reducible apply Bif.T) | (with_reducible apply Same.rfl) | (with_reducible apply Frz.l)) <;> conv => whnf) | fail)
theorem k_refHops_bad (M : List (Tg × List Int)) (t : Tg) (to : Int) (hb : ¬ (validT (rowsM M) = true ∧ inN to M.length)) :
    Con Try.prog 34 [.fs t 1 (mat M), int to] [] (.v (.slice none 0 0)) [] := by
  refine spec_of_run ttok mixed (T0 := 144115188079641587) (ts := [.tmp 4]) 66 rfl rfl rfl rfl (by simp) rfl ?_
  conv => whnf
  repeat' (first | ((first | (apply CallN.mk (k_refDistances_bad M t to hb)) | (with_reducible apply Frz.l)) <;> conv => whnf) | fail)
  refine loop_keep ttok mixed (T0 := 144115188079641587) [6, 14] (ι := Unit) (fun _ => [(15, int 0)]) (fun _ => []) (fun _ => 0) () ?_
  conv => whnf
  repeat' (first | ((first | (with_reducible apply Same.rfl) | (apply Same.int; focus rfl) | (with_reducible apply Frz.l)) <;> conv => whnf) | fail)
  intro _
  conv => whnf
  repeat' (first | with_reducible apply True.intro | ((first | ((with_reducible apply Bif.dec) <;> intro h <;> (try simp only [lns, mat_len] at h) <;> (try (exfalso; omega))) | (with_reducible apply Same.rfl) | (with_reducible apply Frz.l)) <;> conv => whnf) | fail)
def hopsP (m : List (List Int)) (to : Nat) (e : List Int) (i : Nat) : List Int := (List.range i).map (hopV m to e)
theorem hopsP_succ {m : List (List Int)} {to : Nat} {e : List Int} {i : Nat} {x : Int} (h : x = hopV m to e i) : hopsP m to e i ++ [x] = hopsP m to e (i + 1) := by
  simp [hopsP, List.range_succ, h]
def hopR (m : List (List Int)) (to : Nat) (e : List Int) (i k : Nat) : Int := if i = to ∨ gt e i = 65535 then -1 else hopF m e i k
theorem hopR_zero {m : List (List Int)} {to : Nat} {e : List Int} {i : Nat} : -1 = hopR m to e i 0 := by simp [hopR, hopF]
theorem hopR_take {m : List (List Int)} {to : Nat} {e : List Int} {i k : Nat} (h1 : (i : Int) ≠ to) (h2 : hopR m to e i k < 0) (h3 : gt e i < 65535) (h4 : addM (costT m i k) (gt e k) = gt e i) : (k : Int) = hopR m to e i (k + 1) := by
  have hc : ¬ (i = to ∨ gt e i = 65535) := by omega
  rw [hopR, if_neg hc] at h2
  rw [hopR, if_neg hc, hopF, if_pos ⟨h2, h4⟩]
theorem hopR_skip {m : List (List Int)} {to : Nat} {e : List Int} {i k : Nat} (he : Bell m to e) (hi : i < m.length) (hk : k < m.length) (h : (i : Int) = to ∨ (i : Int) = k ∨ ¬ hopR m to e i k < 0 ∨ ¬ gt e i < 65535 ∨ addM (costT m i k) (gt e k) ≠ gt e i) :
    hopR m to e i k = hopR m to e i (k + 1) := by
  have r1 := he.range i hi
  unfold hopR at h ⊢
  split
  · rfl
  · rename_i hc
    rw [if_neg hc] at h
    rw [hopF, if_neg]
    rintro ⟨a, b⟩
    rcases h with h | h | h | h | h
    · omega
    · have e1 : i = k := by omega
      subst e1
      rw [addM_cost (costT_range m i i) r1, costT, if_pos rfl] at b
      omega
    · omega
    · omega
    · exact h b
theorem k_refHops (M : List (Tg × List Int)) (t : Tg) (to : Nat) (e : List Int) (hv : validT (rowsM M) = true) (hto : to < M.length) (he : Bell (rowsM M) to e) :
    Con Try.prog 34 [.fs t 1 (mat M), int (to : Int)] [] (.ov 1 0 0 (hopsL (rowsM M) to e).length) [.arr none 1 (ints (hopsL (rowsM M) to e))] := by
  have hM := mat_len M
  have hr : (rowsM M).length = M.length := by simp [rowsM]
  have h12 : 1 ≤ M.length ∧ M.length ≤ 12 := by have := validT_n hv; omega
  have le := he.len
  rw [hr] at le
  refine spec_of_run ttok mixed (T0 := 144115188079641587) (ts := [.tmp 4]) 66 rfl rfl rfl rfl (by simp) rfl ?_
  conv => whnf
  repeat' (first | ((first | (apply CallN.mk (k_refDistances M t to e hv hto he)) | (with_reducible apply Frz.l)) <;> conv => whnf) | fail)
  refine LoopN.adopt 6 1 rfl (by simp) ?_
  refine loop_keep ttok mixed (T0 := 144115188079641587) [0, 1, 5, 14] (ι := {i : Nat // i ≤ M.length})
    (fun i => [(6, .ov 1 1 0 i.1), (15, int (i.1 : Int))]) (fun i => [.arr none 1 (ints e), .arr none 1 (ints (hopsP (rowsM M) to e i.1))]) (fun i => M.length - i.1) ⟨0, by omega⟩ ?_
  conv => whnf
  repeat' (first | ((apply Same.mk rfl); conv => whnf) | ((with_reducible apply Frz.l) <;> conv => whnf) | fail)
  rintro ⟨i, hil⟩
  dsimp only
  have lp : (hopsP (rowsM M) to e i).length = i := by simp [hopsP]
  conv => whnf
  repeat' (first | ((first | ((with_reducible apply Bif.dec) <;> intro h <;> (try simp only [lns, mat_len] at h)) | (with_reducible apply Same.rfl) | (with_reducible apply Frz.l)) <;> conv => whnf) | fail)
  · refine loop_keep ttok mixed (T0 := 144115188079641587) [0, 1, 5, 6, 7, 14, 15, 19] (ι := {k : Nat // k ≤ M.length})
      (fun k => [(8, int (hopR (rowsM M) to e i k.1)), (20, int (k.1 : Int))]) (fun k => [.arr none 1 (ints e), .arr none 1 (ints (hopsP (rowsM M) to e i))]) (fun k => M.length - k.1) ⟨0, by omega⟩ ?_
    conv => whnf
    repeat' (first | ((apply Same.int hopR_zero); conv => whnf) | ((first | (with_reducible apply Same.rfl) | (apply Same.int; focus rfl) | (with_reducible apply Frz.l)) <;> conv => whnf) | fail)
    rintro ⟨k, hkl⟩
    dsimp only
    conv => whnf
    repeat' (first | ((first | (with_reducible apply Nm.snoc _ (rfl)) | ((with_reducible apply Nm.mk); focus ((try simp only [lns, mat_len]); exact rfl)) | ((with_reducible apply Wr.i64); focus omega) | ((with_reducible apply Need.mk); focus first | omega | (simp only [lns, mat_len]; omega) | kernel_rfl | (unfold roomOK; simp only [lns, mat_len]; omega)) | ((with_reducible apply Elem.lst); focus omega) | (apply CallN.mk (k_refCostN M t i k hv (by omega) (by omega))) | (apply CallN.mk (k_refmetricAdd _ _)) | (with_reducible first | apply Bif.T | apply Bif.F) | ((with_reducible first | apply Bif.dec | apply Bif.beq | apply Bif.bne) <;> intro h <;> (try simp only [lns, mat_len] at h)) | (with_reducible apply Alt.l) | (with_reducible apply Frz.l)) <;> conv => whnf) | fail)
    · (refine ⟨⟨k + 1, by omega⟩, ?_⟩; (try dsimp only); conv => whnf); repeat' (first | with_reducible apply True.intro | ((apply Same.int (hopR_take (by assumption) (by assumption) (by assumption) h)); conv => whnf) | ((first | ((with_reducible apply Need.mk); focus omega) | (with_reducible apply Same.rfl) | (apply Same.int; focus rfl) | (with_reducible apply Turn.l) | (with_reducible apply Frz.l)) <;> conv => whnf) | fail)
    iterate 5
      · (refine ⟨⟨k + 1, by omega⟩, ?_⟩; (try dsimp only); conv => whnf); repeat' (first | with_reducible apply True.intro | ((apply Same.int (hopR_skip he (by omega) (by omega) (by simp_all))); conv => whnf) | ((first | ((with_reducible apply Need.mk); focus omega) | (with_reducible apply Same.rfl) | (apply Same.int; focus rfl) | (with_reducible apply Turn.l) | (with_reducible apply Frz.l)) <;> conv => whnf) | fail)
    · have e1 : k = (rowsM M).length := by omega
      subst e1
      repeat' (first | ((with_reducible apply Frz.l) <;> conv => whnf) | fail)
      (refine ⟨⟨i + 1, by omega⟩, ?_⟩; (try dsimp only); conv => whnf); repeat' (first | with_reducible apply True.intro | ((apply Same.lst (hopsP_succ rfl)); conv => whnf) | ((first | ((with_reducible apply Need.mk); focus omega) | (with_reducible apply Same.rfl) | (apply Same.int; focus rfl) | (apply Same.ov; (focus rfl); focus omega) | (with_reducible apply Turn.l) | (with_reducible apply Frz.l)) <;> conv => whnf) | fail)
      all_goals trace_state
  · have e1 : i = (rowsM M).length := by omega
    subst e1
    have hh : hopsP (rowsM M) to e (rowsM M).length = hopsL (rowsM M) to e := rfl
    rw [hh] at lp ⊢
    repeat' (first | with_reducible apply True.intro | ((first | (with_reducible apply Same.rfl) | ((with_reducible apply Same.mk); focus omega) | (with_reducible apply Cut.l) | (with_reducible apply Frz.l)) <;> conv => whnf) | fail)
    all_goals trace_state
end Go.Fw
