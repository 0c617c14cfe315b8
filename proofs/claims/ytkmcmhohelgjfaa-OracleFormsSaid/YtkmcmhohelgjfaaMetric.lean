/- The package metric and its reference: Valid, Add, Link. -/
import Derived.Test.YtkmcmhohelgjfaaInts
namespace Go.Fw
set_option maxRecDepth 4000
open Go.Proofs
set_option maxHeartbeats 1000000
/-- metric.Valid -/
def okM (m : Int) : Bool := decide (m ≥ 0) && decide (m ≤ 65535)
theorem okM_iff (m : Int) : okM m = true ↔ 0 ≤ m ∧ m ≤ 65535 := by simp [okM]
theorem okM_not (m : Int) : okM m = false ↔ ¬ (0 ≤ m ∧ m ≤ 65535) := by rw [← okM_iff]; simp
theorem k_metricValid (m : Int) : Con Try.prog 40 [int m] [] (bool (okM m)) [] := by
  refine spec_of_run ttok mixed (T0 := 5) (ts := [.tmp 2]) 9 rfl rfl rfl rfl (by simp) rfl ?_
  conv => whnf
  repeat' (first | ((first | (with_reducible first | apply Bif.T | apply Bif.F) | ((with_reducible apply Bif.dec) <;> intro h <;> (try simp only [lns] at h)) | (with_reducible apply Frz.l)) <;> conv => whnf) | fail)
  all_goals (apply Same.bool (by rw [Bool.eq_iff_iff]; simp only [okM, decide_eq_true_eq, Bool.false_eq_true, false_iff, true_iff, Bool.and_eq_true, Bool.or_eq_true, Bool.not_eq_true', decide_eq_false_iff_not, ne_eq]; omega); (conv => whnf); repeat' (first | with_reducible apply True.intro | ((with_reducible apply Frz.l) <;> conv => whnf) | fail))
theorem k_refmetricValid (m : Int) : Con Try.prog 42 [int m] [] (bool (okM m)) [] := by
  refine spec_of_run ttok mixed (T0 := 5) (ts := [.tmp 2]) 9 rfl rfl rfl rfl (by simp) rfl ?_
  conv => whnf
  repeat' (first | ((first | (with_reducible first | apply Bif.T | apply Bif.F) | ((with_reducible apply Bif.dec) <;> intro h <;> (try simp only [lns] at h)) | (with_reducible apply Frz.l)) <;> conv => whnf) | fail)
  all_goals (apply Same.bool (by rw [Bool.eq_iff_iff]; simp only [okM, decide_eq_true_eq, Bool.false_eq_true, false_iff, true_iff, Bool.and_eq_true, Bool.or_eq_true, Bool.not_eq_true', decide_eq_false_iff_not, ne_eq]; omega); (conv => whnf); repeat' (first | with_reducible apply True.intro | ((with_reducible apply Frz.l) <;> conv => whnf) | fail))
/-- metric.Add -/
def addM (a b : Int) : Int := if okM a = true ∧ okM b = true ∧ a + b < 65535 then a + b else 65535
theorem okM_cases (m : Int) : (okM m = true ∧ 0 ≤ m ∧ m ≤ 65535) ∨ (okM m = false ∧ ¬ (0 ≤ m ∧ m ≤ 65535)) := by
  cases h : okM m with
  | true => exact .inl ⟨rfl, (okM_iff m).1 h⟩
  | false => exact .inr ⟨rfl, (okM_not m).1 h⟩
theorem addM_mk {a b : Int} (h : (0 ≤ a ∧ a ≤ 65535) ∧ (0 ≤ b ∧ b ≤ 65535)) : addM a b = if a + b < 65535 then a + b else 65535 := by
  unfold addM
  by_cases hs : a + b < 65535
  · rw [if_pos hs, if_pos ⟨(okM_iff a).2 h.1, (okM_iff b).2 h.2, hs⟩]
  · rw [if_neg hs, if_neg (fun g => hs g.2.2)]
theorem addM_no {a b : Int} (h : ¬ ((0 ≤ a ∧ a ≤ 65535) ∧ (0 ≤ b ∧ b ≤ 65535))) : addM a b = 65535 := by
  unfold addM
  rw [if_neg (fun g => h ⟨(okM_iff a).1 g.1, (okM_iff b).1 g.2.1⟩)]
theorem k_metricAdd (a b : Int) : Con Try.prog 30 [int a, int b] [] (int (addM a b)) [] := by
  have ca := k_metricValid a
  have cb := k_metricValid b
  rcases okM_cases a with ⟨ha, ga⟩ | ⟨ha, ga⟩ <;> rcases okM_cases b with ⟨hb, gb⟩ | ⟨hb, gb⟩ <;> rw [ha] at ca <;> rw [hb] at cb
  · rw [addM_mk ⟨ga, gb⟩]
    by_cases hs : a + b < 65535
    · rw [if_pos hs]
      refine spec_of_run ttok mixed (T0 := 4115) (ts := [.tmp 4]) 17 rfl rfl rfl rfl (by simp) rfl ?_
      conv => whnf
      repeat' (first | with_reducible apply True.intro | ((first | ((with_reducible apply Wr.i64); focus omega) | (apply CallN.mk (ca)) | (apply CallN.mk (cb)) | (with_reducible first | apply Bif.T | apply Bif.F) | (with_reducible apply Bif.not) | (apply Same.int; focus omega) | (with_reducible apply Frz.l)) <;> conv => whnf) | fail)
    · rw [if_neg hs]
      refine spec_of_run ttok mixed (T0 := 4115) (ts := [.tmp 4]) 17 rfl rfl rfl rfl (by simp) rfl ?_
      conv => whnf
      repeat' (first | with_reducible apply True.intro | ((first | ((with_reducible apply Wr.i64); focus omega) | (apply CallN.mk (ca)) | (apply CallN.mk (cb)) | (with_reducible first | apply Bif.T | apply Bif.F) | (with_reducible apply Bif.not) | (apply Same.int; focus omega) | (with_reducible apply Frz.l)) <;> conv => whnf) | fail)
  all_goals rw [addM_no (fun g => by omega)]
  all_goals refine spec_of_run ttok mixed (T0 := 4115) (ts := [.tmp 4]) 17 rfl rfl rfl rfl (by simp) rfl ?_
  all_goals conv => whnf
  all_goals repeat' (first | with_reducible apply True.intro | ((first | (apply CallN.mk (ca)) | (apply CallN.mk (cb)) | (with_reducible first | apply Bif.T | apply Bif.F) | (with_reducible apply Bif.not) | (apply Same.int; focus rfl) | (with_reducible apply Frz.l)) <;> conv => whnf) | fail)
theorem k_refmetricAdd (a b : Int) : Con Try.prog 43 [int a, int b] [] (int (addM a b)) [] := by
  have ca := k_refmetricValid a
  have cb := k_refmetricValid b
  rcases okM_cases a with ⟨ha, ga⟩ | ⟨ha, ga⟩ <;> rcases okM_cases b with ⟨hb, gb⟩ | ⟨hb, gb⟩ <;> rw [ha] at ca <;> rw [hb] at cb
  · rw [addM_mk ⟨ga, gb⟩]
    by_cases hs : a + b < 65535
    · rw [if_pos hs]
      refine spec_of_run ttok mixed (T0 := 4115) (ts := [.tmp 4]) 17 rfl rfl rfl rfl (by simp) rfl ?_
      conv => whnf
      repeat' (first | with_reducible apply True.intro | ((first | ((with_reducible apply Wr.i64); focus omega) | (apply CallN.mk (ca)) | (apply CallN.mk (cb)) | (with_reducible first | apply Bif.T | apply Bif.F) | (with_reducible apply Bif.not) | (apply Same.int; focus omega) | (with_reducible apply Frz.l)) <;> conv => whnf) | fail)
    · rw [if_neg hs]
      refine spec_of_run ttok mixed (T0 := 4115) (ts := [.tmp 4]) 17 rfl rfl rfl rfl (by simp) rfl ?_
      conv => whnf
      repeat' (first | with_reducible apply True.intro | ((first | ((with_reducible apply Wr.i64); focus omega) | (apply CallN.mk (ca)) | (apply CallN.mk (cb)) | (with_reducible first | apply Bif.T | apply Bif.F) | (with_reducible apply Bif.not) | (apply Same.int; focus omega) | (with_reducible apply Frz.l)) <;> conv => whnf) | fail)
  all_goals rw [addM_no (fun g => by omega)]
  all_goals refine spec_of_run ttok mixed (T0 := 4115) (ts := [.tmp 4]) 17 rfl rfl rfl rfl (by simp) rfl ?_
  all_goals conv => whnf
  all_goals repeat' (first | with_reducible apply True.intro | ((first | (apply CallN.mk (ca)) | (apply CallN.mk (cb)) | (with_reducible first | apply Bif.T | apply Bif.F) | (with_reducible apply Bif.not) | (apply Same.int; focus rfl) | (with_reducible apply Frz.l)) <;> conv => whnf) | fail)
/-- metric.Link -/
def linkM (rx tx : Int) : Int := if okM rx = true ∧ okM tx = true ∧ rx ≠ 65535 ∧ tx ≠ 65535 then max tx 1 else 65535
theorem k_metricLink (a b : Int) : Con Try.prog 41 [int a, int b] [] (int (linkM a b)) [] := by
  have ca := k_metricValid a
  have cb := k_metricValid b
  rcases okM_cases a with ⟨ha, ga⟩ | ⟨ha, ga⟩ <;> rcases okM_cases b with ⟨hb, gb⟩ | ⟨hb, gb⟩ <;> rw [ha] at ca <;> rw [hb] at cb
  · by_cases hs : a ≠ 65535 ∧ b ≠ 65535
    · rw [linkM, if_pos ⟨ha, hb, hs.1, hs.2⟩]
      refine spec_of_run ttok mixed (T0 := 1048595) (ts := [.tmp 4]) 23 rfl rfl rfl rfl (by simp) rfl ?_
      conv => whnf
      repeat' (first | with_reducible apply True.intro | ((first | (apply CallN.mk (ca)) | (apply CallN.mk (cb)) | (with_reducible first | apply Bif.T | apply Bif.F) | ((with_reducible apply Bif.beq) <;> intro h <;> (try simp only [lns] at h) <;> (try (exfalso; omega))) | (with_reducible apply Bif.not) | (apply Same.int; focus rfl) | (with_reducible apply Frz.l)) <;> conv => whnf) | fail)
    · rw [linkM, if_neg (fun g => hs g.2.2)]
      refine spec_of_run ttok mixed (T0 := 1048595) (ts := [.tmp 4]) 23 rfl rfl rfl rfl (by simp) rfl ?_
      conv => whnf
      repeat' (first | with_reducible apply True.intro | ((first | (apply CallN.mk (ca)) | (apply CallN.mk (cb)) | (with_reducible first | apply Bif.T | apply Bif.F) | ((with_reducible apply Bif.beq) <;> intro h <;> (try simp only [lns] at h) <;> (try (exfalso; omega))) | (with_reducible apply Bif.not) | (apply Same.int; focus rfl) | (with_reducible apply Frz.l)) <;> conv => whnf) | fail)
  all_goals rw [linkM, if_neg (fun g => by simp_all)]
  all_goals refine spec_of_run ttok mixed (T0 := 1048595) (ts := [.tmp 4]) 23 rfl rfl rfl rfl (by simp) rfl ?_
  all_goals conv => whnf
  all_goals repeat' (first | with_reducible apply True.intro | ((first | (apply CallN.mk (ca)) | (apply CallN.mk (cb)) | (with_reducible first | apply Bif.T | apply Bif.F) | (with_reducible apply Bif.not) | (apply Same.int; focus rfl) | (with_reducible apply Frz.l)) <;> conv => whnf) | fail)
theorem k_refmetricLink (a b : Int) : Con Try.prog 44 [int a, int b] [] (int (linkM a b)) [] := by
  have ca := k_refmetricValid a
  have cb := k_refmetricValid b
  rcases okM_cases a with ⟨ha, ga⟩ | ⟨ha, ga⟩ <;> rcases okM_cases b with ⟨hb, gb⟩ | ⟨hb, gb⟩ <;> rw [ha] at ca <;> rw [hb] at cb
  · by_cases hs : a ≠ 65535 ∧ b ≠ 65535
    · rw [linkM, if_pos ⟨ha, hb, hs.1, hs.2⟩]
      refine spec_of_run ttok mixed (T0 := 1048595) (ts := [.tmp 4]) 23 rfl rfl rfl rfl (by simp) rfl ?_
      conv => whnf
      repeat' (first | with_reducible apply True.intro | ((first | (apply CallN.mk (ca)) | (apply CallN.mk (cb)) | (with_reducible first | apply Bif.T | apply Bif.F) | ((with_reducible apply Bif.beq) <;> intro h <;> (try simp only [lns] at h) <;> (try (exfalso; omega))) | (with_reducible apply Bif.not) | (apply Same.int; focus rfl) | (with_reducible apply Frz.l)) <;> conv => whnf) | fail)
    · rw [linkM, if_neg (fun g => hs g.2.2)]
      refine spec_of_run ttok mixed (T0 := 1048595) (ts := [.tmp 4]) 23 rfl rfl rfl rfl (by simp) rfl ?_
      conv => whnf
      repeat' (first | with_reducible apply True.intro | ((first | (apply CallN.mk (ca)) | (apply CallN.mk (cb)) | (with_reducible first | apply Bif.T | apply Bif.F) | ((with_reducible apply Bif.beq) <;> intro h <;> (try simp only [lns] at h) <;> (try (exfalso; omega))) | (with_reducible apply Bif.not) | (apply Same.int; focus rfl) | (with_reducible apply Frz.l)) <;> conv => whnf) | fail)
  all_goals rw [linkM, if_neg (fun g => by simp_all)]
  all_goals refine spec_of_run ttok mixed (T0 := 1048595) (ts := [.tmp 4]) 23 rfl rfl rfl rfl (by simp) rfl ?_
  all_goals conv => whnf
  all_goals repeat' (first | with_reducible apply True.intro | ((first | (apply CallN.mk (ca)) | (apply CallN.mk (cb)) | (with_reducible first | apply Bif.T | apply Bif.F) | (with_reducible apply Bif.not) | (apply Same.int; focus rfl) | (with_reducible apply Frz.l)) <;> conv => whnf) | fail)
end Go.Fw
