/- Networks: times, identities, Found. -/
import Derived.Test.YtpmiaggdjgfjgaaPar0
namespace Go.Fw
open Go.Proofs
set_option maxHeartbeats 4000000
set_option maxRecDepth 4000
theorem k_pisTime (t : Int) : Con Try.prog 37 [int t] [] (bool (decide (isTm t))) [] := by
  refine spec_of_run ttok mixed (T0 := 5) (ts := [.tmp 2]) 9 rfl rfl rfl rfl (by simp) rfl ?_
  conv => whnf
  repeat' (first | ((first | (with_reducible first | apply Bif.T | apply Bif.F) | ((with_reducible apply Bif.dec) <;> intro h <;> (try simp only [lns] at h))) <;> conv => whnf) | fail)
  all_goals (apply Same.bool (by rw [Bool.eq_iff_iff]; simp only [decide_eq_true_eq, Bool.false_eq_true, false_iff, true_iff, Bool.and_eq_true, Bool.or_eq_true, Bool.not_eq_true', decide_eq_false_iff_not, ne_eq]; omega); (conv => whnf); repeat' (first | with_reducible apply True.intro | fail))
theorem k_validEpoch (t : Int) : Con Try.prog 38 [int t] [] (bool (decide (0 ≤ t ∧ t ≤ 1073741824))) [] := by
  refine spec_of_run ttok mixed (T0 := 5) (ts := [.tmp 2]) 9 rfl rfl rfl rfl (by simp) rfl ?_
  conv => whnf
  repeat' (first | ((first | (with_reducible first | apply Bif.T | apply Bif.F) | ((with_reducible apply Bif.dec) <;> intro h <;> (try simp only [lns] at h))) <;> conv => whnf) | fail)
  all_goals (apply Same.bool (by rw [Bool.eq_iff_iff]; simp only [decide_eq_true_eq, Bool.false_eq_true, false_iff, true_iff, Bool.and_eq_true, Bool.or_eq_true, Bool.not_eq_true', decide_eq_false_iff_not, ne_eq]; omega); (conv => whnf); repeat' (first | with_reducible apply True.intro | fail))
theorem k_xBetter (a b : Net) : Con Try.prog 19 [idV a.ep a.rt, idV b.ep b.rt] [] (bool (betI a b)) [] := by
  refine spec_of_run ttok mixed (T0 := 31) (ts := [.tmp 4]) 24 rfl rfl rfl rfl (by simp) rfl ?_
  conv => whnf
  repeat' (first | ((first | (with_reducible first | apply Bif.T | apply Bif.F) | ((with_reducible first | apply Bif.dec | apply Bif.beq) <;> intro h <;> (try simp only [lns] at h))) <;> conv => whnf) | fail)
  all_goals (apply Same.bool (by simp_all [betI] <;> omega); (conv => whnf); repeat' (first | with_reducible apply True.intro | fail))
theorem k_yBetter (a b : Net) : Con Try.prog 20 [idV a.ep a.rt, idV b.ep b.rt] [] (bool (betI a b)) [] := by
  refine spec_of_run ttok mixed (T0 := 31) (ts := [.tmp 4]) 24 rfl rfl rfl rfl (by simp) rfl ?_
  conv => whnf
  repeat' (first | ((first | (with_reducible first | apply Bif.T | apply Bif.F) | ((with_reducible first | apply Bif.dec | apply Bif.beq) <;> intro h <;> (try simp only [lns] at h))) <;> conv => whnf) | fail)
  all_goals (apply Same.bool (by simp_all [betI] <;> omega); (conv => whnf); repeat' (first | with_reducible apply True.intro | fail))
theorem k_xFound (now ep rt : Int) : Con Try.prog 15 [int now, int ep, .v (.int .u64 rt)] [] (.tup [netO (foundM now ep rt).1 0 1, int (foundM now ep rt).2]) (netH (foundM now ep rt).1) := by
  by_cases h1 : rt = 0
  · rw [foundM, if_pos h1]
    refine spec_of_run ttok mixed (T0 := 262855) (ts := [.cell 6 29, .tmp 7]) 26 rfl rfl rfl rfl (by simp) rfl ?_
    conv => whnf
    repeat' (first | with_reducible apply True.intro | ((first | ((with_reducible apply Bif.beq) <;> intro h <;> (try simp only [lns] at h) <;> (try (exfalso; omega))) | (with_reducible apply Same.rfl) | (apply Same.int; focus rfl) | (apply Same.rfl)) <;> conv => whnf) | fail)
  · by_cases h2 : isTm now ∧ 0 ≤ ep ∧ ep ≤ 1073741824
    · rw [foundM, if_neg h1, if_pos h2]
      refine spec_of_run ttok mixed (T0 := 262855) (ts := [.cell 6 29, .tmp 7]) 26 rfl rfl rfl rfl (by simp) rfl ?_
      conv => whnf
      repeat' (first | with_reducible apply True.intro | ((first | (apply CallN.mk (k_pisTime _)) | (apply CallN.mk (k_validEpoch _)) | (with_reducible apply Bif.F) | ((with_reducible first | apply Bif.dec | apply Bif.beq) <;> intro h <;> (try simp only [lns] at h) <;> (try (exfalso; omega))) | (with_reducible apply Bif.not) | (with_reducible apply Same.rfl) | (apply Same.int; focus rfl) | (apply Same.rfl) | (with_reducible apply Cut.l)) <;> conv => whnf) | fail)
    · rw [foundM, if_neg h1, if_neg h2]
      refine spec_of_run ttok mixed (T0 := 262855) (ts := [.cell 6 29, .tmp 7]) 26 rfl rfl rfl rfl (by simp) rfl ?_
      conv => whnf
      repeat' (first | with_reducible apply True.intro | ((first | (apply CallN.mk (k_pisTime _)) | (apply CallN.mk (k_validEpoch _)) | (with_reducible first | apply Bif.T | apply Bif.F) | ((with_reducible first | apply Bif.dec | apply Bif.beq) <;> intro h <;> (try simp only [lns] at h) <;> (try (exfalso; omega))) | (with_reducible apply Bif.not) | (with_reducible apply Same.rfl) | (apply Same.int; focus rfl) | (apply Same.rfl)) <;> conv => whnf) | fail)
theorem k_yFound (now ep rt : Int) : Con Try.prog 16 [int now, int ep, .v (.int .u64 rt)] [] (.tup [netO (foundM now ep rt).1 0 1, int (foundM now ep rt).2]) (netH (foundM now ep rt).1) := by
  by_cases h1 : rt = 0
  · rw [foundM, if_pos h1]
    refine spec_of_run ttok mixed (T0 := 2097863) (ts := [.cell 6 29, .tmp 7]) 29 rfl rfl rfl rfl (by simp) rfl ?_
    conv => whnf
    repeat' (first | with_reducible apply True.intro | ((first | ((with_reducible apply Bif.beq) <;> intro h <;> (try simp only [lns] at h) <;> (try (exfalso; omega))) | (with_reducible apply Same.rfl) | (apply Same.int; focus rfl) | (apply Same.rfl)) <;> conv => whnf) | fail)
  · by_cases h2 : isTm now ∧ 0 ≤ ep ∧ ep ≤ 1073741824
    · rw [foundM, if_neg h1, if_pos h2]
      refine spec_of_run ttok mixed (T0 := 2097863) (ts := [.cell 6 29, .tmp 7]) 29 rfl rfl rfl rfl (by simp) rfl ?_
      conv => whnf
      repeat' (first | with_reducible apply True.intro | ((first | (apply CallN.mk (k_IsTime _)) | (with_reducible apply Bif.F) | ((with_reducible first | apply Bif.dec | apply Bif.beq) <;> intro h <;> (try simp only [lns] at h) <;> (try (exfalso; omega))) | (with_reducible apply Bif.not) | (with_reducible apply Same.rfl) | (apply Same.int; focus rfl) | (apply Same.rfl) | (with_reducible apply Cut.l)) <;> conv => whnf) | fail)
    · rw [foundM, if_neg h1, if_neg h2]
      refine spec_of_run ttok mixed (T0 := 2097863) (ts := [.cell 6 29, .tmp 7]) 29 rfl rfl rfl rfl (by simp) rfl ?_
      conv => whnf
      repeat' (first | with_reducible apply True.intro | ((first | (apply CallN.mk (k_IsTime _)) | (with_reducible first | apply Bif.T | apply Bif.F) | ((with_reducible first | apply Bif.dec | apply Bif.beq) <;> intro h <;> (try simp only [lns] at h) <;> (try (exfalso; omega))) | (with_reducible apply Bif.not) | (with_reducible apply Same.rfl) | (apply Same.int; focus rfl) | (apply Same.rfl)) <;> conv => whnf) | fail)
end Go.Fw
