/- The package metric and its reference: Valid, Add, Link. -/
import Derived.Test.YtkmcmhohelgjfaaInts
namespace Go.Fw
open Go.Proofs
set_option maxHeartbeats 1000000
attribute [local semireducible] Nm Wr Bif
/-- metric.Valid -/
def okM (m : Int) : Bool := decide (m ≥ 0) && decide (m ≤ 65535)
theorem okM_iff (m : Int) : okM m = true ↔ 0 ≤ m ∧ m ≤ 65535 := by simp [okM]
theorem okM_not (m : Int) : okM m = false ↔ ¬ (0 ≤ m ∧ m ≤ 65535) := by rw [← okM_iff]; simp
theorem k_metricValid (m : Int) : Con Try.prog 40 [int m] [] (bool (okM m)) [] := by
  refine spec_of_exec ttok mixed (T0 := 9) (ts := [.tmp 2]) 9 rfl rfl rfl rfl (by simp) rfl ?_
  conv => whnf
  repeat' (first | (refine Bif.mk (fun _ => ?_) (fun _ => ?_) <;> conv => whnf) | (refine Need.mk (by first | decide | kernel_rfl) ?_; conv => whnf))
  all_goals refine Out.none ?_ rfl
  all_goals simp_all [okM, bool]
  all_goals (try omega)
theorem k_refmetricValid (m : Int) : Con Try.prog 42 [int m] [] (bool (okM m)) [] := by
  refine spec_of_exec ttok mixed (T0 := 9) (ts := [.tmp 2]) 9 rfl rfl rfl rfl (by simp) rfl ?_
  conv => whnf
  repeat' (first | (refine Bif.mk (fun _ => ?_) (fun _ => ?_) <;> conv => whnf) | (refine Need.mk (by first | decide | kernel_rfl) ?_; conv => whnf))
  all_goals refine Out.none ?_ rfl
  all_goals simp_all [okM, bool]
  all_goals (try omega)
/-- metric.Add -/
def addM (a b : Int) : Int := if okM a = true ∧ okM b = true ∧ a + b < 65535 then a + b else 65535
theorem k_metricAdd (a b : Int) : Con Try.prog 30 [int a, int b] [] (int (addM a b)) [] := by
  refine spec_of_exec ttok mixed (T0 := 17) (ts := [.tmp 4]) 17 rfl rfl rfl rfl (by simp) rfl ?_
  conv => whnf
  repeat' (first | (refine CallN.mk (k_metricValid _) ?_; conv => whnf) | (refine Bif.mk (fun _ => ?_) (fun _ => ?_) <;> conv => whnf) | (refine Need.mk (by first | decide | kernel_rfl) ?_; conv => whnf))
  all_goals refine Out.none ?_ rfl
  all_goals simp_all [okM_iff, okM_not, addM, int]
  all_goals (try rw [wrap64_id (by omega)])
  all_goals (try omega)
theorem k_refmetricAdd (a b : Int) : Con Try.prog 43 [int a, int b] [] (int (addM a b)) [] := by
  refine spec_of_exec ttok mixed (T0 := 17) (ts := [.tmp 4]) 17 rfl rfl rfl rfl (by simp) rfl ?_
  conv => whnf
  repeat' (first | (refine CallN.mk (k_refmetricValid _) ?_; conv => whnf) | (refine Bif.mk (fun _ => ?_) (fun _ => ?_) <;> conv => whnf) | (refine Need.mk (by first | decide | kernel_rfl) ?_; conv => whnf))
  all_goals refine Out.none ?_ rfl
  all_goals simp_all [okM_iff, okM_not, addM, int]
  all_goals (try rw [wrap64_id (by omega)] at *)
  all_goals (try omega)
/-- metric.Link -/
def linkM (rx tx : Int) : Int := if okM rx = true ∧ okM tx = true ∧ rx ≠ 65535 ∧ tx ≠ 65535 then max tx 1 else 65535
theorem k_metricLink (a b : Int) : Con Try.prog 41 [int a, int b] [] (int (linkM a b)) [] := by
  refine spec_of_exec ttok mixed (T0 := 23) (ts := [.tmp 4]) 23 rfl rfl rfl rfl (by simp) rfl ?_
  conv => whnf
  repeat' (first | (refine CallN.mk (k_metricValid _) ?_; conv => whnf) | (refine Bif.mk (fun _ => ?_) (fun _ => ?_) <;> conv => whnf) | (refine Need.mk (by first | decide | kernel_rfl) ?_; conv => whnf))
  all_goals refine Out.none ?_ rfl
  all_goals simp_all [linkM, int]
theorem k_refmetricLink (a b : Int) : Con Try.prog 44 [int a, int b] [] (int (linkM a b)) [] := by
  refine spec_of_exec ttok mixed (T0 := 23) (ts := [.tmp 4]) 23 rfl rfl rfl rfl (by simp) rfl ?_
  conv => whnf
  repeat' (first | (refine CallN.mk (k_refmetricValid _) ?_; conv => whnf) | (refine Bif.mk (fun _ => ?_) (fun _ => ?_) <;> conv => whnf) | (refine Need.mk (by first | decide | kernel_rfl) ?_; conv => whnf))
  all_goals refine Out.none ?_ rfl
  all_goals simp_all [linkM, int]
  all_goals (try omega)
end Go.Fw
