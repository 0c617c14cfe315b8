/- Topologies: the cost of a link. -/
import Derived.Test.YtkmcmhohelgjfaaOraI
namespace Go.Fw
open Go.Proofs
set_option maxHeartbeats 2000000
attribute [local semireducible] Nm Wr Bif
def costT (m : List (List Int)) (i k : Nat) : Int := if i = k then 65535 else linkM ((m.getD k []).getD i 0) ((m.getD i []).getD k 0)
theorem rowsM_get (M : List (Tg × List Int)) {i : Nat} (hi : i < M.length) : (rowsM M).getD i [] = M[i].2 := by simp [rowsM, hi]
theorem validT_row {m : List (List Int)} (h : validT m = true) {i : Nat} (hi : i < m.length) : (m.getD i []).length = m.length := by
  simp only [validT, Bool.and_eq_true, List.all_eq_true] at h
  have := h.2 i (List.mem_range.2 hi)
  simp only [rowOK, Bool.and_eq_true, decide_eq_true_eq] at this
  exact this.1
theorem validT_n {m : List (List Int)} (h : validT m = true) : 1 ≤ m.length ∧ m.length ≤ 12 := by
  simp only [validT, Bool.and_eq_true, decide_eq_true_eq] at h
  exact h.1
theorem k_cost (M : List (Tg × List Int)) (t : Tg) (i k : Nat) (hv : validT (rowsM M) = true) (hi : i < M.length) (hk : k < M.length) :
    Con Try.prog 31 [.fs t 1 (mat M), int (i : Int), int (k : Int)] [] (int (costT (rowsM M) i k)) [] := by
  have hr : (rowsM M).length = M.length := by simp [rowsM]
  have hli : M[i].2.length = M.length := by have := validT_row hv (i := i) (by omega); rwa [rowsM_get M hi, hr] at this
  have hlk : M[k].2.length = M.length := by have := validT_row hv (i := k) (by omega); rwa [rowsM_get M hk, hr] at this
  have hs := mat_len M
  refine spec_of_exec ttok mixed (T0 := 25) (ts := [.tmp 6]) 25 rfl rfl rfl rfl (by simp) rfl ?_
  conv => whnf
  refine Bif.mk (fun h => ?_) (fun h => ?_)
  · conv => whnf
    have : i = k := by simp at h; omega
    refine Out.none ?_ rfl
    rw [costT, if_pos this]; rfl
  have hne : i ≠ k := by intro e; subst e; simp at h
  conv => whnf
  refine Need.mk (by rw [hs]; omega) ?_
  conv => whnf
  refine Elem.mk (.fs M[k].1 1 (ints M[k].2)) (mat_get hk) ?_
  conv => whnf
  refine Need.mk (by rw [ints_len]; omega) ?_
  conv => whnf
  refine Elem.mk (int (M[k].2[i]'(by omega))) (ints_get (by omega)) ?_
  conv => whnf
  refine Need.mk (by rw [hs]; omega) ?_
  conv => whnf
  refine Elem.mk (.fs M[i].1 1 (ints M[i].2)) (mat_get hi) ?_
  conv => whnf
  refine Need.mk (by rw [ints_len]; omega) ?_
  conv => whnf
  refine Elem.mk (int (M[i].2[k]'(by omega))) (ints_get (by omega)) ?_
  conv => whnf
  refine CallN.mk (k_metricLink _ _) ?_
  conv => whnf
  refine Need.mk (by kernel_rfl) ?_
  conv => whnf
  refine Out.none ?_ rfl
  rw [costT, if_neg hne, rowsM_get M hi, rowsM_get M hk]
  have h1 : i < M[k].2.length := by omega
  have h2 : k < M[i].2.length := by omega
  simp [h1, h2, int]
  rfl
end Go.Fw
