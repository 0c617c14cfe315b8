/- Topologies: the cost of a link. -/
import Derived.Test.YtkmcmhohelgjfaaOraI
namespace Go.Fw
set_option maxRecDepth 4000
open Go.Proofs
set_option maxHeartbeats 2000000
def costT (m : List (List Int)) (i k : Nat) : Int := if i = k then 65535 else linkM ((m.getD k []).getD i 0) ((m.getD i []).getD k 0)
theorem validT_row {m : List (List Int)} (h : validT m = true) {i : Nat} (hi : i < m.length) : (m.getD i []).length = m.length := by
  simp only [validT, Bool.and_eq_true, List.all_eq_true] at h
  have := h.2 i (List.mem_range.2 hi)
  simp only [rowOK, Bool.and_eq_true, decide_eq_true_eq] at this
  exact this.1
theorem validT_n {m : List (List Int)} (h : validT m = true) : 1 ≤ m.length ∧ m.length ≤ 12 := by
  simp only [validT, Bool.and_eq_true, decide_eq_true_eq] at h
  exact h.1
theorem k_cost (M : List (Tg × List Int)) (t : Tg) (i k : Nat) (hv : validT (rowsM M) = true) (hi : i < M.length) (hk : k < M.length) :
    Con Try.prog 31 [.fs t 1 (mat M), int (i : Int), int (k : Int)] [] (int (costT (rowsM M) i k)) [] := by
  have hr : (rowsM M).length = M.length := by simp [rowsM]
  have hli : (gt M i).2.length = M.length := by have := validT_row hv (i := i) (by omega); rwa [rowsM_gt hi, hr] at this
  have hlk : (gt M k).2.length = M.length := by have := validT_row hv (i := k) (by omega); rwa [rowsM_gt hk, hr] at this
  have hs := mat_len M
  by_cases hne : i = k
  · rw [costT, if_pos hne]
    refine spec_of_run ttok mixed (T0 := 583) (ts := [.tmp 6]) 25 rfl rfl rfl rfl (by simp) rfl ?_
    conv => whnf
    repeat' (first | with_reducible apply True.intro | ((first | ((with_reducible apply Bif.beq) <;> intro h <;> (try simp only [lns, mat_len] at h) <;> (try (exfalso; omega))) | (apply Same.int; focus rfl) | (with_reducible apply Frz.l)) <;> conv => whnf) | fail)
  · rw [costT, if_neg hne, rowsM_gt hi, rowsM_gt hk, getD_gt, getD_gt]
    refine spec_of_run ttok mixed (T0 := 583) (ts := [.tmp 6]) 25 rfl rfl rfl rfl (by simp) rfl ?_
    conv => whnf
    repeat' (first | with_reducible apply True.intro | ((with_reducible apply Elem.matG); (focus omega); conv => whnf) | ((first | ((with_reducible apply Nm.mk); focus ((try simp only [lns, mat_len]); exact rfl)) | ((with_reducible apply Need.mk); focus first | omega | (simp only [lns, mat_len]; omega) | kernel_rfl) | ((with_reducible apply Elem.lst); focus omega) | (apply CallN.mk (k_metricLink _ _)) | ((with_reducible apply Bif.beq) <;> intro h <;> (try simp only [lns, mat_len] at h) <;> (try (exfalso; omega))) | (with_reducible apply Same.rfl) | (with_reducible apply Frz.l)) <;> conv => whnf) | fail)
end Go.Fw
