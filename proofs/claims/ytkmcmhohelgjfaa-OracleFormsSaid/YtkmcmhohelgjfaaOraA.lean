/- The package oracle: next hops, Cycle and Path. -/
import Derived.Test.YtkmcmhohelgjfaaMetric
namespace Go.Fw
set_option maxRecDepth 4000
open Go.Proofs
set_option maxHeartbeats 1000000
/-- one of n nodes -/
def inN (i : Int) (n : Nat) : Prop := 0 ≤ i ∧ i < n
instance (i : Int) (n : Nat) : Decidable (inN i n) := inferInstanceAs (Decidable (_ ∧ _))
theorem k_numbered (i : Int) (n : Nat) : Con Try.prog 26 [int i, int (n : Int)] [] (bool (decide (inN i n))) [] := by
  by_cases hc : inN i n
  · rw [decide_eq_true hc]
    unfold inN at hc
    refine spec_of_run ttok mixed (T0 := 19) (ts := [.tmp 4]) 12 rfl rfl rfl rfl (by simp) rfl ?_
    conv => whnf
    repeat' (first | with_reducible apply True.intro | ((apply Same.bool (by rw [decide_eq_true_eq]; omega)); (conv => whnf)) | ((first | (with_reducible apply Bif.T) | ((with_reducible apply Bif.dec) <;> intro h <;> (try simp only [lns] at h) <;> (try (exfalso; omega))) | (with_reducible apply Frz.l)) <;> conv => whnf) | fail)
  · rw [decide_eq_false hc]
    unfold inN at hc
    refine spec_of_run ttok mixed (T0 := 19) (ts := [.tmp 4]) 12 rfl rfl rfl rfl (by simp) rfl ?_
    conv => whnf
    repeat' (first | with_reducible apply True.intro | ((apply Same.bool (by rw [decide_eq_false_iff_not]; omega)); (conv => whnf)) | ((first | (with_reducible first | apply Bif.T | apply Bif.F) | ((with_reducible apply Bif.dec) <;> intro h <;> (try simp only [lns] at h)) | (apply Same.bool; focus (with_reducible rfl)) | (with_reducible apply Frz.l)) <;> conv => whnf) | fail)
/-- the next hop, or what is no node -/
def nx (l : List Int) (i : Int) : Int := if inN i l.length then l.getD i.toNat 0 else i
/-- multihopref32.step -/
def stp (l : List Int) (i : Int) : Int := if inN i l.length ∧ inN (nx l i) l.length then nx l i else -1
theorem nx_get {l : List Int} {k : Nat} (h : k < l.length) : nx l (k : Int) = l[k] := by
  simp [nx, inN, h]
theorem nx_gt {l : List Int} {k : Nat} (h : k < l.length) : nx l (k : Int) = gt l k := by rw [nx_get h, gt_eq h]
theorem k_step (l : List Int) (t : Tg) (i : Int) : Con Try.prog 27 [.fs t 1 (ints l), int i] [] (int (stp l i)) [] := by
  by_cases hi : inN i l.length
  · obtain ⟨k, rfl⟩ : ∃ k : Nat, i = (k : Int) := ⟨i.toNat, by have := hi.1; omega⟩
    have hk : k < l.length := by have := hi.2; omega
    have hn := nx_gt hk
    by_cases hx : inN (nx l (k : Int)) l.length
    · rw [stp, if_pos ⟨hi, hx⟩, hn]
      rw [hn] at hx
      unfold inN at hx
      refine spec_of_run ttok mixed (T0 := 268435475) (ts := [.tmp 4]) 33 rfl rfl rfl rfl (by simp) rfl ?_
      conv => whnf
      repeat' (first | with_reducible apply True.intro | ((first | ((with_reducible apply Nm.mk); focus ((try simp only [lns]); exact rfl)) | ((with_reducible apply Need.mk); focus (simp only [lns]; omega)) | ((with_reducible apply Elem.lst); focus omega) | (with_reducible apply Bif.F) | ((with_reducible apply Bif.dec) <;> intro h <;> (try simp only [lns] at h) <;> (try (exfalso; omega))) | (with_reducible apply Same.rfl) | (with_reducible apply Frz.l)) <;> conv => whnf) | fail)
    · rw [stp, if_neg (fun g => hx g.2)]
      rw [hn] at hx
      unfold inN at hx
      refine spec_of_run ttok mixed (T0 := 268435475) (ts := [.tmp 4]) 33 rfl rfl rfl rfl (by simp) rfl ?_
      conv => whnf
      repeat' (first | with_reducible apply True.intro | ((first | ((with_reducible apply Nm.mk); focus ((try simp only [lns]); exact rfl)) | ((with_reducible apply Need.mk); focus (simp only [lns]; omega)) | ((with_reducible apply Elem.lst); focus omega) | (with_reducible first | apply Bif.T | apply Bif.F) | ((with_reducible apply Bif.dec) <;> intro h <;> (try simp only [lns] at h) <;> (try (exfalso; omega))) | (apply Same.int; focus rfl) | (with_reducible apply Frz.l)) <;> conv => whnf) | fail)
  · rw [stp, if_neg (fun g => hi g.1)]
    unfold inN at hi
    refine spec_of_run ttok mixed (T0 := 268435475) (ts := [.tmp 4]) 33 rfl rfl rfl rfl (by simp) rfl ?_
    conv => whnf
    repeat' (first | with_reducible apply True.intro | ((first | ((with_reducible apply Nm.mk); focus ((try simp only [lns]); exact rfl)) | (with_reducible first | apply Bif.T | apply Bif.F) | ((with_reducible apply Bif.dec) <;> intro h <;> (try simp only [lns] at h) <;> (try (exfalso; omega))) | (apply Same.int; focus rfl) | (with_reducible apply Frz.l)) <;> conv => whnf) | fail)
end Go.Fw
