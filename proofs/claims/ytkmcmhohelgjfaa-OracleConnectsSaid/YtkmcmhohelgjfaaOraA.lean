/- The package oracle: next hops, Cycle and Path. -/
import Derived.Test.YtkmcmhohelgjfaaMetric
namespace Go.Fw
open Go.Proofs
set_option maxHeartbeats 1000000
attribute [local semireducible] Nm Wr Bif
/-- one of n nodes -/
def inN (i : Int) (n : Nat) : Prop := 0 ≤ i ∧ i < n
instance (i : Int) (n : Nat) : Decidable (inN i n) := inferInstanceAs (Decidable (_ ∧ _))
theorem k_numbered (i : Int) (n : Nat) : Con Try.prog 26 [int i, int (n : Int)] [] (bool (decide (inN i n))) [] := by
  refine spec_of_exec ttok mixed (T0 := 12) (ts := [.tmp 4]) 12 rfl rfl rfl rfl (by simp) rfl ?_
  conv => whnf
  repeat' (first | (refine Bif.mk (fun _ => ?_) (fun _ => ?_) <;> conv => whnf) | (refine Need.mk (by first | decide | kernel_rfl) ?_; conv => whnf))
  all_goals refine Out.none ?_ rfl
  all_goals (by_cases hc : inN i n <;> first | rw [decide_eq_true hc] | rw [decide_eq_false hc])
  all_goals (unfold inN at hc; simp_all [bool])
  all_goals (try omega)
/-- the next hop, or what is no node -/
def nx (l : List Int) (i : Int) : Int := if inN i l.length then l.getD i.toNat 0 else i
/-- multihopref32.step -/
def stp (l : List Int) (i : Int) : Int := if inN i l.length ∧ inN (nx l i) l.length then nx l i else -1
theorem nx_get {l : List Int} {k : Nat} (h : k < l.length) : nx l (k : Int) = l[k] := by
  simp [nx, inN, h]
theorem k_step (l : List Int) (t : Tg) (i : Int) : Con Try.prog 27 [.fs t 1 (ints l), int i] [] (int (stp l i)) [] := by
  refine spec_of_exec ttok mixed (T0 := 33) (ts := [.tmp 4]) 33 rfl rfl rfl rfl (by simp) rfl ?_
  conv => whnf
  by_cases hi : inN i l.length
  · obtain ⟨k, rfl⟩ : ∃ k : Nat, i = (k : Int) := ⟨i.toNat, by have := hi.1; omega⟩
    have hk : k < l.length := by have := hi.2; omega
    have hn := nx_get hk
    refine Bif.mk (fun h => ?_) (fun h => ?_)
    · simp [ints_len] at h; omega
    conv => whnf
    refine Need.mk (by rw [ints_len]; omega) ?_
    conv => whnf
    refine Elem.mk (int l[k]) (ints_get hk) ?_
    conv => whnf
    refine Bif.mk (fun h2 => ?_) (fun h2 => ?_)
    · conv => whnf
      refine Out.none ?_ rfl
      simp at h2
      rw [stp, hn, if_neg (fun hc => by have := hc.2.1; omega)]; rfl
    conv => whnf
    refine Need.mk (by rw [ints_len]; omega) ?_
    conv => whnf
    refine Elem.mk (int l[k]) (ints_get hk) ?_
    conv => whnf
    refine Bif.mk (fun h3 => ?_) (fun h3 => ?_)
    · conv => whnf
      refine Out.none ?_ rfl
      simp [ints_len] at h3
      rw [stp, hn, if_neg (fun hc => by have := hc.2.2; omega)]; rfl
    conv => whnf
    refine Need.mk (by rw [ints_len]; omega) ?_
    conv => whnf
    refine Elem.mk (int l[k]) (ints_get hk) ?_
    conv => whnf
    refine Out.none ?_ rfl
    simp [ints_len] at h2 h3
    rw [stp, hn, if_pos ⟨hi, h2, h3⟩]
  · have e : stp l i = -1 := by rw [stp, if_neg (fun hc => hi hc.1)]
    rw [e]
    refine Bif.mk (fun h => ?_) (fun h => ?_)
    · conv => whnf
      exact Out.none rfl rfl
    conv => whnf
    refine Bif.mk (fun h2 => ?_) (fun h2 => ?_)
    · conv => whnf
      exact Out.none rfl rfl
    · exfalso; simp [ints_len] at h h2; exact hi ⟨h, h2⟩
end Go.Fw
