/- The laws of chapter 25: the walks. -/
import Derived.Test.YtgkkceoocaincaaSeq
namespace Go.Fw
open Go.Proofs
set_option maxHeartbeats 4000000
theorem k_known : Con Try.prog 9 [] [] (bool true) [] := by
  refine spec_of_exec ttok mixed (T0 := 25) (ts := [.tmp 0]) 25 rfl rfl rfl rfl (by simp) rfl ?_
  conv => whnf
  repeat' (first | (refine CallN.mk (k_Newer _ _) ?_; conv => whnf) | (refine CallN.mk (k_Compare _ _ _ _) ?_; conv => whnf) | (refine CallN.mk (k_Feasible _ _ _ _ _) ?_; conv => whnf) | (refine CallN.mk (k_Raise _ _) ?_; conv => whnf) | (refine Bif.mk (fun _ => ?_) (fun _ => ?_) <;> conv => whnf) | (refine Need.mk (by first | decide | kernel_rfl) ?_; conv => whnf))
  all_goals refine Out.none ?_ rfl
  all_goals rfl
theorem cmp_ext {s m m' : Int} (h : m < m') : cmp s m s m' = -1 := by
  unfold cmp
  rw [if_neg (by omega), if_pos (.inr ⟨rfl, h⟩)]
theorem cmp_ext' {s m m' : Int} (h : m < m') : cmp s m' s m = 1 := by
  unfold cmp
  rw [if_neg (by omega), if_neg (by rw [newer_self]; simp; omega)]
theorem addM_gt {m c : Int} (hm : 0 ≤ m ∧ m < 65535) (hc : 1 ≤ c) : m < addM m c ∧ addM m c ≤ 65535 := by
  unfold addM
  split <;> omega
theorem k_SequenceExtends (s m c : Int) : Con Try.prog 7 [dist s m, int c] [] (bool true) [] := by
  have h1 := modV_range (v := m) (n := 65535) (by decide)
  have h2 := modV_range (v := c) (n := 65535) (by decide)
  have hw : IntKind.wrap .i64 (1 + modV c 65535) = 1 + modV c 65535 := wrap64_id (by omega)
  have h3 := addM_gt (m := modV m 65535) (c := 1 + modV c 65535) (by omega) (by omega)
  have f1 := cmp_ext (s := s) h3.1
  have f2 := cmp_ext' (s := s) h3.1
  have v1 : okM (modV m 65535) = true := (okM_iff _).2 (by omega)
  have v2 : okM (addM (modV m 65535) (1 + modV c 65535)) = true := (okM_iff _).2 (by omega)
  have n1 : (modV m 65535 == 65535) = false := by simp; omega
  refine spec_of_exec ttok mixed (T0 := 42) (ts := [.tmp 4]) 42 rfl rfl rfl rfl (by simp) rfl ?_
  conv => whnf
  repeat' (first | (refine CallN.mk (k_made_Mod _ _ (by decide)) ?_; conv => whnf) | (refine CallN.mk (k_Extend _ _ _) ?_; conv => whnf) | (refine CallN.mk (k_Feasible _ _ _ _ _) ?_; conv => whnf) | (refine CallN.mk (k_Compare _ _ _ _) ?_; conv => whnf) | (refine CallN.mk (k_Lower _ _ _ _) ?_; conv => whnf) | (refine CallN.mk (k_known) ?_; conv => whnf) | (refine Bif.mk (fun _ => ?_) (fun _ => ?_) <;> conv => whnf) | (refine Need.mk (by first | decide | kernel_rfl) ?_; conv => whnf))
  all_goals refine Out.none ?_ rfl
  all_goals (first | rfl | (exfalso; rw [hw] at *; simp_all [feas, lowS, lowM]; done))
end Go.Fw
