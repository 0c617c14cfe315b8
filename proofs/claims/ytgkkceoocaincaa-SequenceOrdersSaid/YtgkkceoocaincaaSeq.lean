/- The functions of package sequence: what each returns. -/
import Derived.Test.YtgkkceoocaincaaTT
import Derived.Test.YtgkkceoocaincaaNew
namespace Go.Fw
open Go.Proofs
set_option maxHeartbeats 1000000
theorem c8 (a b : Int) : Con Try.prog 8 [.v (.int .u16 a), .v (.int .u16 b)] [] (.v (.bool (newer a b))) [] := by
  refine spec_of_exec ttok mixed (T0 := 6) (ts := [4]) 24 rfl rfl rfl rfl (by simp) rfl ?_
  conv => whnf
  repeat' (refine Bif.mk (fun _ => ?_) (fun _ => ?_) <;> conv => whnf)
  all_goals (refine Out.val ?_; simp [newer, *])
  all_goals (simp_all; try omega)
def dist (s m : Int) : SV := .agg [.v (.int .u16 s), .v (.int .i64 m)]
/-- sequence.Compare -/
def cmp (s m s' m' : Int) : Int :=
  if s = s' ∧ m = m' then 0 else if newer s s' = true ∨ (s = s' ∧ m < m') then -1 else 1
theorem c13 (s m s' m' : Int) : Con Try.prog 13 [dist s m, dist s' m'] [] (.v (.int .i64 (cmp s m s' m'))) [] := by
  refine spec_of_exec ttok mixed (T0 := 10) (ts := [4]) 27 rfl rfl rfl rfl (by simp) rfl ?_
  conv => whnf
  repeat' (first | (refine CallN.mk (c8 _ _) ?_; conv => whnf) | (refine Bif.mk (fun _ => ?_) (fun _ => ?_) <;> conv => whnf))
  all_goals refine Out.none ?_ rfl
  all_goals simp_all [cmp]
  all_goals (try omega)
theorem c22 (a b : Int) : Con Try.prog 22 [.v (.int .u16 a), .v (.int .u16 b)] [] (.v (.int .u16 (bif newer b a then b else a))) [] := by
  refine spec_of_exec ttok mixed (T0 := 8) (ts := [4]) 10 rfl rfl rfl rfl (by simp) rfl ?_
  conv => whnf
  repeat' (first | (refine CallN.mk (c8 _ _) ?_; conv => whnf) | (refine Bif.mk (fun _ => ?_) (fun _ => ?_) <;> conv => whnf))
  all_goals refine Out.none ?_ rfl
  all_goals simp_all
/-- metric.Valid -/
def okM (m : Int) : Bool := decide (m ≥ 0) && decide (m ≤ 65535)
theorem c31 (m : Int) : Con Try.prog 31 [.v (.int .i64 m)] [] (.v (.bool (okM m))) [] := by
  refine spec_of_exec ttok mixed (T0 := 4) (ts := [2]) 9 rfl rfl rfl rfl (by simp) rfl ?_
  conv => whnf
  repeat' (first | (refine Bif.mk (fun _ => ?_) (fun _ => ?_) <;> conv => whnf))
  all_goals refine Out.none ?_ rfl
  all_goals simp_all [okM]
  all_goals (try omega)
theorem c26 (s m : Int) : Con Try.prog 26 [dist s m] [] (.v (.bool (okM m))) [] := by
  refine spec_of_exec ttok mixed (T0 := 4) (ts := [2]) 6 rfl rfl rfl rfl (by simp) rfl ?_
  conv => whnf
  repeat' (first | (refine CallN.mk (c31 _) ?_; conv => whnf) | (refine Bif.mk (fun _ => ?_) (fun _ => ?_) <;> conv => whnf))
  all_goals exact Out.none rfl rfl
/-- sequence.Feasible -/
def feas (s m s' m' : Int) (has : Bool) : Bool := bif !okM m || m == 65535 then false else !has || (okM m' && cmp s m s' m' == -1)
theorem c16 (s m s' m' : Int) (has : Bool) : Con Try.prog 16 [dist s m, dist s' m', .v (.bool has)] [] (.v (.bool (feas s m s' m' has))) [] := by
  refine spec_of_exec ttok mixed (T0 := 15) (ts := [6]) 27 rfl rfl rfl rfl (by simp) rfl ?_
  conv => whnf
  repeat' (first | (refine CallN.mk (c26 _ _) ?_; conv => whnf) | (refine CallN.mk (c13 _ _ _ _) ?_; conv => whnf) | (refine Bif.mk (fun _ => ?_) (fun _ => ?_) <;> conv => whnf))
  all_goals refine Out.none ?_ rfl
  all_goals simp_all [feas]
theorem c9 : Con Try.prog 9 [] [] (.v (.bool true)) [] := by
  refine spec_of_exec ttok mixed (T0 := 2) (ts := [0]) 25 rfl rfl rfl rfl (by simp) rfl ?_
  conv => whnf
  repeat' (first | (refine CallN.mk (c8 _ _) ?_; conv => whnf) | (refine CallN.mk (c22 _ _) ?_; conv => whnf) | (refine CallN.mk (c16 _ _ _ _ _) ?_; conv => whnf) | (refine CallN.mk (c13 _ _ _ _) ?_; conv => whnf) | (refine Bif.mk (fun _ => ?_) (fun _ => ?_) <;> conv => whnf))
  all_goals refine Out.none ?_ rfl
  all_goals rfl
end Go.Fw
