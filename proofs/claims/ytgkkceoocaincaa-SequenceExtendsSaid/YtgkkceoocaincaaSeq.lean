/- The packages sequence and metric, and their references: what each function returns. -/
import Derived.Test.YtgkkceoocaincaaTape
import Derived.Test.YtgkkceoocaincaaNew
namespace Go.Fw
open Go.Proofs
set_option maxHeartbeats 1000000
def u16 (x : Int) : SV := .v (.int .u16 x)
def bool (b : Bool) : SV := .v (.bool b)
theorem k_Newer (a b : Int) : Con Try.prog 8 [u16 a, u16 b] [] (bool (newer a b)) [] := by
  refine spec_of_exec ttok mixed (T0 := 24) (ts := [.tmp 4]) 24 rfl rfl rfl rfl (by simp) rfl ?_
  conv => whnf
  repeat' (first | (refine Bif.mk (fun _ => ?_) (fun _ => ?_) <;> conv => whnf) | (refine Need.mk (by first | decide | kernel_rfl) ?_; conv => whnf))
  all_goals (refine Out.val ?_; simp [newer, bool, *])
  all_goals (simp_all; try omega)
def dist (s m : Int) : SV := .agg [u16 s, int m]
/-- sequence.Compare -/
def cmp (s m s' m' : Int) : Int :=
  if s = s' ∧ m = m' then 0 else if newer s s' = true ∨ (s = s' ∧ m < m') then -1 else 1
theorem k_Compare (s m s' m' : Int) : Con Try.prog 13 [dist s m, dist s' m'] [] (int (cmp s m s' m')) [] := by
  refine spec_of_exec ttok mixed (T0 := 27) (ts := [.tmp 4]) 27 rfl rfl rfl rfl (by simp) rfl ?_
  conv => whnf
  repeat' (first | (refine CallN.mk (k_Newer _ _) ?_; conv => whnf) | (refine Bif.mk (fun _ => ?_) (fun _ => ?_) <;> conv => whnf) | (refine Need.mk (by first | decide | kernel_rfl) ?_; conv => whnf))
  all_goals refine Out.none ?_ rfl
  all_goals simp_all [cmp, int]
  all_goals (try omega)
theorem k_Raise (a b : Int) : Con Try.prog 22 [u16 a, u16 b] [] (u16 (bif newer b a then b else a)) [] := by
  refine spec_of_exec ttok mixed (T0 := 10) (ts := [.tmp 4]) 10 rfl rfl rfl rfl (by simp) rfl ?_
  conv => whnf
  repeat' (first | (refine CallN.mk (k_Newer _ _) ?_; conv => whnf) | (refine Bif.mk (fun _ => ?_) (fun _ => ?_) <;> conv => whnf) | (refine Need.mk (by first | decide | kernel_rfl) ?_; conv => whnf))
  all_goals refine Out.none ?_ rfl
  all_goals simp_all [u16]
/-- metric.Valid -/
def okM (m : Int) : Bool := decide (m ≥ 0) && decide (m ≤ 65535)
theorem k_metricValid (m : Int) : Con Try.prog 31 [int m] [] (bool (okM m)) [] := by
  refine spec_of_exec ttok mixed (T0 := 9) (ts := [.tmp 2]) 9 rfl rfl rfl rfl (by simp) rfl ?_
  conv => whnf
  repeat' (first | (refine Bif.mk (fun _ => ?_) (fun _ => ?_) <;> conv => whnf) | (refine Need.mk (by first | decide | kernel_rfl) ?_; conv => whnf))
  all_goals refine Out.none ?_ rfl
  all_goals simp_all [okM, bool]
  all_goals (try omega)
theorem k_seqValid (s m : Int) : Con Try.prog 26 [dist s m] [] (bool (okM m)) [] := by
  refine spec_of_exec ttok mixed (T0 := 6) (ts := [.tmp 2]) 6 rfl rfl rfl rfl (by simp) rfl ?_
  conv => whnf
  repeat' (first | (refine CallN.mk (k_metricValid _) ?_; conv => whnf) | (refine Bif.mk (fun _ => ?_) (fun _ => ?_) <;> conv => whnf) | (refine Need.mk (by first | decide | kernel_rfl) ?_; conv => whnf))
  all_goals exact Out.none rfl rfl
/-- sequence.Feasible -/
def feas (s m s' m' : Int) (has : Bool) : Bool := bif !okM m || m == 65535 then false else !has || (okM m' && cmp s m s' m' == -1)
theorem k_Feasible (s m s' m' : Int) (has : Bool) : Con Try.prog 16 [dist s m, dist s' m', bool has] [] (bool (feas s m s' m' has)) [] := by
  refine spec_of_exec ttok mixed (T0 := 27) (ts := [.tmp 6]) 27 rfl rfl rfl rfl (by simp) rfl ?_
  conv => whnf
  repeat' (first | (refine CallN.mk (k_seqValid _ _) ?_; conv => whnf) | (refine CallN.mk (k_Compare _ _ _ _) ?_; conv => whnf) | (refine Bif.mk (fun _ => ?_) (fun _ => ?_) <;> conv => whnf) | (refine Need.mk (by first | decide | kernel_rfl) ?_; conv => whnf))
  all_goals refine Out.none ?_ rfl
  all_goals simp_all [feas, bool]
/-- metric.Add -/
def addM (a b : Int) : Int := if okM a = true ∧ okM b = true ∧ a + b < 65535 then a + b else 65535
theorem okM_iff (m : Int) : okM m = true ↔ 0 ≤ m ∧ m ≤ 65535 := by simp [okM]
theorem okM_not (m : Int) : okM m = false ↔ ¬ (0 ≤ m ∧ m ≤ 65535) := by rw [← okM_iff]; simp
theorem k_metricAdd (a b : Int) : Con Try.prog 28 [int a, int b] [] (int (addM a b)) [] := by
  refine spec_of_exec ttok mixed (T0 := 17) (ts := [.tmp 4]) 17 rfl rfl rfl rfl (by simp) rfl ?_
  conv => whnf
  repeat' (first | (refine CallN.mk (k_metricValid _) ?_; conv => whnf) | (refine Bif.mk (fun _ => ?_) (fun _ => ?_) <;> conv => whnf) | (refine Need.mk (by first | decide | kernel_rfl) ?_; conv => whnf))
  all_goals refine Out.none ?_ rfl
  all_goals simp_all [okM_iff, okM_not, addM, int]
  all_goals (try rw [wrap64_id (by omega)])
  all_goals (try omega)
theorem k_Extend (s m c : Int) : Con Try.prog 15 [dist s m, int c] [] (dist s (addM m c)) [] := by
  refine spec_of_exec ttok mixed (T0 := 12) (ts := [.cell 4 30]) 12 rfl rfl rfl rfl (by simp) rfl ?_
  conv => whnf
  repeat' (first | (refine CallN.mk (k_metricAdd _ _) ?_; conv => whnf) | (refine Bif.mk (fun _ => ?_) (fun _ => ?_) <;> conv => whnf) | (refine Need.mk (by first | decide | kernel_rfl) ?_; conv => whnf))
  all_goals exact Out.none rfl rfl
/-- sequence.Lower -/
def lowS (s m s' m' : Int) : Int := if cmp s m s' m' = -1 then s else s'
def lowM (s m s' m' : Int) : Int := if cmp s m s' m' = -1 then m else m'
theorem k_Lower (s m s' m' : Int) : Con Try.prog 20 [dist s m, dist s' m'] [] (dist (lowS s m s' m') (lowM s m s' m')) [] := by
  refine spec_of_exec ttok mixed (T0 := 11) (ts := [.cell 4 30]) 11 rfl rfl rfl rfl (by simp) rfl ?_
  conv => whnf
  repeat' (first | (refine CallN.mk (k_Compare _ _ _ _) ?_; conv => whnf) | (refine Bif.mk (fun _ => ?_) (fun _ => ?_) <;> conv => whnf) | (refine Need.mk (by first | decide | kernel_rfl) ?_; conv => whnf))
  all_goals refine Out.none ?_ (by rfl)
  all_goals simp_all [lowS, lowM, dist, u16, int]
/-! The references -/
theorem and16 (x : Int) : IntKind.wrap .i64 (BitVec.ofInt (IntKind.bits .i64) (IntKind.wrap .i64 (IntKind.wrap .u16 x)) &&& BitVec.ofInt (IntKind.bits .i64) 65535).toNat = IntKind.wrap .u16 x := by
  have h := wrap16 x
  rw [h]
  have h1 : 0 ≤ x % 65536 ∧ x % 65536 < 65536 := by omega
  generalize x % 65536 = y at h1
  rw [wrap64_id (x := y) (by omega)]
  have e1 : (BitVec.ofInt (IntKind.bits .i64) y &&& BitVec.ofInt (IntKind.bits .i64) 65535).toNat = y.toNat := by
    rw [BitVec.toNat_and]
    have a1 : (BitVec.ofInt (IntKind.bits .i64) y).toNat = y.toNat := by
      simp [IntKind.bits, BitVec.toNat_ofInt]; omega
    have a2 : (BitVec.ofInt (IntKind.bits .i64) 65535).toNat = 2 ^ 16 - 1 := by decide
    rw [a1, a2, Nat.and_two_pow_sub_one_eq_mod]
    omega
  rw [e1, wrap64_id (by omega)]
  omega
theorem k_refNewer (a b : Int) : Con Try.prog 18 [u16 a, u16 b] [] (bool (newer a b)) [] := by
  refine spec_of_exec ttok mixed (T0 := 26) (ts := [.tmp 4]) 26 rfl rfl rfl rfl (by simp) rfl ?_
  conv => whnf
  repeat' (first | (refine Bif.mk (fun _ => ?_) (fun _ => ?_) <;> conv => whnf) | (refine Need.mk (by first | decide | kernel_rfl) ?_; conv => whnf))
  all_goals (refine Out.val ?_)
  all_goals (rw [and16] at *)
  all_goals (simp_all [newer, bool])
  all_goals (try omega)
theorem k_refCompare (s m s' m' : Int) : Con Try.prog 19 [dist s m, dist s' m'] [] (int (cmp s m s' m')) [] := by
  refine spec_of_exec ttok mixed (T0 := 27) (ts := [.tmp 4]) 27 rfl rfl rfl rfl (by simp) rfl ?_
  conv => whnf
  repeat' (first | (refine CallN.mk (k_refNewer _ _) ?_; conv => whnf) | (refine Bif.mk (fun _ => ?_) (fun _ => ?_) <;> conv => whnf) | (refine Need.mk (by first | decide | kernel_rfl) ?_; conv => whnf))
  all_goals refine Out.none ?_ rfl
  all_goals simp_all [cmp, int]
  all_goals (try (intro h; subst h; simp [newer_self] at *; done))
  all_goals (try omega)
theorem k_refRaise (a b : Int) : Con Try.prog 23 [u16 a, u16 b] [] (u16 (bif newer b a then b else a)) [] := by
  refine spec_of_exec ttok mixed (T0 := 10) (ts := [.tmp 4]) 10 rfl rfl rfl rfl (by simp) rfl ?_
  conv => whnf
  repeat' (first | (refine CallN.mk (k_refNewer _ _) ?_; conv => whnf) | (refine Bif.mk (fun _ => ?_) (fun _ => ?_) <;> conv => whnf) | (refine Need.mk (by first | decide | kernel_rfl) ?_; conv => whnf))
  all_goals refine Out.none ?_ rfl
  all_goals simp_all [u16]
theorem k_refmetricValid (m : Int) : Con Try.prog 32 [int m] [] (bool (okM m)) [] := by
  refine spec_of_exec ttok mixed (T0 := 9) (ts := [.tmp 2]) 9 rfl rfl rfl rfl (by simp) rfl ?_
  conv => whnf
  repeat' (first | (refine Bif.mk (fun _ => ?_) (fun _ => ?_) <;> conv => whnf) | (refine Need.mk (by first | decide | kernel_rfl) ?_; conv => whnf))
  all_goals refine Out.none ?_ rfl
  all_goals simp_all [okM, bool]
  all_goals (try omega)
theorem k_refValid (s m : Int) : Con Try.prog 27 [dist s m] [] (bool (okM m)) [] := by
  refine spec_of_exec ttok mixed (T0 := 6) (ts := [.tmp 2]) 6 rfl rfl rfl rfl (by simp) rfl ?_
  conv => whnf
  repeat' (first | (refine CallN.mk (k_refmetricValid _) ?_; conv => whnf) | (refine Bif.mk (fun _ => ?_) (fun _ => ?_) <;> conv => whnf) | (refine Need.mk (by first | decide | kernel_rfl) ?_; conv => whnf))
  all_goals exact Out.none rfl rfl
theorem k_refFeasible (s m s' m' : Int) (has : Bool) : Con Try.prog 24 [dist s m, dist s' m', bool has] [] (bool (feas s m s' m' has)) [] := by
  refine spec_of_exec ttok mixed (T0 := 25) (ts := [.tmp 6]) 25 rfl rfl rfl rfl (by simp) rfl ?_
  conv => whnf
  repeat' (first | (refine CallN.mk (k_refValid _ _) ?_; conv => whnf) | (refine CallN.mk (k_refCompare _ _ _ _) ?_; conv => whnf) | (refine Bif.mk (fun _ => ?_) (fun _ => ?_) <;> conv => whnf) | (refine Need.mk (by first | decide | kernel_rfl) ?_; conv => whnf))
  all_goals refine Out.none ?_ rfl
  all_goals simp_all [feas, bool]
theorem k_refmetricAdd (a b : Int) : Con Try.prog 30 [int a, int b] [] (int (addM a b)) [] := by
  refine spec_of_exec ttok mixed (T0 := 17) (ts := [.tmp 4]) 17 rfl rfl rfl rfl (by simp) rfl ?_
  conv => whnf
  repeat' (first | (refine CallN.mk (k_refmetricValid _) ?_; conv => whnf) | (refine Bif.mk (fun _ => ?_) (fun _ => ?_) <;> conv => whnf) | (refine Need.mk (by first | decide | kernel_rfl) ?_; conv => whnf))
  all_goals refine Out.none ?_ rfl
  all_goals simp_all [okM_iff, okM_not, addM, int]
  all_goals (try rw [wrap64_id (by omega)] at *)
  all_goals (try omega)
theorem k_refExtend (s m c : Int) : Con Try.prog 25 [dist s m, int c] [] (dist s (addM m c)) [] := by
  refine spec_of_exec ttok mixed (T0 := 12) (ts := [.cell 4 30]) 12 rfl rfl rfl rfl (by simp) rfl ?_
  conv => whnf
  repeat' (first | (refine CallN.mk (k_refmetricAdd _ _) ?_; conv => whnf) | (refine Bif.mk (fun _ => ?_) (fun _ => ?_) <;> conv => whnf) | (refine Need.mk (by first | decide | kernel_rfl) ?_; conv => whnf))
  all_goals exact Out.none rfl rfl
theorem k_refLower (s m s' m' : Int) : Con Try.prog 21 [dist s m, dist s' m'] [] (dist (lowS s m s' m') (lowM s m s' m')) [] := by
  refine spec_of_exec ttok mixed (T0 := 11) (ts := [.cell 4 30]) 11 rfl rfl rfl rfl (by simp) rfl ?_
  conv => whnf
  repeat' (first | (refine CallN.mk (k_refCompare _ _ _ _) ?_; conv => whnf) | (refine Bif.mk (fun _ => ?_) (fun _ => ?_) <;> conv => whnf) | (refine Need.mk (by first | decide | kernel_rfl) ?_; conv => whnf))
  all_goals refine Out.none ?_ (by rfl)
  all_goals simp_all [lowS, lowM, dist, u16, int]
end Go.Fw
