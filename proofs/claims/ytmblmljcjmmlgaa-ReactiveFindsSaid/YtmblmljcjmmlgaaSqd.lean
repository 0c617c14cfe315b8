/- Sequence numbers and distances, both sides. -/
import Derived.Test.YtmblmljcjmmlgaaPfx
namespace Go.Fw
set_option maxRecDepth 4000
open Go.Proofs
set_option maxHeartbeats 4000000
def u16 (x : Int) : SV := .v (.int .u16 x)
theorem k_Newer (a b : Int) : Con Try.prog 70 [u16 a, u16 b] [] (bool (newer a b)) [] := by
  obtain ⟨d, hd⟩ : ∃ d, IntKind.wrap .u16 (a - b) = d := ⟨_, rfl⟩
  refine spec_of_run ttok mixed (T0 := 51) (ts := [.tmp 4]) 24 rfl rfl rfl rfl (by simp) rfl ?_
  conv => whnf
  repeat' (first | ((apply Wr.eq hd); (conv => whnf)) | ((first | (with_reducible first | apply Bif.T | apply Bif.F) | ((with_reducible first | apply Bif.dec | apply Bif.beq) <;> intro h <;> (try simp only [lns] at h) <;> (try (exfalso; omega))) | (with_reducible apply Frz.l)) <;> conv => whnf) | fail)
  all_goals (apply Same.bool (by rw [Bool.eq_iff_iff]; simp only [newer, hd, beq_iff_eq, decide_eq_true_eq, Bool.false_eq_true, false_iff, true_iff, Bool.and_eq_true, Bool.or_eq_true, Bool.not_eq_true', decide_eq_false_iff_not, ne_eq]; omega); (conv => whnf); repeat' (first | with_reducible apply True.intro | ((with_reducible apply Frz.l) <;> conv => whnf) | fail))
theorem and16 {y : Int} (h : 0 ≤ y ∧ y < 65536) : IntKind.wrap .i64 (BitVec.ofInt (IntKind.bits .i64) (IntKind.wrap .i64 y) &&& BitVec.ofInt (IntKind.bits .i64) 65535).toNat = y := by
  rw [wrap64_id (x := y) (by omega)]
  have e1 : (BitVec.ofInt (IntKind.bits .i64) y &&& BitVec.ofInt (IntKind.bits .i64) 65535).toNat = y.toNat := by
    rw [BitVec.toNat_and]
    have a1 : (BitVec.ofInt (IntKind.bits .i64) y).toNat = y.toNat := by
      simp [IntKind.bits, BitVec.toNat_ofInt]; omega
    have a2 : (BitVec.ofInt (IntKind.bits .i64) 65535).toNat = 2 ^ 16 - 1 := by decide
    rw [a1, a2, Nat.and_two_pow_sub_one_eq_mod]
    omega
  rw [e1, wrap64_id (by omega)]
  omega
theorem and16' {y : Int} (h : 0 ≤ y ∧ y < 65536) : IntKind.wrap .i64 (BitVec.ofInt (IntKind.bits .i64) y &&& BitVec.ofInt (IntKind.bits .i64) 65535).toNat = y := by
  have := and16 h
  rwa [wrap64_id (x := y) (by omega)] at this
theorem k_refNewer (a b : Int) : Con Try.prog 46 [u16 a, u16 b] [] (bool (newer a b)) [] := by
  obtain ⟨d, hd⟩ : ∃ d, IntKind.wrap .u16 (a - b) = d := ⟨_, rfl⟩
  have hr : 0 ≤ d ∧ d < 65536 := by rw [← hd, wrap16]; omega
  refine spec_of_run ttok mixed (T0 := 51) (ts := [.tmp 4]) 26 rfl rfl rfl rfl (by simp) rfl ?_
  conv => whnf
  repeat' (first | ((apply Wr.eq hd); (conv => whnf)) | ((first | ((with_reducible apply Wr.i64); focus omega) | (with_reducible first | apply Bif.T | apply Bif.F) | ((with_reducible first | apply Bif.dec | apply Bif.beq) <;> intro h <;> (try simp only [lns] at h) <;> (try (exfalso; omega))) | (with_reducible apply Frz.l)) <;> conv => whnf) | fail)
  all_goals (simp only [and16' hr] at *)
  all_goals (apply Same.bool (by rw [Bool.eq_iff_iff]; simp only [newer, hd, beq_iff_eq, decide_eq_true_eq, Bool.false_eq_true, false_iff, true_iff, Bool.and_eq_true, Bool.or_eq_true, Bool.not_eq_true', decide_eq_false_iff_not, ne_eq]; omega); (conv => whnf); repeat' (first | with_reducible apply True.intro | ((with_reducible apply Frz.l) <;> conv => whnf) | fail))
/-- sequence.Compare -/
def cmpD (a b : Dis) : Int := if a = b then 0 else if newer a.seq b.seq = true ∨ (a.seq = b.seq ∧ a.metric < b.metric) then -1 else 1
theorem cmpD_range (a b : Dis) : cmpD a b = -1 ∨ cmpD a b = 0 ∨ cmpD a b = 1 := by
  unfold cmpD
  split
  · exact .inr (.inl rfl)
  · split
    · exact .inl rfl
    · exact .inr (.inr rfl)
theorem newer_self' {a b : Int} (h : a = b) : newer a b = false := by rw [h, newer_self]
theorem k_Compare (a b : Dis) : Con Try.prog 88 [disV a, disV b] [] (int (cmpD a b)) [] := by
  refine spec_of_run ttok mixed (T0 := 575) (ts := [.tmp 4]) 27 rfl rfl rfl rfl (by simp) rfl ?_
  conv => whnf
  repeat' (first | ((apply Bif.of (dis_eq _ _)); (conv => whnf)) | ((first | (apply CallN.mk (k_Newer _ _)) | (with_reducible first | apply Bif.T | apply Bif.F) | ((with_reducible first | apply Bif.dec | apply Bif.beq) <;> intro h <;> (try simp only [lns] at h)) | ((with_reducible apply Bif.mk) <;> intro h) | (with_reducible apply Frz.l)) <;> conv => whnf) | fail)
  all_goals (apply Same.int (by simp_all [cmpD]; try omega); (conv => whnf); repeat' (first | with_reducible apply True.intro | ((with_reducible apply Frz.l) <;> conv => whnf) | fail))
theorem k_refCompare (a b : Dis) : Con Try.prog 17 [disV a, disV b] [] (int (cmpD a b)) [] := by
  refine spec_of_run ttok mixed (T0 := 75497503) (ts := [.tmp 4]) 27 rfl rfl rfl rfl (by simp) rfl ?_
  conv => whnf
  repeat' (first | ((apply Bif.of (dis_eq _ _)); (conv => whnf)) | ((first | (apply CallN.mk (k_refNewer _ _)) | (with_reducible first | apply Bif.T | apply Bif.F) | ((with_reducible first | apply Bif.dec | apply Bif.beq) <;> intro h <;> (try simp only [lns] at h)) | ((with_reducible apply Bif.mk) <;> intro h) | (with_reducible apply Frz.l)) <;> conv => whnf) | fail)
  all_goals (apply Same.int (by
    unfold cmpD
    by_cases e : a = b
    · subst e; simp_all [newer_self]
    · simp_all
      try omega); (conv => whnf); repeat' (first | with_reducible apply True.intro | ((with_reducible apply Frz.l) <;> conv => whnf) | fail))
/-- sequence.Valid -/
def okM (m : Int) : Bool := decide (0 ≤ m ∧ m ≤ 65535)
theorem k_metricValid (m : Int) : Con Try.prog 69 [int m] [] (bool (okM m)) [] := by
  refine spec_of_run ttok mixed (T0 := 5) (ts := [.tmp 2]) 9 rfl rfl rfl rfl (by simp) rfl ?_
  conv => whnf
  repeat' (first | ((first | (with_reducible first | apply Bif.T | apply Bif.F) | ((with_reducible apply Bif.dec) <;> intro h <;> (try simp only [lns] at h)) | (with_reducible apply Frz.l)) <;> conv => whnf) | fail)
  all_goals (apply Same.bool (by rw [Bool.eq_iff_iff]; simp only [okM, decide_eq_true_eq, Bool.false_eq_true, false_iff, true_iff, Bool.and_eq_true, Bool.or_eq_true, Bool.not_eq_true', decide_eq_false_iff_not, ne_eq]; omega); (conv => whnf); repeat' (first | with_reducible apply True.intro | ((with_reducible apply Frz.l) <;> conv => whnf) | fail))
theorem k_refmetricValid (m : Int) : Con Try.prog 83 [int m] [] (bool (okM m)) [] := by
  refine spec_of_run ttok mixed (T0 := 5) (ts := [.tmp 2]) 9 rfl rfl rfl rfl (by simp) rfl ?_
  conv => whnf
  repeat' (first | ((first | (with_reducible first | apply Bif.T | apply Bif.F) | ((with_reducible apply Bif.dec) <;> intro h <;> (try simp only [lns] at h)) | (with_reducible apply Frz.l)) <;> conv => whnf) | fail)
  all_goals (apply Same.bool (by rw [Bool.eq_iff_iff]; simp only [okM, decide_eq_true_eq, Bool.false_eq_true, false_iff, true_iff, Bool.and_eq_true, Bool.or_eq_true, Bool.not_eq_true', decide_eq_false_iff_not, ne_eq]; omega); (conv => whnf); repeat' (first | with_reducible apply True.intro | ((with_reducible apply Frz.l) <;> conv => whnf) | fail))
theorem k_seqValid (d : Dis) : Con Try.prog 87 [disV d] [] (bool (okM d.metric)) [] := by
  refine spec_of_run ttok mixed (T0 := 7) (ts := [.tmp 2]) 6 rfl rfl rfl rfl (by simp) rfl ?_
  conv => whnf
  repeat' (first | with_reducible apply True.intro | ((first | (apply CallN.mk (k_metricValid _)) | (with_reducible apply Same.rfl) | (with_reducible apply Frz.l)) <;> conv => whnf) | fail)
theorem k_refseqValid (d : Dis) : Con Try.prog 95 [disV d] [] (bool (okM d.metric)) [] := by
  refine spec_of_run ttok mixed (T0 := 7) (ts := [.tmp 2]) 6 rfl rfl rfl rfl (by simp) rfl ?_
  conv => whnf
  repeat' (first | with_reducible apply True.intro | ((first | (apply CallN.mk (k_refmetricValid _)) | (with_reducible apply Same.rfl) | (with_reducible apply Frz.l)) <;> conv => whnf) | fail)
/-- sequence.Feasible -/
def feasD (d b : Dis) (known : Bool) : Bool := okM d.metric && !(d.metric == 65535) && (!known || (okM b.metric && cmpD d b == -1))
/-- sequence.Lower -/
def lowD (a b : Dis) : Dis := if cmpD a b = -1 then a else b
end Go.Fw
