/- The plain law of sequence.Newer: of two different numbers exactly one is newer; and how it orders near numbers. -/
import Derived.Test.YtmblmljcjmmlgaaOrd
namespace Go.Fw
set_option maxRecDepth 4000
/-- sequence.Newer -/
def newer (a b : Int) : Bool :=
  (decide (IntKind.wrap .u16 (a - b) ≥ 1) && decide (IntKind.wrap .u16 (a - b) < 32768)) || ((IntKind.wrap .u16 (a - b) == 32768) && decide (a > b))
theorem wrap16 (x : Int) : IntKind.wrap .u16 x = x % 65536 := by
  simp [IntKind.wrap, IntKind.bits, IntKind.signed]
theorem newer_iff (a b : Int) : newer a b = true ↔ (1 ≤ (a - b) % 65536 ∧ (a - b) % 65536 < 32768) ∨ ((a - b) % 65536 = 32768 ∧ a > b) := by
  simp [newer, wrap16]
theorem newer_self (a : Int) : newer a a = false := by
  cases h : newer a a with
  | false => rfl
  | true => rw [newer_iff] at h; omega
theorem newer_two {a b : Int} (h0 : 0 ≤ a ∧ a < 65536) (h1 : 0 ≤ b ∧ b < 65536) (h : newer a b = newer b a) : a = b := by
  cases h2 : newer a b with
  | true =>
    rw [h2] at h
    have h3 := (newer_iff a b).1 h2
    have h4 := (newer_iff b a).1 h.symm
    omega
  | false =>
    rw [h2] at h
    have h3 := mt (newer_iff a b).2 (by simp [h2])
    have h4 := mt (newer_iff b a).2 (by simp [← h])
    omega
theorem newer_near {a x : Int} (h0 : 0 ≤ a ∧ a < 65536) (h : 0 ≤ x ∧ x < 32768) : newer ((a + x) % 65536) a = decide (x > 0) := by
  rw [Bool.eq_iff_iff, newer_iff, decide_eq_true_iff]
  omega
end Go.Fw
