/- TopReplays: the plain law of what was seen. -/
import Derived.Test.YtlkhjalnnciocaaGreatNozB
namespace Go.Fw
set_option maxRecDepth 4000
open Go.Proofs
theorem seen_iff {p : Pr} {c : Nat} : seenP p c = true ↔ c ≤ p.last ∧ (32 ≤ p.last - c ∨ p.win.testBit (p.last - c) = true) := by
  rw [seenP, decide_eq_true_iff, Nat.testBit_eq_decide_div_mod_eq, decide_eq_true_iff, Nat.shiftRight_eq_div_pow]
theorem seen_self (p : Pr) (c : Nat) : seenP (accM p c) c = true := by
  rw [seen_iff]
  unfold accM
  split
  · refine ⟨Nat.le_refl _, .inr ?_⟩
    rw [Nat.sub_self]
    simp [Nat.testBit_or]
  · refine ⟨by show c ≤ p.last; omega, .inr ?_⟩
    show (p.win ||| (1 <<< (p.last - c))).testBit (p.last - c) = true
    rw [Nat.testBit_or, Nat.one_shiftLeft, Nat.testBit_two_pow_self, Bool.or_true]
theorem seen_acc {p : Pr} {c d : Nat} (h : seenP p d = true) : seenP (accM p c) d = true := by
  rw [seen_iff] at h ⊢
  obtain ⟨h1, h2⟩ := h
  unfold accM
  split
  · rename_i hc
    refine ⟨by show d ≤ c; omega, ?_⟩
    show 32 ≤ c - d ∨ ((p.win * 2 ^ min (c - p.last) 32) % 4294967296 ||| 1).testBit (c - d) = true
    rcases Nat.lt_or_ge (c - d) 32 with g | g
    · refine .inr ?_
      have h3 : p.win.testBit (p.last - d) = true := by
        rcases h2 with h2 | h2
        · omega
        · exact h2
      rw [Nat.testBit_or, show (4294967296 : Nat) = 2 ^ 32 from rfl, Nat.testBit_mod_two_pow, Nat.min_eq_left (by omega), ← Nat.shiftLeft_eq, Nat.testBit_shiftLeft, show c - d - (c - p.last) = p.last - d by omega, h3]
      simp; omega
    · exact .inl g
  · refine ⟨h1, ?_⟩
    show 32 ≤ p.last - d ∨ (p.win ||| (1 <<< (p.last - c))).testBit (p.last - d) = true
    rcases h2 with h2 | h2
    · exact .inl h2
    · exact .inr (by rw [Nat.testBit_or, h2, Bool.true_or])
theorem seen_full {l c : Nat} (h : c ≤ l) (h2 : l ≤ 30) : seenP ⟨l, 4294967295⟩ c = true := by
  rw [seen_iff]
  refine ⟨h, .inr ?_⟩
  show (2 ^ 32 - 1).testBit (l - c) = true
  rw [Nat.testBit_two_pow_sub_one]
  simp; omega
theorem or_odd {a b : Nat} (h : a % 2 = 1 ∨ b % 2 = 1) : (a ||| b) % 2 = 1 := by
  have e : (a ||| b).testBit 0 = true := by
    rw [Nat.testBit_or, Nat.testBit_zero, Nat.testBit_zero]
    rcases h with h | h <;> simp [h]
  rw [Nat.testBit_zero] at e
  simpa using e
theorem acc_ok {p : Pr} {c : Nat} (h : p.win % 2 = 1 ∧ p.win ≤ 4294967295 ∧ p.last ≤ 4294967295) (hc : c ≤ 4294967295) (hs : ¬ seenP p c = true) : (accM p c).win % 2 = 1 ∧ (accM p c).win ≤ 4294967295 ∧ (accM p c).last ≤ 4294967295 := by
  obtain ⟨h1, h2, h3⟩ := h
  unfold accM
  split
  · refine ⟨or_odd (.inr rfl), ?_, hc⟩
    have := Nat.or_lt_two_pow (n := 32) (Nat.mod_lt (p.win * 2 ^ min (c - p.last) 32) (by decide : 4294967296 > 0)) (by decide : 1 < 2 ^ 32)
    exact Nat.le_of_lt_succ this
  · rename_i hcl
    have hd : p.last - c < 32 := by
      rw [seen_iff] at hs
      rcases Nat.lt_or_ge (p.last - c) 32 with g | g
      · exact g
      · exact absurd ⟨by omega, .inl g⟩ hs
    refine ⟨or_odd (.inl h1), ?_, h3⟩
    have := Nat.or_lt_two_pow (n := 32) (x := p.win) (y := 1 <<< (p.last - c)) (by omega) (by rw [Nat.one_shiftLeft]; exact Nat.pow_lt_pow_right (by decide) hd)
    exact Nat.le_of_lt_succ this
/-- The payloads: one byte each. -/
def payL (n : Nat) : List (List UInt8) := (List.range n).map fun i => [UInt8.ofNat i]
theorem payL_len (n : Nat) : (payL n).length = n := by simp [payL]
theorem payL_succ (n : Nat) : payL (n + 1) = payL n ++ [[UInt8.ofNat n]] := by simp [payL, List.range_succ]
theorem payL_le {n : Nat} {b : List UInt8} (h : b ∈ payL n) : b.length ≤ 95 := by
  simp only [payL, List.mem_map] at h
  obtain ⟨i, _, rfl⟩ := h
  simp
structure RpI (n a : Nat) where
  i : Nat
  X : Grd
  Y : Grd
  p : Pr
  C : List Int
  hi : i ≤ 120
  vX : VG X
  vY : VG Y
  hp : Y.ps = [p]
  hC : C.length = n
  hX : i ≤ a → X.ctr = n + 1 ∧ X.res = 1048576
  hs : ∀ k : Nat, k < n → gt C k = 0 ∨ (gt C k = 1 ∧ seenP p (k + 1) = true)
end Go.Fw
