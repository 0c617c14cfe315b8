/- The CRC as a law of numbers: a burst of at most 16 bits is seen. -/
import Derived.Test.YtlkhjalnnciocaaGreatTopA
namespace Go.Fw
set_option maxRecDepth 4000
set_option maxHeartbeats 4000000
/-- One step of the CRC. -/
def zs (t : Nat) : Nat := (t >>> 1) ^^^ (if t % 2 = 1 then 33800 else 0)
def zi : Nat → Nat → Nat
  | 0, t => t
  | k + 1, t => zi k (zs t)
theorem xmod (a b : Nat) : (a ^^^ b) % 2 = (a % 2) ^^^ (b % 2) := by
  have := @Nat.xor_mod_two_pow a b 1
  simpa using this
theorem xz {a b : Nat} (h : a ^^^ b = 0) : a = b := by
  have := congrArg (· ^^^ b) h
  simpa [Nat.xor_assoc] using this
theorem zs_xor (a b : Nat) : zs (a ^^^ b) = zs a ^^^ zs b := by
  unfold zs
  rw [Nat.shiftRight_xor_distrib, xmod]
  rcases Nat.mod_two_eq_zero_or_one a with ha | ha <;> rcases Nat.mod_two_eq_zero_or_one b with hb | hb <;> rw [ha, hb]
  · simp
  · simp [Nat.xor_assoc]
  · simp only [Nat.xor_zero, if_true, show ¬ (0 = 1) by decide, if_false, Nat.xor_assoc]
    rw [Nat.xor_comm (b >>> 1)]
  · simp only [Nat.xor_self, if_true, show ¬ (0 = 1) by decide, if_false, Nat.xor_zero, Nat.xor_assoc]
    rw [← Nat.xor_assoc 33800, Nat.xor_comm 33800 (b >>> 1), Nat.xor_assoc, Nat.xor_self, Nat.xor_zero]
theorem zi_xor : ∀ (k a b : Nat), zi k (a ^^^ b) = zi k a ^^^ zi k b
  | 0, _, _ => rfl
  | k + 1, a, b => by rw [zi, zs_xor, zi_xor]; rfl
theorem zi_add : ∀ (j k t : Nat), zi (j + k) t = zi k (zi j t)
  | 0, k, t => by rw [Nat.zero_add]; rfl
  | j + 1, k, t => by rw [show j + 1 + k = (j + k) + 1 by omega, zi, zi_add]; rfl
theorem zs_dbl (t : Nat) : zs (2 * t) = t := by
  unfold zs
  rw [if_neg (by omega), Nat.xor_zero, Nat.shiftRight_eq_div_pow]; omega
theorem zi_shl : ∀ (k t : Nat), zi k (2 ^ k * t) = t
  | 0, t => by simp [zi]
  | k + 1, t => by rw [zi, show 2 ^ (k + 1) * t = 2 * (2 ^ k * t) by rw [Nat.pow_succ]; ac_rfl, zs_dbl, zi_shl]
theorem zs_lt {t : Nat} (h : t < 65536) : zs t < 65536 := by
  unfold zs
  have h1 : t >>> 1 < 2 ^ 16 := by rw [Nat.shiftRight_eq_div_pow]; omega
  exact Nat.xor_lt_two_pow (n := 16) h1 (by split <;> decide)
theorem zi_lt : ∀ (k : Nat) {t : Nat}, t < 65536 → zi k t < 65536
  | 0, _, h => h
  | k + 1, _, h => zi_lt k (zs_lt h)
theorem zs_ne {t : Nat} (h : t < 65536) (h0 : t ≠ 0) : zs t ≠ 0 := by
  unfold zs
  split
  · intro e
    have h1 : t >>> 1 = 33800 := by
      have := congrArg (· ^^^ 33800) e
      simpa [Nat.xor_assoc] using this
    rw [Nat.shiftRight_eq_div_pow] at h1
    omega
  · rw [Nat.xor_zero, Nat.shiftRight_eq_div_pow]; omega
theorem zi_ne : ∀ (k : Nat) {t : Nat}, t < 65536 → t ≠ 0 → zi k t ≠ 0
  | 0, _, _, h0 => h0
  | k + 1, _, h, h0 => zi_ne k (zs_lt h) (zs_ne h h0)
theorem zi_inj {k a b : Nat} (ha : a < 65536) (hb : b < 65536) (h : zi k a = zi k b) : a = b := by
  rcases Nat.decEq a b with hn | he
  · exfalso
    have h1 : a ^^^ b ≠ 0 := fun e => hn (xz e)
    have h2 : a ^^^ b < 65536 := Nat.xor_lt_two_pow (n := 16) ha hb
    refine zi_ne k h2 h1 ?_
    rw [zi_xor, h, Nat.xor_self]
  · exact he
/-- The bytes as a number, the first one lowest. -/
def leN : List UInt8 → Nat
  | [] => 0
  | c :: r => c.toNat + 256 * leN r
theorem leN_lt : ∀ l : List UInt8, leN l < 2 ^ (8 * l.length)
  | [] => by simp [leN]
  | c :: r => by
    have h1 := leN_lt r
    have h2 := c.toNat_lt
    rw [leN, List.length_cons, show 8 * (r.length + 1) = 8 * r.length + 8 by omega, Nat.pow_add]
    omega
theorem add_xor {x k n : Nat} (h : x < 2 ^ k) : x + 2 ^ k * n = x ^^^ (2 ^ k * n) := by
  apply Nat.eq_of_testBit_eq
  intro i
  rw [Nat.add_comm, Nat.testBit_two_pow_mul_add _ h, Nat.testBit_xor, Nat.testBit_two_pow_mul]
  split
  · rename_i hi
    rw [show decide (i ≥ k) = false by simpa using hi]; simp
  · rename_i hi
    rw [show decide (i ≥ k) = true by simpa using hi]
    have : x.testBit i = false := Nat.testBit_lt_two_pow (Nat.lt_of_lt_of_le h (Nat.pow_le_pow_right (by decide) (by omega)))
    rw [this]; simp
/-- The CRC, byte after byte. -/
def crcF (s : Nat) (l : List UInt8) : Nat := l.foldl (fun s c => zi 8 (s ^^^ c.toNat)) s
theorem crcF_lt : ∀ (l : List UInt8) {s : Nat}, s < 65536 → crcF s l < 65536
  | [], _, h => h
  | c :: r, s, h => crcF_lt r (zi_lt 8 (Nat.xor_lt_two_pow (n := 16) h (by have := c.toNat_lt; omega)))
theorem crcF_leN : ∀ (l : List UInt8) (s : Nat), crcF s l = zi (8 * l.length) (s ^^^ leN l)
  | [], s => by simp [crcF, leN, zi]
  | c :: r, s => by
    have h : leN (c :: r) = c.toNat ^^^ (2 ^ 8 * leN r) := by rw [leN, ← add_xor c.toNat_lt]
    rw [h, List.length_cons, show 8 * (r.length + 1) = 8 + 8 * r.length by omega, zi_add, ← Nat.xor_assoc, zi_xor, zi_shl]
    show crcF (zi 8 (s ^^^ c.toNat)) r = _
    rw [crcF_leN r]
/-- checksum.Check: the last two bytes are the CRC of those before. -/
def crcOK (b : List UInt8) : Bool := decide (2 ≤ b.length ∧ (gt b (b.length - 2)).toNat = crcF 0 (b.take (b.length - 2)) % 256 ∧ (gt b (b.length - 1)).toNat = crcF 0 (b.take (b.length - 2)) / 256)
def crcA (b : List UInt8) : List UInt8 := b ++ [UInt8.ofNat (crcF 0 b), UInt8.ofNat (crcF 0 b / 256)]
theorem crcA_len (b : List UInt8) : (crcA b).length = b.length + 2 := by simp [crcA]
theorem crcOK_A (b : List UInt8) : crcOK (crcA b) = true := by
  have hl := crcF_lt b (s := 0) (by decide)
  rw [crcOK, decide_eq_true_eq, crcA_len, show b.length + 2 - 2 = b.length by omega, show b.length + 2 - 1 = b.length + 1 by omega]
  have e1 : (crcA b).take b.length = b := by unfold crcA; simp
  have e2 : gt (crcA b) b.length = UInt8.ofNat (crcF 0 b) := by unfold crcA; rw [gt_app, if_neg (by omega), Nat.sub_self]; rfl
  have e3 : gt (crcA b) (b.length + 1) = UInt8.ofNat (crcF 0 b / 256) := by unfold crcA; rw [gt_app, if_neg (by omega), show b.length + 1 - b.length = 1 by omega]; rfl
  rw [e1, e2, e3, UInt8.toNat_ofNat', UInt8.toNat_ofNat']
  omega
/-- Right if and only if the whole has the remainder 0. -/
theorem crcOK_iff {b : List UInt8} (h : 2 ≤ b.length) : crcOK b = true ↔ zi (8 * b.length) (leN b) = 0 := by
  obtain ⟨p, x, y, rfl⟩ : ∃ p x y, b = p ++ [x, y] := by
    refine ⟨b.take (b.length - 2), gt b (b.length - 2), gt b (b.length - 1), ?_⟩
    apply ext_gt
    · simp; omega
    · intro i hi
      rw [gt_app, List.length_take, Nat.min_eq_left (by omega)]
      split
      · rw [gt_take (by omega)]
      · rcases (show i = b.length - 2 ∨ i = b.length - 1 by omega) with e | e
        · subst e; rw [Nat.sub_self]; rfl
        · subst e; rw [show b.length - 1 - (b.length - 2) = 1 by omega]; rfl
  have hl := crcF_lt p (s := 0) (by decide)
  have hx := x.toNat_lt
  have hy := y.toNat_lt
  have e0 : zi (8 * (p ++ [x, y]).length) (leN (p ++ [x, y])) = crcF 0 (p ++ [x, y]) := by rw [crcF_leN, Nat.zero_xor]
  have e1 : crcF 0 (p ++ [x, y]) = zi 8 (zi 8 (crcF 0 p ^^^ x.toNat) ^^^ y.toNat) := by unfold crcF; rw [List.foldl_append]; rfl
  have e2 : crcOK (p ++ [x, y]) = true ↔ x.toNat = crcF 0 p % 256 ∧ y.toNat = crcF 0 p / 256 := by
    rw [crcOK, decide_eq_true_eq, List.length_append, show [x, y].length = 2 from rfl, show p.length + 2 - 2 = p.length by omega, show p.length + 2 - 1 = p.length + 1 by omega]
    have f1 : (p ++ [x, y]).take p.length = p := by simp
    have f2 : gt (p ++ [x, y]) p.length = x := by rw [gt_app, if_neg (by omega), Nat.sub_self]; rfl
    have f3 : gt (p ++ [x, y]) (p.length + 1) = y := by rw [gt_app, if_neg (by omega), show p.length + 1 - p.length = 1 by omega]; rfl
    rw [f1, f2, f3]
    exact ⟨fun h => h.2, fun h => ⟨by omega, h⟩⟩
  rw [e0, e1, e2]
  generalize crcF 0 p = c at *
  constructor
  · rintro ⟨h1, h2⟩
    have e : c ^^^ x.toNat = 2 ^ 8 * (c / 256) := by
      have h3 : c = x.toNat ^^^ (2 ^ 8 * (c / 256)) := by rw [← add_xor hx]; omega
      conv => lhs; lhs; rw [h3]
      rw [Nat.xor_comm x.toNat, Nat.xor_assoc, Nat.xor_self, Nat.xor_zero]
    rw [e, zi_shl, h2, Nat.xor_self]; rfl
  · intro h0
    have hc1 : c ^^^ x.toNat < 65536 := Nat.xor_lt_two_pow (n := 16) hl (by omega)
    have g1 : zi 8 (c ^^^ x.toNat) ^^^ y.toNat = 0 := by
      rcases Nat.decEq (zi 8 (c ^^^ x.toNat) ^^^ y.toNat) 0 with hn | he
      · exact absurd h0 (zi_ne 8 (Nat.xor_lt_two_pow (n := 16) (zi_lt 8 hc1) (by omega)) hn)
      · exact he
    have g2 : zi 8 (c ^^^ x.toNat) = zi 8 (2 ^ 8 * y.toNat) := by rw [xz g1, zi_shl]
    have g3 := zi_inj hc1 (by omega) g2
    have g4 : c = x.toNat + 2 ^ 8 * y.toNat := by
      rw [add_xor hx, ← g3, Nat.xor_comm c, ← Nat.xor_assoc, Nat.xor_self, Nat.zero_xor]
    omega
/-- A burst of at most 16 bits. -/
theorem burst {b c : List UInt8} {p at_ : Nat} (h2 : 2 ≤ b.length) (hl : c.length = b.length) (ho : crcOK b = true) (hp : p < 65536) (hn : p ≠ 0) (ha : at_ ≤ 8 * b.length) (hc : leN c = leN b ^^^ (2 ^ at_ * p)) : crcOK c = false := by
  rw [← Bool.not_eq_true, crcOK_iff (by omega), hl, hc, zi_xor, (crcOK_iff h2).1 ho, Nat.zero_xor]
  obtain ⟨m, hm⟩ : ∃ m, 8 * b.length = at_ + m := ⟨8 * b.length - at_, by omega⟩
  rw [hm, zi_add, zi_shl]
  exact zi_ne m hp hn
end Go.Fw
