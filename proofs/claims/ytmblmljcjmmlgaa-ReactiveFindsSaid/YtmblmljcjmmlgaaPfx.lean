/- Prefixes: address.Mask, ValidPrefix on both sides. -/
import Derived.Test.YtmblmljcjmmlgaaDst
namespace Go.Fw
set_option maxRecDepth 4000
open Go.Proofs
set_option maxHeartbeats 4000000
/-- The first k bytes, masked. -/
def mIP (l : List Int) (b : Int) (k : Nat) : List Int := (List.range 16).map fun i => if i < k then cutB (gt l i) (keepN b i) else 0
theorem mIP_len (l : List Int) (b : Int) (k : Nat) : (mIP l b k).length = 16 := by simp [mIP]
theorem mIP_zero (l : List Int) (b : Int) : mIP l b 0 = List.replicate 16 0 := by
  rfl
theorem mIP_all (l : List Int) (b : Int) : mIP l b 16 = maskL l b := by
  apply List.map_congr_left
  intro i hi
  rw [if_pos (List.mem_range.1 hi)]
theorem mIP_succ {l : List Int} {b : Int} {k : Nat} (hk : k < 16) : (mIP l b k).set k (cutB (gt l k) (keepN b k)) = mIP l b (k + 1) := by
  apply List.ext_getElem?
  intro i
  rw [List.getElem?_set]
  simp only [mIP, List.length_map, List.length_range, List.getElem?_map]
  by_cases hi : k = i
  · subst hi
    simp [hk]
  · rw [if_neg hi]
    by_cases h16 : i < 16
    · rw [List.getElem?_range h16]
      simp only [Option.map_some]
      congr 1
      by_cases h1 : i < k
      · rw [if_pos h1, if_pos (by omega)]
      · rw [if_neg h1, if_neg (by omega)]
    · rw [List.getElem?_eq_none (by simpa using h16)]; rfl
theorem mIP_step {a : IP} {c : Int} {k : Nat} (hk : k < 16) : (mIP a.1 c k).set k (IntKind.wrap .u8 ((BitVec.ofInt (IntKind.bits .u8) (a.1.getD k 0) &&& ~~~BitVec.ofInt (IntKind.bits .u8) (Int.fdiv 255 (2 ^ min (min (max (c - 8 * (k : Int)) 0) 8).toNat (IntKind.bits .u8)))).toNat)) = mIP a.1 c (k + 1) := by
  rw [← mIP_succ hk, ← cutB_is (byte_gt hk) (keepN_range c k)]
  rfl
theorem maskP_eq {p : Pfx} (h : 0 ≤ p.bits ∧ p.bits ≤ 128) : decide (maskP p.ip p.bits = p) = vPfx p := by
  rw [Bool.eq_iff_iff, decide_eq_true_eq, vPfx, decide_eq_true_eq]
  have e : min (max p.bits 0) 128 = p.bits := by omega
  constructor
  · intro g
    refine ⟨h.1, h.2, ?_⟩
    have := congrArg Pfx.ip g
    rwa [show (maskP p.ip p.bits).ip = maskI p.ip (min (max p.bits 0) 128) from rfl, e] at this
  · rintro ⟨_, _, g⟩
    exact pfx_ext (by rw [show (maskP p.ip p.bits).ip = maskI p.ip (min (max p.bits 0) 128) from rfl, e, g]) e
theorem vPfx_out {p : Pfx} (h : ¬ (0 ≤ p.bits ∧ p.bits ≤ 128)) : vPfx p = false := by
  rw [vPfx, decide_eq_false_iff_not]; exact fun g => h ⟨g.1, g.2.1⟩
theorem and1_all : ∀ (x : Fin 256) (r : Fin 8), IntKind.wrap .u8 ((BitVec.ofInt 8 (Int.fdiv (x.1 : Int) (2 ^ (min (7 - r.1) 8))) &&& BitVec.ofInt 8 1).toNat) = (x.1 : Int).fdiv (2 ^ (7 - r.1)) % 2 := by decide +kernel
theorem and1 {x : Int} {r : Nat} (hx : 0 ≤ x ∧ x ≤ 255) (hr : r < 8) : IntKind.wrap .u8 ((BitVec.ofInt 8 (Int.fdiv x (2 ^ (min (7 - r) 8))) &&& BitVec.ofInt 8 1).toNat) = x.fdiv (2 ^ (7 - r)) % 2 := by
  obtain ⟨y, rfl⟩ := fin_ex (n := 256) (x := x) (by omega)
  exact and1_all y ⟨r, hr⟩
end Go.Fw
