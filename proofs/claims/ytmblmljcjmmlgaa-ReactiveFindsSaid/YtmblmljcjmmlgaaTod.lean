/- Destinations: valid, compared, both sides; the reference's Mask. -/
import Derived.Test.YtmblmljcjmmlgaaCmp
namespace Go.Fw
set_option maxRecDepth 4000
open Go.Proofs
set_option maxHeartbeats 4000000
def vDst (t : Dst) : Bool := vPfx t.dst && (vPfx t.src && (t.router != 0))
def cmpP (a b : Pfx) : Int := if cmpIP a.ip b.ip ≠ 0 then cmpIP a.ip b.ip else cmpI a.bits b.bits
def cmpT (a b : Dst) : Int := if cmpP a.dst b.dst ≠ 0 then cmpP a.dst b.dst else if cmpP a.src b.src ≠ 0 then cmpP a.src b.src else cmpI a.router b.router
theorem orL_cmpT (a b : Dst) : orL [cmpIP a.dst.ip b.dst.ip, cmpI a.dst.bits b.dst.bits, cmpIP a.src.ip b.src.ip, cmpI a.src.bits b.src.bits, cmpI a.router b.router] = cmpT a b := by
  simp only [orL, cmpT, cmpP]
  by_cases h1 : cmpIP a.dst.ip b.dst.ip = 0 <;> by_cases h2 : cmpI a.dst.bits b.dst.bits = 0 <;> by_cases h3 : cmpIP a.src.ip b.src.ip = 0 <;> by_cases h4 : cmpI a.src.bits b.src.bits = 0 <;> simp_all
theorem cmpI_anti (a b : Int) : cmpI a b = - cmpI b a := by unfold cmpI; (repeat' split) <;> omega
theorem cmpI_zero {a b : Int} : cmpI a b = 0 ↔ a = b := by unfold cmpI; (repeat' split) <;> omega
theorem cmpI_lt {a b : Int} : cmpI a b < 0 ↔ a < b := by unfold cmpI; (repeat' split) <;> omega
theorem cmpIP_zero' {a b : IP} : cmpIP a b = 0 ↔ a = b := ⟨cmpIP_zero, fun h => by rw [h, cmpIP_refl]⟩
theorem cmpP_zero {a b : Pfx} : cmpP a b = 0 ↔ a = b := by
  unfold cmpP
  constructor
  · intro h
    split at h
    · contradiction
    · rename_i h1
      exact pfx_ext (cmpIP_zero (by omega)) (cmpI_zero.1 h)
  · rintro rfl
    simp [cmpIP_refl, cmpI_zero.2]
theorem cmpP_anti (a b : Pfx) : cmpP a b = - cmpP b a := by
  unfold cmpP
  have h1 := cmpIP_anti a.ip b.ip
  have h2 := cmpI_anti a.bits b.bits
  split <;> split <;> omega
theorem cmpP_trans {a b c : Pfx} (h : cmpP a b < 0) (g : cmpP b c < 0) : cmpP a c < 0 := by
  unfold cmpP at *
  by_cases h1 : cmpIP a.ip b.ip = 0
  · rw [if_neg (by omega)] at h
    rw [cmpIP_zero h1]
    by_cases h2 : cmpIP b.ip c.ip = 0
    · rw [if_neg (by omega)] at g ⊢
      rw [cmpI_lt] at *; omega
    · rw [if_pos h2] at g ⊢; exact g
  · rw [if_pos h1] at h
    by_cases h2 : cmpIP b.ip c.ip = 0
    · rw [← cmpIP_zero h2, if_pos h1]; exact h
    · rw [if_pos h2] at g
      have := cmpIP_trans h g
      rw [if_pos (by omega)]; exact this
theorem cmpT_zero {a b : Dst} : cmpT a b = 0 ↔ a = b := by
  unfold cmpT
  constructor
  · intro h
    split at h
    · contradiction
    · split at h
      · contradiction
      · exact dst_ext (cmpP_zero.1 (by omega)) (cmpP_zero.1 (by omega)) (cmpI_zero.1 h)
  · rintro rfl
    simp [cmpP_zero.2, cmpI_zero.2]
theorem cmpT_refl (a : Dst) : cmpT a a = 0 := cmpT_zero.2 rfl
theorem cmpT_anti (a b : Dst) : cmpT a b = - cmpT b a := by
  unfold cmpT
  have h1 := cmpP_anti a.dst b.dst
  have h2 := cmpP_anti a.src b.src
  have h3 := cmpI_anti a.router b.router
  repeat' split
  all_goals omega
theorem cmpT_trans {a b c : Dst} (h : cmpT a b < 0) (g : cmpT b c < 0) : cmpT a c < 0 := by
  unfold cmpT at *
  by_cases h1 : cmpP a.dst b.dst = 0
  · rw [if_neg (by omega)] at h
    rw [cmpP_zero.1 h1]
    by_cases h2 : cmpP b.dst c.dst = 0
    · rw [if_neg (by omega)] at g ⊢
      by_cases h3 : cmpP a.src b.src = 0
      · rw [if_neg (by omega)] at h
        rw [cmpP_zero.1 h3]
        by_cases h4 : cmpP b.src c.src = 0
        · rw [if_neg (by omega)] at g ⊢
          rw [cmpI_lt] at *; omega
        · rw [if_pos h4] at g ⊢; exact g
      · rw [if_pos h3] at h
        by_cases h4 : cmpP b.src c.src = 0
        · rw [← cmpP_zero.1 h4, if_pos h3]; exact h
        · rw [if_pos h4] at g
          have := cmpP_trans h g
          rw [if_pos (by omega)]; exact this
    · rw [if_pos h2] at g ⊢; exact g
  · rw [if_pos h1] at h
    by_cases h2 : cmpP b.dst c.dst = 0
    · rw [← cmpP_zero.1 h2, if_pos h1]; exact h
    · rw [if_pos h2] at g
      have := cmpP_trans h g
      rw [if_pos (by omega)]; exact this
/-! The reference's Mask -/
theorem or_all : ∀ (x : Fin 256) (r : Fin 8), IntKind.wrap .u8 ((x.1 : Int).fdiv (2 ^ (7 - r.1)) % 2 * 2 ^ (min (7 - r.1) 8)) = (x.1 : Int).fdiv (2 ^ (7 - r.1)) % 2 * 2 ^ (7 - r.1) ∧
    IntKind.wrap .u8 ((BitVec.ofInt 8 (cutB (x.1 : Int) (r.1 : Int)) ||| BitVec.ofInt 8 ((x.1 : Int).fdiv (2 ^ (7 - r.1)) % 2 * 2 ^ (7 - r.1))).toNat) = cutB (x.1 : Int) ((r.1 : Int) + 1) := by decide +kernel
theorem maskL_zero (a : IP) : maskL a.1 0 = List.replicate 16 0 := by
  apply List.ext_getElem?
  intro i
  by_cases hi : i < 16
  · rw [List.getElem?_replicate, if_pos hi, List.getElem?_eq_getElem (by rw [maskL_len]; exact hi), ← gt_eq, gt_maskL hi]
    have := byte_gt (a := a) hi
    have e : keepN 0 i = 0 := by unfold keepN; omega
    rw [e]
    congr 1
    simp only [cutB, Int.toNat_zero, Nat.sub_zero]
    omega
  · rw [List.getElem?_eq_none (by rw [maskL_len]; omega), List.getElem?_eq_none (by simp; omega)]
theorem maskL_step (a : IP) {i : Nat} (hi : i < 128) : (maskL a.1 i).set (i / 8) (cutB (gt a.1 (i / 8)) ((i % 8 : Nat) + 1)) = maskL a.1 ((i : Int) + 1) := by
  apply ext_gt (by simp [maskL_len])
  intro j hj
  rw [List.length_set, maskL_len] at hj
  rw [gt_set (by rw [maskL_len]; omega), gt_maskL hj, gt_maskL hj]
  split
  · rename_i h; subst h
    congr 1
    unfold keepN; omega
  · congr 1
    unfold keepN; omega
end Go.Fw
