/- Registries: what is valid, what is current, who owns. -/
import Derived.Test.YtpmiaggdjgfjgaaSlStbClm
namespace Go.Fw
set_option maxRecDepth 4000
open Go.Proofs
set_option maxHeartbeats 4000000
theorem k_isTime (t : Int) : Con Try.prog 67 [int t] [] (bool (decide (0 ≤ t ∧ t ≤ 1099511627776))) [] := by
  refine spec_of_run ttok mixed (T0 := 5) (ts := [.tmp 2]) 9 rfl rfl rfl rfl (by simp) rfl ?_
  conv => whnf
  repeat' (first | ((first | (with_reducible first | apply Bif.T | apply Bif.F) | ((with_reducible apply Bif.dec) <;> intro h <;> (try simp only [lns] at h))) <;> conv => whnf) | fail)
  all_goals (apply Same.bool (by simp; omega); (conv => whnf); repeat' (first | with_reducible apply True.intro | fail))
theorem k_IsTime (t : Int) : Con Try.prog 39 [int t] [] (bool (decide (0 ≤ t ∧ t ≤ 1099511627776))) [] := by
  refine spec_of_run ttok mixed (T0 := 5) (ts := [.tmp 2]) 9 rfl rfl rfl rfl (by simp) rfl ?_
  conv => whnf
  repeat' (first | ((first | (with_reducible first | apply Bif.T | apply Bif.F) | ((with_reducible apply Bif.dec) <;> intro h <;> (try simp only [lns] at h))) <;> conv => whnf) | fail)
  all_goals (apply Same.bool (by simp; omega); (conv => whnf); repeat' (first | with_reducible apply True.intro | fail))
def clmOK (c : Clm) : Bool := decide (c.eui ≠ 0 ∧ 0 ≤ c.seq ∧ c.seq ≤ 1073741824 ∧ 0 ≤ c.since ∧ c.since ≤ 1099511627776 ∧ 0 ≤ c.upto ∧ c.upto ≤ 1099511627776 ∧ c.since ≤ c.upto)
theorem k_validClaim (c : Clm) : Con Try.prog 60 [clmV c] [] (bool (clmOK c)) [] := by
  refine spec_of_run ttok mixed (T0 := 7) (ts := [.tmp 2]) 33 rfl rfl rfl rfl (by simp) rfl ?_
  conv => whnf
  repeat' (first | ((first | (apply CallN.mk (k_isTime _)) | (with_reducible first | apply Bif.T | apply Bif.F) | ((with_reducible first | apply Bif.dec | apply Bif.bne) <;> intro h <;> (try simp only [lns] at h))) <;> conv => whnf) | fail)
  all_goals (apply Same.bool (by rw [Bool.eq_iff_iff]; simp only [clmOK, decide_eq_true_eq, Bool.false_eq_true, false_iff, true_iff, Bool.and_eq_true, Bool.or_eq_true, Bool.not_eq_true', decide_eq_false_iff_not, ne_eq]; omega); (conv => whnf); repeat' (first | with_reducible apply True.intro | fail))
theorem k_ValidClaim (c : Clm) : Con Try.prog 61 [clmV c] [] (bool (clmOK c)) [] := by
  refine spec_of_run ttok mixed (T0 := 7) (ts := [.tmp 2]) 33 rfl rfl rfl rfl (by simp) rfl ?_
  conv => whnf
  repeat' (first | ((first | (apply CallN.mk (k_IsTime _)) | (with_reducible first | apply Bif.T | apply Bif.F) | ((with_reducible first | apply Bif.dec | apply Bif.bne) <;> intro h <;> (try simp only [lns] at h))) <;> conv => whnf) | fail)
  all_goals (apply Same.bool (by rw [Bool.eq_iff_iff]; simp only [clmOK, decide_eq_true_eq, Bool.false_eq_true, false_iff, true_iff, Bool.and_eq_true, Bool.or_eq_true, Bool.not_eq_true', decide_eq_false_iff_not, ne_eq]; omega); (conv => whnf); repeat' (first | with_reducible apply True.intro | fail))
/-- detection.Valid -/
def validR (r : List Clm) : Bool := decide (r.length ≤ 64 ∧ ∀ i, i < r.length → clmOK (gt r i) = true ∧ (0 < i → cmpIP (gt r (i - 1)).ip (gt r i).ip < 0))
theorem validR_ff {r : List Clm} {i : Nat} (hi : i < r.length) (h : ¬ (clmOK (gt r i) = true ∧ (0 < i → cmpIP (gt r (i - 1)).ip (gt r i).ip < 0))) : false = validR r := by
  symm
  rw [validR, decide_eq_false_iff_not]
  exact fun ⟨_, g⟩ => h (g i hi)
theorem k_Valid (r : List Clm) (t : Tg) (hl : r.length ≤ 1000000) : Con Try.prog 40 [.fs t 20 (lst clmV r)] [] (bool (validR r)) [] := by
  refine spec_of_run ttok mixed (T0 := 2147618717) (ts := [.tmp 2]) 33 rfl rfl rfl rfl (by simp) rfl ?_
  conv => whnf
  repeat' (first | ((first | ((with_reducible apply Nm.mk); focus ((try simp only [lns]); exact rfl)) | ((with_reducible apply Bif.dec) <;> intro h <;> (try simp only [lns] at h))) <;> conv => whnf) | fail)
  · apply Same.bool (by symm; rw [validR, decide_eq_false_iff_not]; omega)
    conv => whnf
    repeat' (first | with_reducible apply True.intro | fail)
  refine loop_keep ttok mixed (T0 := 2147618717) [0, 8, 9] (ι := {k : Nat // k ≤ r.length ∧ ∀ i, i < k → clmOK (gt r i) = true ∧ (0 < i → cmpIP (gt r (i - 1)).ip (gt r i).ip < 0)})
    (fun k => [(10, int (k.1 : Int))]) (fun _ => []) (fun k => r.length - k.1) ⟨0, by omega, none_lt⟩ ?_
  conv => whnf
  repeat' (first | ((first | (with_reducible apply Same.rfl) | (apply Same.int; focus rfl)) <;> conv => whnf) | fail)
  rintro ⟨k, hk, he⟩
  dsimp only
  conv => whnf
  by_cases hkl : k < r.length
  · rcases Nat.eq_zero_or_pos k with h0 | h0
    · repeat' (first | ((first | ((with_reducible apply Nm.mk); focus ((try simp only [lns]); exact rfl)) | ((with_reducible apply Wr.i64); focus omega) | ((with_reducible apply Need.mk); focus first | (simp only [lns]; omega) | kernel_rfl) | ((with_reducible apply Elem.lst); focus omega) | (apply CallN.mk (k_validClaim _)) | (with_reducible apply Bif.F) | ((with_reducible apply Bif.dec) <;> intro h <;> (try simp only [lns] at h) <;> (try (exfalso; omega))) | (with_reducible apply Bif.not) | ((with_reducible apply Bif.mk) <;> intro h)) <;> conv => whnf) | fail)
      · (refine ⟨⟨k + 1, by omega, step_lt he ⟨by assumption, fun hp => absurd hp (by omega)⟩⟩, ?_⟩; (try dsimp only); conv => whnf); repeat' (first | with_reducible apply True.intro | ((first | ((with_reducible apply Need.mk); focus omega) | (with_reducible apply Same.rfl) | (apply Same.int; focus rfl) | (with_reducible apply Turn.l)) <;> conv => whnf) | fail)
      · apply Same.bool (validR_ff hkl fun g => by simp [g.1] at h)
        conv => whnf
        repeat' (first | with_reducible apply True.intro | fail)
    · have e1 : ((k : Int) - 1).toNat = k - 1 := by omega
      repeat' (first | ((first | ((with_reducible apply Nm.mk); focus ((try simp only [lns, e1, ipRows_take]); exact rfl)) | ((with_reducible apply Wr.i64); focus omega) | ((with_reducible apply Need.mk); focus first | omega | (simp only [lns, e1, ipRows_take]; omega) | exact CleanP.nil rfl | kernel_rfl) | ((with_reducible apply Elem.lst); focus omega) | (apply CallN.mk (k_validClaim _)) | (apply CallN.mk (k_bytesCompare _ _ _ _)) | (with_reducible apply Bif.T) | ((with_reducible apply Bif.dec) <;> intro h <;> (try simp only [lns, e1, ipRows_take] at h) <;> (try (exfalso; omega))) | (with_reducible apply Bif.not) | ((with_reducible apply Bif.mk) <;> intro h)) <;> conv => whnf) | fail)
      · apply Same.bool (validR_ff hkl fun g => by have := g.2 h0; unfold cmpIP at this; omega)
        conv => whnf
        repeat' (first | with_reducible apply True.intro | fail)
      · (refine ⟨⟨k + 1, by omega, step_lt he ⟨by assumption, fun _ => by unfold cmpIP; omega⟩⟩, ?_⟩; (try dsimp only); conv => whnf); repeat' (first | with_reducible apply True.intro | ((first | ((with_reducible apply Need.mk); focus omega) | (with_reducible apply Same.rfl) | (apply Same.int; focus rfl) | (with_reducible apply Turn.l)) <;> conv => whnf) | fail)
      · apply Same.bool (validR_ff hkl fun g => by simp [g.1] at h)
        conv => whnf
        repeat' (first | with_reducible apply True.intro | fail)
  · repeat' (first | (((with_reducible apply Bif.dec) <;> intro h <;> (try simp only [lns] at h) <;> (try (exfalso; omega))) <;> conv => whnf) | fail)
    apply Same.bool (by symm; rw [validR, decide_eq_true_eq, show r.length = k by omega]; exact ⟨by omega, he⟩)
    conv => whnf
    repeat' (first | with_reducible apply True.intro | fail)
theorem k_refValid (r : List Clm) (t : Tg) (hl : r.length ≤ 1000000) : Con Try.prog 41 [.fs t 20 (lst clmV r)] [] (bool (validR r)) [] := by
  refine spec_of_run ttok mixed (T0 := 68719478605) (ts := [.tmp 2]) 38 rfl rfl rfl rfl (by simp) rfl ?_
  conv => whnf
  repeat' (first | ((first | ((with_reducible apply Nm.mk); focus ((try simp only [lns]); exact rfl)) | ((with_reducible apply Bif.dec) <;> intro h <;> (try simp only [lns] at h))) <;> conv => whnf) | fail)
  · apply Same.bool (by symm; rw [validR, decide_eq_false_iff_not]; omega)
    conv => whnf
    repeat' (first | with_reducible apply True.intro | fail)
  refine loop_keep ttok mixed (T0 := 68719478605) [0, 8] (ι := {k : Nat // k ≤ r.length ∧ ∀ i, i < k → clmOK (gt r i) = true ∧ (0 < i → cmpIP (gt r (i - 1)).ip (gt r i).ip < 0)})
    (fun k => [(9, int (k.1 : Int))]) (fun _ => []) (fun k => r.length - k.1) ⟨0, by omega, none_lt⟩ ?_
  conv => whnf
  repeat' (first | ((first | (with_reducible apply Same.rfl) | (apply Same.int; focus rfl)) <;> conv => whnf) | fail)
  rintro ⟨k, hk, he⟩
  dsimp only
  conv => whnf
  by_cases hkl : k < r.length
  · rcases Nat.eq_zero_or_pos k with h0 | h0
    · repeat' (first | ((first | ((with_reducible apply Nm.mk); focus ((try simp only [lns]); exact rfl)) | ((with_reducible apply Wr.i64); focus omega) | ((with_reducible apply Need.mk); focus first | (simp only [lns]; omega) | kernel_rfl) | ((with_reducible apply Elem.lst); focus omega) | (apply CallN.mk (k_ValidClaim _)) | (with_reducible first | apply Bif.T | apply Bif.F) | ((with_reducible apply Bif.dec) <;> intro h <;> (try simp only [lns] at h) <;> (try (exfalso; omega))) | (with_reducible apply Bif.not) | ((with_reducible apply Bif.mk) <;> intro h)) <;> conv => whnf) | fail)
      · (refine ⟨⟨k + 1, by omega, step_lt he ⟨by assumption, fun hp => absurd hp (by omega)⟩⟩, ?_⟩; (try dsimp only); conv => whnf); repeat' (first | with_reducible apply True.intro | ((first | ((with_reducible apply Need.mk); focus omega) | (with_reducible apply Same.rfl) | (apply Same.int; focus rfl) | (with_reducible apply Turn.l)) <;> conv => whnf) | fail)
      · apply Same.bool (validR_ff hkl fun g => by simp [g.1] at h)
        conv => whnf
        repeat' (first | with_reducible apply True.intro | fail)
    · have e1 : ((k : Int) - 1).toNat = k - 1 := by omega
      repeat' (first | ((first | ((with_reducible apply Nm.mk); focus ((try simp only [lns, e1]); exact rfl)) | ((with_reducible apply Wr.i64); focus omega) | ((with_reducible apply Need.mk); focus first | (simp only [lns, e1]; omega) | kernel_rfl) | ((with_reducible apply Elem.lst); focus omega) | (apply CallN.mk (k_ValidClaim _)) | (apply CallN.mk (k_CompareIP _ _)) | (with_reducible first | apply Bif.T | apply Bif.F) | ((with_reducible apply Bif.dec) <;> intro h <;> (try simp only [lns, e1] at h) <;> (try (exfalso; omega))) | (with_reducible apply Bif.not) | ((with_reducible apply Bif.mk) <;> intro h)) <;> conv => whnf) | fail)
      · apply Same.bool (validR_ff hkl fun g => by have := g.2 h0; omega)
        conv => whnf
        repeat' (first | with_reducible apply True.intro | fail)
      · (refine ⟨⟨k + 1, by omega, step_lt he ⟨by assumption, fun _ => by omega⟩⟩, ?_⟩; (try dsimp only); conv => whnf); repeat' (first | with_reducible apply True.intro | ((first | ((with_reducible apply Need.mk); focus omega) | (with_reducible apply Same.rfl) | (apply Same.int; focus rfl) | (with_reducible apply Turn.l)) <;> conv => whnf) | fail)
      · apply Same.bool (validR_ff hkl fun g => by simp [g.1] at h)
        conv => whnf
        repeat' (first | with_reducible apply True.intro | fail)
  · repeat' (first | (((with_reducible apply Bif.dec) <;> intro h <;> (try simp only [lns] at h) <;> (try (exfalso; omega))) <;> conv => whnf) | fail)
    apply Same.bool (by symm; rw [validR, decide_eq_true_eq, show r.length = k by omega]; exact ⟨by omega, he⟩)
    conv => whnf
    repeat' (first | with_reducible apply True.intro | fail)
theorem validR_len {r : List Clm} (h : validR r = true) : r.length ≤ 64 := by rw [validR, decide_eq_true_eq] at h; exact h.1
end Go.Fw
