/- The reference of the oracle: Valid, Cost; oracle.Cost. -/
import Derived.Test.YtkmcmhohelgjfaaOraM
namespace Go.Fw
set_option maxRecDepth 4000
open Go.Proofs
set_option maxHeartbeats 4000000
theorem rowOK_iff {n i : Nat} {row : List Int} (hi : i < n) : rowOK n i row = true ↔ row.length = n ∧ gt row i = 0 ∧ ∀ k, k < n → okM (gt row k) = true := by
  simp only [rowOK, Bool.and_eq_true, decide_eq_true_eq, List.all_eq_true, List.mem_range, cellOK, Bool.or_eq_true, bne_iff_ne, beq_iff_eq]
  constructor
  · rintro ⟨h1, h2⟩
    refine ⟨h1, ?_, fun k hk => (h2 k hk).1⟩
    rcases (h2 i hi).2 with h | h
    · exact absurd rfl h
    · exact h
  · rintro ⟨h1, h2, h3⟩
    refine ⟨h1, fun k hk => ⟨h3 k hk, ?_⟩⟩
    by_cases e : i = k
    · subst e; exact .inr h2
    · exact .inl e
theorem k_refValid (M : List (Tg × List Int)) (t : Tg) : Con Try.prog 32 [.fs t 1 (mat M)] [] (bool (validT (rowsM M))) [] := by
  have hM := mat_len M
  have hr : (rowsM M).length = M.length := by simp [rowsM]
  have badn : ¬ (1 ≤ M.length ∧ M.length ≤ 12) → false = validT (rowsM M) := fun h => by simp [validT, hr, h]
  have bad : ∀ i, i < M.length → ¬ ((gt M i).2.length = M.length ∧ gt (gt M i).2 i = 0 ∧ ∀ k, k < M.length → okM (gt (gt M i).2 k) = true) → false = validT (rowsM M) := fun i hi h => by
    rw [validT_ff (i := i) (by omega)]
    rw [hr, rowsM_gt hi, Ne, rowOK_iff hi]; exact h
  refine spec_of_run ttok mixed (T0 := 298036370841645) (ts := [.tmp 2]) 51 rfl rfl rfl rfl (by simp) rfl ?_
  conv => whnf
  repeat' (first | ((first | ((with_reducible apply Nm.mk); focus ((try simp only [lns, mat_len]); exact rfl)) | (with_reducible first | apply Bif.T | apply Bif.F) | ((with_reducible apply Bif.dec) <;> intro h <;> (try simp only [lns, mat_len] at h)) | (with_reducible apply Frz.l)) <;> conv => whnf) | fail)
  · refine Same.mk (congrArg bool (badn (by omega))) ?_
    conv => whnf
    repeat' (first | with_reducible apply True.intro | ((with_reducible apply Frz.l) <;> conv => whnf) | fail)
  · refine Same.mk (congrArg bool (badn (by omega))) ?_
    conv => whnf
    repeat' (first | with_reducible apply True.intro | ((with_reducible apply Frz.l) <;> conv => whnf) | fail)
  refine loop_keep ttok mixed (T0 := 298036370841645) [0, 15] (ι := {i : Nat // i ≤ M.length ∧ ∀ j, j < i → rowOK M.length j (gt M j).2 = true})
    (fun i => [(16, int (i.1 : Int))]) (fun _ => []) (fun i => M.length - i.1) ⟨0, by omega, fun j hj => by omega⟩ ?_
  conv => whnf
  repeat' (first | ((first | (with_reducible apply Same.rfl) | (apply Same.int; focus rfl) | (with_reducible apply Frz.l)) <;> conv => whnf) | fail)
  rintro ⟨i, hi, hb⟩
  dsimp only
  conv => whnf
  repeat' (first | ((with_reducible apply Elem.matG); (focus omega); conv => whnf) | ((first | ((with_reducible apply Nm.mk); focus ((try simp only [lns, mat_len]); exact rfl)) | ((with_reducible apply Need.mk); focus first | omega | (simp only [lns, mat_len]; omega)) | ((with_reducible apply Elem.lst); focus omega) | (with_reducible first | apply Bif.T | apply Bif.F) | ((with_reducible first | apply Bif.dec | apply Bif.bne) <;> intro h <;> (try simp only [lns, mat_len] at h)) | (with_reducible apply Frz.l)) <;> conv => whnf) | fail)
  iterate 2
    · apply Same.bool (bad i (by omega) fun h => by have := h.1; have := h.2.1; omega)
      conv => whnf
      repeat' (first | with_reducible apply True.intro | ((with_reducible apply Frz.l) <;> conv => whnf) | fail)
  · have hw : (gt M i).2.length = M.length := by omega
    have hgo : ∀ j, j < i → rowOK M.length j (gt M j).2 = true := hb
    refine loop_keep ttok mixed (T0 := 298036370841645) [0, 15, 16, 40, 41] (ι := {k : Nat // k ≤ M.length ∧ ∀ j, j < k → okM (gt (gt M i).2 j) = true})
      (fun k => [(42, int (k.1 : Int))]) (fun _ => []) (fun k => M.length - k.1) ⟨0, by omega, fun j hj => by omega⟩ ?_
    conv => whnf
    repeat' (first | ((first | (with_reducible apply Same.rfl) | (apply Same.int; focus rfl) | (with_reducible apply Frz.l)) <;> conv => whnf) | fail)
    rintro ⟨k, hk, hc⟩
    dsimp only
    conv => whnf
    repeat' (first | ((first | ((with_reducible apply Nm.mk); focus ((try simp only [lns, mat_len]); exact rfl)) | ((with_reducible apply Wr.i64); focus omega) | ((with_reducible apply Need.mk); focus (simp only [lns, mat_len]; omega)) | ((with_reducible apply Elem.lst); focus omega) | (apply CallN.mk (k_refmetricValid _)) | ((with_reducible apply Bif.dec) <;> intro h <;> (try simp only [lns, mat_len] at h)) | (with_reducible apply Bif.not) | ((with_reducible apply Bif.mk) <;> intro h) | (with_reducible apply Frz.l)) <;> conv => whnf) | fail)
    · have hok : okM (gt (gt M i).2 k) = true := by simpa using h
      (refine ⟨⟨k + 1, by omega, step_lt hc hok⟩, ?_⟩; (try dsimp only); conv => whnf); repeat' (first | with_reducible apply True.intro | ((first | ((with_reducible apply Need.mk); focus omega) | (with_reducible apply Same.rfl) | (apply Same.int; focus rfl) | (with_reducible apply Turn.l) | (with_reducible apply Frz.l)) <;> conv => whnf) | fail)
    · apply Same.bool (bad i (by omega) fun h2 => by have := h2.2.2 k (by omega); simp_all)
      conv => whnf
      repeat' (first | with_reducible apply True.intro | ((with_reducible apply Frz.l) <;> conv => whnf) | fail)
    · have e : k = M.length := by omega
      subst e
      (refine ⟨⟨i + 1, by omega, step_lt hb (by rw [rowOK_iff (by omega)]; exact ⟨hw, by assumption, hc⟩)⟩, ?_⟩; (try dsimp only); conv => whnf); repeat' (first | with_reducible apply True.intro | ((first | ((with_reducible apply Need.mk); focus omega) | (with_reducible apply Same.rfl) | (apply Same.int; focus rfl) | (with_reducible apply Turn.l) | (with_reducible apply Frz.l)) <;> conv => whnf) | fail)
  · have e : i = M.length := by omega
    subst e
    apply Same.bool
    · rw [validT, hr, all_range_tt (fun j hj => by rw [rowsM_gt hj]; exact hb j hj)]
      have : 1 ≤ M.length ∧ M.length ≤ 12 := by omega
      simp [this]
    conv => whnf
    repeat' (first | with_reducible apply True.intro | ((with_reducible apply Frz.l) <;> conv => whnf) | fail)
/-- Cost -/
def costV (m : List (List Int)) (i k : Int) : Int := if validT m = true ∧ inN i m.length ∧ inN k m.length then costT m i.toNat k.toNat else 65535
theorem costV_in {M : List (Tg × List Int)} {i k : Int} (hv : validT (rowsM M) = true) (hi : 0 ≤ i ∧ i < M.length) (hk : 0 ≤ k ∧ k < M.length) (hne : i ≠ k) :
    linkM (gt (gt M k.toNat).2 i.toNat) (gt (gt M i.toNat).2 k.toNat) = costV (rowsM M) i k := by
  have hr : (rowsM M).length = M.length := by simp [rowsM]
  have h1 : ¬ i.toNat = k.toNat := by omega
  rw [costV, if_pos ⟨hv, by rw [hr]; exact hi, by rw [hr]; exact hk⟩, costT, if_neg h1, rowsM_gt (by omega), rowsM_gt (by omega)]
  rfl
theorem costV_nat {m : List (List Int)} {i k : Nat} (hv : validT m = true) (hi : i < m.length) (hk : k < m.length) : costV m i k = costT m i k := by
  rw [costV, if_pos ⟨hv, ⟨by omega, by omega⟩, by omega, by omega⟩]; simp
theorem k_refCost (M : List (Tg × List Int)) (t : Tg) (i k : Int) : Con Try.prog 36 [.fs t 1 (mat M), int i, int k] [] (int (costV (rowsM M) i k)) [] := by
  have hM := mat_len M
  have hr : (rowsM M).length = M.length := by simp [rowsM]
  have row : validT (rowsM M) = true → ∀ j, j < M.length → (gt M j).2.length = M.length := fun hv j hj => by
    have := validT_row hv (i := j) (by omega); rwa [rowsM_gt hj, hr] at this
  have bad : ¬ (validT (rowsM M) = true ∧ 0 ≤ i ∧ i < M.length ∧ 0 ≤ k ∧ k < M.length ∧ i ≠ k) → 65535 = costV (rowsM M) i k := fun h => by
    unfold costV inN
    split
    · rename_i h2
      have e : i.toNat = k.toNat := by
        have : ¬ i ≠ k := fun h3 => h ⟨h2.1, h2.2.1.1, by omega, h2.2.2.1, by omega, h3⟩
        rw [show i = k by omega]
      rw [costT, if_pos e]
    · rfl
  refine spec_of_run ttok mixed (T0 := 17179869255) (ts := [.tmp 6]) 50 rfl rfl rfl rfl (by simp) rfl ?_
  conv => whnf
  by_cases hv : validT (rowsM M) = true
  · have r1 := row hv i.toNat
    have r2 := row hv k.toNat
    repeat' (first | with_reducible apply True.intro | ((with_reducible apply Elem.matG); (focus omega); conv => whnf) | ((with_reducible apply Bif.tt hv); conv => whnf) | ((first | ((with_reducible apply Nm.mk); focus ((try simp only [lns, mat_len]); exact rfl)) | ((with_reducible apply Need.mk); focus first | omega | (simp only [lns, mat_len]; omega) | kernel_rfl) | ((with_reducible apply Elem.lst); focus omega) | (apply CallN.mk (k_refValid M t)) | (apply CallN.mk (k_refmetricLink _ _)) | (with_reducible first | apply Bif.T | apply Bif.F) | ((with_reducible first | apply Bif.dec | apply Bif.beq) <;> intro h <;> (try simp only [lns, mat_len] at h)) | (with_reducible apply Bif.not) | (apply Same.int; focus omega) | (with_reducible apply Frz.l)) <;> conv => whnf) | fail)
    all_goals try (apply Same.int (bad (by simp only [inN, decide_eq_false_iff_not] at *; omega)); (conv => whnf); repeat' (first | ((with_reducible apply Frz.l) <;> conv => whnf) | fail))
    apply Same.int (costV_in hv (by omega) (by omega) h)
    (conv => whnf)
    repeat' (first | with_reducible apply True.intro | ((with_reducible apply Frz.l) <;> conv => whnf) | fail)
  · have hvf : validT (rowsM M) = false := by simpa using hv
    have hb := bad (fun h => hv h.1)
    repeat' (first | with_reducible apply True.intro | ((with_reducible apply Bif.ff hvf); conv => whnf) | ((first | (apply CallN.mk (k_refValid M t)) | (with_reducible apply Bif.T) | (with_reducible apply Bif.not) | (apply Same.int; focus omega) | (with_reducible apply Frz.l)) <;> conv => whnf) | fail)
    all_goals (apply Same.int hb; (conv => whnf); repeat' (first | ((with_reducible apply Frz.l) <;> conv => whnf) | fail))
theorem k_oraCost (M : List (Tg × List Int)) (t : Tg) (i k : Int) : Con Try.prog 20 [.fs t 1 (mat M), int i, int k] [] (int (costV (rowsM M) i k)) [] := by
  have hM := mat_len M
  have hr : (rowsM M).length = M.length := by simp [rowsM]
  refine spec_of_run ttok mixed (T0 := 8388679) (ts := [.tmp 6]) 28 rfl rfl rfl rfl (by simp) rfl ?_
  conv => whnf
  by_cases hg : validT (rowsM M) = true ∧ inN i M.length ∧ inN k M.length
  · obtain ⟨hv, hi, hk⟩ := hg
    obtain ⟨i, rfl⟩ : ∃ n : Nat, i = (n : Int) := ⟨i.toNat, by have := hi.1; omega⟩
    obtain ⟨k, rfl⟩ : ∃ n : Nat, k = (n : Int) := ⟨k.toNat, by have := hk.1; omega⟩
    have hi' : i < M.length := by have := hi.2; omega
    have hk' : k < M.length := by have := hk.2; omega
    have e1 := decide_eq_true hi
    have e2 := decide_eq_true hk
    repeat' (first | ((with_reducible apply Bif.tt hv); conv => whnf) | ((with_reducible apply Bif.tt e1); conv => whnf) | ((with_reducible apply Bif.tt e2); conv => whnf) | ((first | ((with_reducible apply Nm.mk); focus ((try simp only [lns, mat_len]); exact rfl)) | (apply CallN.mk (k_Valid M t)) | (apply CallN.mk (k_numbered _ M.length)) | (apply CallN.mk (k_cost M t i k hv hi' hk')) | (with_reducible apply Bif.F) | (with_reducible apply Bif.not) | (with_reducible apply Frz.l)) <;> conv => whnf) | fail)
    apply Same.int (costV_nat hv (by omega) (by omega)).symm
    (conv => whnf)
    repeat' (first | with_reducible apply True.intro | ((with_reducible apply Frz.l) <;> conv => whnf) | fail)
  · have hb : 65535 = costV (rowsM M) i k := by rw [costV, hr, if_neg hg]
    repeat' (first | with_reducible apply True.intro | ((first | ((with_reducible apply Nm.mk); focus ((try simp only [lns, mat_len]); exact rfl)) | (apply CallN.mk (k_Valid M t)) | (apply CallN.mk (k_numbered _ M.length)) | (with_reducible first | apply Bif.T | apply Bif.F) | ((with_reducible apply Bif.dec) <;> intro h <;> (try simp only [lns, mat_len] at h)) | (with_reducible apply Bif.not) | ((with_reducible apply Bif.mk) <;> intro h) | (apply Same.int; focus omega) | (with_reducible apply Frz.l)) <;> conv => whnf) | fail)
    all_goals first | (apply Same.int hb; (conv => whnf); repeat' (first | ((with_reducible apply Frz.l) <;> conv => whnf) | fail)) | (exfalso; simp_all; done)
end Go.Fw
