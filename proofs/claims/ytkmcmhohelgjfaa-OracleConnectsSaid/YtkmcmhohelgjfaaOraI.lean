/- Topologies: Valid of the oracle. -/
import Derived.Test.YtkmcmhohelgjfaaOraH
namespace Go.Fw
open Go.Proofs
set_option maxHeartbeats 2000000
attribute [local semireducible] Nm Wr Bif
/-- a list of rows, as it lies in memory: each with what is known of its capacity -/
def mat (M : List (Tg × List Int)) : List SV := M.map fun p => .fs p.1 1 (ints p.2)
def rowsM (M : List (Tg × List Int)) : List (List Int) := M.map fun p => p.2
theorem mat_len (M : List (Tg × List Int)) : (mat M).length = M.length := by simp [mat]
theorem mat_get {M : List (Tg × List Int)} {k : Nat} (h : k < M.length) : (mat M)[k]? = some (.fs M[k].1 1 (ints M[k].2)) := by simp [mat, List.getElem?_eq_getElem h]
def cellOK (i k : Nat) (c : Int) : Bool := okM c && (i != k || c == 0)
def rowOK (n i : Nat) (row : List Int) : Bool := decide (row.length = n) && (List.range n).all fun k => cellOK i k (row.getD k 0)
def validT (m : List (List Int)) : Bool := decide (1 ≤ m.length ∧ m.length ≤ 12) && (List.range m.length).all fun i => rowOK m.length i (m.getD i [])
theorem all_range_ff {n k : Nat} {f : Nat → Bool} (h : k < n) (hf : f k = false) : (List.range n).all f = false := by
  rw [List.all_eq_false]; exact ⟨k, List.mem_range.2 h, by simp [hf]⟩
theorem all_range_tt {n : Nat} {f : Nat → Bool} (hf : ∀ j, j < n → f j = true) : (List.range n).all f = true := by
  rw [List.all_eq_true]; exact fun j hj => hf j (List.mem_range.1 hj)
theorem k_Valid (M : List (Tg × List Int)) (t : Tg) : Con Try.prog 29 [.fs t 1 (mat M)] [] (bool (validT (rowsM M))) [] := by
  refine spec_of_exec ttok mixed (T0 := 48) (ts := [.tmp 2]) 48 rfl rfl rfl rfl (by simp) rfl ?_
  conv => whnf
  have hs := mat_len M
  have hr : (rowsM M).length = M.length := by simp [rowsM]
  have hg : ∀ i (hi : i < M.length), (rowsM M).getD i [] = M[i].2 := fun i hi => by simp [rowsM, hi]
  have badn : ¬ (1 ≤ M.length ∧ M.length ≤ 12) → Out 0 (SV.v (Value.bool false)) [] (bool (validT (rowsM M))) [] := fun h => by
    refine Out.none ?_ rfl
    simp [validT, hr, h, bool]
  refine Bif.mk (fun h => ?_) (fun h => ?_)
  · conv => whnf
    exact badn (fun hc => by simp [mat_len] at h; omega)
  conv => whnf
  refine Bif.mk (fun h2 => ?_) (fun h2 => ?_)
  · conv => whnf
    exact badn (fun hc => by simp [mat_len] at h2; omega)
  have h1 : 1 ≤ M.length := by
    rcases Nat.eq_zero_or_pos M.length with h3 | h3
    · have h4 : M = [] := List.eq_nil_of_length_eq_zero h3
      subst h4; simp [mat] at h
    · exact h3
  have h12 : M.length ≤ 12 := by simp [mat_len] at h2; omega
  have bad : ∀ i, i < M.length → rowOK M.length i ((rowsM M).getD i []) = false → validT (rowsM M) = false := fun i hi hb => by
    rw [validT, hr, all_range_ff hi hb]; simp
  conv => whnf
  refine loop_inv ttok mixed (T0 := 48) (ι := {i : Nat // i ≤ M.length ∧ ∀ j, j < i → rowOK M.length j ((rowsM M).getD j []) = true})
    (fun i => [(3, int (M.length : Int)), (16, .fs t 1 (mat M)), (17, int (M.length : Int)), (18, int (i.1 : Int))])
    (fun _ => []) (fun i => M.length - i.1) ⟨0, by omega, fun j hj => by omega⟩ ?_ ?_
  · refine Sub.of ⟨?_, rfl, ?_, rfl, trivial⟩ <;> (rw [← hs]; rfl)
  rintro ⟨i, hi, hb⟩
  dsimp only
  conv => whnf
  refine Bif.mk (fun h3 => ?_) (fun h3 => ?_)
  · have hiM : i < M.length := by simp at h3; omega
    have hw := ints_len M[i].2
    conv => whnf
    refine Need.mk (by rw [hs]; omega) ?_
    conv => whnf
    refine Elem.mk (.fs M[i].1 1 (ints M[i].2)) (mat_get hiM) ?_
    conv => whnf
    refine Bif.mk (fun h4 => ?_) (fun h4 => ?_)
    · conv => whnf
      refine Out.none ?_ rfl
      have h5 : M[i].2.length ≠ M.length := by simp [ints_len] at h4; omega
      rw [bad i hiM (by rw [hg i hiM, rowOK]; simp [h5])]; rfl
    have h5 : M[i].2.length = M.length := by simp [ints_len] at h4; omega
    conv => whnf
    refine loop_inv ttok mixed (T0 := 48) (ι := {k : Nat // k ≤ M.length ∧ ∀ j, j < k → cellOK i j (M[i].2.getD j 0) = true})
      (fun k => [(3, int (M.length : Int)), (4, int (i : Int)), (16, .fs t 1 (mat M)), (17, int (M.length : Int)), (18, int (i : Int)), (27, .fs M[i].1 1 (ints M[i].2)), (28, int (M.length : Int)), (29, int (k.1 : Int))])
      (fun _ => []) (fun k => M.length - k.1) ⟨0, by omega, fun j hj => by omega⟩ ?_ ?_
    · refine Sub.of ⟨rfl, rfl, rfl, rfl, rfl, rfl, ?_, rfl, trivial⟩
      rw [← h5, ← hw]; rfl
    rintro ⟨k, hk, hc⟩
    dsimp only
    conv => whnf
    refine Bif.mk (fun h6 => ?_) (fun h6 => ?_)
    · have hkM : k < M.length := by simp at h6; omega
      have hk2 : k < M[i].2.length := by omega
      have hgd : M[i].2.getD k 0 = M[i].2[k] := by simp [hk2]
      have badc : cellOK i k M[i].2[k] = false → Out 0 (SV.v (Value.bool false)) [] (bool (validT (rowsM M))) [] := fun h => by
        refine Out.none ?_ rfl
        rw [bad i hiM (by rw [hg i hiM, rowOK, all_range_ff hkM (by rw [hgd]; exact h)]; simp)]; rfl
      have good : cellOK i k M[i].2[k] = true → ∀ j, j < k + 1 → cellOK i j (M[i].2.getD j 0) = true := fun h j hj => by
        rcases Nat.lt_or_ge j k with h8 | h8
        · exact hc j h8
        · rw [show j = k by omega, hgd]; exact h
      conv => whnf
      refine Need.mk (by omega) ?_
      conv => whnf
      refine Elem.mk (int M[i].2[k]) (ints_get hk2) ?_
      conv => whnf
      refine CallN.mk (k_metricValid _) ?_
      conv => whnf
      have go : ∀ (g : cellOK i k M[i].2[k] = true), ∃ j : {k : Nat // k ≤ M.length ∧ ∀ j, j < k → cellOK i j (M[i].2.getD j 0) = true}, j.1 = k + 1 := fun g => ⟨⟨k + 1, hkM, good g⟩, rfl⟩
      refine Bif.mk (fun h7 => ?_) (fun h7 => ?_)
      · conv => whnf
        exact badc (by simp at h7; simp [cellOK, h7])
      have h7' : okM M[i].2[k] = true := by simpa using h7
      conv => whnf
      refine Bif.mk (fun h8 => ?_) (fun h8 => ?_)
      · have h8' : i = k := by simp at h8; omega
        conv => whnf
        refine Bif.mk (fun h9 => ?_) (fun h9 => ?_)
        · conv => whnf
          have h9' : M[i].2[k] ≠ 0 := by simpa using h9
          have hik : (i != k) = false := by simp [h8']
          exact badc (by simp only [cellOK, hik, beq_false_of_ne h9', Bool.or_false, Bool.and_false])
        · have h9' : M[i].2[k] = 0 := by simpa using h9
          conv => whnf
          rw [inc64 k (by omega)]
          exact ⟨⟨k + 1, hkM, good (by simp [cellOK, h9']; decide)⟩, Sub.of ⟨rfl, rfl, rfl, rfl, rfl, rfl, rfl, rfl, trivial⟩, by simp only []; omega⟩
      · have h8' : i ≠ k := by intro e; subst e; simp at h8
        conv => whnf
        rw [inc64 k (by omega)]
        exact ⟨⟨k + 1, hkM, good (by simp [cellOK, h7', h8'])⟩, Sub.of ⟨rfl, rfl, rfl, rfl, rfl, rfl, rfl, rfl, trivial⟩, by simp only []; omega⟩
    · have e : k = M.length := by simp at h6; omega
      subst e
      conv => whnf
      rw [inc64 i (by omega)]
      refine ⟨⟨i + 1, hiM, fun j hj => ?_⟩, Sub.of ⟨rfl, rfl, rfl, rfl, trivial⟩, by simp only []; omega⟩
      rcases Nat.lt_or_ge j i with h8 | h8
      · exact hb j h8
      · rw [show j = i by omega, hg i hiM, rowOK, all_range_tt hc]; simp [h5]
  · have e : i = M.length := by simp at h3; omega
    subst e
    conv => whnf
    refine Out.none ?_ rfl
    rw [validT, hr, all_range_tt hb]
    simp [h1, h12, bool]
end Go.Fw
