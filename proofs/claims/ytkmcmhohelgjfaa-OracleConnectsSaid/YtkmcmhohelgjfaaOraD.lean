/- The reference's Cycle. -/
import Derived.Test.YtkmcmhohelgjfaaOraC
namespace Go.Fw
open Go.Proofs
set_option maxHeartbeats 1000000
attribute [local semireducible] Nm Wr Bif
/-- so many steps on -/
def itr (l : List Int) : Nat → Int → Int
  | 0, i => i
  | k + 1, i => stp l (itr l k i)
def onC (l : List Int) (i : Int) : Bool := (List.range l.length).any fun k => decide (itr l (k + 1) i = i)
theorem onC_iff {l : List Int} {i : Int} : onC l i = true ↔ ∃ k, k < l.length ∧ itr l (k + 1) i = i := by simp [onC]
def cycU (l : List Int) (n : Nat) : List Int := ((List.range n).filter fun (j : Nat) => onC l (j : Int)).map fun (j : Nat) => (j : Int)
def cycV (l : List Int) : List Int := cycU l l.length
theorem cycU_succ (l : List Int) (n : Nat) : cycU l (n + 1) = if onC l (n : Int) then cycU l n ++ [(n : Int)] else cycU l n := by
  simp only [cycU, List.range_succ, List.filter_append, List.map_append]
  cases h : onC l (n : Int) <;> simp [h]
theorem cycU_len (l : List Int) (n : Nat) : (cycU l n).length ≤ n := by
  simp only [cycU, List.length_map]
  exact Nat.le_trans (List.length_filter_le _ _) (by simp)
theorem itr_neg {l : List Int} {i : Int} {k : Nat} (h : itr l k i < 0) (m : Nat) : itr l (k + m + 1) i = -1 := by
  induction m with
  | zero => show stp l (itr l k i) = -1; rw [stp, if_neg (fun hc => by have := hc.1.1; omega)]
  | succ m ih => show stp l (itr l (k + m + 1) i) = -1; rw [ih, stp, if_neg (fun hc => by have := hc.1.1; omega)]
theorem onC_ff {l : List Int} {i : Int} {k : Nat} (hi : 0 ≤ i) (hk : ∀ j, j < k → itr l (j + 1) i ≠ i) (h : l.length ≤ k ∨ itr l k i < 0) : onC l i = false := by
  cases h2 : onC l i with
  | false => rfl
  | true =>
    obtain ⟨j, h3, h4⟩ := onC_iff.1 h2
    rcases Nat.lt_or_ge j k with h5 | h5
    · exact absurd h4 (hk j h5)
    · rcases h with h | h
      · omega
      · have := itr_neg h (j - k)
        rw [show k + (j - k) + 1 = j + 1 by omega] at this
        omega
theorem k_refCycle (l : List Int) (t : Tg) (hl : l.length < 100000) : Con Try.prog 13 [.fs t 1 (ints l)] [] (.ov 1 0 0 (cycV l).length) [.arr none 1 (ints (cycV l))] := by
  refine spec_of_exec ttok mixed (T0 := 35) (ts := [.tmp 2]) 35 rfl rfl rfl rfl (by simp) rfl ?_
  conv => whnf
  have hs := ints_len l
  refine loop_inv ttok mixed (T0 := 35) (ι := {n : Nat // n ≤ l.length})
    (fun i => [(0, .fs t 1 (ints l)), (3, .ov 1 0 0 (cycU l i.1).length), (8, int (l.length : Int)), (9, int (i.1 : Int))])
    (fun i => [.arr none 1 (ints (cycU l i.1))]) (fun i => l.length - i.1) ⟨0, by omega⟩ ?_ ?_
  · refine (Sub.adopt 3 1 rfl (by simp)).trans (Sub.go 1 ⟨rfl, rfl, ?_, rfl, trivial⟩ rfl (by simp) rfl rfl)
    rw [← hs]; rfl
  rintro ⟨n, hn⟩
  dsimp only
  conv => whnf
  refine Bif.mk (fun h1 => ?_) (fun h1 => ?_)
  · have hnl : n < l.length := by simp at h1; omega
    have hcl := cycU_len l n
    conv => whnf
    refine loop_inv ttok mixed (T0 := 35) (ι := {k : Nat // k ≤ l.length ∧ ∀ j, j < k → itr l (j + 1) (n : Int) ≠ (n : Int)})
      (fun i => [(0, .fs t 1 (ints l)), (3, .ov 1 0 0 (cycU l n).length), (4, int (n : Int)), (5, int (itr l i.1 (n : Int))), (6, int (i.1 : Int)), (8, int (l.length : Int)), (9, int (n : Int))])
      (fun _ => [.arr none 1 (ints (cycU l n))]) (fun i => l.length - i.1) ⟨0, by omega, fun j hj => by omega⟩ ?_ ?_
    · exact Sub.of ⟨rfl, rfl, rfl, rfl, rfl, rfl, rfl, trivial⟩
    rintro ⟨k, hk, he⟩
    dsimp only
    have no : (l.length ≤ k ∨ itr l k (n : Int) < 0) → cycU l (n + 1) = cycU l n := fun h => by
      rw [cycU_succ, onC_ff (by omega) he h]; rfl
    conv => whnf
    refine Bif.mk (fun h3 => ?_) (fun h3 => ?_)
    · conv => whnf
      refine Bif.mk (fun h4 => ?_) (fun h4 => ?_)
      · conv => whnf
        have hkl : k < l.length := by simp [ints_len] at h3; omega
        refine CallN.mk (k_step _ _ _) ?_
        conv => whnf
        refine Bif.mk (fun h5 => ?_) (fun h5 => ?_)
        · have h6' : stp l (itr l k (n : Int)) = (n : Int) := by simpa using h5
          have h6 : itr l (k + 1) (n : Int) = (n : Int) := h6'
          have yes : cycU l (n + 1) = cycU l n ++ [(n : Int)] := by rw [cycU_succ, onC_iff.2 ⟨k, hkl, h6⟩]; rfl
          conv => whnf
          refine Need.mk (Nat.le_refl 1) ?_
          conv => whnf
          refine Alt.l ?_
          conv => whnf
          refine Need.mk ⟨(ints_len _).symm, ?_⟩ ?_
          · unfold roomOK; rw [ints_len]
            show ((cycU l n).length + 1) * 8 ≤ _ ∧ (cycU l n).length + 1 ≤ _
            omega
          conv => whnf
          rw [inc64 n (by omega)]
          refine ⟨⟨n + 1, hnl⟩, Sub.go 1 ⟨rfl, ?_, rfl, rfl, trivial⟩ ?_ (by simp) rfl rfl, by simp only []; omega⟩
          · show some (SV.ov 1 0 0 (ints (cycU l n) ++ [int (n : Int)]).length) = _
            simp [yes, ints_len]
          · show [OB.arr none 1 (ints (cycU l n) ++ [int (n : Int)])] = [OB.arr none 1 (ints (cycU l (n + 1)))]
            rw [yes]; simp [ints, lst]
        · have h6 : itr l (k + 1) (n : Int) ≠ (n : Int) := by
            intro h
            have h6' : stp l (itr l k (n : Int)) ≠ (n : Int) := by simpa using h5
            exact h6' h
          conv => whnf
          rw [inc64 k (by omega)]
          refine ⟨⟨k + 1, hkl, fun j hj => ?_⟩, Sub.of ⟨rfl, rfl, rfl, rfl, rfl, rfl, rfl, trivial⟩, by simp only []; omega⟩
          rcases Nat.lt_or_ge j k with h8 | h8
          · exact he j h8
          · rw [show j = k by omega]; exact h6
      · conv => whnf
        rw [inc64 n (by omega)]
        have e := no (.inr (by simpa using h4))
        refine ⟨⟨n + 1, hnl⟩, Sub.go 1 ⟨rfl, ?_, rfl, rfl, trivial⟩ ?_ (by simp) rfl rfl, by simp only []; omega⟩
        · simp only [e]; rfl
        · simp only [e]; rfl
    · conv => whnf
      rw [inc64 n (by omega)]
      have e := no (.inl (by simp [ints_len] at h3; omega))
      refine ⟨⟨n + 1, hnl⟩, Sub.go 1 ⟨rfl, ?_, rfl, rfl, trivial⟩ ?_ (by simp) rfl rfl, by simp only []; omega⟩
      · simp only [e]; rfl
      · simp only [e]; rfl
  · have e : n = l.length := by simp at h1; omega
    subst e
    conv => whnf
    exact Out.refl
end Go.Fw
