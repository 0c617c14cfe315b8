/- The reference's Cycle. -/
import Derived.Test.YtkmcmhohelgjfaaOraC
namespace Go.Fw
set_option maxRecDepth 4000
open Go.Proofs
set_option maxHeartbeats 1000000
/-- so many steps on -/
def itr (l : List Int) : Nat → Int → Int
  | 0, i => i
  | k + 1, i => stp l (itr l k i)
def onC (l : List Int) (i : Int) : Bool := (List.range l.length).any fun k => decide (itr l (k + 1) i = i)
theorem onC_iff {l : List Int} {i : Int} : onC l i = true ↔ ∃ k, k < l.length ∧ itr l (k + 1) i = i := by simp [onC]
def cycU (l : List Int) (n : Nat) : List Int := ((List.range n).filter fun (j : Nat) => onC l (j : Int)).map fun (j : Nat) => (j : Int)
def cycV (l : List Int) : List Int := cycU l l.length
theorem cycU_succ (l : List Int) (n : Nat) : cycU l (n + 1) = if onC l (n : Int) then cycU l n ++ [(n : Int)] else cycU l n := by
  simp only [cycU, List.range_succ, List.filter_append, List.map_append]
  cases h : onC l (n : Int) <;> simp [h]
theorem cycU_len (l : List Int) (n : Nat) : (cycU l n).length ≤ n := by
  simp only [cycU, List.length_map]
  exact Nat.le_trans (List.length_filter_le _ _) (by simp)
theorem itr_neg {l : List Int} {i : Int} {k : Nat} (h : itr l k i < 0) (m : Nat) : itr l (k + m + 1) i = -1 := by
  induction m with
  | zero => show stp l (itr l k i) = -1; rw [stp, if_neg (fun hc => by have := hc.1.1; omega)]
  | succ m ih => show stp l (itr l (k + m + 1) i) = -1; rw [ih, stp, if_neg (fun hc => by have := hc.1.1; omega)]
theorem onC_ff {l : List Int} {i : Int} {k : Nat} (hi : 0 ≤ i) (hk : ∀ j, j < k → itr l (j + 1) i ≠ i) (h : l.length ≤ k ∨ itr l k i < 0) : onC l i = false := by
  cases h2 : onC l i with
  | false => rfl
  | true =>
    obtain ⟨j, h3, h4⟩ := onC_iff.1 h2
    rcases Nat.lt_or_ge j k with h5 | h5
    · exact absurd h4 (hk j h5)
    · rcases h with h | h
      · omega
      · have := itr_neg h (j - k)
        rw [show k + (j - k) + 1 = j + 1 by omega] at this
        omega
theorem k_refCycle (l : List Int) (t : Tg) (hl : l.length < 100000) : Con Try.prog 13 [.fs t 1 (ints l)] [] (.ov 1 0 0 (cycV l).length) [.arr none 1 (ints (cycV l))] := by
  refine spec_of_run ttok mixed (T0 := 269485949) (ts := [.tmp 2]) 35 rfl rfl rfl rfl (by simp) rfl ?_
  conv => whnf
  repeat' (first | ((first | ((with_reducible apply Nm.mk); focus ((try simp only [lns]); exact rfl)) | (with_reducible apply Frz.l)) <;> conv => whnf) | fail)
  refine LoopN.adopt 3 1 rfl (by simp) ?_
  refine loop_keep ttok mixed (T0 := 269485949) [0, 8] (ι := {n : Nat // n ≤ l.length})
    (fun i => [(3, .ov 1 0 0 (cycU l i.1).length), (9, int (i.1 : Int))])
    (fun i => [.arr none 1 (ints (cycU l i.1))]) (fun i => l.length - i.1) ⟨0, by omega⟩ ?_
  conv => whnf
  repeat' (first | ((apply Same.mk rfl); (conv => whnf)) | ((with_reducible apply Frz.l) <;> conv => whnf) | fail)
  rintro ⟨n, hn⟩
  dsimp only
  conv => whnf
  by_cases hnl : n < l.length
  · have hcl := cycU_len l n
    repeat' (first | ((first | ((with_reducible apply Bif.dec) <;> intro h <;> (try simp only [lns] at h) <;> (try (exfalso; omega))) | (with_reducible apply Frz.l)) <;> conv => whnf) | fail)
    refine loop_keep ttok mixed (T0 := 269485949) [0, 4, 8, 9] (ι := {k : Nat // k ≤ l.length ∧ ∀ j, j < k → itr l (j + 1) (n : Int) ≠ (n : Int)})
      (fun i => [(3, .ov 1 0 0 (cycU l n).length), (5, int (itr l i.1 (n : Int))), (6, int (i.1 : Int))])
      (fun _ => [.arr none 1 (ints (cycU l n))]) (fun i => l.length - i.1) ⟨0, by omega, fun j hj => by omega⟩ ?_
    conv => whnf
    repeat' (first | ((apply Same.mk rfl); (conv => whnf)) | ((with_reducible apply Frz.l) <;> conv => whnf) | fail)
    rintro ⟨k, hk, he⟩
    dsimp only
    have no : (l.length ≤ k ∨ itr l k (n : Int) < 0) → cycU l (n + 1) = cycU l n := fun h => by
      rw [cycU_succ, onC_ff (by omega) he h]; rfl
    conv => whnf
    by_cases hc : k < l.length ∧ 0 ≤ itr l k (n : Int)
    · have cs := k_step l t (itr l k (n : Int))
      rw [show stp l (itr l k (n : Int)) = itr l (k + 1) (n : Int) from rfl] at cs
      by_cases h6 : itr l (k + 1) (n : Int) = (n : Int)
      · have e : cycU l (n + 1) = cycU l n ++ [(n : Int)] := by rw [cycU_succ, onC_iff.2 ⟨k, hc.1, h6⟩]; rfl
        have e3 : (cycU l (n + 1)).length = (cycU l n).length + 1 := by rw [e]; simp
        repeat' (first | ((first | (with_reducible apply Nm.snoc _ (rfl)) | ((with_reducible apply Nm.mk); focus ((try simp only [lns]); exact rfl)) | ((with_reducible apply Wr.i64); focus omega) | ((with_reducible apply Need.mk); focus first | (simp only [lns]; omega) | (unfold roomOK; simp only [lns]; omega)) | (apply CallN.mk (cs)) | (with_reducible apply Bif.T) | ((with_reducible first | apply Bif.dec | apply Bif.beq) <;> intro h <;> (try simp only [lns] at h) <;> (try (exfalso; omega))) | (with_reducible apply Alt.l) | (with_reducible apply Frz.l)) <;> conv => whnf) | fail)
        (refine ⟨⟨n + 1, hnl⟩, ?_⟩; (try dsimp only); conv => whnf); repeat' (first | with_reducible apply True.intro | ((with_reducible apply Same.mk); (focus (first | (rw [e3]; done) | (rw [e]; done) | fail)); (conv => whnf)) | ((first | ((with_reducible apply Need.mk); focus omega) | (with_reducible apply Same.rfl) | (apply Same.int; focus rfl) | (with_reducible apply Turn.l) | (with_reducible apply Frz.l)) <;> conv => whnf) | fail)
      · repeat' (first | ((first | ((with_reducible apply Nm.mk); focus ((try simp only [lns]); exact rfl)) | ((with_reducible apply Wr.i64); focus omega) | (apply CallN.mk (cs)) | (with_reducible apply Bif.T) | ((with_reducible first | apply Bif.dec | apply Bif.beq) <;> intro h <;> (try simp only [lns] at h) <;> (try (exfalso; omega))) | (with_reducible apply Frz.l)) <;> conv => whnf) | fail)
        (refine ⟨⟨k + 1, hc.1, fun j hj => by
          rcases Nat.lt_or_ge j k with h8 | h8
          · exact he j h8
          · rw [show j = k by omega]; exact h6⟩, ?_⟩; (try dsimp only); conv => whnf); repeat' (first | with_reducible apply True.intro | ((apply Same.mk rfl); (conv => whnf)) | ((first | ((with_reducible apply Need.mk); focus omega) | (with_reducible apply Turn.l) | (with_reducible apply Frz.l)) <;> conv => whnf) | fail)
    · have e := no (by omega)
      repeat' (first | ((first | ((with_reducible apply Nm.mk); focus ((try simp only [lns]); exact rfl)) | ((with_reducible apply Wr.i64); focus omega) | (with_reducible first | apply Bif.T | apply Bif.F) | ((with_reducible apply Bif.dec) <;> intro h <;> (try simp only [lns] at h) <;> (try (exfalso; omega))) | (with_reducible apply Frz.l)) <;> conv => whnf) | fail)
      all_goals ((refine ⟨⟨n + 1, hnl⟩, ?_⟩; (try dsimp only); conv => whnf); repeat' (first | with_reducible apply True.intro | ((with_reducible apply Same.mk); (focus (first | (rw [e]; done) | fail)); (conv => whnf)) | ((first | ((with_reducible apply Need.mk); focus omega) | (with_reducible apply Same.rfl) | (apply Same.int; focus rfl) | (with_reducible apply Turn.l) | (with_reducible apply Frz.l)) <;> conv => whnf) | fail))
  · have e : n = l.length := by omega
    subst e
    repeat' (first | with_reducible apply True.intro | ((apply Same.mk rfl); (conv => whnf)) | ((first | ((with_reducible apply Bif.dec) <;> intro h <;> (try simp only [lns] at h) <;> (try (exfalso; omega))) | (with_reducible apply Cut.l) | (with_reducible apply Frz.l)) <;> conv => whnf) | fail)
end Go.Fw
