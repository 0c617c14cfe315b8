/- TopDownward: the calls over tables as they stand in the law. -/
import Derived.Test.YtlkhjalnnciocaaGreatDwnE
namespace Go.Fw
set_option maxRecDepth 4000
open Go.Proofs
set_option maxHeartbeats 8000000
def stoV : List Ro → SV
  | [] => nilV
  | r :: l => .fs .no 20 (lst roV (r :: l))
theorem stoV_le (l : List Ro) : ArgLe (stoV l) (.fs .no 20 (lst roV l)) := by
  cases l with
  | nil => exact ArgLe.nil
  | cons r l => exact ArgLe.rfl
theorem insR_len (l : List Ro) (r : Ro) : (insR l r).length = if fnR l r.i = true then l.length else l.length + 1 := by
  have := atR_le l r.i
  unfold insR
  split
  · rw [List.length_set]
  · simp; omega
theorem insR_ne (l : List Ro) (r : Ro) : insR l r ≠ [] := by
  intro h
  have e := insR_len l r
  rw [h] at e
  split at e
  · rename_i hf
    have := (of_decide_eq_true hf).1
    simp at e; omega
  · simp at e
theorem k_sAccept (l : List Ro) (T : Tb l) (now x i s : Nat) (hi : i < 7) (hx : x ≠ 0 ∧ x ≤ 18446744073709551615) (hn : now ≤ 1000) (hs : s ≤ 255) (he : ∀ r ∈ l, now < r.exp) (ho : OldR l i s) :
    Con Tryz.prog 24 [stoV l, int (now : Int), q64 (x : Int), .agg [pfxV (tgt i), .v (.int .u8 (s : Int)), int 500]] []
      (.tup [.ov 20 0 0 (insR l ⟨i, x, s, now + 500⟩).length, bool true, int 0]) [.arr none 20 (lst roV (insR l ⟨i, x, s, now + 500⟩))] := by
  refine Con.le (args' := [.fs .no 20 (lst roV l), int (now : Int), q64 (x : Int), .agg [pfxV (tgt i), .v (.int .u8 (s : Int)), int 500]]) ?_ ⟨stoV_le l, ArgLe.rfl, ArgLe.rfl, ArgLe.rfl, True.intro⟩
  cases hf : fnR l i
  · have e : insR l ⟨i, x, s, now + 500⟩ = l.take (atR l i) ++ (⟨i, x, s, now + 500⟩ : Ro) :: l.drop (atR l i) := if_neg (by show ¬ fnR l i = true; rw [hf]; decide)
    have hl := insR_len l ⟨i, x, s, now + 500⟩
    rw [if_neg (by show ¬ fnR l i = true; rw [hf]; decide)] at hl
    rw [hl, e]
    exact k_sAcceptI l T now x i s hi hx hn hs hf
  · have e : insR l ⟨i, x, s, now + 500⟩ = l.set (atR l i) ⟨i, x, s, now + 500⟩ := if_pos hf
    rw [e, List.length_set]
    exact k_sAcceptF l T now x i s hi hx hn hs he ho hf
theorem k_sNextS (l : List Ro) (T : Tb l) (now i : Nat) (hi : i < 58) (hn : now ≤ 1000) (he : ∀ r ∈ l, now < r.exp) :
    Con Tryz.prog 26 [stoV l, int (now : Int), ipV (ipD i)] [] (if fnR l i = true then .tup [q64 ((gt l (atR l i)).via : Int), int 0] else .tup [q64 0, int 15]) [] :=
  Con.le (k_sNext l T now i hi hn he) ⟨stoV_le l, ArgLe.rfl, ArgLe.rfl, True.intro⟩
/-- A counter, one more. -/
def incC (a : Nat) : Nat := if a = 127 ∨ a = 255 then 0 else a + 1
theorem k_Increment (a : Nat) (h : a ≤ 255) : Con Tryz.prog 22 [.v (.int .u8 (a : Int))] [] (.v (.int .u8 (incC a : Int))) [] := by
  unfold incC
  by_cases g : a = 127 ∨ a = 255
  · rw [if_pos g]
    rcases g with rfl | rfl
    · refine spec_of_run ttok mixed (T0 := 261) (ts := [.tmp 2]) 11 rfl rfl rfl rfl (by simp) rfl ?_
      conv => whnf
      repeat' (first | with_reducible apply True.intro | ((first | (with_reducible apply Bif.T) | ((with_reducible apply Bif.beq) <;> intro h <;> (try simp only [lns] at h) <;> (try (exfalso; omega))) | (apply Same.int; focus rfl) | (with_reducible apply Frz.l)) <;> conv => whnf) | fail)
    · refine spec_of_run ttok mixed (T0 := 261) (ts := [.tmp 2]) 11 rfl rfl rfl rfl (by simp) rfl ?_
      conv => whnf
      repeat' (first | with_reducible apply True.intro | ((first | (with_reducible apply Bif.F) | ((with_reducible apply Bif.beq) <;> intro h <;> (try simp only [lns] at h) <;> (try (exfalso; omega))) | (apply Same.int; focus rfl) | (with_reducible apply Frz.l)) <;> conv => whnf) | fail)
  · rw [if_neg g]
    refine spec_of_run ttok mixed (T0 := 261) (ts := [.tmp 2]) 11 rfl rfl rfl rfl (by simp) rfl ?_
    conv => whnf
    repeat' (first | with_reducible apply True.intro | ((first | ((with_reducible apply Wr.u8); focus omega) | (with_reducible apply Bif.F) | ((with_reducible apply Bif.beq) <;> intro h <;> (try simp only [lns] at h) <;> (try (exfalso; omega))) | (apply Same.int; focus rfl) | (with_reducible apply Frz.l)) <;> conv => whnf) | fail)
def incN (a : Nat) : Nat → Nat
  | 0 => a
  | k + 1 => incC (incN a k)
/-- What is 1 to 14 increments older is neither newer nor the same. -/
theorem inc_old : ∀ (a : Fin 256) (k : Fin 14), newerC (a.1 : Int) (incN a.1 (k.1 + 1) : Int) = false ∧ a.1 ≠ incN a.1 (k.1 + 1) ∧ incN a.1 (k.1 + 1) ≤ 255 := by decide +kernel
end Go.Fw
