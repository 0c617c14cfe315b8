/- Lists into which an element is put: plain laws. -/
import Derived.Test.YtlkhjalnnciocaaGreatOrd
namespace Go.Fw
set_option maxRecDepth 4000
open Go.Proofs
theorem lst_ins {α : Type} {f : α → SV} {l : List α} {a : Nat} {z : SV} {x : α} (ha : a ≤ l.length) : ((lst f l).take a ++ [z] ++ (lst f l).drop a).set a (f x) = lst f (l.take a ++ [x] ++ l.drop a) := by
  simp only [lst, ← List.map_take, ← List.map_drop]
  have h1 : (List.map f (List.take a l)).length = a := by simp [ha]
  rw [List.append_assoc, List.set_append_right _ _ (by omega), h1, Nat.sub_self]
  simp
theorem lst_ins' {α : Type} {f : α → SV} {l : List α} {a : Nat} {z : SV} {x : α} (ha : a ≤ l.length) : (lst f (l.take a) ++ [z] ++ lst f (l.drop a)).set a (f x) = lst f (l.take a ++ [x] ++ l.drop a) := by
  have := lst_ins (f := f) (z := z) (x := x) ha
  simpa only [lst, List.map_take, List.map_drop] using this
theorem ins_get {α : Type} {l : List α} {a : Nat} {z : α} (ha : a ≤ l.length) : (l.take a ++ [z] ++ l.drop a)[a]? = some z := by
  have h1 : (List.take a l).length = a := by simp [ha]
  rw [List.append_assoc, List.getElem?_append_right (by omega), h1, Nat.sub_self]
  rfl
/-- What has been put out after k elements. -/
def outR {α : Type} (l : List α) (a : Nat) (f : Bool) (x : α) (k : Nat) : List α := if k ≤ a then l.take k else l.take a ++ [x] ++ (l.take k).drop (a + if f then 1 else 0)
section
variable {α : Type} {l : List α} {a k : Nat} {f : Bool} {x : α}
theorem outR_le (h : k ≤ a) : outR l a f x k = l.take k := if_pos h
theorem outR_gt (h : a < k) : outR l a f x k = l.take a ++ [x] ++ (l.take k).drop (a + if f then 1 else 0) := if_neg (by omega)
theorem outR_lo [Inhabited α] (h : k < a) (hk : k < l.length) : outR l a f x (k + 1) = outR l a f x k ++ [gt l k] := by
  rw [outR_le (by omega), outR_le (by omega), take_gt hk]
theorem outR_mid0 [Inhabited α] (hk : a < l.length) : outR l a false x (a + 1) = outR l a false x a ++ [x] ++ [gt l a] := by
  rw [outR_gt (by omega), outR_le (by omega)]
  congr 1
  simp only [Bool.false_eq_true, if_false, Nat.add_zero]
  rw [take_gt hk, List.drop_append_of_le_length (by simp; omega), List.drop_eq_nil_of_le (by simp; omega)]; rfl
theorem outR_mid1 (hk : a < l.length) : outR l a true x (a + 1) = outR l a true x a ++ [x] := by
  rw [outR_gt (by omega), outR_le (by omega)]
  simp only [if_true]
  rw [List.drop_eq_nil_of_le (by simp; omega), List.append_nil]
theorem outR_hi [Inhabited α] (h : a < k) (hk : k < l.length) : outR l a f x (k + 1) = outR l a f x k ++ [gt l k] := by
  rw [outR_gt (by omega), outR_gt h, take_gt hk, List.drop_append_of_le_length (by rw [List.length_take]; split <;> omega), ← List.append_assoc]
theorem outR_len (ha : a ≤ l.length) (hk : k ≤ l.length) : (outR l a f x k).length ≤ k + 1 := by
  unfold outR; split
  · simp; omega
  · simp; split <;> omega
theorem outR_ins (ha : a ≤ l.length) : (if l.length ≤ a then outR l a false x l.length ++ [x] else outR l a false x l.length) = l.take a ++ [x] ++ l.drop a := by
  split
  · have : a = l.length := by omega
    subst this
    simp [outR]
  · rw [outR, if_neg (by omega)]; simp
theorem outR_set (ha : a < l.length) : outR l a true x l.length = l.set a x := by
  rw [outR, if_neg (by omega), List.set_eq_take_append_cons_drop, if_pos ha]; simp
end
end Go.Fw
