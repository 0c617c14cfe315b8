/- Plain laws of lists: where the first such element is, what is left behind a search. -/
import Derived.Test.YtlkhjalnnciocaaGreatTape
namespace Go.Fw
set_option maxRecDepth 4000
section
variable {α : Type} [Inhabited α]
def idxF (p : α → Bool) (l : List α) : Int := match l.findIdx? p with | some i => (i : Int) | none => -1
theorem idxF_some {p : α → Bool} {l : List α} {k : Nat} (hk : k < l.length) (hp : p (gt l k) = true) (h : ∀ j, j < k → p (gt l j) = false) : idxF p l = (k : Int) := by
  have : l.findIdx? p = some k := by
    rw [List.findIdx?_eq_some_iff_getElem]
    refine ⟨hk, by rw [← gt_eq hk]; exact hp, fun j hj => ?_⟩
    rw [← gt_eq (by omega)]
    simp [h j hj]
  rw [idxF, this]
theorem idxF_none {p : α → Bool} {l : List α} (h : ∀ j, j < l.length → p (gt l j) = false) : idxF p l = -1 := by
  have : l.findIdx? p = none := by
    rw [List.findIdx?_eq_none_iff]
    intro x hx
    obtain ⟨i, hi, rfl⟩ := List.getElem_of_mem hx
    rw [← gt_eq hi]
    simp [h i hi]
  rw [idxF, this]
theorem idxF_cases (p : α → Bool) (l : List α) : (idxF p l = -1 ∧ ∀ j, j < l.length → p (gt l j) = false) ∨ ∃ k, k < l.length ∧ idxF p l = (k : Int) ∧ p (gt l k) = true ∧ ∀ j, j < k → p (gt l j) = false := by
  cases h : l.findIdx? p with
  | none =>
    left
    refine ⟨by rw [idxF, h], fun j hj => ?_⟩
    rw [List.findIdx?_eq_none_iff] at h
    simpa using h _ (gt_mem hj)
  | some k =>
    right
    rw [List.findIdx?_eq_some_iff_getElem] at h
    obtain ⟨h1, h2, h3⟩ := h
    exact ⟨k, h1, idxF_some h1 (by rw [gt_eq h1]; exact h2) (fun j hj => by rw [gt_eq (by omega)]; simpa using h3 j hj), by rw [gt_eq h1]; exact h2, fun j hj => by rw [gt_eq (by omega)]; simpa using h3 j hj⟩
theorem filter_all {p : α → Bool} {l : List α} (h : ∀ j, j < l.length → p (gt l j) = true) : l.filter p = l := by
  rw [List.filter_eq_self]
  intro x hx
  obtain ⟨i, hi, rfl⟩ := List.getElem_of_mem hx
  rw [← gt_eq hi]; exact h i hi
theorem swap_mem {w : List α} {i j : Nat} (hi : i < w.length) (hj : j < w.length) {x : α} (h : x ∈ (w.set i (gt w j)).set j (gt w i)) : x ∈ w := by
  rcases List.mem_or_eq_of_mem_set h with h | rfl
  · rcases List.mem_or_eq_of_mem_set h with h | rfl
    · exact h
    · exact gt_mem hj
  · exact gt_mem hi
theorem filter_snoc {p : α → Bool} {l : List α} {j : Nat} (hj : j < l.length) : (l.take (j + 1)).filter p = (l.take j).filter p ++ if p (gt l j) = true then [gt l j] else [] := by
  rw [take_gt hj, List.filter_append]
  congr 1
  simp only [List.filter_cons, List.filter_nil]
/-- the state of DeleteFunc -/
structure Del (p : α → Bool) (l : List α) (i j : Nat) (w : List α) : Prop where
  len : w.length = l.length
  ij : i ≤ j
  jl : j ≤ l.length
  low : w.take i = (l.take j).filter (fun a => !p a)
  high : w.drop j = l.drop j
theorem Del.start {p : α → Bool} {l : List α} {k : Nat} (hk : k < l.length) (hp : p (gt l k) = true) (h : ∀ j, j < k → p (gt l j) = false) : Del p l k (k + 1) l :=
  ⟨rfl, by omega, by omega, by
    rw [filter_snoc hk]
    simp only [hp, Bool.not_true, Bool.false_eq_true, if_false, List.append_nil]
    rw [filter_all]
    intro j hj
    rw [List.length_take] at hj
    rw [gt_take (by omega), h j (by omega)]; rfl, rfl⟩
theorem Del.get {p : α → Bool} {l w : List α} {i j : Nat} (d : Del p l i j w) (hj : j < l.length) : gt w j = gt l j := by
  have : gt (w.drop j) 0 = gt (l.drop j) 0 := by rw [d.high]
  rwa [gt_drop, gt_drop] at this
omit [Inhabited α] in
theorem drop_next {l m : List α} {j : Nat} (h : l.drop j = m.drop j) : l.drop (j + 1) = m.drop (j + 1) := by
  rw [show j + 1 = j + 1 from rfl, ← List.drop_drop, ← List.drop_drop, h]
theorem Del.drop {p : α → Bool} {l w : List α} {i j : Nat} (d : Del p l i j w) (hj : j < l.length) (hp : p (gt l j) = true) : Del p l i (j + 1) w :=
  ⟨d.len, by have := d.ij; omega, hj, by rw [filter_snoc hj]; simp [hp, d.low], drop_next d.high⟩
theorem Del.keep {p : α → Bool} {l w : List α} {i j : Nat} (d : Del p l i j w) (hj : j < l.length) (hp : p (gt l j) = false) : Del p l (i + 1) (j + 1) (w.set i (gt l j)) := by
  have h1 := d.ij
  have h2 := d.len
  refine ⟨by simp [h2], by omega, hj, ?_, ?_⟩
  · rw [take_gt (by simp; omega), filter_snoc hj, gt_set (by omega), if_pos rfl]
    simp only [hp, Bool.not_false, if_true]
    congr 1
    rw [← d.low, List.take_set_of_le (Nat.le_refl i)]
  · rw [List.drop_set_of_lt (by omega)]; exact drop_next d.high
omit [Inhabited α] in
theorem Del.done {p : α → Bool} {l w : List α} {i : Nat} (d : Del p l i l.length w) : w.take i = l.filter (fun a => !p a) ∧ i = (l.filter (fun a => !p a)).length := by
  have h := d.low
  rw [List.take_length] at h
  refine ⟨h, ?_⟩
  rw [← h, List.length_take]
  have := d.ij; have := d.len; omega
/-- where a search ends -/
def bsA (c : α → Int) (l : List α) : Nat := (l.takeWhile fun a => decide (c a < 0)).length
def bsF (c : α → Int) (l : List α) : Bool := decide (bsA c l < l.length) && (c (gt l (bsA c l)) == 0)
theorem bsA_eq {c : α → Int} : ∀ {l : List α} {i : Nat}, i ≤ l.length → (∀ k, k < i → c (gt l k) < 0) → (i < l.length → ¬ c (gt l i) < 0) → bsA c l = i
  | [], i, h, _, _ => by simp at h; subst h; rfl
  | a :: l, 0, _, _, h2 => by
    have : ¬ c a < 0 := h2 (by simp)
    simp [bsA, List.takeWhile_cons, this]
  | a :: l, i + 1, h, h1, h2 => by
    have h0 : c a < 0 := h1 0 (by omega)
    have ih := bsA_eq (c := c) (l := l) (i := i) (by simpa using h) (fun k hk => by have := h1 (k + 1) (by omega); simpa [gt] using this) (fun hi => by have := h2 (by simpa using hi); simpa [gt] using this)
    simp only [bsA] at ih ⊢
    simp [List.takeWhile_cons, h0, ih]
end
theorem Wr.half {x : Int} {n : Nat} {K : Int → Prop} (k : K ((x.toNat / 2 : Nat) : Int)) (h : 0 ≤ x ∧ x ≤ 9223372036854775807) (hn : n = 1 := by rfl) : Wr .i64 (x.fdiv (2 ^ n)) K := by
  subst hn
  have e : x.fdiv (2 ^ 1) = ((x.toNat / 2 : Nat) : Int) := by
    rw [Int.fdiv_eq_ediv_of_nonneg _ (by omega)]
    omega
  rw [e]
  exact Wr.i64 (by omega) k
theorem Ex2.mk {R O : SV → List OB → Prop} (r : SV) (hp : List OB) (o : O r hp) (h : R r hp) : ∃ r hp', R r hp' ∧ O r hp' := ⟨r, hp, h, o⟩
/-! What slices.Insert makes -/
section
variable {α : Type} {rows js : List α} {a z : α} {i A B : Nat}
theorem ins1 (hi : i < rows.length) (hj : 1 ≤ js.length) (hA : A = rows.length - i) (hB : B = rows.length + 1 - i) :
    List.take (i + 1) (rows ++ js) ++ List.take A (List.take B (List.drop i (rows ++ js))) ++ List.drop (i + 1 + (List.take A (List.take B (List.drop i (rows ++ js)))).length) (rows ++ js) = rows.take (i + 1) ++ rows.drop i ++ js.drop 1 := by
  subst hA hB; (apply List.ext_getElem?; intro kk; simp only [List.getElem?_append, List.getElem?_take, List.getElem?_drop, List.getElem?_replicate, List.length_append, List.length_take, List.length_drop, List.length_replicate, List.length_cons, List.length_nil, List.getElem?_cons, List.getElem?_nil]; repeat' (split <;> try (exfalso; omega))) <;> first | rfl | (congr 1; omega) | (symm; apply List.getElem?_eq_none; omega) | (apply List.getElem?_eq_none; omega) | (congr 2; omega) | (simp; omega)
theorem ins2 (hi : i < rows.length) (hA : 1 ≤ A) :
    List.take i (rows.take (i + 1) ++ rows.drop i ++ js.drop 1) ++ List.take A [a] ++ List.drop (i + (List.take A [a]).length) (rows.take (i + 1) ++ rows.drop i ++ js.drop 1) = rows.take i ++ [a] ++ rows.drop i ++ js.drop 1 := by
  rw [List.take_of_length_le (l := [a]) (by simpa using hA)]; (apply List.ext_getElem?; intro kk; simp only [List.getElem?_append, List.getElem?_take, List.getElem?_drop, List.getElem?_replicate, List.length_append, List.length_take, List.length_drop, List.length_replicate, List.length_cons, List.length_nil, List.getElem?_cons, List.getElem?_nil]; repeat' (split <;> try (exfalso; omega))) <;> first | rfl | (congr 1; omega) | (symm; apply List.getElem?_eq_none; omega) | (apply List.getElem?_eq_none; omega) | (congr 2; omega) | (simp; omega)
theorem ins3 (hi : i ≤ rows.length) : List.take (List.take i rows ++ [a] ++ List.drop i rows).length (rows.take i ++ [a] ++ rows.drop i ++ js) = List.take i rows ++ [a] ++ List.drop i rows := by
  rw [List.take_append_of_le_length (Nat.le_refl _), List.take_length]
theorem ins4 (hi : i < rows.length) (hA : 1 ≤ A) (hB : B = rows.length + 1 - i) :
    List.take i (rows.take i ++ List.replicate B z) ++ List.take A [a] ++ List.drop (i + (List.take A [a]).length) (rows.take i ++ List.replicate B z) = rows.take i ++ [a] ++ List.replicate (rows.length - i) z := by
  rw [List.take_of_length_le (l := [a]) (by simpa using hA)]; subst hB; (apply List.ext_getElem?; intro kk; simp only [List.getElem?_append, List.getElem?_take, List.getElem?_drop, List.getElem?_replicate, List.length_append, List.length_take, List.length_drop, List.length_replicate, List.length_cons, List.length_nil, List.getElem?_cons, List.getElem?_nil]; repeat' (split <;> try (exfalso; omega))) <;> first | rfl | (congr 1; omega) | (symm; apply List.getElem?_eq_none; omega) | (apply List.getElem?_eq_none; omega) | (congr 2; omega) | (simp; omega)
theorem ins5 (hi : i < rows.length) (hA : A = rows.length - i) (hB : B = rows.length - i) :
    List.take (i + 1) (rows.take i ++ [a] ++ List.replicate (rows.length - i) z) ++ List.take A (List.take B (List.drop i rows)) ++ List.drop (i + 1 + (List.take A (List.take B (List.drop i rows))).length) (rows.take i ++ [a] ++ List.replicate (rows.length - i) z) = List.take i rows ++ [a] ++ List.drop i rows := by
  subst hA hB; (apply List.ext_getElem?; intro kk; simp only [List.getElem?_append, List.getElem?_take, List.getElem?_drop, List.getElem?_replicate, List.length_append, List.length_take, List.length_drop, List.length_replicate, List.length_cons, List.length_nil, List.getElem?_cons, List.getElem?_nil]; repeat' (split <;> try (exfalso; omega))) <;> first | rfl | (congr 1; omega) | (symm; apply List.getElem?_eq_none; omega) | (apply List.getElem?_eq_none; omega) | (congr 2; omega) | (simp; omega)
end
theorem lst_splice {α : Type} {f : α → SV} {l : List α} {a b m : Nat} {z : SV} {Z : α} (h : z = f Z) : (lst f l).take a ++ List.replicate m z ++ (lst f l).drop b = lst f (l.take a ++ List.replicate m Z ++ l.drop b) := by
  subst h; simp [lst, List.map_take, List.map_drop]
theorem Nm.splice {α : Type} {f : α → SV} {l : List α} {a b m : Nat} {z : SV} {K : List SV → Prop} (Z : α) (h : z = f Z) (k : K (lst f (l.take a ++ List.replicate m Z ++ l.drop b))) : Nm ((lst f l).take a ++ List.replicate m z ++ (lst f l).drop b) K :=
  Nm.mk (lst_splice h) k
end Go.Fw
