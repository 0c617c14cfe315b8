/- Plain law: lists that are sorted by a key, searched, set and inserted into. -/
import Derived.Test.YtlkhjalnnciocaaGreatPl
namespace Go.Fw
set_option maxRecDepth 4000
structure CmpOK {β : Type} (cm : β → β → Int) : Prop where
  zero : ∀ {a b}, cm a b = 0 ↔ a = b
  anti : ∀ a b, cm a b = - cm b a
  trans : ∀ {a b c}, cm a b < 0 → cm b c < 0 → cm a c < 0
theorem bsA_lo {α : Type} [Inhabited α] {c : α → Int} : ∀ {l : List α} {k : Nat}, k < bsA c l → c (gt l k) < 0
  | [], k, h => by simp [bsA] at h
  | x :: l, k, h => by
    by_cases hx : c x < 0
    · cases k with
      | zero => exact hx
      | succ k =>
        have : k < bsA c l := by simpa [bsA, List.takeWhile_cons, hx] using h
        exact bsA_lo (l := l) this
    · simp [bsA, List.takeWhile_cons, hx] at h
theorem bsA_hi {α : Type} [Inhabited α] {c : α → Int} : ∀ {l : List α}, bsA c l < l.length → ¬ c (gt l (bsA c l)) < 0
  | [], h => by simp at h
  | x :: l, h => by
    by_cases hx : c x < 0
    · have e : bsA c (x :: l) = bsA c l + 1 := by simp [bsA, List.takeWhile_cons, hx]
      rw [e] at h ⊢
      exact bsA_hi (l := l) (by simpa using h)
    · have e : bsA c (x :: l) = 0 := by simp [bsA, List.takeWhile_cons, hx]
      rw [e]
      exact hx
theorem bsA_le {α : Type} [Inhabited α] (c : α → Int) (l : List α) : bsA c l ≤ l.length := (List.takeWhile_sublist _).length_le
theorem cut3 {α : Type} [Inhabited α] {l : List α} {k : Nat} (h : k < l.length) : l = l.take k ++ gt l k :: l.drop (k + 1) := by
  rw [← drop_gt h, List.take_append_drop]
section
variable {α β : Type} [Inhabited α] {cm : β → β → Int} {κ : α → β}
/-- A list of at most n good elements in the order of their keys. -/
def okL (n : Nat) (ok : α → Bool) (cm : β → β → Int) (κ : α → β) (l : List α) : Bool :=
  decide (l.length ≤ n ∧ ∀ i, i < l.length → ok (gt l i) = true ∧ (0 < i → cm (κ (gt l (i - 1))) (κ (gt l i)) < 0))
variable {n : Nat} {ok : α → Bool}
theorem okL_len {l : List α} (h : okL n ok cm κ l = true) : l.length ≤ n := by rw [okL, decide_eq_true_eq] at h; exact h.1
theorem okL_ok {l : List α} (h : okL n ok cm κ l = true) {i : Nat} (hi : i < l.length) : ok (gt l i) = true := by rw [okL, decide_eq_true_eq] at h; exact (h.2 i hi).1
theorem okL_long {l : List α} (h : n < l.length) : false = okL n ok cm κ l := by symm; rw [okL, decide_eq_false_iff_not]; omega
theorem okL_ff {l : List α} {i : Nat} (hi : i < l.length) (h : ¬ (ok (gt l i) = true ∧ (0 < i → cm (κ (gt l (i - 1))) (κ (gt l i)) < 0))) : false = okL n ok cm κ l := by
  symm
  rw [okL, decide_eq_false_iff_not]
  exact fun ⟨_, g⟩ => h (g i hi)
theorem okL_tt {l : List α} (h : l.length ≤ n) (g : ∀ i, i < l.length → ok (gt l i) = true ∧ (0 < i → cm (κ (gt l (i - 1))) (κ (gt l i)) < 0)) : true = okL n ok cm κ l := by
  symm
  rw [okL, decide_eq_true_eq]
  exact ⟨h, g⟩
theorem okL_lt (C : CmpOK cm) {l : List α} (h : okL n ok cm κ l = true) {i j : Nat} (hij : i < j) (hj : j < l.length) : cm (κ (gt l i)) (κ (gt l j)) < 0 := by
  rw [okL, decide_eq_true_eq] at h
  obtain ⟨d, rfl⟩ : ∃ d, j = i + 1 + d := ⟨j - (i + 1), by omega⟩
  clear hij
  induction d with
  | zero => exact (h.2 (i + 1) (by omega)).2 (by omega)
  | succ d ih => exact C.trans (ih (by omega)) ((h.2 (i + 1 + (d + 1)) (by omega)).2 (by omega))
/-- Where a key stands, or belongs. -/
def atK (cm : β → β → Int) (κ : α → β) (l : List α) (t : β) : Nat := bsA (fun a => cm (κ a) t) l
def fndK (cm : β → β → Int) (κ : α → β) (l : List α) (t : β) : Bool := bsF (fun a => cm (κ a) t) l
theorem atK_le (l : List α) (t : β) : atK cm κ l t ≤ l.length := bsA_le _ l
theorem atK_lo {l : List α} {t : β} {i : Nat} (h : i < atK cm κ l t) : cm (κ (gt l i)) t < 0 := bsA_lo (c := fun a => cm (κ a) t) h
theorem atK_ge {l : List α} {t : β} (h : atK cm κ l t < l.length) : ¬ cm (κ (gt l (atK cm κ l t))) t < 0 := bsA_hi (c := fun a => cm (κ a) t) h
theorem fndK_iff (C : CmpOK cm) {l : List α} {t : β} : fndK cm κ l t = true ↔ atK cm κ l t < l.length ∧ κ (gt l (atK cm κ l t)) = t := by
  show (decide (atK cm κ l t < l.length) && (cm (κ (gt l (atK cm κ l t))) t == 0)) = true ↔ _
  simp only [Bool.and_eq_true, decide_eq_true_eq, beq_iff_eq, C.zero]
theorem atK_hi (C : CmpOK cm) {l : List α} {t : β} (h : okL n ok cm κ l = true) {i : Nat} (hi : atK cm κ l t < i) (hl : i < l.length) : 0 < cm (κ (gt l i)) t := by
  have h1 := atK_ge (cm := cm) (κ := κ) (l := l) (t := t) (by omega)
  have h2 := okL_lt C h hi hl
  have h3 := C.anti (κ (gt l i)) t
  rcases Int.lt_trichotomy 0 (cm (κ (gt l (atK cm κ l t))) t) with h4 | h4 | h4
  · have h5 := C.anti (κ (gt l (atK cm κ l t))) t
    have := C.trans (a := t) (b := κ (gt l (atK cm κ l t))) (c := κ (gt l i)) (by omega) h2
    omega
  · rw [C.zero.1 h4.symm] at h2
    omega
  · omega
theorem atK_pos (C : CmpOK cm) {l : List α} {t : β} (hf : fndK cm κ l t = false) (hl : atK cm κ l t < l.length) : 0 < cm (κ (gt l (atK cm κ l t))) t := by
  have h1 := atK_ge (cm := cm) (κ := κ) hl
  have h2 : ¬ (cm (κ (gt l (atK cm κ l t))) t = 0) := fun h => by
    have := (fndK_iff C).2 ⟨hl, C.zero.1 h⟩
    rw [hf] at this; cases this
  omega
theorem mono_key (C : CmpOK cm) {l : List α} {t : β} (h : okL n ok cm κ l = true) : ∀ i j, i ≤ j → j < l.length → cm (κ (gt l j)) t < 0 → cm (κ (gt l i)) t < 0 := fun i j hij hj hc => by
  rcases Nat.lt_or_ge i j with h1 | h1
  · exact C.trans (okL_lt C h h1 hj) hc
  · rw [show i = j by omega]; exact hc
theorem key_other (C : CmpOK cm) {l : List α} {t : β} (h : okL n ok cm κ l = true) {i : Nat} (hi : i < l.length) (he : κ (gt l i) = t) : i = atK cm κ l t := by
  have h0 : cm (κ (gt l i)) t = 0 := C.zero.2 he
  rcases Nat.lt_trichotomy i (atK cm κ l t) with h1 | h1 | h1
  · have := atK_lo (cm := cm) (κ := κ) h1; omega
  · exact h1
  · have := atK_hi C h h1 hi; omega
/-- Set where the key stands. -/
theorem okL_set (C : CmpOK cm) {l : List α} {x : α} (h : okL n ok cm κ l = true) (hf : fndK cm κ l (κ x) = true) (hx : ok x = true) : okL n ok cm κ (l.set (atK cm κ l (κ x)) x) = true := by
  obtain ⟨h1, h2⟩ := (fndK_iff C).1 hf
  generalize atK cm κ l (κ x) = a at h1 h2
  symm
  refine okL_tt (by rw [List.length_set]; exact okL_len h) fun i hi => ?_
  rw [List.length_set] at hi
  have key : ∀ j, j < l.length → κ (gt (l.set a x) j) = κ (gt l j) := fun j hj => by
    rw [gt_set h1]
    split
    · rename_i e; rw [e, h2]
    · rfl
  refine ⟨?_, fun h0 => ?_⟩
  · rw [gt_set h1]
    split
    · exact hx
    · exact okL_ok h hi
  · rw [key _ (by omega), key _ hi]
    exact okL_lt C h (by omega) hi
/-- Inserted where the key belongs. -/
theorem okL_ins (C : CmpOK cm) {l : List α} {x : α} (h : okL n ok cm κ l = true) (hf : fndK cm κ l (κ x) = false) (hx : ok x = true) (hn : l.length < n) :
    okL n ok cm κ (l.take (atK cm κ l (κ x)) ++ [x] ++ l.drop (atK cm κ l (κ x))) = true := by
  have hle := atK_le (cm := cm) (κ := κ) l (κ x)
  have lo : ∀ i, i < atK cm κ l (κ x) → cm (κ (gt l i)) (κ x) < 0 := fun i hi => atK_lo hi
  have hi' : ∀ i, atK cm κ l (κ x) ≤ i → i < l.length → cm (κ x) (κ (gt l i)) < 0 := fun i h1 h2 => by
    have h3 := C.anti (κ x) (κ (gt l i))
    rcases Nat.eq_or_lt_of_le h1 with e | e
    · have := atK_pos C hf (by omega); rw [e] at this; omega
    · have := atK_hi C h e h2; omega
  generalize atK cm κ l (κ x) = a at hle lo hi'
  have hL : (l.take a ++ [x] ++ l.drop a).length = l.length + 1 := by simp; omega
  have hg : ∀ i, gt (l.take a ++ [x] ++ l.drop a) i = if i < a then gt l i else if i = a then x else gt l (i - 1) := fun i => by
    rw [gt_app, gt_app]
    simp only [List.length_append, List.length_take, List.length_cons, List.length_nil, Nat.min_eq_left hle]
    by_cases h1 : i < a
    · rw [if_pos (by omega), if_pos h1, if_pos h1, gt_take h1]
    · by_cases h2 : i = a
      · rw [if_pos (by omega), if_neg h1, if_neg h1, if_pos h2, h2, Nat.sub_self]; rfl
      · rw [if_neg (by omega), if_neg h1, if_neg h2, gt_drop]
        congr 1; omega
  symm
  refine okL_tt (by omega) fun i hi => ?_
  rw [hL] at hi
  refine ⟨?_, fun h0 => ?_⟩
  · rw [hg]
    split
    · exact okL_ok h (by omega)
    · split
      · exact hx
      · exact okL_ok h (by omega)
  · rw [hg, hg]
    by_cases h1 : i < a
    · rw [if_pos (by omega), if_pos h1]; exact okL_lt C h (by omega) (by omega)
    · by_cases h2 : i = a
      · rw [if_pos (by omega), if_neg h1, if_pos h2]; exact lo _ (by omega)
      · rw [if_neg h1, if_neg h2]
        by_cases h3 : i - 1 = a
        · rw [if_neg (by omega), if_pos h3]; exact hi' _ (by omega) (by omega)
        · rw [if_neg (by omega), if_neg h3]; exact okL_lt C h (by omega) (by omega)
/-- Part of it. -/
theorem okL_sub {l m : List α} (C : CmpOK cm) (h : okL n ok cm κ l = true) (hs : m.Sublist l) : okL n ok cm κ m = true := by
  have pw : l.Pairwise fun a b => cm (κ a) (κ b) < 0 := by
    rw [List.pairwise_iff_getElem]
    intro i j hi hj hij
    rw [← gt_eq hi, ← gt_eq hj]
    exact okL_lt C h hij hj
  have pm := pw.sublist hs
  symm
  refine okL_tt (Nat.le_trans hs.length_le (okL_len h)) fun i hi => ⟨?_, fun h0 => ?_⟩
  · obtain ⟨j, hj, e⟩ := List.getElem_of_mem (hs.subset (gt_mem hi))
    rw [← e, ← gt_eq hj]
    exact okL_ok h hj
  · rw [List.pairwise_iff_getElem] at pm
    rw [gt_eq (by omega), gt_eq hi]
    exact pm _ _ (by omega) hi (by omega)
end
end Go.Fw
