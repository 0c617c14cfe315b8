/- Plain law of sorting in place: ranges that are sorted, rotated, merged. -/
import Derived.Test.YtpmiaggdjgfjgaaOrd
namespace Go.Fw
set_option maxRecDepth 4000
section
variable {α : Type} [Inhabited α]
def swapL (l : List α) (i j : Nat) : List α := (l.set i (gt l j)).set j (gt l i)
theorem swapL_len (l : List α) (i j : Nat) : (swapL l i j).length = l.length := by simp [swapL]
theorem swapL_gt {l : List α} {i j : Nat} (hi : i < l.length) (hj : j < l.length) (x : Nat) : gt (swapL l i j) x = if x = j then gt l i else if x = i then gt l j else gt l x := by
  unfold swapL
  rw [gt_set (by rw [List.length_set]; exact hj), gt_set hi]
/-- w holds in [a, b) what l holds there, in some order; elsewhere they agree. -/
structure Rng (l w : List α) (a b : Nat) : Prop where
  len : w.length = l.length
  out : ∀ i, i < a ∨ b ≤ i → gt w i = gt l i
  inn : ∀ i, a ≤ i → i < b → ∃ j, a ≤ j ∧ j < b ∧ gt w i = gt l j
  mem : ∀ x, x ∈ w ↔ x ∈ l
theorem Rng.refl (l : List α) (a b : Nat) : Rng l l a b := ⟨rfl, fun _ _ => rfl, fun i h1 h2 => ⟨i, h1, h2, rfl⟩, fun _ => Iff.rfl⟩
theorem Rng.trans {l w v : List α} {a b : Nat} (h : Rng l w a b) (g : Rng w v a b) : Rng l v a b :=
  ⟨g.len.trans h.len, fun i hi => (g.out i hi).trans (h.out i hi), fun i h1 h2 => by
    obtain ⟨j, j1, j2, j3⟩ := g.inn i h1 h2
    obtain ⟨k, k1, k2, k3⟩ := h.inn j j1 j2
    exact ⟨k, k1, k2, j3.trans k3⟩, fun x => (g.mem x).trans (h.mem x)⟩
theorem Rng.up {l w : List α} {a b a' b' : Nat} (h : Rng l w a b) (ha : a' ≤ a) (hb : b ≤ b') : Rng l w a' b' :=
  ⟨h.len, fun i hi => h.out i (by omega), fun i h1 h2 => by
    by_cases hi : a ≤ i ∧ i < b
    · obtain ⟨j, j1, j2, j3⟩ := h.inn i hi.1 hi.2
      exact ⟨j, by omega, by omega, j3⟩
    · exact ⟨i, h1, h2, h.out i (by omega)⟩, h.mem⟩
theorem mem_gt {l : List α} {x : α} (h : x ∈ l) : ∃ i, i < l.length ∧ gt l i = x := by
  obtain ⟨i, hi, rfl⟩ := List.getElem_of_mem h
  exact ⟨i, hi, gt_eq hi⟩
theorem Rng.swap {l : List α} {a b i j : Nat} (hi : a ≤ i ∧ i < b) (hj : a ≤ j ∧ j < b) (hb : b ≤ l.length) : Rng l (swapL l i j) a b := by
  have g := swapL_gt (l := l) (i := i) (j := j) (by omega) (by omega)
  refine ⟨swapL_len _ _ _, fun x hx => ?_, fun x h1 h2 => ?_, fun x => ⟨fun hx => ?_, fun hx => ?_⟩⟩
  · rw [g, if_neg (by omega), if_neg (by omega)]
  · rw [g]
    repeat' split
    · exact ⟨i, by omega, by omega, rfl⟩
    · exact ⟨j, by omega, by omega, rfl⟩
    · exact ⟨x, h1, h2, rfl⟩
  · obtain ⟨k, hk, rfl⟩ := mem_gt hx
    rw [swapL_len] at hk
    rw [g]
    repeat' split
    all_goals exact gt_mem (by omega)
  · obtain ⟨k, hk, rfl⟩ := mem_gt hx
    have key : ∃ y, y < l.length ∧ gt (swapL l i j) y = gt l k := by
      by_cases h1 : k = i
      · exact ⟨j, by omega, by rw [g, if_pos rfl, h1]⟩
      · by_cases h2 : k = j
        · refine ⟨i, by omega, ?_⟩
          rw [g]
          by_cases h3 : i = j
          · rw [if_pos h3]; congr 1; omega
          · rw [if_neg h3, if_pos rfl, h2]
        · exact ⟨k, hk, by rw [g, if_neg h2, if_neg h1]⟩
    obtain ⟨y, y1, y2⟩ := key
    rw [← y2]
    exact gt_mem (by rw [swapL_len]; exact y1)
/-- A total order up to 0. -/
structure PreOK (c : α → α → Int) : Prop where
  anti : ∀ x y, c x y = - c y x
  trans : ∀ {x y z}, c x y ≤ 0 → c y z ≤ 0 → c x z ≤ 0
variable {c : α → α → Int}
omit [Inhabited α] in
theorem CmpOK.pre (C : CmpOK c) : PreOK c := ⟨C.anti, fun {x y z} h g => by
  by_cases h1 : c x y < 0
  · by_cases h2 : c y z < 0
    · have := C.trans h1 h2; omega
    · have : y = z := C.zero.1 (by omega)
      subst this; exact h
  · have : x = y := C.zero.1 (by omega)
    subst this; exact g⟩
def Srt (c : α → α → Int) (l : List α) (a b : Nat) : Prop := ∀ i j, a ≤ i → i < j → j < b → c (gt l i) (gt l j) ≤ 0
theorem Srt.sub {l : List α} {a b a' b' : Nat} (h : Srt c l a b) (ha : a ≤ a') (hb : b' ≤ b) : Srt c l a' b' := fun i j h1 h2 h3 => h i j (by omega) h2 (by omega)
theorem Srt.small {l : List α} {a b : Nat} (h : b ≤ a + 1) : Srt c l a b := fun i j h1 h2 h3 => by omega
theorem Srt.same {l w : List α} {a b : Nat} (h : Srt c l a b) (e : ∀ i, a ≤ i → i < b → gt w i = gt l i) : Srt c w a b := fun i j h1 h2 h3 => by
  rw [e i h1 (by omega), e j (by omega) h3]; exact h i j h1 h2 h3
omit [Inhabited α] in
theorem PreOK.refl (C : PreOK c) (x : α) : c x x ≤ 0 := by have := C.anti x x; omega
omit [Inhabited α] in
theorem PreOK.lt_l (C : PreOK c) {x y z : α} (h : c x y ≤ 0) (g : c y z < 0) : c x z < 0 := by
  by_cases e : c x z < 0
  · exact e
  · have h1 := C.anti x z
    have h2 : c z y ≤ 0 := C.trans (by omega) h
    have h3 := C.anti z y
    omega
omit [Inhabited α] in
theorem PreOK.lt_r (C : PreOK c) {x y z : α} (h : c x y < 0) (g : c y z ≤ 0) : c x z < 0 := by
  by_cases e : c x z < 0
  · exact e
  · have h1 := C.anti x z
    have h2 : c y x ≤ 0 := C.trans g (by omega)
    have h3 := C.anti y x
    omega
/-- Sorted halves, the first nowhere above the second. -/
theorem Srt.join {l : List α} {a m b : Nat} (h1 : Srt c l a m) (h2 : Srt c l m b) (h : ∀ i j, a ≤ i → i < m → m ≤ j → j < b → c (gt l i) (gt l j) ≤ 0) : Srt c l a b := fun i j i1 i2 i3 => by
  by_cases e1 : j < m
  · exact h1 i j i1 i2 e1
  · by_cases e2 : m ≤ i
    · exact h2 i j e2 i2 i3
    · exact h i j i1 (by omega) (by omega) i3
/-! ### One pass of an insertion -/
/-- All pairs up to i are in order but those whose second one is j. -/
def InsJ (c : α → α → Int) (l : List α) (a i j : Nat) : Prop := a ≤ j ∧ j ≤ i ∧ ∀ x y, a ≤ x → x < y → y ≤ i → y ≠ j → c (gt l x) (gt l y) ≤ 0
theorem InsJ.start {l : List α} {a i : Nat} (h : Srt c l a i) (ha : a ≤ i) : InsJ c l a i i := ⟨ha, Nat.le_refl _, fun x y h1 h2 h3 h4 => h x y h1 h2 (by omega)⟩
theorem InsJ.step (C : PreOK c) {l : List α} {a i j : Nat} (h : InsJ c l a i j) (hj : a < j) (hl : i < l.length) (hc : c (gt l j) (gt l (j - 1)) < 0) : InsJ c (swapL l j (j - 1)) a i (j - 1) := by
  obtain ⟨h1, h2, h3⟩ := h
  have g := swapL_gt (l := l) (i := j) (j := j - 1) (by omega) (by omega)
  refine ⟨by omega, by omega, fun x y x1 x2 x3 x4 => ?_⟩
  rw [g, g]
  by_cases e1 : y = j
  · subst e1
    rw [if_neg (show ¬ y = y - 1 by omega), if_pos (rfl : y = y)]
    by_cases e2 : x = y - 1
    · rw [if_pos e2]; omega
    · rw [if_neg e2, if_neg (by omega)]
      exact h3 x (y - 1) x1 (by omega) (by omega) (by omega)
  · rw [if_neg x4, if_neg e1]
    by_cases e2 : x = j - 1
    · rw [if_pos e2]; exact h3 j y (by omega) (by omega) x3 e1
    · rw [if_neg e2]
      by_cases e3 : x = j
      · rw [if_pos e3]; exact h3 (j - 1) y (by omega) (by omega) x3 e1
      · rw [if_neg e3]; exact h3 x y x1 x2 x3 e1
theorem InsJ.stop (C : PreOK c) {l : List α} {a i j : Nat} (h : InsJ c l a i j) (hc : j = a ∨ ¬ c (gt l j) (gt l (j - 1)) < 0) : Srt c l a (i + 1) := fun x y x1 x2 x3 => by
  obtain ⟨h1, h2, h3⟩ := h
  by_cases e : y = j
  · subst e
    have h4 : c (gt l (y - 1)) (gt l y) ≤ 0 := by have := C.anti (gt l (y - 1)) (gt l y); omega
    by_cases e2 : x = y - 1
    · rw [e2]; exact h4
    · exact C.trans (h3 x (y - 1) x1 (by omega) (by omega) (by omega)) h4
  · exact h3 x y x1 x2 (by omega) e
/-! ### One element put into a sorted run -/
/-- The element at a has gone up to k. -/
def UpI (l w : List α) (a k : Nat) : Prop := w.length = l.length ∧ ∀ x, gt w x = if a ≤ x ∧ x < k then gt l (x + 1) else if x = k then gt l a else gt l x
theorem UpI.start (l : List α) (a : Nat) : UpI l l a a := ⟨rfl, fun x => by rw [if_neg (by omega)]; split <;> simp_all⟩
theorem UpI.step {l w : List α} {a k : Nat} (h : UpI l w a k) (ha : a ≤ k) (hk : k + 1 < l.length) : UpI l (swapL w k (k + 1)) a (k + 1) := by
  obtain ⟨h1, h2⟩ := h
  have g := swapL_gt (l := w) (i := k) (j := k + 1) (by omega) (by omega)
  refine ⟨by rw [swapL_len]; exact h1, fun x => ?_⟩
  rw [g, h2, h2, h2]
  by_cases e1 : x = k + 1
  · rw [if_pos e1, if_neg (by omega), if_pos rfl, if_neg (by omega), if_pos e1]
  · rw [if_neg e1]
    by_cases e2 : x = k
    · subst e2
      rw [if_pos rfl, if_neg (by omega), if_neg (by omega), if_pos ⟨by omega, by omega⟩]
    · rw [if_neg e2]
      by_cases e3 : a ≤ x ∧ x < k
      · rw [if_pos e3, if_pos ⟨by omega, by omega⟩]
      · rw [if_neg e3, if_neg e2, if_neg (by omega), if_neg e1]
theorem UpI.sorted (C : PreOK c) {l w : List α} {a i b : Nat} (h : UpI l w a (i - 1)) (hi : a + 1 ≤ i ∧ i ≤ b) (hs : Srt c l (a + 1) b) (lo : ∀ x, a + 1 ≤ x → x < i → c (gt l x) (gt l a) < 0) (hi2 : ∀ x, i ≤ x → x < b → ¬ c (gt l x) (gt l a) < 0) : Srt c w a b := by
  obtain ⟨_, h2⟩ := h
  intro x y x1 x2 x3
  rw [h2 x, h2 y]
  by_cases ex : x < i - 1
  · rw [if_pos ⟨x1, ex⟩]
    by_cases ey : y < i - 1
    · rw [if_pos ⟨by omega, ey⟩]; exact hs _ _ (by omega) (by omega) (by omega)
    · rw [if_neg (by omega)]
      by_cases ey2 : y = i - 1
      · rw [if_pos ey2]; have := lo (x + 1) (by omega) (by omega); omega
      · rw [if_neg ey2]; exact hs _ _ (by omega) (by omega) (by omega)
  · rw [if_neg (by omega)]
    rw [if_neg (show ¬ (a ≤ y ∧ y < i - 1) by omega), if_neg (show ¬ y = i - 1 by omega)]
    by_cases ex2 : x = i - 1
    · rw [if_pos ex2]
      have h5 := hi2 y (by omega) x3
      have := C.anti (gt l a) (gt l y)
      omega
    · rw [if_neg ex2]; exact hs _ _ (by omega) x2 x3
/-- The element at m has gone down to k. -/
def DnI (l w : List α) (m k : Nat) : Prop := w.length = l.length ∧ ∀ x, gt w x = if k < x ∧ x ≤ m then gt l (x - 1) else if x = k then gt l m else gt l x
theorem DnI.start (l : List α) (m : Nat) : DnI l l m m := ⟨rfl, fun x => by rw [if_neg (by omega)]; split <;> simp_all⟩
theorem DnI.step {l w : List α} {m k : Nat} (h : DnI l w m k) (hk : 0 < k ∧ k ≤ m) (hm : m < l.length) : DnI l (swapL w k (k - 1)) m (k - 1) := by
  obtain ⟨h1, h2⟩ := h
  have g := swapL_gt (l := w) (i := k) (j := k - 1) (by omega) (by omega)
  refine ⟨by rw [swapL_len]; exact h1, fun x => ?_⟩
  rw [g, h2, h2, h2]
  by_cases e1 : x = k - 1
  · rw [if_pos e1, if_neg (by omega), if_pos rfl, if_neg (by omega), if_pos e1]
  · rw [if_neg e1]
    by_cases e2 : x = k
    · subst e2
      rw [if_pos rfl, if_neg (by omega), if_neg (by omega), if_pos ⟨by omega, by omega⟩]
    · rw [if_neg e2]
      by_cases e3 : k < x ∧ x ≤ m
      · rw [if_pos e3, if_pos ⟨by omega, by omega⟩]
      · rw [if_neg e3, if_neg e2, if_neg (by omega), if_neg e1]
theorem DnI.sorted (C : PreOK c) {l w : List α} {a i m : Nat} (h : DnI l w m i) (hi : a ≤ i ∧ i ≤ m) (hs : Srt c l a m) (lo : ∀ x, a ≤ x → x < i → ¬ c (gt l m) (gt l x) < 0) (hi2 : ∀ x, i ≤ x → x < m → c (gt l m) (gt l x) < 0) : Srt c w a (m + 1) := by
  obtain ⟨_, h2⟩ := h
  intro x y x1 x2 x3
  rw [h2 x, h2 y]
  by_cases ey : i < y
  · rw [if_pos (show i < y ∧ y ≤ m by omega)]
    by_cases ex : i < x
    · rw [if_pos ⟨ex, by omega⟩]; exact hs _ _ (by omega) (by omega) (by omega)
    · rw [if_neg (by omega)]
      by_cases ex2 : x = i
      · rw [if_pos ex2]; have := hi2 (y - 1) (by omega) (by omega); omega
      · rw [if_neg ex2]; exact hs _ _ (by omega) (by omega) (by omega)
  · rw [if_neg (show ¬ (i < y ∧ y ≤ m) by omega), if_neg (show ¬ (i < x ∧ x ≤ m) by omega), if_neg (show ¬ x = i by omega)]
    by_cases ey2 : y = i
    · rw [if_pos ey2]
      have h5 := lo x x1 (by omega)
      have := C.anti (gt l x) (gt l m)
      omega
    · rw [if_neg ey2]; exact hs _ _ x1 x2 (by omega)
/-! ### Ranges that are swapped, rotated -/
/-- k of n elements at a and b have been swapped. -/
def SwpI (l w : List α) (a b k : Nat) : Prop := w.length = l.length ∧ ∀ x, gt w x = if a ≤ x ∧ x < a + k then gt l (b + (x - a)) else if b ≤ x ∧ x < b + k then gt l (a + (x - b)) else gt l x
theorem SwpI.start (l : List α) (a b : Nat) : SwpI l l a b 0 := ⟨rfl, fun x => by rw [if_neg (by omega), if_neg (by omega)]⟩
theorem SwpI.step {l w : List α} {a b n k : Nat} (h : SwpI l w a b k) (hab : a + n ≤ b) (hk : k < n) (hb : b + n ≤ l.length) : SwpI l (swapL w (a + k) (b + k)) a b (k + 1) := by
  obtain ⟨h1, h2⟩ := h
  have g := swapL_gt (l := w) (i := a + k) (j := b + k) (by omega) (by omega)
  refine ⟨by rw [swapL_len]; exact h1, fun x => ?_⟩
  rw [g, h2, h2, h2]
  by_cases e1 : x = b + k
  · subst e1
    rw [if_pos rfl, if_neg (by omega), if_neg (by omega), if_neg (by omega), if_pos ⟨by omega, by omega⟩]
    congr 1; omega
  · rw [if_neg e1]
    by_cases e2 : x = a + k
    · subst e2
      rw [if_pos rfl, if_neg (by omega), if_neg (by omega), if_pos ⟨by omega, by omega⟩]
      congr 1; omega
    · rw [if_neg e2]
      by_cases e3 : a ≤ x ∧ x < a + k
      · rw [if_pos e3, if_pos ⟨by omega, by omega⟩]
      · rw [if_neg e3, if_neg (show ¬ (a ≤ x ∧ x < a + (k + 1)) by omega)]
        by_cases e4 : b ≤ x ∧ x < b + k
        · rw [if_pos e4, if_pos ⟨by omega, by omega⟩]
        · rw [if_neg e4, if_neg (by omega)]
/-- [a, m) and [m, b) have changed places. -/
def Rot (l w : List α) (a m b : Nat) : Prop := w.length = l.length ∧ ∀ x, gt w x = if a ≤ x ∧ x < a + (b - m) then gt l (m + (x - a)) else if a + (b - m) ≤ x ∧ x < b then gt l (a + (x - (a + (b - m)))) else gt l x
/-- What is left to be rotated: i elements ahead of m, j behind it. -/
theorem Rot.left {l w v t : List α} {a m b i j : Nat} (hr : Rot l t a m b) (hw : ∀ x, gt t x = (if m - i ≤ x ∧ x < m - i + j then gt w (m + (x - (m - i))) else if m - i + j ≤ x ∧ x < m + j then gt w ((m - i) + (x - (m - i + j))) else gt w x))
    (hi : i ≤ m) (hij : j < i) (hv : SwpI w v (m - i) m j) : ∀ x, gt t x = (if m - (i - j) ≤ x ∧ x < m - (i - j) + j then gt v (m + (x - (m - (i - j)))) else if m - (i - j) + j ≤ x ∧ x < m + j then gt v ((m - (i - j)) + (x - (m - (i - j) + j))) else gt v x) := by
  intro x
  rw [hw]
  obtain ⟨_, hv⟩ := hv
  by_cases e1 : m - i ≤ x ∧ x < m - i + j
  · rw [if_pos e1, if_neg (by omega), if_neg (by omega), hv, if_pos e1]
  · rw [if_neg e1]
    by_cases e2 : m - i + j ≤ x ∧ x < m + j
    · rw [if_pos e2]
      by_cases e3 : x < m - (i - j) + j
      · rw [if_pos ⟨by omega, e3⟩, hv, if_neg (by omega), if_pos ⟨by omega, by omega⟩]
        congr 1; omega
      · rw [if_neg (by omega), if_pos ⟨by omega, by omega⟩, hv, if_neg (by omega), if_neg (by omega)]
        congr 1; omega
    · rw [if_neg e2, if_neg (by omega), if_neg (by omega), hv, if_neg e1, if_neg (by omega)]
theorem Rot.right {l w v t : List α} {a m b i j : Nat} (hr : Rot l t a m b) (hw : ∀ x, gt t x = (if m - i ≤ x ∧ x < m - i + j then gt w (m + (x - (m - i))) else if m - i + j ≤ x ∧ x < m + j then gt w ((m - i) + (x - (m - i + j))) else gt w x))
    (hi : i ≤ m) (hij : i < j) (hv : SwpI w v (m - i) (m + j - i) i) : ∀ x, gt t x = (if m - i ≤ x ∧ x < m - i + (j - i) then gt v (m + (x - (m - i))) else if m - i + (j - i) ≤ x ∧ x < m + (j - i) then gt v ((m - i) + (x - (m - i + (j - i)))) else gt v x) := by
  intro x
  rw [hw]
  obtain ⟨_, hv⟩ := hv
  by_cases e1 : m - i ≤ x ∧ x < m - i + j
  · rw [if_pos e1]
    by_cases e2 : x < m - i + (j - i)
    · rw [if_pos ⟨by omega, e2⟩, hv, if_neg (by omega), if_neg (by omega)]
    · rw [if_neg (by omega)]
      by_cases e3 : x < m + (j - i)
      · rw [if_pos ⟨by omega, e3⟩, hv, if_pos ⟨by omega, by omega⟩]
        congr 1; omega
      · omega
  · rw [if_neg e1]
    by_cases e2 : m - i + j ≤ x ∧ x < m + j
    · rw [if_pos e2, if_neg (by omega), if_neg (by omega), hv, if_neg (by omega), if_pos ⟨by omega, by omega⟩]
      congr 1; omega
    · rw [if_neg e2, if_neg (by omega), if_neg (by omega), hv, if_neg (by omega), if_neg (by omega)]
theorem Rot.none1 (l : List α) (m b : Nat) : Rot l l m m b := ⟨rfl, fun x => by
  by_cases e1 : m ≤ x ∧ x < m + (b - m)
  · rw [if_pos e1]; congr 1; omega
  · rw [if_neg e1, if_neg (by omega)]⟩
theorem Rot.none2 (l : List α) (a m : Nat) (h : a ≤ m) : Rot l l a m m := ⟨rfl, fun x => by
  rw [if_neg (by omega)]
  by_cases e1 : a + (m - m) ≤ x ∧ x < m
  · rw [if_pos e1]; congr 1; omega
  · rw [if_neg e1]⟩
theorem Rot.done {l w v t : List α} {a m b i : Nat} (hr : Rot l t a m b) (hl : v.length = l.length) (hw : ∀ x, gt t x = (if m - i ≤ x ∧ x < m - i + i then gt w (m + (x - (m - i))) else if m - i + i ≤ x ∧ x < m + i then gt w ((m - i) + (x - (m - i + i))) else gt w x))
    (hi : i ≤ m) (hv : SwpI w v (m - i) m i) : Rot l v a m b := ⟨hl, fun x => by
  have e : m - i + i = m := by omega
  rw [← hr.2 x, hw x, hv.2 x]
  simp only [e]⟩
/-! ### The symmetric merge -/
/-- Two sorted runs, cut and rotated so that everything ahead of mid is nowhere above what is behind it. -/
theorem sym_cut (C : PreOK c) {l w : List α} {a m b s e mid : Nat} (hs1 : Srt c l a m) (hs2 : Srt c l m b) (h1 : a ≤ s ∧ s ≤ m) (h2 : m ≤ e ∧ e ≤ b) (hn : s + e = mid + m) (hmid : s ≤ mid ∧ mid ≤ e)
    (p1 : a < s → e < b → c (gt l (s - 1)) (gt l e) ≤ 0) (p2 : s < m → m < e → c (gt l (e - 1)) (gt l s) ≤ 0) (hw : Rot l w s m e) :
    (Srt c w a s ∧ Srt c w s mid ∧ Srt c w mid e ∧ Srt c w e b) ∧ ∀ i j, a ≤ i → i < mid → mid ≤ j → j < b → c (gt w i) (gt w j) ≤ 0 := by
  obtain ⟨_, hw⟩ := hw
  have le1 : ∀ i j, a ≤ i → i ≤ j → j < m → c (gt l i) (gt l j) ≤ 0 := fun i j i1 i2 i3 => by
    by_cases h : i = j
    · subst h; exact C.refl _
    · exact hs1 i j i1 (by omega) i3
  have le2 : ∀ i j, m ≤ i → i ≤ j → j < b → c (gt l i) (gt l j) ≤ 0 := fun i j i1 i2 i3 => by
    by_cases h : i = j
    · subst h; exact C.refl _
    · exact hs2 i j i1 (by omega) i3
  have w1 : ∀ x, x < s → gt w x = gt l x := fun x h => by rw [hw, if_neg (by omega), if_neg (by omega)]
  have w2 : ∀ x, s ≤ x → x < mid → gt w x = gt l (m + (x - s)) := fun x g1 g2 => by rw [hw, if_pos ⟨g1, by omega⟩]
  have w3 : ∀ x, mid ≤ x → x < e → gt w x = gt l (s + (x - mid)) := fun x g1 g2 => by
    rw [hw, if_neg (by omega), if_pos ⟨by omega, g2⟩]; congr 1; omega
  have w4 : ∀ x, e ≤ x → gt w x = gt l x := fun x h => by rw [hw, if_neg (by omega), if_neg (by omega)]
  refine ⟨⟨fun i j i1 i2 i3 => ?_, fun i j i1 i2 i3 => ?_, fun i j i1 i2 i3 => ?_, fun i j i1 i2 i3 => ?_⟩, fun i j i1 i2 i3 i4 => ?_⟩
  · rw [w1 i (by omega), w1 j i3]; exact hs1 i j i1 i2 (by omega)
  · rw [w2 i i1 (by omega), w2 j (by omega) i3]; exact hs2 _ _ (by omega) (by omega) (by omega)
  · rw [w3 i i1 (by omega), w3 j (by omega) i3]; exact hs1 _ _ (by omega) (by omega) (by omega)
  · rw [w4 i i1, w4 j (by omega)]; exact hs2 i j (by omega) i2 i3
  · by_cases x1 : i < s
    · rw [w1 i x1]
      by_cases y1 : j < e
      · rw [w3 j i3 y1]; exact le1 _ _ i1 (by omega) (by omega)
      · rw [w4 j (by omega)]
        exact C.trans (le1 i (s - 1) i1 (by omega) (by omega)) (C.trans (p1 (by omega) (by omega)) (le2 e j (by omega) (by omega) i4))
    · rw [w2 i (by omega) i2]
      by_cases y1 : j < e
      · rw [w3 j i3 y1]
        exact C.trans (le2 (m + (i - s)) (e - 1) (by omega) (by omega) (by omega)) (C.trans (p2 (by omega) (by omega)) (le1 s _ (by omega) (by omega) (by omega)))
      · rw [w4 j (by omega)]; exact le2 _ _ (by omega) (by omega) i4
theorem sym_join {w v u : List α} {a mid b : Nat} (h1 : Rng w v a mid) (h2 : Rng v u mid b) (s1 : Srt c v a mid) (s2 : Srt c u mid b) (hm : a ≤ mid ∧ mid ≤ b)
    (cr : ∀ i j, a ≤ i → i < mid → mid ≤ j → j < b → c (gt w i) (gt w j) ≤ 0) : Srt c u a b := by
  refine Srt.join (m := mid) (s1.same fun i i1 i2 => h2.out i (.inl i2)) s2 fun i j i1 i2 i3 i4 => ?_
  rw [h2.out i (.inl i2)]
  obtain ⟨i', j1, j2, j3⟩ := h1.inn i i1 i2
  obtain ⟨j', k1, k2, k3⟩ := h2.inn j i3 i4
  rw [j3, k3, h1.out j' (.inr k1)]
  exact cr i' j' j1 j2 k1 k2
theorem sym_all (C : PreOK c) {l w v u : List α} {a m b s e mid : Nat} (hs1 : Srt c l a m) (hs2 : Srt c l m b) (h1 : a ≤ s ∧ s ≤ m) (h2 : m ≤ e ∧ e ≤ b) (hn : s + e = mid + m) (hmid : s ≤ mid ∧ mid ≤ e)
    (p1 : a < s → e < b → c (gt l (s - 1)) (gt l e) ≤ 0) (p2 : s < m → m < e → c (gt l (e - 1)) (gt l s) ≤ 0) (hw : Rot l w s m e) (hr : Rng l w s e)
    (g1 : Rng w v a mid) (g2 : Srt c w a s → Srt c w s mid → Srt c v a mid) (g3 : Rng v u mid b) (g4 : Srt c v mid e → Srt c v e b → Srt c u mid b) : Rng l u a b ∧ Srt c u a b := by
  obtain ⟨⟨q1, q2, q3, q4⟩, q5⟩ := sym_cut C hs1 hs2 h1 h2 hn hmid p1 p2 hw
  have k3 : Srt c v mid e := q3.same fun i i1 i2 => g1.out i (.inr i1)
  have k4 : Srt c v e b := q4.same fun i i1 i2 => g1.out i (.inr (by omega))
  exact ⟨((hr.up h1.1 h2.2).trans (g1.up (Nat.le_refl a) (by omega))).trans (g3.up (by omega) (Nat.le_refl b)), sym_join g1 g3 (g2 q1 q2) (g4 k3 k4) (by omega) q5⟩
/-! ### Rotations are ranges in another order -/
theorem Rot.len {l w : List α} {a m b : Nat} (h : Rot l w a m b) : w.length = l.length := h.1
theorem Rot.ex (l : List α) {a m b : Nat} (h1 : a ≤ m) (h2 : m ≤ b) (h3 : b ≤ l.length) : ∃ t, Rot l t a m b := by
  refine ⟨(List.range l.length).map fun x => if a ≤ x ∧ x < a + (b - m) then gt l (m + (x - a)) else if a + (b - m) ≤ x ∧ x < b then gt l (a + (x - (a + (b - m)))) else gt l x, by simp, fun x => ?_⟩
  by_cases hx : x < l.length
  · rw [gt_eq (by simpa using hx)]
    simp
  · rw [if_neg (by omega), if_neg (by omega)]
    have e : ∀ v : List α, v.length ≤ x → gt v x = default := fun v hv => by rw [gt, List.getD_eq_getElem?_getD, List.getElem?_eq_none hv]; rfl
    rw [e _ (by simp; omega), e l (by omega)]
theorem ext_gt' {l w : List α} (hl : w.length = l.length) (h : ∀ x, gt w x = gt l x) : w = l := by
  refine List.ext_getElem hl fun i h1 h2 => ?_
  rw [← gt_eq h1, ← gt_eq h2, h]
/-! ### Blocks -/
/-- Blocks of a size are sorted, up to n. -/
def Blk (c : α → α → Int) (l : List α) (bs n : Nat) : Prop := ∀ i j, i < j → j < n → i / bs = j / bs → c (gt l i) (gt l j) ≤ 0
theorem Blk.all {l : List α} {bs n : Nat} (h : Blk c l bs n) (hb : n ≤ bs) : Srt c l 0 n := fun i j _ h2 h3 => h i j h2 h3 (by rw [Nat.div_eq_of_lt (by omega), Nat.div_eq_of_lt (by omega)])
theorem div_in {q bs x : Nat} (h1 : bs * q ≤ x) (h2 : x < bs * q + bs) : x / bs = q := by
  have hb : 0 < bs := by omega
  apply Nat.div_eq_of_lt_le
  · rw [Nat.mul_comm]; exact h1
  · rw [Nat.add_mul, Nat.one_mul, Nat.mul_comm]; exact h2
theorem div_ne {q bs i j : Nat} (hb : 0 < bs) (h1 : i < bs * q) (h2 : bs * q ≤ j) : i / bs ≠ j / bs := by
  have e1 : i / bs < q := by rw [Nat.div_lt_iff_lt_mul hb, Nat.mul_comm]; exact h1
  have e2 : q ≤ j / bs := by rw [Nat.le_div_iff_mul_le hb, Nat.mul_comm]; exact h2
  omega
theorem Blk.run {l : List α} {bs n a b q : Nat} (h : Blk c l bs n) (ha : a = bs * q) (hb : b ≤ a + bs) (hn : b ≤ n) : Srt c l a b := fun i j h1 h2 h3 => by
  subst ha
  exact h i j h2 (by omega) (by rw [div_in (q := q) h1 (by omega), div_in (q := q) (bs := bs) (by omega) (by omega)])
/-- Blocks of a size up to a, which is the beginning of one. -/
theorem Blk.step {l w : List α} {bs a b q : Nat} (h : Blk c l bs a) (ha : a = bs * q) (hb : 0 < bs) (hr : Rng l w a b) (hs : Srt c w a b) : Blk c w bs b := fun i j h2 h3 h4 => by
  subst ha
  by_cases h5 : j < bs * q
  · rw [hr.out i (.inl (by omega)), hr.out j (.inl h5)]; exact h i j h2 h5 h4
  · by_cases h6 : i < bs * q
    · exact absurd h4 (div_ne hb h6 (by omega))
    · exact hs i j (by omega) h2 h3
theorem Blk.zero (l : List α) (bs : Nat) : Blk c l bs 0 := fun i j _ h => by omega
/-- What is behind a has blocks of a size. -/
def BlkF (c : α → α → Int) (l : List α) (bs a n : Nat) : Prop := ∀ i j, a ≤ i → i < j → j < n → i / bs = j / bs → c (gt l i) (gt l j) ≤ 0
theorem Blk.from0 {l : List α} {bs n : Nat} (h : Blk c l bs n) : BlkF c l bs 0 n := fun i j _ h2 h3 h4 => h i j h2 h3 h4
theorem BlkF.run {l : List α} {bs n a a' b q : Nat} (h : BlkF c l bs a n) (ha : a' = bs * q) (haa : a ≤ a') (hb : b ≤ a' + bs) (hn : b ≤ n) : Srt c l a' b := fun i j h1 h2 h3 => by
  subst ha
  exact h i j (by omega) h2 (by omega) (by rw [div_in (q := q) h1 (by omega), div_in (q := q) (bs := bs) (by omega) (by omega)])
theorem BlkF.step {l w : List α} {bs n a b : Nat} (h : BlkF c l bs a n) (hr : Rng l w a b) (hab : a ≤ b) : BlkF c w bs b n := fun i j h1 h2 h3 h4 => by
  rw [hr.out i (.inr h1), hr.out j (.inr (by omega))]
  exact h i j (by omega) h2 h3 h4
end
end Go.Fw
