/- Plain law of sorting numbers in place: heaps, partitions. -/
import Derived.Test.YtpmiaggdjgfjgaaGreatDetU

namespace Go.Fw
set_option maxRecDepth 4000
/-- The order of numbers. -/
def cI (x y : Int) : Int := x - y
theorem cI_pre : PreOK cI := ⟨fun x y => by unfold cI; omega, fun {x y z} h g => by unfold cI at *; omega⟩
theorem srt_iff {l : List Int} {a b : Nat} : Srt cI l a b ↔ ∀ i j, a ≤ i → i < j → j < b → gt l i ≤ gt l j :=
  ⟨fun h i j h1 h2 h3 => by have := h i j h1 h2 h3; unfold cI at this; omega, fun h i j h1 h2 h3 => by have := h i j h1 h2 h3; unfold cI; omega⟩
/-! ### Heaps -/
def isCh (x ch : Nat) : Prop := ch = 2 * x + 1 ∨ ch = 2 * x + 2
def HpF (l : List Int) (f lo hi : Nat) : Prop := ∀ x ch, lo ≤ x → isCh x ch → ch < hi → gt l (f + ch) ≤ gt l (f + x)
structure SfI (l : List Int) (f lo hi root : Nat) : Prop where
  le : lo ≤ root
  h1 : ∀ x ch, lo ≤ x → x ≠ root → isCh x ch → ch < hi → gt l (f + ch) ≤ gt l (f + x)
  h2 : ∀ x ch, lo ≤ x → isCh x root → isCh root ch → ch < hi → gt l (f + ch) ≤ gt l (f + x)
theorem SfI.start {l : List Int} {f lo hi : Nat} (h : HpF l f (lo + 1) hi) : SfI l f lo hi lo :=
  ⟨Nat.le_refl _, fun x ch h1 h2 h3 h4 => h x ch (by omega) h3 h4, fun x ch h1 h2 => by unfold isCh at h2; omega⟩
theorem SfI.stop {l : List Int} {f lo hi root : Nat} (h : SfI l f lo hi root) (hc : ∀ ch, isCh root ch → ch < hi → gt l (f + ch) ≤ gt l (f + root)) : HpF l f lo hi := fun x ch h1 h2 h3 => by
  by_cases hx : x = root
  · subst hx; exact hc ch h2 h3
  · exact h.h1 x ch h1 hx h2 h3
theorem SfI.step {l : List Int} {f lo hi root ch : Nat} (h : SfI l f lo hi root) (hch : isCh root ch) (hlt : ch < hi) (hf : f + hi ≤ l.length) (hbest : ∀ c2, isCh root c2 → c2 < hi → gt l (f + c2) ≤ gt l (f + ch)) (hup : gt l (f + root) < gt l (f + ch)) :
    SfI (swapL l (f + root) (f + ch)) f lo hi ch := by
  have hr : root < ch := by unfold isCh at hch; omega
  have g := swapL_gt (l := l) (i := f + root) (j := f + ch) (by omega) (by omega)
  have hlo := h.le
  refine ⟨by omega, fun x c hx hne hc hl => ?_, fun x c hx hxc hcc hl => ?_⟩
  · rw [g, g]
    have hxc : x < c := by unfold isCh at hc; omega
    by_cases hxr : x = root
    · subst hxr
      rw [if_neg (by omega : ¬ f + x = f + ch), if_pos rfl]
      by_cases hcc : c = ch
      · subst hcc; rw [if_pos rfl]; omega
      · rw [if_neg (by omega), if_neg (by omega)]
        exact hbest c hc hl
    · rw [if_neg (by omega : ¬ f + x = f + ch), if_neg (by omega : ¬ f + x = f + root)]
      by_cases hcr : c = root
      · subst hcr
        rw [if_neg (by omega), if_pos rfl]
        exact h.h2 x ch hx hc hch hlt
      · by_cases hcc : c = ch
        · subst hcc; unfold isCh at hc hch; omega
        · rw [if_neg (by omega), if_neg (by omega)]
          exact h.h1 x c hx hxr hc hl
  · have hxr : x = root := by unfold isCh at hxc hch; omega
    subst hxr
    have : ch < c := by unfold isCh at hcc; omega
    rw [g, g, if_neg (by omega), if_neg (by omega), if_neg (by omega), if_pos rfl]
    exact h.h1 ch c (by omega) (by omega) hcc hl
theorem HpF.top {l : List Int} {f hi : Nat} (h : HpF l f 0 hi) : ∀ x, x < hi → gt l (f + x) ≤ gt l f := by
  intro x
  induction x using Nat.strongRecOn with
  | ind x ih =>
    intro hx
    by_cases h0 : x = 0
    · subst h0; exact Int.le_refl _
    · have h1 := h ((x - 1) / 2) x (by omega) (by unfold isCh; omega) hx
      have h2 := ih ((x - 1) / 2) (by omega) (by omega)
      omega
/-- From the place i on (behind f) everything stands where it belongs. -/
structure PopI (l : List Int) (f n i : Nat) : Prop where
  hp : HpF l f 0 i
  hs : ∀ x y, x < y → i ≤ y → y < n → gt l (f + x) ≤ gt l (f + y)
theorem PopI.swap {l : List Int} {f n i : Nat} (h : PopI l f n (i + 1)) (hi : i < n) (hf : f + n ≤ l.length) : HpF (swapL l f (f + i)) f 1 i ∧ ∀ x y, x < y → i ≤ y → y < n → gt (swapL l f (f + i)) (f + x) ≤ gt (swapL l f (f + i)) (f + y) := by
  have g := swapL_gt (l := l) (i := f) (j := f + i) (by omega) (by omega)
  have top := h.hp.top
  refine ⟨fun x ch h1 h2 h3 => ?_, fun x y h1 h2 h3 => ?_⟩
  · have : x < ch := by unfold isCh at h2; omega
    rw [g, g, if_neg (by omega), if_neg (by omega), if_neg (by omega), if_neg (by omega)]
    exact h.hp x ch (by omega) h2 (by omega)
  · rw [g, g]
    by_cases hy : y = i
    · subst hy
      rw [if_neg (by omega : ¬ f + x = f + y), if_pos rfl]
      by_cases hx : x = 0
      · subst hx; rw [if_pos (show f + 0 = f by omega)]; exact top y (by omega)
      · rw [if_neg (by omega)]; exact top x (by omega)
    · rw [if_neg (by omega : ¬ f + y = f + i), if_neg (by omega : ¬ f + y = f)]
      by_cases hx : x = i
      · subst hx
        rw [if_pos rfl]
        exact h.hs 0 y (by omega) (by omega) h3
      · by_cases hx0 : x = 0
        · subst hx0
          rw [if_neg (by omega), if_pos (show f + 0 = f by omega)]
          exact h.hs i y (by omega) (by omega) h3
        · rw [if_neg (by omega), if_neg (by omega)]
          exact h.hs x y h1 (by omega) h3
theorem PopI.sift {l w : List Int} {f n i : Nat} (hs : ∀ x y, x < y → i ≤ y → y < n → gt l (f + x) ≤ gt l (f + y)) (hr : Rng l w f (f + i)) (hp : HpF w f 0 i) : PopI w f n i := by
  refine ⟨hp, fun x y h1 h2 h3 => ?_⟩
  rw [hr.out (f + y) (by omega)]
  by_cases hx : x < i
  · obtain ⟨j, j1, j2, j3⟩ := hr.inn (f + x) (by omega) (by omega)
    rw [j3]
    have := hs (j - f) y (by omega) h2 h3
    rwa [show f + (j - f) = j by omega] at this
  · rw [hr.out (f + x) (by omega)]
    exact hs x y h1 h2 h3
theorem PopI.done {l : List Int} {f n : Nat} (h : PopI l f n 0) : Srt cI l f (f + n) := srt_iff.2 fun i j h1 h2 h3 => by
  have := h.hs (i - f) (j - f) (by omega) (by omega) (by omega)
  rwa [show f + (i - f) = i by omega, show f + (j - f) = j by omega] at this
/-! ### Partitions -/
structure PtI (l : List Int) (a b i j : Nat) : Prop where
  ij : a + 1 ≤ i ∧ i ≤ j + 1 ∧ j < b
  lo : ∀ x, a < x → x < i → gt l x < gt l a
  hi : ∀ x, j < x → x < b → gt l a ≤ gt l x
theorem PtI.start {l : List Int} {a b : Nat} (h : a + 1 < b) : PtI l a b (a + 1) (b - 1) := ⟨by omega, fun x h1 h2 => by omega, fun x h1 h2 => by omega⟩
theorem PtI.i1 {l : List Int} {a b i j : Nat} (h : PtI l a b i j) (hij : i ≤ j) (hc : gt l i < gt l a) : PtI l a b (i + 1) j :=
  ⟨by have := h.ij; omega, fun x h1 h2 => by
    by_cases hx : x = i
    · subst hx; exact hc
    · exact h.lo x h1 (by omega), h.hi⟩
theorem PtI.j1 {l : List Int} {a b i j : Nat} (h : PtI l a b i j) (hij : i ≤ j) (hc : gt l a ≤ gt l j) : PtI l a b i (j - 1) :=
  ⟨by have := h.ij; omega, h.lo, fun x h1 h2 => by
    by_cases hx : x = j
    · subst hx; exact hc
    · exact h.hi x (by omega) h2⟩
theorem PtI.swap {l : List Int} {a b i j : Nat} (h : PtI l a b i j) (hb : b ≤ l.length) (hij : i ≤ j) (hc : gt l a ≤ gt l i) (hd : gt l j < gt l a) : PtI (swapL l i j) a b (i + 1) (j - 1) := by
  have hne : i ≠ j := fun e => by subst e; omega
  have h3 := h.ij
  have g := swapL_gt (l := l) (i := i) (j := j) (by omega) (by omega)
  have ga : gt (swapL l i j) a = gt l a := by rw [g, if_neg (by omega), if_neg (by omega)]
  refine ⟨by omega, fun x h1 h2 => ?_, fun x h1 h2 => ?_⟩
  · rw [ga, g]
    by_cases hx : x = i
    · subst hx; rw [if_neg hne, if_pos rfl]; exact hd
    · rw [if_neg (by omega), if_neg hx]; exact h.lo x h1 (by omega)
  · rw [ga, g]
    by_cases hx : x = j
    · subst hx; rw [if_pos rfl]; exact hc
    · rw [if_neg hx, if_neg (by omega)]; exact h.hi x (by omega) h2
/-- The place m parts the range. -/
structure Part (l : List Int) (a b m : Nat) : Prop where
  at_ : a ≤ m ∧ m < b
  lo : ∀ x, a ≤ x → x < m → gt l x ≤ gt l m
  hi : ∀ x, m < x → x < b → gt l m ≤ gt l x
theorem PtI.done {l : List Int} {a b i j : Nat} (h : PtI l a b i j) (hb : b ≤ l.length) (hij : j < i) : Part (swapL l j a) a b j := by
  have h3 := h.ij
  have g := swapL_gt (l := l) (i := j) (j := a) (by omega) (by omega)
  have gj : gt (swapL l j a) j = gt l a := by
    rw [g]
    by_cases hja : j = a
    · rw [if_pos hja, hja]
    · rw [if_neg hja, if_pos rfl]
  refine ⟨by omega, fun x h1 h2 => ?_, fun x h1 h2 => ?_⟩
  · rw [gj, g]
    by_cases hx : x = a
    · subst hx; rw [if_pos rfl]
      have := h.lo j (by omega) (by omega)
      omega
    · rw [if_neg hx, if_neg (by omega)]
      have := h.lo x (by omega) (by omega)
      omega
  · rw [gj, g, if_neg (by omega), if_neg (by omega)]
    exact h.hi x (by omega) h2
/-- The same of equal elements. -/
structure PeI (l : List Int) (a b i j : Nat) : Prop where
  ij : a + 1 ≤ i ∧ i ≤ j + 1 ∧ j < b
  mn : ∀ x, a ≤ x → x < b → gt l a ≤ gt l x
  lo : ∀ x, a < x → x < i → gt l x ≤ gt l a
theorem PeI.start {l : List Int} {a b : Nat} (h : a + 1 < b) (hm : ∀ x, a ≤ x → x < b → gt l a ≤ gt l x) : PeI l a b (a + 1) (b - 1) := ⟨by omega, hm, fun x h1 h2 => by omega⟩
theorem PeI.i1 {l : List Int} {a b i j : Nat} (h : PeI l a b i j) (hij : i ≤ j) (hc : gt l i ≤ gt l a) : PeI l a b (i + 1) j :=
  ⟨by have := h.ij; omega, h.mn, fun x h1 h2 => by
    by_cases hx : x = i
    · subst hx; exact hc
    · exact h.lo x h1 (by omega)⟩
theorem PeI.j1 {l : List Int} {a b i j : Nat} (h : PeI l a b i j) (hij : i ≤ j) : PeI l a b i (j - 1) := ⟨by have := h.ij; omega, h.mn, h.lo⟩
theorem PeI.swap {l : List Int} {a b i j : Nat} (h : PeI l a b i j) (hb : b ≤ l.length) (hij : i < j) (hd : gt l j ≤ gt l a) : PeI (swapL l i j) a b (i + 1) (j - 1) := by
  have h3 := h.ij
  have g := swapL_gt (l := l) (i := i) (j := j) (by omega) (by omega)
  have ga : gt (swapL l i j) a = gt l a := by rw [g, if_neg (by omega), if_neg (by omega)]
  refine ⟨by omega, fun x h1 h2 => ?_, fun x h1 h2 => ?_⟩
  · rw [ga, g]
    repeat' split
    · exact h.mn i (by omega) (by omega)
    · exact h.mn j (by omega) (by omega)
    · exact h.mn x h1 h2
  · rw [ga, g]
    by_cases hx : x = i
    · subst hx; rw [if_neg (by omega), if_pos rfl]; exact hd
    · rw [if_neg (by omega), if_neg hx]; exact h.lo x h1 (by omega)
theorem PeI.done {l : List Int} {a b i j : Nat} (h : PeI l a b i j) : ∀ x y, a ≤ x → x < i → a ≤ y → y < b → gt l x ≤ gt l y := fun x y h1 h2 h3 h4 => by
  have := h.mn y h3 h4
  by_cases hx : x = a
  · subst hx; exact this
  · have := h.lo x (by omega) h2
    omega
/-! ### The whole -/
/-- Of two places that do not both lie in [a', b') the first holds no more. -/
def Mid (w : List Int) (a a' b' b : Nat) : Prop := ∀ i j, a ≤ i → i < j → j < b → (i < a' ∨ b' ≤ j) → gt w i ≤ gt w j
theorem Mid.start (w : List Int) (a b : Nat) : Mid w a a b b := fun i j h1 h2 h3 h4 => by omega
theorem Mid.rng {w v : List Int} {a a' b' b : Nat} (h : Mid w a a' b' b) (g : Rng w v a' b') (ha : a ≤ a') (hb : b' ≤ b) : Mid v a a' b' b := fun i j h1 h2 h3 h4 => by
  have hi : ∃ i0, gt v i = gt w i0 ∧ ((i0 = i ∧ ¬ (a' ≤ i ∧ i < b')) ∨ (a' ≤ i0 ∧ i0 < b' ∧ a' ≤ i ∧ i < b')) := by
    by_cases hh : a' ≤ i ∧ i < b'
    · obtain ⟨k, k1, k2, k3⟩ := g.inn i hh.1 hh.2
      exact ⟨k, k3, .inr ⟨k1, k2, hh.1, hh.2⟩⟩
    · exact ⟨i, g.out i (by omega), .inl ⟨rfl, hh⟩⟩
  have hj : ∃ j0, gt v j = gt w j0 ∧ ((j0 = j ∧ ¬ (a' ≤ j ∧ j < b')) ∨ (a' ≤ j0 ∧ j0 < b' ∧ a' ≤ j ∧ j < b')) := by
    by_cases hh : a' ≤ j ∧ j < b'
    · obtain ⟨k, k1, k2, k3⟩ := g.inn j hh.1 hh.2
      exact ⟨k, k3, .inr ⟨k1, k2, hh.1, hh.2⟩⟩
    · exact ⟨j, g.out j (by omega), .inl ⟨rfl, hh⟩⟩
  obtain ⟨i0, e1, c1⟩ := hi
  obtain ⟨j0, e2, c2⟩ := hj
  rw [e1, e2]
  exact h i0 j0 (by omega) (by omega) (by omega) (by omega)
theorem Mid.left {w u : List Int} {a a' b' b m : Nat} (h : Mid w a a' b' b) (p : Part w a' b' m) (g : Rng w u a' m) (s : Srt cI u a' m) (ha : a ≤ a') (hb : b' ≤ b) : Mid u a (m + 1) b' b := fun i j h1 h2 h3 h4 => by
  have hm := p.at_
  by_cases hA : i < a' ∨ b' ≤ j
  · exact h.rng (g.up (Nat.le_refl _) (by omega)) ha hb i j h1 h2 h3 hA
  · have um : gt u m = gt w m := g.out m (by omega)
    have ui : i < m → gt u i ≤ gt w m := fun hi => by
      obtain ⟨k, k1, k2, k3⟩ := g.inn i (by omega) hi
      rw [k3]; exact p.lo k k1 k2
    by_cases hj : j < m
    · exact srt_iff.1 s i j (by omega) h2 hj
    · by_cases hj2 : j = m
      · subst hj2; rw [um]; exact ui h2
      · have uj : gt u j = gt w j := g.out j (by omega)
        have := p.hi j (by omega) (by omega)
        rw [uj]
        by_cases him : i = m
        · subst him; rw [um]; exact this
        · have := ui (by omega); omega
theorem Mid.right {w u : List Int} {a a' b' b m : Nat} (h : Mid w a a' b' b) (p : Part w a' b' m) (g : Rng w u (m + 1) b') (s : Srt cI u (m + 1) b') (ha : a ≤ a') (hb : b' ≤ b) : Mid u a a' m b := fun i j h1 h2 h3 h4 => by
  have hm := p.at_
  by_cases hA : i < a' ∨ b' ≤ j
  · exact h.rng (g.up (by omega) (Nat.le_refl _)) ha hb i j h1 h2 h3 hA
  · have um : gt u m = gt w m := g.out m (by omega)
    have uj : m < j → gt w m ≤ gt u j := fun hj => by
      obtain ⟨k, k1, k2, k3⟩ := g.inn j (by omega) (by omega)
      rw [k3]; exact p.hi k (by omega) k2
    by_cases hi : m < i
    · exact srt_iff.1 s i j (by omega) h2 (by omega)
    · by_cases hi2 : i = m
      · subst hi2; rw [um]; exact uj h2
      · have ui : gt u i = gt w i := g.out i (by omega)
        have := p.lo i (by omega) (by omega)
        rw [ui]
        by_cases hjm : j = m
        · subst hjm; rw [um]; exact this
        · have := uj (by omega); omega
theorem Mid.eq {w : List Int} {a a' b' b m : Nat} (h : Mid w a a' b' b) (e : ∀ x y, a' ≤ x → x < m → a' ≤ y → y < b' → gt w x ≤ gt w y) : Mid w a m b' b := fun i j h1 h2 h3 h4 => by
  by_cases hA : i < a' ∨ b' ≤ j
  · exact h i j h1 h2 h3 hA
  · exact e i j (by omega) (by omega) (by omega) (by omega)
theorem Mid.done {w : List Int} {a a' b' b : Nat} (h : Mid w a a' b' b) (s : Srt cI w a' b') : Srt cI w a b := srt_iff.2 fun i j h1 h2 h3 => by
  by_cases hA : i < a' ∨ b' ≤ j
  · exact h i j h1 h2 h3 hA
  · exact srt_iff.1 s i j (by omega) h2 (by omega)
/-- What stands ahead of the range is no more than what stands in it. -/
def Below (w : List Int) (a b : Nat) : Prop := 0 < a → ∀ x, a ≤ x → x < b → gt w (a - 1) ≤ gt w x
theorem Below.rng {w v : List Int} {a b : Nat} (h : Below w a b) (g : Rng w v a b) : Below v a b := fun h0 x h1 h2 => by
  obtain ⟨k, k1, k2, k3⟩ := g.inn x h1 h2
  rw [k3, g.out (a - 1) (by omega)]
  exact h h0 k k1 k2
theorem Mid.below {w : List Int} {a a' b' b : Nat} (h : Mid w a a' b' b) (g : Below w a b) (ha : a ≤ a') (hb : b' ≤ b) : Below w a' b' := fun h0 x h1 h2 => by
  by_cases he : a' = a
  · subst he; exact g h0 x h1 (by omega)
  · exact h (a' - 1) x (by omega) (by omega) (by omega) (by omega)
end Go.Fw

/- slices.Sort of numbers: the small parts. -/
namespace Go.Fw
open Go.Proofs
set_option maxHeartbeats 4000000
set_option maxRecDepth 4000
theorem k_cLess (a b : Int) : Con Tryz.prog 63 [.v (.int .u64 a), .v (.int .u64 b)] [] (bool (decide (a < b))) [] := by
  have h1 : Con Tryz.prog 92 [.v (.int .u64 a)] [] (bool false) [] := by
    refine spec_of_run ttok mixed (T0 := 5) (ts := [.tmp 2]) 6 rfl rfl rfl rfl (by simp) rfl ?_
    conv => whnf
    repeat' (first | ((with_reducible apply Frz.l) <;> conv => whnf) | fail)
    all_goals (apply Same.bool (by simp); (conv => whnf); repeat' (first | with_reducible apply True.intro | ((with_reducible apply Frz.l) <;> conv => whnf) | fail))
  refine spec_of_run ttok mixed (T0 := 19) (ts := [.tmp 4]) 17 rfl rfl rfl rfl (by simp) rfl ?_
  conv => whnf
  repeat' (first | with_reducible apply True.intro | ((first | (apply CallN.mk (h1)) | (with_reducible apply Bif.F) | (apply Same.bool; focus (with_reducible rfl)) | (with_reducible apply Frz.l)) <;> conv => whnf) | fail)
theorem k_ordIns (l : List Int) (a b : Nat) (hab : a ≤ b) (hb : b ≤ l.length) (hl : l.length ≤ 1000000) :
    ∃ r hp', (∃ w : List Int, (Rng l w a b ∧ Srt cI w a b) ∧ r = .tup [] ∧ hp' = [.arr none 1 (lst u64 w)]) ∧ ConK Tryz.prog 76 [.ov 1 0 0 l.length, int a, int b] [.arr none 1 (lst u64 l)] r hp' := by
  refine spec_of_runRK ttok mixed (T0 := 1073746119) (ts := []) 49 rfl rfl rfl rfl (by simp) rfl ?_
  conv => whnf
  repeat' (first | ((first | ((with_reducible apply Wr.i64); focus omega) | (with_reducible apply Frz.l)) <;> conv => whnf) | fail)
  refine loop_keep ttok mixed (T0 := 1073746119) [0, 1, 2] (ι := {p : Nat × List Int // Rng l p.2 a b ∧ Srt cI p.2 a p.1 ∧ a + 1 ≤ p.1 ∧ p.1 ≤ b + 1 ∧ (p.1 ≤ b ∨ a = b)})
    (fun p => [(6, int (p.1.1 : Int))]) (fun p => [.arr none 1 (lst u64 p.1.2)]) (fun p => b + 1 - p.1.1) ⟨(a + 1, l), Rng.refl _ _ _, Srt.small (by omega), by dsimp only; omega, by dsimp only; omega, by dsimp only; omega⟩ ?_
  conv => whnf
  repeat' (first | ((first | (with_reducible apply Same.rfl) | (apply Same.int; focus rfl) | (with_reducible apply Frz.l)) <;> conv => whnf) | fail)
  rintro ⟨⟨i, w⟩, hr, hs, hi1, hi2, hi3⟩
  dsimp only at hr hs hi1 hi2 hi3 ⊢
  have hwl := hr.len
  conv => whnf
  repeat' (first | ((first | ((with_reducible apply Bif.dec) <;> intro h <;> (try simp only [lns] at h)) | (with_reducible apply Frz.l)) <;> conv => whnf) | fail)
  · refine loop_keep ttok mixed (T0 := 1073746119) [0, 1, 2, 6] (ι := {p : Nat × List Int // Rng l p.2 a b ∧ InsJ cI p.2 a i p.1})
      (fun p => [(7, int (p.1.1 : Int))]) (fun p => [.arr none 1 (lst u64 p.1.2)]) (fun p => p.1.1) ⟨(i, w), hr, InsJ.start hs (by omega)⟩ ?_
    conv => whnf
    repeat' (first | ((first | (with_reducible apply Same.rfl) | (with_reducible apply Frz.l)) <;> conv => whnf) | fail)
    rintro ⟨⟨j, v⟩, hv, hI⟩
    dsimp only at hv hI ⊢
    have hvl := hv.len
    have hI1 := hI.1
    have hI2 := hI.2.1
    conv => whnf
    have e1 : ((j : Int) - 1).toNat = j - 1 := by omega
    repeat' (first | ((first | (with_reducible apply Nm.set _ (rfl)) | ((with_reducible apply Nm.mk); focus ((try simp only [lns]); exact rfl)) | ((with_reducible apply Wr.i64); focus omega) | ((with_reducible apply Need.mk); focus first | omega | kernel_rfl) | ((with_reducible apply Elem.lst); focus first | omega | (simp only [lns]; omega)) | (apply CallN.mk (k_cLess _ _)) | (with_reducible first | apply Bif.T | apply Bif.F) | ((with_reducible apply Bif.dec) <;> intro h <;> (try simp only [lns] at h)) | (with_reducible apply Frz.l)) <;> conv => whnf) | fail)
    · rw [e1] at h
      have hs2 := hI.step cI_pre (by omega) (by omega) (show cI _ _ < 0 by unfold cI; omega)
      (refine ⟨⟨(j - 1, swapL v j (j - 1)), hv.trans (Rng.swap (by omega) (by omega) (by omega)), hs2⟩, ?_⟩; (try dsimp only); conv => whnf); repeat' (first | with_reducible apply True.intro | ((with_reducible apply Same.mk); (focus (rw [e1]; rfl)); (conv => whnf)) | ((first | ((with_reducible apply Need.mk); focus omega) | (with_reducible apply Same.rfl) | (apply Same.int; focus omega) | (with_reducible apply Turn.l) | (with_reducible apply Frz.l)) <;> conv => whnf) | fail)
    · rw [e1] at h
      (refine ⟨⟨(i + 1, v), hv, hI.stop cI_pre (.inr (show ¬ cI _ _ < 0 by unfold cI; omega)), by dsimp only; omega, by dsimp only; omega, by dsimp only; omega⟩, ?_⟩; (try dsimp only); conv => whnf); repeat' (first | with_reducible apply True.intro | ((first | ((with_reducible apply Need.mk); focus omega) | (with_reducible apply Same.rfl) | (apply Same.int; focus rfl) | (with_reducible apply Turn.l) | (with_reducible apply Frz.l)) <;> conv => whnf) | fail)
    · (refine ⟨⟨(i + 1, v), hv, hI.stop cI_pre (.inl (by omega)), by dsimp only; omega, by dsimp only; omega, by dsimp only; omega⟩, ?_⟩; (try dsimp only); conv => whnf); repeat' (first | with_reducible apply True.intro | ((first | ((with_reducible apply Need.mk); focus omega) | (with_reducible apply Same.rfl) | (apply Same.int; focus rfl) | (with_reducible apply Turn.l) | (with_reducible apply Frz.l)) <;> conv => whnf) | fail)
  · (refine ⟨_, _, ⟨w, ⟨hr, hs.sub (Nat.le_refl a) (by omega)⟩, rfl, rfl⟩, ?_⟩; conv => whnf); repeat' (first | with_reducible apply True.intro | ((first | (with_reducible apply Same.rfl) | (with_reducible apply Cut.l) | (with_reducible apply Frz.l)) <;> conv => whnf) | fail)
theorem k_sift (l : List Int) (lo hi f : Nat) (hlo : lo ≤ hi) (hf : f + hi ≤ l.length) (hl : l.length ≤ 1000000) (hp : HpF l f (lo + 1) hi) :
    ∃ r hp', (∃ w : List Int, (Rng l w f (f + hi) ∧ HpF w f lo hi) ∧ r = .tup [] ∧ hp' = [.arr none 1 (lst u64 w)]) ∧ ConK Tryz.prog 96 [.ov 1 0 0 l.length, int lo, int hi, int f] [.arr none 1 (lst u64 l)] r hp' := by
  refine spec_of_runRK ttok mixed (T0 := 4503668346913551) (ts := []) 76 rfl rfl rfl rfl (by simp) rfl ?_
  conv => whnf
  repeat' (first | ((with_reducible apply Frz.l) <;> conv => whnf) | fail)
  refine loop_keep ttok mixed (T0 := 4503668346913551) [0, 1, 2, 3] (ι := {p : Nat × List Int // Rng l p.2 f (f + hi) ∧ SfI p.2 f lo hi p.1 ∧ p.1 ≤ hi})
    (fun p => [(8, int (p.1.1 : Int))]) (fun p => [.arr none 1 (lst u64 p.1.2)]) (fun p => hi - p.1.1) ⟨(lo, l), Rng.refl _ _ _, SfI.start hp, hlo⟩ ?_
  conv => whnf
  repeat' (first | ((first | (with_reducible apply Same.rfl) | (with_reducible apply Frz.l)) <;> conv => whnf) | fail)
  rintro ⟨⟨x, w⟩, hr, hs, hxh⟩
  dsimp only at hr hs hxh ⊢
  have hwl := hr.len
  have hx := hs.le
  conv => whnf
  have e0 : ((f : Int) + (x : Int)).toNat = f + x := by omega
  have e1 : ((f : Int) + (2 * (x : Int) + 1)).toNat = f + (2 * x + 1) := by omega
  have e2 : ((f : Int) + (2 * (x : Int) + 1) + 1).toNat = f + (2 * x + 2) := by omega
  have e3 : ((f : Int) + (2 * (x : Int) + 1 + 1)).toNat = f + (2 * x + 2) := by omega
  have C1 : isCh x (2 * x + 1) := .inl rfl
  have C2 : isCh x (2 * x + 2) := .inr rfl
  repeat' (first | ((first | (with_reducible apply Nm.set _ (rfl)) | ((with_reducible apply Nm.mk); focus ((try simp only [lns]); exact rfl)) | ((with_reducible apply Wr.i64); focus omega) | ((with_reducible apply Need.mk); focus first | omega | kernel_rfl) | ((with_reducible apply Elem.lst); focus first | omega | (simp only [lns]; omega)) | (apply CallN.mk (k_cLess _ _)) | (with_reducible first | apply Bif.T | apply Bif.F) | ((with_reducible apply Bif.dec) <;> intro h <;> (try simp only [lns] at h)) | (with_reducible apply Bif.not) | (with_reducible apply Frz.l)) <;> conv => whnf) | fail)
  · (refine ⟨_, _, ⟨w, ⟨hr, hs.stop fun ch c1 c2 => by unfold isCh at c1; omega⟩, rfl, rfl⟩, ?_⟩; conv => whnf); repeat' (first | with_reducible apply True.intro | ((first | (with_reducible apply Same.rfl) | (with_reducible apply Cut.l) | (with_reducible apply Frz.l)) <;> conv => whnf) | fail)
  · rename_i g1 g2 g3
    rw [e1, e2] at g3
    rw [e0, e3] at h
    have hs2 := hs.step C2 (by omega) (by omega) (fun c k1 k2 => by rcases k1 with rfl | rfl <;> omega) h
    (refine ⟨⟨(2 * x + 2, swapL w (f + x) (f + (2 * x + 2))), hr.trans (Rng.swap (by omega) (by omega) (by omega)), hs2, by dsimp only; omega⟩, ?_⟩; (try dsimp only); conv => whnf); repeat' (first | with_reducible apply True.intro | ((with_reducible apply Same.mk); (focus (rw [e0, e3]; rfl)); (conv => whnf)) | ((first | ((with_reducible apply Need.mk); focus omega) | (with_reducible apply Same.rfl) | (apply Same.int; focus rfl) | (with_reducible apply Turn.l) | (with_reducible apply Frz.l)) <;> conv => whnf) | fail)
  · rename_i g1 g2 g3
    rw [e1, e2] at g3
    rw [e0, e3] at h
    (refine ⟨_, _, ⟨w, ⟨hr, hs.stop fun c k1 k2 => by rcases k1 with rfl | rfl <;> omega⟩, rfl, rfl⟩, ?_⟩; conv => whnf); repeat' (first | with_reducible apply True.intro | ((first | (with_reducible apply Same.rfl) | (with_reducible apply Cut.l) | (with_reducible apply Frz.l)) <;> conv => whnf) | fail)
  · rename_i g1 g2 g3
    rw [e1, e2] at g3
    rw [e0, e1] at h
    have hs2 := hs.step C1 (by omega) (by omega) (fun c k1 k2 => by rcases k1 with rfl | rfl <;> omega) h
    (refine ⟨⟨(2 * x + 1, swapL w (f + x) (f + (2 * x + 1))), hr.trans (Rng.swap (by omega) (by omega) (by omega)), hs2, by dsimp only; omega⟩, ?_⟩; (try dsimp only); conv => whnf); repeat' (first | with_reducible apply True.intro | ((with_reducible apply Same.mk); (focus (rw [e0, e1]; rfl)); (conv => whnf)) | ((first | ((with_reducible apply Need.mk); focus omega) | (with_reducible apply Same.rfl) | (apply Same.int; focus rfl) | (with_reducible apply Turn.l) | (with_reducible apply Frz.l)) <;> conv => whnf) | fail)
  · rename_i g1 g2 g3
    rw [e1, e2] at g3
    rw [e0, e1] at h
    (refine ⟨_, _, ⟨w, ⟨hr, hs.stop fun c k1 k2 => by rcases k1 with rfl | rfl <;> omega⟩, rfl, rfl⟩, ?_⟩; conv => whnf); repeat' (first | with_reducible apply True.intro | ((first | (with_reducible apply Same.rfl) | (with_reducible apply Cut.l) | (with_reducible apply Frz.l)) <;> conv => whnf) | fail)
  · rename_i g1 g2
    rw [e0, e1] at h
    have hs2 := hs.step C1 (by omega) (by omega) (fun c k1 k2 => by rcases k1 with rfl | rfl <;> omega) h
    (refine ⟨⟨(2 * x + 1, swapL w (f + x) (f + (2 * x + 1))), hr.trans (Rng.swap (by omega) (by omega) (by omega)), hs2, by dsimp only; omega⟩, ?_⟩; (try dsimp only); conv => whnf); repeat' (first | with_reducible apply True.intro | ((with_reducible apply Same.mk); (focus (rw [e0, e1]; rfl)); (conv => whnf)) | ((first | ((with_reducible apply Need.mk); focus omega) | (with_reducible apply Same.rfl) | (apply Same.int; focus rfl) | (with_reducible apply Turn.l) | (with_reducible apply Frz.l)) <;> conv => whnf) | fail)
  · rename_i g1 g2
    rw [e0, e1] at h
    (refine ⟨_, _, ⟨w, ⟨hr, hs.stop fun c k1 k2 => by rcases k1 with rfl | rfl <;> omega⟩, rfl, rfl⟩, ?_⟩; conv => whnf); repeat' (first | with_reducible apply True.intro | ((first | (with_reducible apply Same.rfl) | (with_reducible apply Cut.l) | (with_reducible apply Frz.l)) <;> conv => whnf) | fail)
theorem k_heap (l : List Int) (a b : Nat) (hab : a < b) (hb : b ≤ l.length) (hl : l.length ≤ 1000000) :
    ∃ r hp', (∃ w : List Int, (Rng l w a b ∧ Srt cI w a b) ∧ r = .tup [] ∧ hp' = [.arr none 1 (lst u64 w)]) ∧ ConK Tryz.prog 77 [.ov 1 0 0 l.length, int a, int b] [.arr none 1 (lst u64 l)] r hp' := by
  have hd : (b : Int) - (a : Int) = ((b - a : Nat) : Int) := by omega
  have hq : (((b - a : Nat) : Int) - 1).tdiv 2 = (((b - a - 1) / 2 + 1 : Nat) : Int) - 1 := by rw [Int.tdiv_eq_ediv_of_nonneg (by omega)]; omega
  have ha : a + (b - a) = b := by omega
  refine spec_of_runRK ttok mixed (T0 := 1074268103) (ts := []) 56 rfl rfl rfl rfl (by simp) rfl ?_
  conv => whnf
  repeat' (first | ((first | ((with_reducible apply Wr.i64); focus omega) | ((with_reducible apply Need.mk); focus omega) | (with_reducible apply Frz.l)) <;> conv => whnf) | fail)
  rw [hd, hq]
  repeat' (first | ((first | ((with_reducible apply Wr.i64); focus omega) | (with_reducible apply Frz.l)) <;> conv => whnf) | fail)
  refine loop_keep ttok mixed (T0 := 1074268103) [0, 1, 2, 6, 7, 8] (ι := {p : Nat × List Int // Rng l p.2 a b ∧ HpF p.2 a p.1 (b - a) ∧ p.1 ≤ b - a})
    (fun p => [(9, int ((p.1.1 : Int) - 1))]) (fun p => [.arr none 1 (lst u64 p.1.2)]) (fun p => p.1.1) ⟨((b - a - 1) / 2 + 1, l), Rng.refl _ _ _, fun x ch h1 h2 h3 => by unfold isCh at h2; omega, by dsimp only; omega⟩ ?_
  conv => whnf
  repeat' (first | ((first | (with_reducible apply Same.rfl) | (apply Same.int; focus rfl) | (with_reducible apply Frz.l)) <;> conv => whnf) | fail)
  rintro ⟨⟨m, w⟩, hr, hs, hm⟩
  dsimp only at hr hs hm ⊢
  have hwl := hr.len
  rcases m with _ | k
  · conv => whnf
    repeat' (first | ((first | ((with_reducible apply Wr.i64); focus omega) | ((with_reducible apply Bif.dec) <;> intro h <;> (try simp only [lns] at h) <;> (try (exfalso; omega))) | (with_reducible apply Frz.l)) <;> conv => whnf) | fail)
    refine loop_keep ttok mixed (T0 := 1074268103) [0, 1, 2, 6, 7, 8] (ι := {p : Nat × List Int // Rng l p.2 a b ∧ PopI p.2 a (b - a) p.1 ∧ p.1 ≤ b - a})
      (fun p => [(10, int ((p.1.1 : Int) - 1))]) (fun p => [.arr none 1 (lst u64 p.1.2)]) (fun p => p.1.1) ⟨(b - a, w), hr, ⟨hs, fun x y h1 h2 h3 => by omega⟩, Nat.le_refl _⟩ ?_
    conv => whnf
    repeat' (first | ((first | (with_reducible apply Same.rfl) | (apply Same.int; focus rfl) | (with_reducible apply Frz.l)) <;> conv => whnf) | fail)
    rintro ⟨⟨m, v⟩, hv, hP, hm2⟩
    dsimp only at hv hP hm2 ⊢
    have hvl := hv.len
    rcases m with _ | k
    · conv => whnf
      repeat' (first | ((first | ((with_reducible apply Bif.dec) <;> intro h <;> (try simp only [lns] at h) <;> (try (exfalso; omega))) | (with_reducible apply Frz.l)) <;> conv => whnf) | fail)
      (refine ⟨_, _, ⟨v, ⟨hv, by have := hP.done; rwa [ha] at this⟩, rfl, rfl⟩, ?_⟩; conv => whnf); repeat' (first | with_reducible apply True.intro | ((first | (with_reducible apply Same.rfl) | (with_reducible apply Cut.l) | (with_reducible apply Frz.l)) <;> conv => whnf) | fail)
    · rw [show ((k + 1 : Nat) : Int) - 1 = (k : Int) by omega]
      conv => whnf
      have e1 : ((a : Int) + (k : Int)).toNat = a + k := by omega
      obtain ⟨s1, s2⟩ := hP.swap (by omega) (by omega)
      have hsl : (swapL v a (a + k)).length = l.length := by rw [swapL_len, hvl]
      have ks := k_sift (swapL v a (a + k)) 0 k a (by omega) (by omega) (by omega) s1
      rw [hsl] at ks
      repeat' (first | ((with_reducible apply GiveN.keep [0]); (conv => whnf)) | ((first | (with_reducible apply Nm.set _ (rfl)) | ((with_reducible apply Nm.mk); focus ((try simp only [lns]); exact rfl)) | ((with_reducible apply Wr.i64); focus omega) | ((with_reducible apply Need.mk); focus first | omega | kernel_rfl) | ((with_reducible apply Elem.lst); focus first | omega | (simp only [lns]; omega)) | (refine CallKN.ex (ks) ?_; rintro _ _ ⟨u, ⟨u1, u2⟩, rfl, rfl⟩) | ((with_reducible apply Bif.dec) <;> intro h <;> (try simp only [lns] at h) <;> (try (exfalso; omega))) | (with_reducible apply Frz.l)) <;> conv => whnf) | fail)
      (refine ⟨⟨(k, u), hv.trans ((Rng.swap (by omega) (by omega) (by omega)).trans (u1.up (by omega) (by omega))), PopI.sift s2 u1 u2, by dsimp only; omega⟩, ?_⟩; (try dsimp only); conv => whnf); repeat' (first | with_reducible apply True.intro | ((first | ((with_reducible apply Need.mk); focus omega) | (with_reducible apply Same.rfl) | (apply Same.int; focus rfl) | (with_reducible apply Turn.l) | (with_reducible apply Frz.l)) <;> conv => whnf) | fail)
  · rw [show ((k + 1 : Nat) : Int) - 1 = (k : Int) by omega]
    conv => whnf
    have ks := k_sift w k (b - a) a (by omega) (by omega) (by omega) hs
    rw [hwl] at ks
    repeat' (first | ((with_reducible apply GiveN.keep [0]); (conv => whnf)) | ((first | ((with_reducible apply Wr.i64); focus omega) | (refine CallKN.ex (ks) ?_; rintro _ _ ⟨u, ⟨u1, u2⟩, rfl, rfl⟩) | ((with_reducible apply Bif.dec) <;> intro h <;> (try simp only [lns] at h) <;> (try (exfalso; omega))) | (with_reducible apply Frz.l)) <;> conv => whnf) | fail)
    rw [ha] at u1
    (refine ⟨⟨(k, u), hr.trans u1, u2, by dsimp only; omega⟩, ?_⟩; (try dsimp only); conv => whnf); repeat' (first | with_reducible apply True.intro | ((first | ((with_reducible apply Need.mk); focus omega) | (with_reducible apply Same.rfl) | (apply Same.int; focus rfl) | (with_reducible apply Turn.l) | (with_reducible apply Frz.l)) <;> conv => whnf) | fail)
end Go.Fw

/- slices.Sort of numbers: reversing, pivots, partitions. -/
namespace Go.Fw
open Go.Proofs
set_option maxHeartbeats 4000000
set_option maxRecDepth 4000
theorem k_revRange (l : List Int) (a b : Nat) (hab : a < b) (hb : b ≤ l.length) (hl : l.length ≤ 1000000) :
    ∃ r hp', (∃ w : List Int, Rng l w a b ∧ r = .tup [] ∧ hp' = [.arr none 1 (lst u64 w)]) ∧ ConK Tryz.prog 80 [.ov 1 0 0 l.length, int a, int b] [.arr none 1 (lst u64 l)] r hp' := by
  refine spec_of_runRK ttok mixed (T0 := 8391) (ts := []) 32 rfl rfl rfl rfl (by simp) rfl ?_
  conv => whnf
  repeat' (first | ((first | ((with_reducible apply Wr.i64); focus omega) | (with_reducible apply Frz.l)) <;> conv => whnf) | fail)
  rw [show (b : Int) - 1 = ((b - 1 : Nat) : Int) by omega]
  refine loop_keep ttok mixed (T0 := 8391) [0, 1, 2] (ι := {p : Nat × Nat × List Int // Rng l p.2.2 a b ∧ a ≤ p.1 ∧ p.2.1 < b ∧ p.1 ≤ p.2.1 + 1})
    (fun p => [(6, int (p.1.1 : Int)), (7, int (p.1.2.1 : Int))]) (fun p => [.arr none 1 (lst u64 p.1.2.2)]) (fun p => p.1.2.1 + 1 - p.1.1) ⟨(a, b - 1, l), Rng.refl _ _ _, Nat.le_refl _, by dsimp only; omega, by dsimp only; omega⟩ ?_
  conv => whnf
  repeat' (first | ((first | (with_reducible apply Same.rfl) | (apply Same.int; focus rfl) | (with_reducible apply Frz.l)) <;> conv => whnf) | fail)
  rintro ⟨⟨i, j, w⟩, hr, h1, h2, h3⟩
  dsimp only at hr h1 h2 h3 ⊢
  have hwl := hr.len
  conv => whnf
  repeat' (first | ((first | (with_reducible apply Nm.set _ (rfl)) | ((with_reducible apply Nm.mk); focus ((try simp only [lns]); exact rfl)) | ((with_reducible apply Wr.i64); focus omega) | ((with_reducible apply Need.mk); focus first | omega | kernel_rfl) | ((with_reducible apply Elem.lst); focus first | omega | (simp only [lns]; omega)) | ((with_reducible apply Bif.dec) <;> intro h <;> (try simp only [lns] at h)) | (with_reducible apply Frz.l)) <;> conv => whnf) | fail)
  · (refine ⟨⟨(i + 1, j - 1, swapL w i j), hr.trans (Rng.swap (by omega) (by omega) (by omega)), by dsimp only; omega, by dsimp only; omega, by dsimp only; omega⟩, ?_⟩; (try dsimp only); conv => whnf); repeat' (first | with_reducible apply True.intro | ((first | ((with_reducible apply Need.mk); focus omega) | (with_reducible apply Same.rfl) | (apply Same.int; focus first | rfl | omega) | (apply Same.rfl) | (with_reducible apply Turn.l) | (with_reducible apply Frz.l)) <;> conv => whnf) | fail)
  · (refine ⟨_, _, ⟨w, hr, rfl, rfl⟩, ?_⟩; conv => whnf); repeat' (first | with_reducible apply True.intro | ((first | (with_reducible apply Same.rfl) | (with_reducible apply Cut.l) | (with_reducible apply Frz.l)) <;> conv => whnf) | fail)
theorem k_order2 (l : List Int) (a b : Nat) (s : Int) (ha : a < l.length) (hb : b < l.length) (hs : 0 ≤ s ∧ s ≤ 1000) :
    ∃ r hp', (∃ (x y : Nat) (s' : Int), r = .tup [int x, int y] ∧ hp' = [.cells (int s')] ∧ ((x = a ∧ y = b) ∨ (x = b ∧ y = a)) ∧ 0 ≤ s' ∧ s' ≤ s + 1) ∧ Con Tryz.prog 105 [.fs .no 1 (lst u64 l), int a, int b, .pb 0 []] [.cells (int s)] r hp' := by
  refine spec_of_runR ttok mixed (T0 := 262927) (ts := [.tmp 8, .tmp 9]) 28 rfl rfl rfl rfl (by simp) rfl ?_
  conv => whnf
  repeat' (first | ((first | ((with_reducible apply Nm.mk); focus ((try simp only [lns]); exact rfl)) | ((with_reducible apply Wr.i64); focus omega) | ((with_reducible apply Need.mk); focus first | (simp only [lns]; omega) | kernel_rfl) | ((with_reducible apply Elem.lst); focus omega) | (apply CallN.mk (k_cLess _ _)) | ((with_reducible apply Bif.dec) <;> intro h <;> (try simp only [lns] at h)) | (with_reducible apply Frz.l)) <;> conv => whnf) | fail)
  · (refine ⟨_, _, ⟨b, a, s + 1, rfl, rfl, .inr ⟨rfl, rfl⟩, by omega, by omega⟩, ?_⟩; conv => whnf); repeat' (first | with_reducible apply True.intro | ((first | (with_reducible apply Same.rfl) | (apply Same.int; focus rfl) | (with_reducible apply Frz.l)) <;> conv => whnf) | fail)
  · (refine ⟨_, _, ⟨a, b, s, rfl, rfl, .inl ⟨rfl, rfl⟩, by omega, by omega⟩, ?_⟩; conv => whnf); repeat' (first | with_reducible apply True.intro | ((first | (with_reducible apply Same.rfl) | (with_reducible apply Frz.l)) <;> conv => whnf) | fail)
theorem k_median (l : List Int) (a b c : Nat) (s : Int) (ha : a < l.length) (hb : b < l.length) (hc : c < l.length) (hs : 0 ≤ s ∧ s ≤ 900) :
    ∃ r hp', (∃ (x : Nat) (s' : Int), r = int x ∧ hp' = [.cells (int s')] ∧ (x = a ∨ x = b ∨ x = c) ∧ 0 ≤ s' ∧ s' ≤ s + 3) ∧ Con Tryz.prog 100 [.fs .no 1 (lst u64 l), int a, int b, int c, .pb 0 []] [.cells (int s)] r hp' := by
  refine spec_of_runR ttok mixed (T0 := 1055) (ts := [.tmp 10]) 36 rfl rfl rfl rfl (by simp) rfl ?_
  conv => whnf
  repeat' (first | ((first | (refine CallN.ex (k_order2 l _ _ _ (by omega) (by omega) (by omega)) ?_; rintro _ _ ⟨x, y, s', rfl, rfl, h1, h2, h3⟩) | (with_reducible apply Frz.l)) <;> conv => whnf) | fail)
  (apply Ex2.mk (int _) ([.cells (int _)])); (focus ((conv => whnf); repeat' (first | with_reducible apply True.intro | ((first | (with_reducible apply Same.rfl) | (with_reducible apply Frz.l)) <;> conv => whnf) | fail))); exact ⟨_, _, rfl, rfl, by omega, by omega, by omega⟩
theorem k_choose (l : List Int) (a b : Nat) (hab : a + 12 < b) (hab2 : b < a + 50) (hb : b ≤ l.length) (hl : l.length ≤ 1000000) :
    ∃ r hp', (∃ (x : Nat) (h : Int), r = .tup [int x, int h] ∧ hp' = [] ∧ a ≤ x ∧ x < b) ∧ Con Tryz.prog 79 [.fs .no 1 (lst u64 l), int a, int b] [] r hp' := by
  have hd : (b : Int) - (a : Int) = ((b - a : Nat) : Int) := by omega
  have hq : (((b - a : Nat) : Int)).tdiv 4 = (((b - a) / 4 : Nat) : Int) := by rw [Int.tdiv_eq_ediv_of_nonneg (by omega)]; omega
  have e1 : (a : Int) + (((b - a) / 4 : Nat) : Int) * 1 = ((a + (b - a) / 4 : Nat) : Int) := by omega
  have e2 : (a : Int) + (((b - a) / 4 : Nat) : Int) * 2 = ((a + (b - a) / 4 * 2 : Nat) : Int) := by omega
  have e3 : (a : Int) + (((b - a) / 4 : Nat) : Int) * 3 = ((a + (b - a) / 4 * 3 : Nat) : Int) := by omega
  refine spec_of_runR ttok mixed (T0 := 20829169751433159) (ts := [.tmp 6, .tmp 7]) 57 rfl rfl rfl rfl (by simp) rfl ?_
  conv => whnf
  repeat' (first | ((first | ((with_reducible apply Wr.i64); focus omega) | ((with_reducible apply Need.mk); focus omega) | (with_reducible apply Frz.l)) <;> conv => whnf) | fail)
  rw [hd, hq]
  repeat' (first | ((first | ((with_reducible apply Wr.i64); focus omega) | ((with_reducible apply Need.mk); focus omega) | ((with_reducible apply Bif.dec) <;> intro h <;> (try simp only [lns] at h) <;> (try (exfalso; omega))) | (with_reducible apply Frz.l)) <;> conv => whnf) | fail)
  rw [hq, e1, e2, e3]
  repeat' (first | ((first | (refine CallN.ex (k_median l _ _ _ _ (by omega) (by omega) (by omega) (by omega)) ?_; rintro _ _ ⟨x, s', rfl, rfl, h1, h2, h3⟩) | ((with_reducible apply Bif.beq) <;> intro h <;> (try simp only [lns] at h) <;> (try (exfalso; omega))) | (with_reducible apply Frz.l)) <;> conv => whnf) | fail)
  all_goals ((apply Ex2.mk (.tup [int _, int _]) ([])); (focus ((conv => whnf); repeat' (first | with_reducible apply True.intro | ((first | (with_reducible apply Same.rfl) | (apply Same.int; focus rfl) | (with_reducible apply Frz.l)) <;> conv => whnf) | fail))); exact ⟨x, _, rfl, rfl, by omega, by omega⟩)
end Go.Fw
