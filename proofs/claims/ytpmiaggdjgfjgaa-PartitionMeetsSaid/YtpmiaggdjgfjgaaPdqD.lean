/- slices.Sort of numbers: partitions. -/
import Derived.Test.YtpmiaggdjgfjgaaPdqC
namespace Go.Fw
open Go.Proofs
set_option maxHeartbeats 8000000
set_option maxRecDepth 4000
theorem k_partIns (l : List Int) (a b : Nat) (hab : a + 12 < b) (hab2 : b < a + 50) (hb : b ≤ l.length) (hl : l.length ≤ 1000000) :
    ∃ r hp', (∃ x : Bool, r = bool x ∧ hp' = [] ∧ (x = true → Srt cI l a b)) ∧ Con Try.prog 87 [.fs .no 1 (lst u64 l), int a, int b] [] r hp' := by
  refine spec_of_runR ttok mixed (T0 := 83087207854311395603287443752634311) (ts := [.tmp 6]) 133 rfl rfl rfl rfl (by simp) rfl ?_
  conv => whnf
  repeat' (first | (((with_reducible apply Wr.i64); focus omega) <;> conv => whnf) | fail)
  refine loop_keep ttok mixed (T0 := 83087207854311395603287443752634311) [0, 1, 2] (ι := Unit) (fun _ => [(7, int (((a + 1 : Nat) : Int))), (8, int 0)]) (fun _ => []) (fun _ => 0) () ?_
  conv => whnf
  repeat' (first | ((first | (with_reducible apply Same.rfl) | (apply Same.int; focus rfl)) <;> conv => whnf) | fail)
  rintro ⟨⟩
  conv => whnf
  repeat' (first | (((with_reducible apply Bif.dec) <;> intro h <;> (try simp only [lns] at h) <;> (try (exfalso; omega))) <;> conv => whnf) | fail)
  refine loop_keep ttok mixed (T0 := 83087207854311395603287443752634311) [0, 1, 2, 8] (ι := {i : Nat // a + 1 ≤ i ∧ i ≤ b ∧ Srt cI l a i}) (fun i => [(7, int ((i.1 : Nat) : Int))]) (fun _ => []) (fun i => b - i.1) ⟨a + 1, by omega, by omega, Srt.small (by omega)⟩ ?_
  conv => whnf
  repeat' (first | ((with_reducible apply Same.rfl) <;> conv => whnf) | fail)
  rintro ⟨i, h1, h2, h3⟩
  dsimp only
  conv => whnf
  have e1 : ((i : Int) - 1).toNat = i - 1 := by omega
  have h4 : i < b → ¬ gt l i < gt l (i - 1) → Srt cI l a (i + 1) := fun h5 h6 => srt_iff.2 fun x y g1 g2 g3 => by
    by_cases hy : y = i
    · subst hy
      by_cases hx : x = y - 1
      · subst hx; omega
      · have := srt_iff.1 h3 x (y - 1) g1 (by omega) (by omega)
        omega
    · exact srt_iff.1 h3 x y g1 g2 (by omega)
  repeat' (first | ((first | ((with_reducible apply Nm.mk); focus ((try simp only [lns]); exact rfl)) | ((with_reducible apply Wr.i64); focus omega) | ((with_reducible apply Need.mk); focus first | (simp only [lns]; omega) | kernel_rfl) | ((with_reducible apply Elem.lst); focus omega) | (apply CallN.mk (k_cLess _ _)) | (with_reducible first | apply Bif.T | apply Bif.F) | ((with_reducible first | apply Bif.dec | apply Bif.beq) <;> intro h <;> (try simp only [lns] at h) <;> (try (exfalso; omega))) | (with_reducible apply Bif.not)) <;> conv => whnf) | fail)
  · (refine ⟨_, _, ⟨false, rfl, rfl, fun h => (by cases h)⟩, ?_⟩; conv => whnf); repeat' (first | with_reducible apply True.intro | ((apply Same.bool; focus (with_reducible rfl)) <;> conv => whnf) | fail)
  · rw [e1] at h
    (refine ⟨⟨i + 1, by omega, by omega, h4 (by omega) h⟩, ?_⟩; (try dsimp only); conv => whnf); repeat' (first | with_reducible apply True.intro | ((first | ((with_reducible apply Need.mk); focus omega) | (with_reducible apply Same.rfl) | (apply Same.int; focus rfl) | (with_reducible apply Turn.l)) <;> conv => whnf) | fail)
  · have hib : i = b := by omega
    (refine ⟨_, _, ⟨true, rfl, rfl, fun _ => by rw [← hib]; exact h3⟩, ?_⟩; conv => whnf); repeat' (first | with_reducible apply True.intro | ((apply Same.bool; focus (with_reducible rfl)) <;> conv => whnf) | fail)
theorem pe_lt {w : List Int} {a i j j0 : Nat} (hA : i ≤ j0 → gt w a < gt w i) (hj0 : j ≤ j0) (hij : i ≤ j) (h : gt w j ≤ gt w a) : i < j := by
  rcases Nat.lt_or_ge i j with hh | hh
  · exact hh
  · have he : i = j := by omega
    subst he
    have := hA hj0
    omega
theorem k_partEq (l : List Int) (a b pv : Nat) (hab : a + 1 < b) (hp : a ≤ pv ∧ pv < b) (hb : b ≤ l.length) (hl : l.length ≤ 1000000) (hmin : ∀ x, a ≤ x → x < b → gt l pv ≤ gt l x) :
    ∃ r hp', (∃ (w : List Int) (m : Nat), (Rng l w a b ∧ a < m ∧ m ≤ b ∧ ∀ x y, a ≤ x → x < m → a ≤ y → y < b → gt w x ≤ gt w y) ∧ r = int m ∧ hp' = [.arr none 1 (lst u64 w)]) ∧ ConK Try.prog 88 [.ov 1 0 0 l.length, int a, int b, int pv] [.arr none 1 (lst u64 l)] r hp' := by
  obtain ⟨v, hv, hR, hM⟩ : ∃ v, v = swapL l a pv ∧ Rng l v a b ∧ ∀ x, a ≤ x → x < b → gt v a ≤ gt v x := by
    refine ⟨_, rfl, Rng.swap (by omega) (by omega) hb, fun x h1 h2 => ?_⟩
    have g := swapL_gt (l := l) (i := a) (j := pv) (by omega) (by omega)
    have ga : gt (swapL l a pv) a = gt l pv := by
      rw [g]
      by_cases h : a = pv
      · rw [if_pos h, h]
      · rw [if_neg h, if_pos rfl]
    rw [ga, g]
    repeat' split
    · exact hmin a (by omega) (by omega)
    · exact hmin pv (by omega) (by omega)
    · exact hmin x h1 h2
  refine spec_of_runRK ttok mixed (T0 := 19023213622105999119) (ts := [.tmp 8]) 84 rfl rfl rfl rfl (by simp) rfl ?_
  conv => whnf
  repeat' (first | ((first | (with_reducible apply Nm.set _ (rfl)) | ((with_reducible apply Nm.mk); focus ((try simp only [lns]); exact rfl)) | ((with_reducible apply Wr.i64); focus omega) | ((with_reducible apply Need.mk); focus first | omega | kernel_rfl) | ((with_reducible apply Elem.lst); focus first | omega | (simp only [lns]; omega))) <;> conv => whnf) | fail)
  rw [show (b : Int) - 1 = ((b - 1 : Nat) : Int) by omega]
  refine loop_keep ttok mixed (T0 := 19023213622105999119) [0, 1, 2] (ι := {p : Nat × Nat × List Int // Rng l p.2.2 a b ∧ PeI p.2.2 a b p.1 p.2.1})
    (fun p => [(9, int (p.1.1 : Int)), (10, int (p.1.2.1 : Int))]) (fun p => [.arr none 1 (lst u64 p.1.2.2)]) (fun p => p.1.2.1 + 1 - p.1.1) ⟨(a + 1, b - 1, v), hR, PeI.start hab hM⟩ ?_
  conv => whnf
  repeat' (first | ((with_reducible apply Same.mk); (focus (exact congrArg (lst u64) hv.symm)); (conv => whnf)) | ((first | (with_reducible apply Same.rfl) | (apply Same.int; focus rfl)) <;> conv => whnf) | fail)
  rintro ⟨⟨i0, j0, w⟩, hr, hI0⟩
  dsimp only at hr hI0 ⊢
  have hwl := hr.len
  have ij0 := hI0.ij
  conv => whnf
  skip
  refine loop_keep ttok mixed (T0 := 19023213622105999119) [0, 1, 2, 10] (ι := {i : Nat // PeI w a b i j0 ∧ i0 ≤ i})
    (fun i => [(9, int ((i.1 : Nat) : Int))]) (fun _ => [.arr none 1 (lst u64 w)]) (fun i => b + 1 - i.1) ⟨i0, hI0, Nat.le_refl _⟩ ?_
  conv => whnf
  repeat' (first | ((with_reducible apply Same.rfl) <;> conv => whnf) | fail)
  rintro ⟨i, hI, hi0⟩
  dsimp only
  have ij := hI.ij
  conv => whnf
  repeat' (first | ((first | ((with_reducible apply Nm.mk); focus ((try simp only [lns]); exact rfl)) | ((with_reducible apply Wr.i64); focus omega) | ((with_reducible apply Need.mk); focus first | omega | kernel_rfl) | ((with_reducible apply Elem.lst); focus omega) | (apply CallN.mk (k_cLess _ _)) | (with_reducible first | apply Bif.T | apply Bif.F) | ((with_reducible apply Bif.dec) <;> intro h <;> (try simp only [lns] at h)) | (with_reducible apply Bif.not)) <;> conv => whnf) | fail)
  rotate_left
  · (refine ⟨⟨i + 1, hI.i1 (by omega) (by omega), by omega⟩, ?_⟩; (try dsimp only); conv => whnf); repeat' (first | with_reducible apply True.intro | ((first | ((with_reducible apply Need.mk); focus omega) | (with_reducible apply Same.rfl) | (apply Same.int; focus rfl) | (with_reducible apply Turn.l)) <;> conv => whnf) | fail)
  · have hA : i ≤ j0 → gt w a < gt w i := by intro hh; omega
    refine loop_keep ttok mixed (T0 := 19023213622105999119) [0, 1, 2, 9] (ι := {j : Nat // PeI w a b i j ∧ j ≤ j0})
      (fun j => [(10, int ((j.1 : Nat) : Int))]) (fun _ => [.arr none 1 (lst u64 w)]) (fun j => j.1) ⟨j0, hI, Nat.le_refl _⟩ ?_
    conv => whnf
    repeat' (first | ((with_reducible apply Same.rfl) <;> conv => whnf) | fail)
    rintro ⟨j, hJ, hj0⟩
    dsimp only
    have jj := hJ.ij
    conv => whnf
    repeat' (first | ((first | ((with_reducible apply Need.mk); focus kernel_rfl) | (with_reducible apply Bif.F) | ((with_reducible apply Bif.dec) <;> intro h <;> (try simp only [lns] at h) <;> (try (exfalso; omega)))) <;> conv => whnf) | fail)
    · (refine ⟨_, _, ⟨w, i, ⟨hr, by omega, by omega, hJ.done⟩, rfl, rfl⟩, ?_⟩; conv => whnf); repeat' (first | with_reducible apply True.intro | ((first | (with_reducible apply Same.rfl) | (with_reducible apply Cut.l)) <;> conv => whnf) | fail)
  · have hA : i ≤ j0 → gt w a < gt w i := by intro hh; omega
    refine loop_keep ttok mixed (T0 := 19023213622105999119) [0, 1, 2, 9] (ι := {j : Nat // PeI w a b i j ∧ j ≤ j0})
      (fun j => [(10, int ((j.1 : Nat) : Int))]) (fun _ => [.arr none 1 (lst u64 w)]) (fun j => j.1) ⟨j0, hI, Nat.le_refl _⟩ ?_
    conv => whnf
    repeat' (first | ((with_reducible apply Same.rfl) <;> conv => whnf) | fail)
    rintro ⟨j, hJ, hj0⟩
    dsimp only
    have jj := hJ.ij
    conv => whnf
    repeat' (first | ((first | (with_reducible apply Nm.set _ (rfl)) | ((with_reducible apply Nm.mk); focus ((try simp only [lns]); exact rfl)) | ((with_reducible apply Wr.i64); focus omega) | ((with_reducible apply Need.mk); focus first | omega | kernel_rfl) | ((with_reducible apply Elem.lst); focus first | omega | (simp only [lns]; omega)) | (apply CallN.mk (k_cLess _ _)) | (with_reducible first | apply Bif.T | apply Bif.F) | ((with_reducible apply Bif.dec) <;> intro h <;> (try simp only [lns] at h) <;> (try (exfalso; omega)))) <;> conv => whnf) | fail)
    · (refine ⟨⟨j - 1, hJ.j1 (by omega), by omega⟩, ?_⟩; (try dsimp only); conv => whnf); repeat' (first | with_reducible apply True.intro | ((first | ((with_reducible apply Need.mk); focus omega) | (with_reducible apply Same.rfl) | (apply Same.int; focus omega) | (with_reducible apply Turn.l)) <;> conv => whnf) | fail)
    · (refine ⟨⟨(i + 1, j - 1, swapL w i j), hr.trans (Rng.swap (by omega) (by omega) (by omega)), hJ.swap (by omega) (pe_lt hA hj0 (by omega) (by omega)) (by omega)⟩, ?_⟩; (try dsimp only); conv => whnf); repeat' (first | with_reducible apply True.intro | ((first | ((with_reducible apply Need.mk); focus omega) | (with_reducible apply Same.rfl) | (apply Same.int; focus first | rfl | omega) | (apply Same.rfl) | (with_reducible apply Turn.l)) <;> conv => whnf) | fail)
    · (refine ⟨_, _, ⟨w, i, ⟨hr, by omega, by omega, hJ.done⟩, rfl, rfl⟩, ?_⟩; conv => whnf); repeat' (first | with_reducible apply True.intro | ((first | (with_reducible apply Same.rfl) | (with_reducible apply Cut.l)) <;> conv => whnf) | fail)
theorem k_part (l : List Int) (a b pv : Nat) (hab : a + 1 < b) (hp : a ≤ pv ∧ pv < b) (hb : b ≤ l.length) (hl : l.length ≤ 1000000) :
    ∃ r hp', (∃ (w : List Int) (m : Nat) (x : Bool), (Rng l w a b ∧ Part w a b m) ∧ r = .tup [int m, bool x] ∧ hp' = [.arr none 1 (lst u64 w)]) ∧ ConK Try.prog 89 [.ov 1 0 0 l.length, int a, int b, int pv] [.arr none 1 (lst u64 l)] r hp' := by
  obtain ⟨v, hv, hR⟩ : ∃ v, v = swapL l a pv ∧ Rng l v a b := ⟨_, rfl, Rng.swap (by omega) (by omega) hb⟩
  refine spec_of_runRK ttok mixed (T0 := 22458641409078797123448399039441150152463) (ts := [.tmp 8, .tmp 9]) 168 rfl rfl rfl rfl (by simp) rfl ?_
  conv => whnf
  repeat' (first | ((first | (with_reducible apply Nm.set _ (rfl)) | ((with_reducible apply Nm.mk); focus ((try simp only [lns]); exact rfl)) | ((with_reducible apply Wr.i64); focus omega) | ((with_reducible apply Need.mk); focus first | omega | kernel_rfl) | ((with_reducible apply Elem.lst); focus first | omega | (simp only [lns]; omega))) <;> conv => whnf) | fail)
  rw [show (b : Int) - 1 = ((b - 1 : Nat) : Int) by omega]
  have hvl := hR.len
  refine loop_keep ttok mixed (T0 := 22458641409078797123448399039441150152463) [0, 1, 2, 11] (ι := {i : Nat // PtI v a b i (b - 1)})
    (fun i => [(10, int ((i.1 : Nat) : Int))]) (fun _ => [.arr none 1 (lst u64 v)]) (fun i => b + 1 - i.1) ⟨a + 1, PtI.start hab⟩ ?_
  conv => whnf
  repeat' (first | ((with_reducible apply Same.mk); (focus (exact congrArg (lst u64) hv.symm)); (conv => whnf)) | ((first | (with_reducible apply Same.rfl) | (apply Same.int; focus rfl)) <;> conv => whnf) | fail)
  rintro ⟨i0, hI0⟩
  dsimp only
  have ij0 := hI0.ij
  conv => whnf
  repeat' (first | ((first | ((with_reducible apply Nm.mk); focus ((try simp only [lns]); exact rfl)) | ((with_reducible apply Wr.i64); focus omega) | ((with_reducible apply Need.mk); focus first | omega | kernel_rfl) | ((with_reducible apply Elem.lst); focus omega) | (apply CallN.mk (k_cLess _ _)) | (with_reducible first | apply Bif.T | apply Bif.F) | ((with_reducible apply Bif.dec) <;> intro h <;> (try simp only [lns] at h))) <;> conv => whnf) | fail)
  · (refine ⟨⟨i0 + 1, hI0.i1 (by omega) h⟩, ?_⟩; (try dsimp only); conv => whnf); repeat' (first | with_reducible apply True.intro | ((first | ((with_reducible apply Need.mk); focus omega) | (with_reducible apply Same.rfl) | (apply Same.int; focus rfl) | (with_reducible apply Turn.l)) <;> conv => whnf) | fail)
  · have hA : i0 ≤ b - 1 → gt v a ≤ gt v i0 := by intro hh; omega
    refine loop_keep ttok mixed (T0 := 22458641409078797123448399039441150152463) [0, 1, 2, 10] (ι := {j : Nat // PtI v a b i0 j ∧ j ≤ b - 1})
      (fun j => [(11, int ((j.1 : Nat) : Int))]) (fun _ => [.arr none 1 (lst u64 v)]) (fun j => j.1) ⟨b - 1, hI0, Nat.le_refl _⟩ ?_
    conv => whnf
    repeat' (first | ((first | (with_reducible apply Same.rfl) | (apply Same.int; focus rfl)) <;> conv => whnf) | fail)
    rintro ⟨j0, hJ0, hj0⟩
    dsimp only
    have jj0 := hJ0.ij
    conv => whnf
    repeat' (first | ((first | (with_reducible apply Nm.set _ (rfl)) | ((with_reducible apply Nm.mk); focus ((try simp only [lns]); exact rfl)) | ((with_reducible apply Wr.i64); focus omega) | ((with_reducible apply Need.mk); focus first | omega | kernel_rfl) | ((with_reducible apply Elem.lst); focus first | omega | (simp only [lns]; omega)) | (apply CallN.mk (k_cLess _ _)) | (with_reducible first | apply Bif.T | apply Bif.F) | ((with_reducible apply Bif.dec) <;> intro h <;> (try simp only [lns] at h) <;> (try (exfalso; omega))) | (with_reducible apply Bif.not)) <;> conv => whnf) | fail)
    · obtain ⟨u, hu, hU⟩ : ∃ u, u = swapL v i0 j0 ∧ PtI u a b (i0 + 1) (j0 - 1) := ⟨_, rfl, hJ0.swap (by omega) (by omega) (hA (by omega)) (by omega)⟩
      have hRu : Rng l u a b := by rw [hu]; exact hR.trans (Rng.swap (by omega) (by omega) (by omega))
      refine loop_keep ttok mixed (T0 := 22458641409078797123448399039441150152463) [0, 1, 2] (ι := {p : Nat × Nat × List Int // Rng l p.2.2 a b ∧ PtI p.2.2 a b p.1 p.2.1})
        (fun p => [(10, int (p.1.1 : Int)), (11, int (p.1.2.1 : Int))]) (fun p => [.arr none 1 (lst u64 p.1.2.2)]) (fun p => p.1.2.1 + 1 - p.1.1) ⟨(i0 + 1, j0 - 1, u), hRu, hU⟩ ?_
      conv => whnf
      repeat' (first | ((with_reducible apply Same.mk); (focus (exact congrArg (lst u64) hu.symm)); (conv => whnf)) | ((first | (with_reducible apply Same.rfl) | (apply Same.int; focus first | rfl | (dsimp only; omega))) <;> conv => whnf) | fail)
      rintro ⟨⟨i1, j1, w⟩, hw, hW⟩
      dsimp only at hw hW ⊢
      have hwl := hw.len
      have ij1 := hW.ij
      conv => whnf
      skip
      refine loop_keep ttok mixed (T0 := 22458641409078797123448399039441150152463) [0, 1, 2, 11] (ι := {i : Nat // PtI w a b i j1 ∧ i1 ≤ i})
        (fun i => [(10, int ((i.1 : Nat) : Int))]) (fun _ => [.arr none 1 (lst u64 w)]) (fun i => b + 1 - i.1) ⟨i1, hW, Nat.le_refl _⟩ ?_
      conv => whnf
      repeat' (first | ((with_reducible apply Same.rfl) <;> conv => whnf) | fail)
      rintro ⟨i, hI, hi⟩
      dsimp only
      have ij := hI.ij
      conv => whnf
      repeat' (first | ((first | ((with_reducible apply Nm.mk); focus ((try simp only [lns]); exact rfl)) | ((with_reducible apply Wr.i64); focus omega) | ((with_reducible apply Need.mk); focus first | omega | kernel_rfl) | ((with_reducible apply Elem.lst); focus omega) | (apply CallN.mk (k_cLess _ _)) | (with_reducible first | apply Bif.T | apply Bif.F) | ((with_reducible apply Bif.dec) <;> intro h <;> (try simp only [lns] at h))) <;> conv => whnf) | fail)
      · (refine ⟨⟨i + 1, hI.i1 (by omega) h, by omega⟩, ?_⟩; (try dsimp only); conv => whnf); repeat' (first | with_reducible apply True.intro | ((first | ((with_reducible apply Need.mk); focus omega) | (with_reducible apply Same.rfl) | (apply Same.int; focus rfl) | (with_reducible apply Turn.l)) <;> conv => whnf) | fail)
      · have hB : i ≤ j1 → gt w a ≤ gt w i := by intro hh; omega
        refine loop_keep ttok mixed (T0 := 22458641409078797123448399039441150152463) [0, 1, 2, 10] (ι := {j : Nat // PtI w a b i j ∧ j ≤ j1})
          (fun j => [(11, int ((j.1 : Nat) : Int))]) (fun _ => [.arr none 1 (lst u64 w)]) (fun j => j.1) ⟨j1, hI, Nat.le_refl _⟩ ?_
        conv => whnf
        repeat' (first | ((with_reducible apply Same.rfl) <;> conv => whnf) | fail)
        rintro ⟨j, hJ, hj⟩
        dsimp only
        have jj := hJ.ij
        conv => whnf
        repeat' (first | ((first | (with_reducible apply Nm.set _ (rfl)) | ((with_reducible apply Nm.mk); focus ((try simp only [lns]); exact rfl)) | ((with_reducible apply Wr.i64); focus omega) | ((with_reducible apply Need.mk); focus first | omega | kernel_rfl) | ((with_reducible apply Elem.lst); focus first | omega | (simp only [lns]; omega)) | (apply CallN.mk (k_cLess _ _)) | (with_reducible first | apply Bif.T | apply Bif.F) | ((with_reducible apply Bif.dec) <;> intro h <;> (try simp only [lns] at h) <;> (try (exfalso; omega))) | (with_reducible apply Bif.not)) <;> conv => whnf) | fail)
        · (refine ⟨⟨(i + 1, j - 1, swapL w i j), hw.trans (Rng.swap (by omega) (by omega) (by omega)), hJ.swap (by omega) (by omega) (hB (by omega)) (by omega)⟩, ?_⟩; (try dsimp only); conv => whnf); repeat' (first | with_reducible apply True.intro | ((first | ((with_reducible apply Need.mk); focus omega) | (with_reducible apply Same.rfl) | (apply Same.int; focus first | rfl | omega) | (apply Same.rfl) | (with_reducible apply Turn.l)) <;> conv => whnf) | fail)
        · (refine ⟨⟨j - 1, hJ.j1 (by omega) (by omega), by omega⟩, ?_⟩; (try dsimp only); conv => whnf); repeat' (first | with_reducible apply True.intro | ((first | ((with_reducible apply Need.mk); focus omega) | (with_reducible apply Same.rfl) | (apply Same.int; focus omega) | (with_reducible apply Turn.l)) <;> conv => whnf) | fail)
        · (refine ⟨_, _, ⟨swapL w j a, j, false, ⟨hw.trans (Rng.swap (by omega) (by omega) (by omega)), hJ.done (by omega) (by omega)⟩, rfl, rfl⟩, ?_⟩; conv => whnf); repeat' (first | with_reducible apply True.intro | ((first | (with_reducible apply Same.rfl) | (apply Same.bool; focus (with_reducible rfl)) | (apply Same.rfl) | (with_reducible apply Cut.l)) <;> conv => whnf) | fail)
      · have hB : i ≤ j1 → gt w a ≤ gt w i := by intro hh; omega
        refine loop_keep ttok mixed (T0 := 22458641409078797123448399039441150152463) [0, 1, 2, 10] (ι := {j : Nat // PtI w a b i j ∧ j ≤ j1})
          (fun j => [(11, int ((j.1 : Nat) : Int))]) (fun _ => [.arr none 1 (lst u64 w)]) (fun j => j.1) ⟨j1, hI, Nat.le_refl _⟩ ?_
        conv => whnf
        repeat' (first | ((with_reducible apply Same.rfl) <;> conv => whnf) | fail)
        rintro ⟨j, hJ, hj⟩
        dsimp only
        have jj := hJ.ij
        conv => whnf
        repeat' (first | ((first | (with_reducible apply Nm.set _ (rfl)) | ((with_reducible apply Nm.mk); focus ((try simp only [lns]); exact rfl)) | ((with_reducible apply Need.mk); focus first | omega | kernel_rfl) | ((with_reducible apply Elem.lst); focus first | omega | (simp only [lns]; omega)) | (with_reducible apply Bif.F) | ((with_reducible apply Bif.dec) <;> intro h <;> (try simp only [lns] at h) <;> (try (exfalso; omega)))) <;> conv => whnf) | fail)
        · (refine ⟨_, _, ⟨swapL w j a, j, false, ⟨hw.trans (Rng.swap (by omega) (by omega) (by omega)), hJ.done (by omega) (by omega)⟩, rfl, rfl⟩, ?_⟩; conv => whnf); repeat' (first | with_reducible apply True.intro | ((first | (with_reducible apply Same.rfl) | (apply Same.bool; focus (with_reducible rfl)) | (apply Same.rfl) | (with_reducible apply Cut.l)) <;> conv => whnf) | fail)
    · (refine ⟨⟨j0 - 1, hJ0.j1 (by omega) (by omega), by omega⟩, ?_⟩; (try dsimp only); conv => whnf); repeat' (first | with_reducible apply True.intro | ((first | ((with_reducible apply Need.mk); focus omega) | (with_reducible apply Same.rfl) | (apply Same.int; focus omega) | (with_reducible apply Turn.l)) <;> conv => whnf) | fail)
    · (refine ⟨_, _, ⟨swapL v j0 a, j0, true, ⟨hR.trans (Rng.swap (by omega) (by omega) (by omega)), hJ0.done (by omega) (by omega)⟩, rfl, rfl⟩, ?_⟩; conv => whnf); repeat' (first | with_reducible apply True.intro | ((first | (with_reducible apply Same.rfl) | (apply Same.bool; focus (with_reducible rfl)) | (apply Same.rfl) | (with_reducible apply Cut.l)) <;> conv => whnf) | fail)
  · have hA : i0 ≤ b - 1 → gt v a ≤ gt v i0 := by intro hh; omega
    refine loop_keep ttok mixed (T0 := 22458641409078797123448399039441150152463) [0, 1, 2, 10] (ι := {j : Nat // PtI v a b i0 j ∧ j ≤ b - 1})
      (fun j => [(11, int ((j.1 : Nat) : Int))]) (fun _ => [.arr none 1 (lst u64 v)]) (fun j => j.1) ⟨b - 1, hI0, Nat.le_refl _⟩ ?_
    conv => whnf
    repeat' (first | ((first | (with_reducible apply Same.rfl) | (apply Same.int; focus rfl)) <;> conv => whnf) | fail)
    rintro ⟨j0, hJ0, hj0⟩
    dsimp only
    have jj0 := hJ0.ij
    conv => whnf
    repeat' (first | ((first | (with_reducible apply Nm.set _ (rfl)) | ((with_reducible apply Nm.mk); focus ((try simp only [lns]); exact rfl)) | ((with_reducible apply Need.mk); focus first | omega | kernel_rfl) | ((with_reducible apply Elem.lst); focus first | omega | (simp only [lns]; omega)) | (with_reducible apply Bif.F) | ((with_reducible apply Bif.dec) <;> intro h <;> (try simp only [lns] at h) <;> (try (exfalso; omega)))) <;> conv => whnf) | fail)
    · (refine ⟨_, _, ⟨swapL v j0 a, j0, true, ⟨hR.trans (Rng.swap (by omega) (by omega) (by omega)), hJ0.done (by omega) (by omega)⟩, rfl, rfl⟩, ?_⟩; conv => whnf); repeat' (first | with_reducible apply True.intro | ((first | (with_reducible apply Same.rfl) | (apply Same.bool; focus (with_reducible rfl)) | (apply Same.rfl) | (with_reducible apply Cut.l)) <;> conv => whnf) | fail)
end Go.Fw
