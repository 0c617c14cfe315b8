/- slices.Sort of numbers: reversing, pivots, partitions. -/
import Derived.Test.YtpmiaggdjgfjgaaPdqA
namespace Go.Fw
open Go.Proofs
set_option maxHeartbeats 4000000
set_option maxRecDepth 4000
theorem k_revRange (l : List Int) (a b : Nat) (hab : a < b) (hb : b ≤ l.length) (hl : l.length ≤ 1000000) :
    ∃ r hp', (∃ w : List Int, Rng l w a b ∧ r = .tup [] ∧ hp' = [.arr none 1 (lst u64 w)]) ∧ ConK Try.prog 86 [.ov 1 0 0 l.length, int a, int b] [.arr none 1 (lst u64 l)] r hp' := by
  refine spec_of_runRK ttok mixed (T0 := 8391) (ts := []) 32 rfl rfl rfl rfl (by simp) rfl ?_
  conv => whnf
  repeat' (first | (((with_reducible apply Wr.i64); focus omega) <;> conv => whnf) | fail)
  rw [show (b : Int) - 1 = ((b - 1 : Nat) : Int) by omega]
  refine loop_keep ttok mixed (T0 := 8391) [0, 1, 2] (ι := {p : Nat × Nat × List Int // Rng l p.2.2 a b ∧ a ≤ p.1 ∧ p.2.1 < b ∧ p.1 ≤ p.2.1 + 1})
    (fun p => [(6, int (p.1.1 : Int)), (7, int (p.1.2.1 : Int))]) (fun p => [.arr none 1 (lst u64 p.1.2.2)]) (fun p => p.1.2.1 + 1 - p.1.1) ⟨(a, b - 1, l), Rng.refl _ _ _, Nat.le_refl _, by dsimp only; omega, by dsimp only; omega⟩ ?_
  conv => whnf
  repeat' (first | ((first | (with_reducible apply Same.rfl) | (apply Same.int; focus rfl)) <;> conv => whnf) | fail)
  rintro ⟨⟨i, j, w⟩, hr, h1, h2, h3⟩
  dsimp only at hr h1 h2 h3 ⊢
  have hwl := hr.len
  conv => whnf
  repeat' (first | ((first | (with_reducible apply Nm.set _ (rfl)) | ((with_reducible apply Nm.mk); focus ((try simp only [lns]); exact rfl)) | ((with_reducible apply Wr.i64); focus omega) | ((with_reducible apply Need.mk); focus first | omega | kernel_rfl) | ((with_reducible apply Elem.lst); focus first | omega | (simp only [lns]; omega)) | ((with_reducible apply Bif.dec) <;> intro h <;> (try simp only [lns] at h))) <;> conv => whnf) | fail)
  · (refine ⟨⟨(i + 1, j - 1, swapL w i j), hr.trans (Rng.swap (by omega) (by omega) (by omega)), by dsimp only; omega, by dsimp only; omega, by dsimp only; omega⟩, ?_⟩; (try dsimp only); conv => whnf); repeat' (first | with_reducible apply True.intro | ((first | ((with_reducible apply Need.mk); focus omega) | (with_reducible apply Same.rfl) | (apply Same.int; focus first | rfl | omega) | (apply Same.rfl) | (with_reducible apply Turn.l)) <;> conv => whnf) | fail)
  · (refine ⟨_, _, ⟨w, hr, rfl, rfl⟩, ?_⟩; conv => whnf); repeat' (first | with_reducible apply True.intro | ((first | (with_reducible apply Same.rfl) | (with_reducible apply Cut.l)) <;> conv => whnf) | fail)
theorem k_order2 (l : List Int) (a b : Nat) (s : Int) (ha : a < l.length) (hb : b < l.length) (hs : 0 ≤ s ∧ s ≤ 1000) :
    ∃ r hp', (∃ (x y : Nat) (s' : Int), r = .tup [int x, int y] ∧ hp' = [.cells (int s')] ∧ ((x = a ∧ y = b) ∨ (x = b ∧ y = a)) ∧ 0 ≤ s' ∧ s' ≤ s + 1) ∧ Con Try.prog 110 [.fs .no 1 (lst u64 l), int a, int b, .pb 0 []] [.cells (int s)] r hp' := by
  refine spec_of_runR ttok mixed (T0 := 262927) (ts := [.tmp 8, .tmp 9]) 28 rfl rfl rfl rfl (by simp) rfl ?_
  conv => whnf
  repeat' (first | ((first | ((with_reducible apply Nm.mk); focus ((try simp only [lns]); exact rfl)) | ((with_reducible apply Wr.i64); focus omega) | ((with_reducible apply Need.mk); focus first | (simp only [lns]; omega) | kernel_rfl) | ((with_reducible apply Elem.lst); focus omega) | (apply CallN.mk (k_cLess _ _)) | ((with_reducible apply Bif.dec) <;> intro h <;> (try simp only [lns] at h))) <;> conv => whnf) | fail)
  · (refine ⟨_, _, ⟨b, a, s + 1, rfl, rfl, .inr ⟨rfl, rfl⟩, by omega, by omega⟩, ?_⟩; conv => whnf); repeat' (first | with_reducible apply True.intro | ((first | (with_reducible apply Same.rfl) | (apply Same.int; focus rfl)) <;> conv => whnf) | fail)
  · (refine ⟨_, _, ⟨a, b, s, rfl, rfl, .inl ⟨rfl, rfl⟩, by omega, by omega⟩, ?_⟩; conv => whnf); repeat' (first | with_reducible apply True.intro | ((with_reducible apply Same.rfl) <;> conv => whnf) | fail)
theorem k_median (l : List Int) (a b c : Nat) (s : Int) (ha : a < l.length) (hb : b < l.length) (hc : c < l.length) (hs : 0 ≤ s ∧ s ≤ 900) :
    ∃ r hp', (∃ (x : Nat) (s' : Int), r = int x ∧ hp' = [.cells (int s')] ∧ (x = a ∨ x = b ∨ x = c) ∧ 0 ≤ s' ∧ s' ≤ s + 3) ∧ Con Try.prog 105 [.fs .no 1 (lst u64 l), int a, int b, int c, .pb 0 []] [.cells (int s)] r hp' := by
  refine spec_of_runR ttok mixed (T0 := 1055) (ts := [.tmp 10]) 36 rfl rfl rfl rfl (by simp) rfl ?_
  conv => whnf
  repeat' (first | ((refine CallN.ex (k_order2 l _ _ _ (by omega) (by omega) (by omega)) ?_; rintro _ _ ⟨x, y, s', rfl, rfl, h1, h2, h3⟩) <;> conv => whnf) | fail)
  (apply Ex2.mk (int _) ([.cells (int _)])); (focus ((conv => whnf); repeat' (first | with_reducible apply True.intro | ((with_reducible apply Same.rfl) <;> conv => whnf) | fail))); exact ⟨_, _, rfl, rfl, by omega, by omega, by omega⟩
theorem k_choose (l : List Int) (a b : Nat) (hab : a + 12 < b) (hab2 : b < a + 50) (hb : b ≤ l.length) (hl : l.length ≤ 1000000) :
    ∃ r hp', (∃ (x : Nat) (h : Int), r = .tup [int x, int h] ∧ hp' = [] ∧ a ≤ x ∧ x < b) ∧ Con Try.prog 85 [.fs .no 1 (lst u64 l), int a, int b] [] r hp' := by
  have hd : (b : Int) - (a : Int) = ((b - a : Nat) : Int) := by omega
  have hq : (((b - a : Nat) : Int)).tdiv 4 = (((b - a) / 4 : Nat) : Int) := by rw [Int.tdiv_eq_ediv_of_nonneg (by omega)]; omega
  have e1 : (a : Int) + (((b - a) / 4 : Nat) : Int) * 1 = ((a + (b - a) / 4 : Nat) : Int) := by omega
  have e2 : (a : Int) + (((b - a) / 4 : Nat) : Int) * 2 = ((a + (b - a) / 4 * 2 : Nat) : Int) := by omega
  have e3 : (a : Int) + (((b - a) / 4 : Nat) : Int) * 3 = ((a + (b - a) / 4 * 3 : Nat) : Int) := by omega
  refine spec_of_runR ttok mixed (T0 := 20829169751433159) (ts := [.tmp 6, .tmp 7]) 57 rfl rfl rfl rfl (by simp) rfl ?_
  conv => whnf
  repeat' (first | ((first | ((with_reducible apply Wr.i64); focus omega) | ((with_reducible apply Need.mk); focus omega)) <;> conv => whnf) | fail)
  rw [hd, hq]
  repeat' (first | ((first | ((with_reducible apply Wr.i64); focus omega) | ((with_reducible apply Need.mk); focus omega) | ((with_reducible apply Bif.dec) <;> intro h <;> (try simp only [lns] at h) <;> (try (exfalso; omega)))) <;> conv => whnf) | fail)
  rw [hq, e1, e2, e3]
  repeat' (first | ((first | (refine CallN.ex (k_median l _ _ _ _ (by omega) (by omega) (by omega) (by omega)) ?_; rintro _ _ ⟨x, s', rfl, rfl, h1, h2, h3⟩) | ((with_reducible apply Bif.beq) <;> intro h <;> (try simp only [lns] at h) <;> (try (exfalso; omega)))) <;> conv => whnf) | fail)
  all_goals ((apply Ex2.mk (.tup [int _, int _]) ([])); (focus ((conv => whnf); repeat' (first | with_reducible apply True.intro | ((first | (with_reducible apply Same.rfl) | (apply Same.int; focus rfl)) <;> conv => whnf) | fail))); exact ⟨x, _, rfl, rfl, by omega, by omega⟩)
end Go.Fw
