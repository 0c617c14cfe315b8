/- Slices of Clm: slices.SortStableFunc. Written by wip/gen/gen.py. -/
import Derived.Test.YtpmiaggdjgfjgaaSlInsClm
namespace Go.Fw
open Go.Proofs
set_option maxHeartbeats 4000000
set_option maxRecDepth 4000
theorem k_insSort_Clm (g : FuncId) (c : Clm → Clm → Int) (hg : ∀ x y, Con Try.prog g [clmV x, clmV y] [] (int (c x y)) []) (C : PreOK c) (l : List Clm) (a b : Nat) (hab : a ≤ b) (hb : b ≤ l.length) (hl : l.length ≤ 1000000) :
    ∃ r hp', (∃ w : List Clm, (Rng l w a b ∧ Srt c w a b) ∧ r = .tup [] ∧ hp' = [.arr none 20 (lst clmV w)]) ∧ ConK Try.prog 106 [.ov 20 0 0 l.length, int a, int b, .clo g []] [.arr none 20 (lst clmV l)] r hp' := by
  refine spec_of_runRK ttok mixed (T0 := 17179886351) (ts := []) 53 rfl rfl rfl rfl (by simp) rfl ?_
  conv => whnf
  repeat' (first | (((with_reducible apply Wr.i64); focus omega) <;> conv => whnf) | fail)
  refine loop_keep ttok mixed (T0 := 17179886351) [0, 1, 2, 3] (ι := {p : Nat × List Clm // Rng l p.2 a b ∧ Srt c p.2 a p.1 ∧ a + 1 ≤ p.1 ∧ p.1 ≤ b + 1 ∧ (p.1 ≤ b ∨ a = b)})
    (fun p => [(8, int (p.1.1 : Int))]) (fun p => [.arr none 20 (lst clmV p.1.2)]) (fun p => b + 1 - p.1.1) ⟨(a + 1, l), Rng.refl _ _ _, Srt.small (by omega), by dsimp only; omega, by dsimp only; omega, by dsimp only; omega⟩ ?_
  conv => whnf
  repeat' (first | ((first | (with_reducible apply Same.rfl) | (apply Same.int; focus rfl)) <;> conv => whnf) | fail)
  rintro ⟨⟨i, w⟩, hr, hs, hi1, hi2, hi3⟩
  dsimp only at hr hs hi1 hi2 hi3 ⊢
  have hwl := hr.len
  conv => whnf
  repeat' (first | (((with_reducible apply Bif.dec) <;> intro h <;> (try simp only [lns] at h)) <;> conv => whnf) | fail)
  · refine loop_keep ttok mixed (T0 := 17179886351) [0, 1, 2, 3, 8] (ι := {p : Nat × List Clm // Rng l p.2 a b ∧ InsJ c p.2 a i p.1})
      (fun p => [(9, int (p.1.1 : Int))]) (fun p => [.arr none 20 (lst clmV p.1.2)]) (fun p => p.1.1) ⟨(i, w), hr, InsJ.start hs (by omega)⟩ ?_
    conv => whnf
    repeat' (first | ((with_reducible apply Same.rfl) <;> conv => whnf) | fail)
    rintro ⟨⟨j, v⟩, hv, hI⟩
    dsimp only at hv hI ⊢
    have hvl := hv.len
    have hI1 := hI.1
    have hI2 := hI.2.1
    conv => whnf
    have e1 : ((j : Int) - 1).toNat = j - 1 := by omega
    repeat' (first | ((first | (with_reducible apply Nm.set _ (clm_mk _ _ _ _ _)) | ((with_reducible apply Nm.mk); focus ((try simp only [lns]); exact rfl)) | ((with_reducible apply Wr.i64); focus omega) | ((with_reducible apply Need.mk); focus first | omega | kernel_rfl) | ((with_reducible apply Elem.lst); focus first | omega | (simp only [lns]; omega)) | (apply CallN.mk (hg _ _)) | (with_reducible first | apply Bif.T | apply Bif.F) | ((with_reducible apply Bif.dec) <;> intro h <;> (try simp only [lns] at h))) <;> conv => whnf) | fail)
    · rw [e1] at h
      have hs2 := hI.step C (by omega) (by omega) h
      (refine ⟨⟨(j - 1, swapL v j (j - 1)), hv.trans (Rng.swap (by omega) (by omega) (by omega)), hs2⟩, ?_⟩; (try dsimp only); conv => whnf); repeat' (first | with_reducible apply True.intro | ((with_reducible apply Same.mk); (focus (rw [e1]; rfl)); (conv => whnf)) | ((first | ((with_reducible apply Need.mk); focus omega) | (with_reducible apply Same.rfl) | (apply Same.int; focus omega) | (with_reducible apply Turn.l)) <;> conv => whnf) | fail)
    · rw [e1] at h
      (refine ⟨⟨(i + 1, v), hv, hI.stop C (.inr h), by dsimp only; omega, by dsimp only; omega, by dsimp only; omega⟩, ?_⟩; (try dsimp only); conv => whnf); repeat' (first | with_reducible apply True.intro | ((first | ((with_reducible apply Need.mk); focus omega) | (with_reducible apply Same.rfl) | (apply Same.int; focus rfl) | (with_reducible apply Turn.l)) <;> conv => whnf) | fail)
    · (refine ⟨⟨(i + 1, v), hv, hI.stop C (.inl (by omega)), by dsimp only; omega, by dsimp only; omega, by dsimp only; omega⟩, ?_⟩; (try dsimp only); conv => whnf); repeat' (first | with_reducible apply True.intro | ((first | ((with_reducible apply Need.mk); focus omega) | (with_reducible apply Same.rfl) | (apply Same.int; focus rfl) | (with_reducible apply Turn.l)) <;> conv => whnf) | fail)
  · (refine ⟨_, _, ⟨w, ⟨hr, hs.sub (Nat.le_refl a) (by omega)⟩, rfl, rfl⟩, ?_⟩; conv => whnf); repeat' (first | with_reducible apply True.intro | ((first | (with_reducible apply Same.rfl) | (with_reducible apply Cut.l)) <;> conv => whnf) | fail)
theorem k_swapRange_Clm (g : FuncId) (l : List Clm) (a b n : Nat) (hab : a + n ≤ b) (hb : b + n ≤ l.length) (hl : l.length ≤ 1000000) :
    ∃ r hp', (∃ w : List Clm, (SwpI l w a b n ∧ Rng l w a (b + n)) ∧ r = .tup [] ∧ hp' = [.arr none 20 (lst clmV w)]) ∧ ConK Try.prog 112 [.ov 20 0 0 l.length, int a, int b, int n, .clo g []] [.arr none 20 (lst clmV l)] r hp' := by
  refine spec_of_runRK ttok mixed (T0 := 9247) (ts := []) 38 rfl rfl rfl rfl (by simp) rfl ?_
  conv => whnf
  skip
  refine loop_keep ttok mixed (T0 := 9247) [0, 1, 2, 3, 4] (ι := {p : Nat × List Clm // SwpI l p.2 a b p.1 ∧ Rng l p.2 a (b + n) ∧ p.1 ≤ n})
    (fun p => [(10, int (p.1.1 : Int))]) (fun p => [.arr none 20 (lst clmV p.1.2)]) (fun p => n - p.1.1) ⟨(0, l), SwpI.start _ _ _, Rng.refl _ _ _, by dsimp only; omega⟩ ?_
  conv => whnf
  repeat' (first | ((first | (with_reducible apply Same.rfl) | (apply Same.int; focus rfl)) <;> conv => whnf) | fail)
  rintro ⟨⟨i, w⟩, hw, hr, hi⟩
  dsimp only at hw hr hi ⊢
  have hwl := hr.len
  have e1 : ((a : Int) + (i : Int)).toNat = a + i := by omega
  have e2 : ((b : Int) + (i : Int)).toNat = b + i := by omega
  conv => whnf
  repeat' (first | ((first | (with_reducible apply Nm.set _ (clm_mk _ _ _ _ _)) | ((with_reducible apply Nm.mk); focus ((try simp only [lns]); exact rfl)) | ((with_reducible apply Wr.i64); focus omega) | ((with_reducible apply Need.mk); focus first | omega | kernel_rfl) | ((with_reducible apply Elem.lst); focus first | omega | (simp only [lns]; omega)) | ((with_reducible apply Bif.dec) <;> intro h <;> (try simp only [lns] at h))) <;> conv => whnf) | fail)
  · have hs2 := hw.step hab (by omega) hb
    (refine ⟨⟨(i + 1, swapL w (a + i) (b + i)), hs2, hr.trans (Rng.swap (by omega) (by omega) (by omega)), by dsimp only; omega⟩, ?_⟩; (try dsimp only); conv => whnf); repeat' (first | with_reducible apply True.intro | ((with_reducible apply Same.mk); (focus (rw [e1, e2]; rfl)); (conv => whnf)) | ((first | ((with_reducible apply Need.mk); focus omega) | (with_reducible apply Same.rfl) | (apply Same.int; focus rfl) | (with_reducible apply Turn.l)) <;> conv => whnf) | fail)
  · have e : i = n := by omega
    subst e
    (refine ⟨_, _, ⟨w, ⟨hw, hr⟩, rfl, rfl⟩, ?_⟩; conv => whnf); repeat' (first | with_reducible apply True.intro | ((first | (with_reducible apply Same.rfl) | (with_reducible apply Cut.l)) <;> conv => whnf) | fail)
theorem k_rotate_Clm (g : FuncId) (l : List Clm) (a m b : Nat) (ham : a < m) (hmb : m < b) (hb : b ≤ l.length) (hl : l.length ≤ 1000000) :
    ∃ r hp', (∃ w : List Clm, (Rot l w a m b ∧ Rng l w a b) ∧ r = .tup [] ∧ hp' = [.arr none 20 (lst clmV w)]) ∧ ConK Try.prog 111 [.ov 20 0 0 l.length, int a, int m, int b, .clo g []] [.arr none 20 (lst clmV l)] r hp' := by
  obtain ⟨t, ht⟩ := Rot.ex l (Nat.le_of_lt ham) (Nat.le_of_lt hmb) hb
  refine spec_of_runRK ttok mixed (T0 := 9440287) (ts := []) 58 rfl rfl rfl rfl (by simp) rfl ?_
  conv => whnf
  repeat' (first | (((with_reducible apply Wr.i64); focus omega) <;> conv => whnf) | fail)
  refine loop_keep ttok mixed (T0 := 9440287) [0, 1, 2, 3, 4] (ι := {p : Nat × Nat × List Clm // (∀ x, gt t x = (if m - p.1 ≤ x ∧ x < m - p.1 + p.2.1 then gt p.2.2 (m + (x - (m - p.1))) else if m - p.1 + p.2.1 ≤ x ∧ x < m + p.2.1 then gt p.2.2 ((m - p.1) + (x - (m - p.1 + p.2.1))) else gt p.2.2 x)) ∧ Rng l p.2.2 a b ∧ 1 ≤ p.1 ∧ 1 ≤ p.2.1 ∧ p.1 + a ≤ m ∧ p.2.1 + m ≤ b})
    (fun p => [(10, int (p.1.1 : Int)), (11, int (p.1.2.1 : Int))]) (fun p => [.arr none 20 (lst clmV p.1.2.2)]) (fun p => p.1.1 + p.1.2.1) ⟨(m - a, b - m, l), by
      dsimp only
      intro x
      have e1 : m - (m - a) = a := by omega
      have e2 : m + (b - m) = b := by omega
      rw [e1, e2]
      exact ht.2 x, Rng.refl _ _ _, by dsimp only; omega, by dsimp only; omega, by dsimp only; omega, by dsimp only; omega⟩ ?_
  conv => whnf
  repeat' (first | ((first | (with_reducible apply Same.rfl) | (apply Same.int; focus (dsimp only; omega))) <;> conv => whnf) | fail)
  rintro ⟨⟨i, j, w⟩, hw, hr, hi1, hj1, hi2, hj2⟩
  dsimp only at hw hr hi1 hj1 hi2 hj2 ⊢
  have hwl := hr.len
  conv => whnf
  have f1 : (m : Int) - (i : Int) = ((m - i : Nat) : Int) := by omega
  by_cases hij : j < i
  · have kw := k_swapRange_Clm g w (m - i) m j (by omega) (by omega) (by omega)
    repeat' (first | ((with_reducible apply GiveN.keep [0]); (conv => whnf); (rw [f1, ← hwl]); (refine CallKN.ex kw ?_); (rintro _ _ ⟨v, ⟨hs, hv⟩, rfl, rfl⟩); (conv => whnf)) | ((first | ((with_reducible apply Wr.i64); focus omega) | ((with_reducible first | apply Bif.dec | apply Bif.bne) <;> intro h <;> (try simp only [lns] at h) <;> (try (exfalso; omega)))) <;> conv => whnf) | fail)
    (refine ⟨⟨(i - j, j, v), ht.left hw (by omega) hij hs, hr.trans (hv.up (by omega) (by omega)), by dsimp only; omega, by dsimp only; omega, by dsimp only; omega, by dsimp only; omega⟩, ?_⟩; (try dsimp only); conv => whnf); repeat' (first | with_reducible apply True.intro | ((first | ((with_reducible apply Need.mk); focus omega) | (with_reducible apply Same.rfl) | (apply Same.int; focus omega) | (with_reducible apply Turn.l)) <;> conv => whnf) | fail)
  · by_cases hji : i < j
    · have f2 : (m : Int) + (j : Int) - (i : Int) = ((m + j - i : Nat) : Int) := by omega
      have kw := k_swapRange_Clm g w (m - i) (m + j - i) i (by omega) (by omega) (by omega)
      repeat' (first | ((with_reducible apply GiveN.keep [0]); (conv => whnf); (rw [f1, f2, ← hwl]); (refine CallKN.ex kw ?_); (rintro _ _ ⟨v, ⟨hs, hv⟩, rfl, rfl⟩); (conv => whnf)) | ((first | ((with_reducible apply Wr.i64); focus omega) | ((with_reducible first | apply Bif.dec | apply Bif.bne) <;> intro h <;> (try simp only [lns] at h) <;> (try (exfalso; omega)))) <;> conv => whnf) | fail)
      (refine ⟨⟨(i, j - i, v), ht.right hw (by omega) hji hs, hr.trans (hv.up (by omega) (by omega)), by dsimp only; omega, by dsimp only; omega, by dsimp only; omega, by dsimp only; omega⟩, ?_⟩; (try dsimp only); conv => whnf); repeat' (first | with_reducible apply True.intro | ((first | ((with_reducible apply Need.mk); focus omega) | (with_reducible apply Same.rfl) | (apply Same.int; focus omega) | (with_reducible apply Turn.l)) <;> conv => whnf) | fail)
    · have hE : i = j := by omega
      subst hE
      have kw := k_swapRange_Clm g w (m - i) m i (by omega) (by omega) (by omega)
      repeat' (first | ((with_reducible apply GiveN.keep [0]); (conv => whnf); (rw [f1, ← hwl]); (refine CallKN.ex kw ?_); (rintro _ _ ⟨v, ⟨hs, hv⟩, rfl, rfl⟩); (conv => whnf)) | ((first | ((with_reducible apply Wr.i64); focus omega) | ((with_reducible apply Bif.bne) <;> intro h <;> (try simp only [lns] at h) <;> (try (exfalso; omega)))) <;> conv => whnf) | fail)
      (refine ⟨_, _, ⟨v, ⟨ht.done (hv.len.trans hwl) hw (by omega) hs, hr.trans (hv.up (by omega) (by omega))⟩, rfl, rfl⟩, ?_⟩; conv => whnf); repeat' (first | with_reducible apply True.intro | ((first | (with_reducible apply Same.rfl) | (with_reducible apply Cut.l)) <;> conv => whnf) | fail)
end Go.Fw
