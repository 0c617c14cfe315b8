/- Slices of Clm: slices.SortStableFunc, the whole. Written by wip/gen/gen.py. -/
import Derived.Test.YtpmiaggdjgfjgaaSlSymClm
namespace Go.Fw
open Go.Proofs
set_option maxHeartbeats 4000000
set_option maxRecDepth 4000
theorem k_stable_Clm (g : FuncId) (c : Clm → Clm → Int) (hg : ∀ x y, Con Try.prog g [clmV x, clmV y] [] (int (c x y)) []) (C : PreOK c) (l : List Clm) (hl : l.length ≤ 1000000) :
    ∃ r hp', (∃ w : List Clm, (Rng l w 0 l.length ∧ Srt c w 0 l.length) ∧ r = .tup [] ∧ hp' = [.arr none 20 (lst clmV w)]) ∧ ConK Try.prog 94 [.ov 20 0 0 l.length, int l.length, .clo g []] [.arr none 20 (lst clmV l)] r hp' := by
  refine spec_of_runRK ttok mixed (T0 := 18014433942971335) (ts := []) 63 rfl rfl rfl rfl (by simp) rfl ?_
  conv => whnf
  skip
  refine loop_keep ttok mixed (T0 := 18014433942971335) [0, 1, 2, 6] (ι := {x : Nat × List Clm // Rng l x.2 0 l.length ∧ Blk c x.2 20 x.1 ∧ x.1 ≤ l.length ∧ ∃ q, x.1 = 20 * q})
    (fun x => [(7, int (x.1.1 : Int)), (8, int ((x.1.1 + 20 : Nat) : Int))]) (fun x => [.arr none 20 (lst clmV x.1.2)]) (fun x => l.length - x.1.1) ⟨(0, l), Rng.refl _ _ _, Blk.zero _ _, Nat.zero_le _, 0, rfl⟩ ?_
  conv => whnf
  repeat' (first | ((first | (with_reducible apply Same.rfl) | (apply Same.int; focus rfl)) <;> conv => whnf) | fail)
  rintro ⟨⟨a, w⟩, hr, hB, hal, q, hq⟩
  dsimp only at hr hB hal hq ⊢
  have hwl := hr.len
  conv => whnf
  by_cases hab : a + 20 ≤ l.length
  · have kw := k_insSort_Clm g c hg C w a (a + 20) (by omega) (by omega) (by omega)
    rw [hwl] at kw
    repeat' (first | ((with_reducible apply GiveN.keep [0]); (conv => whnf); (refine CallKN.ex kw ?_); (rintro _ _ ⟨v, ⟨hv, hs⟩, rfl, rfl⟩); (conv => whnf)) | ((first | ((with_reducible apply Wr.i64); focus omega) | ((with_reducible apply Bif.dec) <;> intro h <;> (try simp only [lns] at h) <;> (try (exfalso; omega)))) <;> conv => whnf) | fail)
    (refine ⟨⟨(a + 20, v), hr.trans (hv.up (by omega) (by omega)), hB.step hq (by omega) hv hs, by dsimp only; omega, q + 1, by dsimp only; omega⟩, ?_⟩; (try dsimp only); conv => whnf); repeat' (first | with_reducible apply True.intro | ((first | ((with_reducible apply Need.mk); focus omega) | (with_reducible apply Same.rfl) | (apply Same.int; focus rfl) | (with_reducible apply Turn.l)) <;> conv => whnf) | fail)
  · have kw := k_insSort_Clm g c hg C w a l.length (by omega) (by omega) (by omega)
    rw [hwl] at kw
    repeat' (first | ((with_reducible apply GiveN.keep [0]); (conv => whnf); (refine CallKN.ex kw ?_); (rintro _ _ ⟨v, ⟨hv, hs⟩, rfl, rfl⟩); (conv => whnf)) | (((with_reducible apply Bif.dec) <;> intro h <;> (try simp only [lns] at h) <;> (try (exfalso; omega))) <;> conv => whnf) | fail)
    have hB2 : Blk c v 20 l.length := hB.step hq (by omega) hv hs
    have hr2 : Rng l v 0 l.length := hr.trans (hv.up (by omega) (by omega))
    have hvl := hr2.len
    clear kw hv hs hB hr hwl hab hal hq
    refine loop_keep ttok mixed (T0 := 18014433942971335) [0, 1, 2] (ι := {x : Nat × List Clm // Rng l x.2 0 l.length ∧ Blk c x.2 x.1 l.length ∧ 20 ≤ x.1 ∧ x.1 ≤ 2 * l.length + 20})
      (fun x => [(6, int (x.1.1 : Int))]) (fun x => [.arr none 20 (lst clmV x.1.2)]) (fun x => l.length - x.1.1) ⟨(20, v), hr2, hB2, by dsimp only; omega, by dsimp only; omega⟩ ?_
    conv => whnf
    repeat' (first | ((first | (with_reducible apply Same.rfl) | (apply Same.int; focus rfl)) <;> conv => whnf) | fail)
    rintro ⟨⟨bs, v⟩, hr, hB, hb1, hb2⟩
    dsimp only at hr hB hb1 hb2 ⊢
    have hvl := hr.len
    conv => whnf
    by_cases hbl : bs < l.length
    · repeat' (first | ((first | ((with_reducible apply Wr.i64); focus omega) | ((with_reducible apply Bif.dec) <;> intro h <;> (try simp only [lns] at h) <;> (try (exfalso; omega)))) <;> conv => whnf) | fail)
      refine loop_keep ttok mixed (T0 := 18014433942971335) [0, 1, 2, 6] (ι := {x : Nat × List Clm // Rng l x.2 0 l.length ∧ Blk c x.2 (2 * bs) x.1 ∧ BlkF c x.2 bs x.1 l.length ∧ x.1 ≤ l.length ∧ ∃ q, x.1 = 2 * bs * q})
        (fun x => [(7, int (x.1.1 : Int)), (8, int ((x.1.1 + 2 * bs : Nat) : Int))]) (fun x => [.arr none 20 (lst clmV x.1.2)]) (fun x => l.length - x.1.1) ⟨(0, v), hr, Blk.zero _ _, hB.from0, Nat.zero_le _, 0, rfl⟩ ?_
      conv => whnf
      repeat' (first | ((first | (with_reducible apply Same.rfl) | (apply Same.int; focus first | rfl | (dsimp only; omega))) <;> conv => whnf) | fail)
      rintro ⟨⟨a, w⟩, hr, hB, hF, hal, q, hq⟩
      dsimp only at hr hB hF hal hq ⊢
      have hwl := hr.len
      have q1 : a = bs * (2 * q) := by rw [hq, Nat.mul_assoc, Nat.mul_left_comm]
      have q2 : a + bs = bs * (2 * q + 1) := by rw [Nat.mul_add, ← q1, Nat.mul_one]
      have q3 : a + 2 * bs = 2 * bs * (q + 1) := by rw [Nat.mul_add, ← hq, Nat.mul_one]
      conv => whnf
      by_cases hab : a + 2 * bs ≤ l.length
      · have kw := k_symMerge_Clm g c hg C (2 * bs) w a (a + bs) (a + 2 * bs) (by omega) (by omega) (by omega) (by omega) (by omega) (hF.run q1 (Nat.le_refl a) (by omega) (by omega)) (hF.run q2 (by omega) (by omega) (by omega))
        rw [hwl] at kw
        repeat' (first | ((with_reducible apply GiveN.keep [0]); (conv => whnf); (refine CallKN.ex kw ?_); (rintro _ _ ⟨u, ⟨hu, hs⟩, rfl, rfl⟩); (conv => whnf)) | ((first | ((with_reducible apply Wr.i64); focus omega) | ((with_reducible apply Bif.dec) <;> intro h <;> (try simp only [lns] at h) <;> (try (exfalso; omega)))) <;> conv => whnf) | fail)
        (refine ⟨⟨(a + 2 * bs, u), hr.trans (hu.up (by omega) (by omega)), hB.step hq (by omega) hu hs, hF.step hu (by omega), by dsimp only; omega, q + 1, q3⟩, ?_⟩; (try dsimp only); conv => whnf); repeat' (first | with_reducible apply True.intro | ((first | ((with_reducible apply Need.mk); focus omega) | (with_reducible apply Same.rfl) | (apply Same.int; focus rfl) | (with_reducible apply Turn.l)) <;> conv => whnf) | fail)
      · by_cases hmn : a + bs < l.length
        · have kw := k_symMerge_Clm g c hg C (2 * bs) w a (a + bs) l.length (by omega) (by omega) (by omega) (by omega) (by omega) (hF.run q1 (Nat.le_refl a) (by omega) (by omega)) (hF.run q2 (by omega) (by omega) (by omega))
          rw [hwl] at kw
          repeat' (first | ((with_reducible apply GiveN.keep [0]); (conv => whnf); (refine CallKN.ex kw ?_); (rintro _ _ ⟨u, ⟨hu, hs⟩, rfl, rfl⟩); (conv => whnf)) | ((first | ((with_reducible apply Wr.i64); focus omega) | ((with_reducible apply Bif.dec) <;> intro h <;> (try simp only [lns] at h) <;> (try (exfalso; omega)))) <;> conv => whnf) | fail)
          (refine ⟨⟨(2 * bs, u), hr.trans (hu.up (by omega) (by omega)), hB.step hq (by omega) hu hs, by dsimp only; omega, by dsimp only; omega⟩, ?_⟩; (try dsimp only); conv => whnf); repeat' (first | with_reducible apply True.intro | ((first | ((with_reducible apply Need.mk); focus omega) | (with_reducible apply Same.rfl) | (apply Same.int; focus omega) | (with_reducible apply Turn.l)) <;> conv => whnf) | fail)
        · repeat' (first | ((first | ((with_reducible apply Wr.i64); focus omega) | ((with_reducible apply Bif.dec) <;> intro h <;> (try simp only [lns] at h) <;> (try (exfalso; omega)))) <;> conv => whnf) | fail)
          (refine ⟨⟨(2 * bs, w), hr, hB.step hq (by omega) (Rng.refl w a l.length) (hF.run q1 (Nat.le_refl a) (by omega) (Nat.le_refl _)), by dsimp only; omega, by dsimp only; omega⟩, ?_⟩; (try dsimp only); conv => whnf); repeat' (first | with_reducible apply True.intro | ((first | ((with_reducible apply Need.mk); focus omega) | (with_reducible apply Same.rfl) | (apply Same.int; focus omega) | (with_reducible apply Turn.l)) <;> conv => whnf) | fail)
    · repeat' (first | (((with_reducible apply Bif.dec) <;> intro h <;> (try simp only [lns] at h) <;> (try (exfalso; omega))) <;> conv => whnf) | fail)
      (refine ⟨_, _, ⟨v, ⟨hr, hB.all (by omega)⟩, rfl, rfl⟩, ?_⟩; conv => whnf); repeat' (first | with_reducible apply True.intro | ((first | (with_reducible apply Same.rfl) | (with_reducible apply Cut.l)) <;> conv => whnf) | fail)
theorem k_SortStable_Clm (g : FuncId) (c : Clm → Clm → Int) (hg : ∀ x y, Con Try.prog g [clmV x, clmV y] [] (int (c x y)) []) (C : PreOK c) (l : List Clm) (hl : l.length ≤ 1000000) :
    ∃ r hp', (∃ w : List Clm, (Rng l w 0 l.length ∧ Srt c w 0 l.length) ∧ r = .tup [] ∧ hp' = [.arr none 20 (lst clmV w)]) ∧ ConK Try.prog 69 [.ov 20 0 0 l.length, .clo g []] [.arr none 20 (lst clmV l)] r hp' := by
  have kw := k_stable_Clm g c hg C l hl
  refine spec_of_runRK ttok mixed (T0 := 3) (ts := []) 9 rfl rfl rfl rfl (by simp) rfl ?_
  conv => whnf
  repeat' (first | ((with_reducible apply GiveN.keep [0]); (conv => whnf); (refine CallKN.ex kw ?_); (rintro _ _ ⟨u, ⟨hu, hs⟩, rfl, rfl⟩); (conv => whnf)) | fail)
  (refine ⟨_, _, ⟨u, ⟨hu, hs⟩, rfl, rfl⟩, ?_⟩; conv => whnf); repeat' (first | with_reducible apply True.intro | ((first | (with_reducible apply Same.rfl) | (with_reducible apply Cut.l)) <;> conv => whnf) | fail)
end Go.Fw
