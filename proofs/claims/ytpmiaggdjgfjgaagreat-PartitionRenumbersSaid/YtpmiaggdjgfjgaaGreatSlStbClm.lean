/- Slices of Clm: slices.SortStableFunc. Written by wip/gen/gen.py. -/
import Derived.Test.YtpmiaggdjgfjgaaGreatSlInsClm

namespace Go.Fw
open Go.Proofs
set_option maxHeartbeats 4000000
set_option maxRecDepth 4000
theorem k_insSort_Clm (g : FuncId) (c : Clm → Clm → Int) (hg : ∀ x y, Con Tryz.prog g [clmV x, clmV y] [] (int (c x y)) []) (C : PreOK c) (l : List Clm) (a b : Nat) (hab : a ≤ b) (hb : b ≤ l.length) (hl : l.length ≤ 1000000) :
    ∃ r hp', (∃ w : List Clm, (Rng l w a b ∧ Srt c w a b) ∧ r = .tup [] ∧ hp' = [.arr none 20 (lst clmV w)]) ∧ ConK Tryz.prog 101 [.ov 20 0 0 l.length, int a, int b, .clo g []] [.arr none 20 (lst clmV l)] r hp' := by
  refine spec_of_runRK ttok mixed (T0 := 17179886351) (ts := []) 53 rfl rfl rfl rfl (by simp) rfl ?_
  conv => whnf
  repeat' (first | ((first | ((with_reducible apply Wr.i64); focus omega) | (with_reducible apply Frz.l)) <;> conv => whnf) | fail)
  refine loop_keep ttok mixed (T0 := 17179886351) [0, 1, 2, 3] (ι := {p : Nat × List Clm // Rng l p.2 a b ∧ Srt c p.2 a p.1 ∧ a + 1 ≤ p.1 ∧ p.1 ≤ b + 1 ∧ (p.1 ≤ b ∨ a = b)})
    (fun p => [(8, int (p.1.1 : Int))]) (fun p => [.arr none 20 (lst clmV p.1.2)]) (fun p => b + 1 - p.1.1) ⟨(a + 1, l), Rng.refl _ _ _, Srt.small (by omega), by dsimp only; omega, by dsimp only; omega, by dsimp only; omega⟩ ?_
  conv => whnf
  repeat' (first | ((first | (with_reducible apply Same.rfl) | (apply Same.int; focus rfl) | (with_reducible apply Frz.l)) <;> conv => whnf) | fail)
  rintro ⟨⟨i, w⟩, hr, hs, hi1, hi2, hi3⟩
  dsimp only at hr hs hi1 hi2 hi3 ⊢
  have hwl := hr.len
  conv => whnf
  repeat' (first | ((first | ((with_reducible apply Bif.dec) <;> intro h <;> (try simp only [lns] at h)) | (with_reducible apply Frz.l)) <;> conv => whnf) | fail)
  · refine loop_keep ttok mixed (T0 := 17179886351) [0, 1, 2, 3, 8] (ι := {p : Nat × List Clm // Rng l p.2 a b ∧ InsJ c p.2 a i p.1})
      (fun p => [(9, int (p.1.1 : Int))]) (fun p => [.arr none 20 (lst clmV p.1.2)]) (fun p => p.1.1) ⟨(i, w), hr, InsJ.start hs (by omega)⟩ ?_
    conv => whnf
    repeat' (first | ((first | (with_reducible apply Same.rfl) | (with_reducible apply Frz.l)) <;> conv => whnf) | fail)
    rintro ⟨⟨j, v⟩, hv, hI⟩
    dsimp only at hv hI ⊢
    have hvl := hv.len
    have hI1 := hI.1
    have hI2 := hI.2.1
    conv => whnf
    have e1 : ((j : Int) - 1).toNat = j - 1 := by omega
    repeat' (first | ((first | (with_reducible apply Nm.set _ (clm_mk _ _ _ _ _)) | ((with_reducible apply Nm.mk); focus ((try simp only [lns]); exact rfl)) | ((with_reducible apply Wr.i64); focus omega) | ((with_reducible apply Need.mk); focus first | omega | kernel_rfl) | ((with_reducible apply Elem.lst); focus first | omega | (simp only [lns]; omega)) | (apply CallN.mk (hg _ _)) | (with_reducible first | apply Bif.T | apply Bif.F) | ((with_reducible apply Bif.dec) <;> intro h <;> (try simp only [lns] at h)) | (with_reducible apply Frz.l)) <;> conv => whnf) | fail)
    · rw [e1] at h
      have hs2 := hI.step C (by omega) (by omega) h
      (refine ⟨⟨(j - 1, swapL v j (j - 1)), hv.trans (Rng.swap (by omega) (by omega) (by omega)), hs2⟩, ?_⟩; (try dsimp only); conv => whnf); repeat' (first | with_reducible apply True.intro | ((with_reducible apply Same.mk); (focus (rw [e1]; rfl)); (conv => whnf)) | ((first | ((with_reducible apply Need.mk); focus omega) | (with_reducible apply Same.rfl) | (apply Same.int; focus omega) | (with_reducible apply Turn.l) | (with_reducible apply Frz.l)) <;> conv => whnf) | fail)
    · rw [e1] at h
      (refine ⟨⟨(i + 1, v), hv, hI.stop C (.inr h), by dsimp only; omega, by dsimp only; omega, by dsimp only; omega⟩, ?_⟩; (try dsimp only); conv => whnf); repeat' (first | with_reducible apply True.intro | ((first | ((with_reducible apply Need.mk); focus omega) | (with_reducible apply Same.rfl) | (apply Same.int; focus rfl) | (with_reducible apply Turn.l) | (with_reducible apply Frz.l)) <;> conv => whnf) | fail)
    · (refine ⟨⟨(i + 1, v), hv, hI.stop C (.inl (by omega)), by dsimp only; omega, by dsimp only; omega, by dsimp only; omega⟩, ?_⟩; (try dsimp only); conv => whnf); repeat' (first | with_reducible apply True.intro | ((first | ((with_reducible apply Need.mk); focus omega) | (with_reducible apply Same.rfl) | (apply Same.int; focus rfl) | (with_reducible apply Turn.l) | (with_reducible apply Frz.l)) <;> conv => whnf) | fail)
  · (refine ⟨_, _, ⟨w, ⟨hr, hs.sub (Nat.le_refl a) (by omega)⟩, rfl, rfl⟩, ?_⟩; conv => whnf); repeat' (first | with_reducible apply True.intro | ((first | (with_reducible apply Same.rfl) | (with_reducible apply Cut.l) | (with_reducible apply Frz.l)) <;> conv => whnf) | fail)
theorem k_swapRange_Clm (g : FuncId) (l : List Clm) (a b n : Nat) (hab : a + n ≤ b) (hb : b + n ≤ l.length) (hl : l.length ≤ 1000000) :
    ∃ r hp', (∃ w : List Clm, (SwpI l w a b n ∧ Rng l w a (b + n)) ∧ r = .tup [] ∧ hp' = [.arr none 20 (lst clmV w)]) ∧ ConK Tryz.prog 107 [.ov 20 0 0 l.length, int a, int b, int n, .clo g []] [.arr none 20 (lst clmV l)] r hp' := by
  refine spec_of_runRK ttok mixed (T0 := 9247) (ts := []) 38 rfl rfl rfl rfl (by simp) rfl ?_
  conv => whnf
  repeat' (first | ((with_reducible apply Frz.l) <;> conv => whnf) | fail)
  refine loop_keep ttok mixed (T0 := 9247) [0, 1, 2, 3, 4] (ι := {p : Nat × List Clm // SwpI l p.2 a b p.1 ∧ Rng l p.2 a (b + n) ∧ p.1 ≤ n})
    (fun p => [(10, int (p.1.1 : Int))]) (fun p => [.arr none 20 (lst clmV p.1.2)]) (fun p => n - p.1.1) ⟨(0, l), SwpI.start _ _ _, Rng.refl _ _ _, by dsimp only; omega⟩ ?_
  conv => whnf
  repeat' (first | ((first | (with_reducible apply Same.rfl) | (apply Same.int; focus rfl) | (with_reducible apply Frz.l)) <;> conv => whnf) | fail)
  rintro ⟨⟨i, w⟩, hw, hr, hi⟩
  dsimp only at hw hr hi ⊢
  have hwl := hr.len
  have e1 : ((a : Int) + (i : Int)).toNat = a + i := by omega
  have e2 : ((b : Int) + (i : Int)).toNat = b + i := by omega
  conv => whnf
  repeat' (first | ((first | (with_reducible apply Nm.set _ (clm_mk _ _ _ _ _)) | ((with_reducible apply Nm.mk); focus ((try simp only [lns]); exact rfl)) | ((with_reducible apply Wr.i64); focus omega) | ((with_reducible apply Need.mk); focus first | omega | kernel_rfl) | ((with_reducible apply Elem.lst); focus first | omega | (simp only [lns]; omega)) | ((with_reducible apply Bif.dec) <;> intro h <;> (try simp only [lns] at h)) | (with_reducible apply Frz.l)) <;> conv => whnf) | fail)
  · have hs2 := hw.step hab (by omega) hb
    (refine ⟨⟨(i + 1, swapL w (a + i) (b + i)), hs2, hr.trans (Rng.swap (by omega) (by omega) (by omega)), by dsimp only; omega⟩, ?_⟩; (try dsimp only); conv => whnf); repeat' (first | with_reducible apply True.intro | ((with_reducible apply Same.mk); (focus (rw [e1, e2]; rfl)); (conv => whnf)) | ((first | ((with_reducible apply Need.mk); focus omega) | (with_reducible apply Same.rfl) | (apply Same.int; focus rfl) | (with_reducible apply Turn.l) | (with_reducible apply Frz.l)) <;> conv => whnf) | fail)
  · have e : i = n := by omega
    subst e
    (refine ⟨_, _, ⟨w, ⟨hw, hr⟩, rfl, rfl⟩, ?_⟩; conv => whnf); repeat' (first | with_reducible apply True.intro | ((first | (with_reducible apply Same.rfl) | (with_reducible apply Cut.l) | (with_reducible apply Frz.l)) <;> conv => whnf) | fail)
theorem k_rotate_Clm (g : FuncId) (l : List Clm) (a m b : Nat) (ham : a < m) (hmb : m < b) (hb : b ≤ l.length) (hl : l.length ≤ 1000000) :
    ∃ r hp', (∃ w : List Clm, (Rot l w a m b ∧ Rng l w a b) ∧ r = .tup [] ∧ hp' = [.arr none 20 (lst clmV w)]) ∧ ConK Tryz.prog 106 [.ov 20 0 0 l.length, int a, int m, int b, .clo g []] [.arr none 20 (lst clmV l)] r hp' := by
  obtain ⟨t, ht⟩ := Rot.ex l (Nat.le_of_lt ham) (Nat.le_of_lt hmb) hb
  refine spec_of_runRK ttok mixed (T0 := 9440287) (ts := []) 58 rfl rfl rfl rfl (by simp) rfl ?_
  conv => whnf
  repeat' (first | ((first | ((with_reducible apply Wr.i64); focus omega) | (with_reducible apply Frz.l)) <;> conv => whnf) | fail)
  refine loop_keep ttok mixed (T0 := 9440287) [0, 1, 2, 3, 4] (ι := {p : Nat × Nat × List Clm // (∀ x, gt t x = (if m - p.1 ≤ x ∧ x < m - p.1 + p.2.1 then gt p.2.2 (m + (x - (m - p.1))) else if m - p.1 + p.2.1 ≤ x ∧ x < m + p.2.1 then gt p.2.2 ((m - p.1) + (x - (m - p.1 + p.2.1))) else gt p.2.2 x)) ∧ Rng l p.2.2 a b ∧ 1 ≤ p.1 ∧ 1 ≤ p.2.1 ∧ p.1 + a ≤ m ∧ p.2.1 + m ≤ b})
    (fun p => [(10, int (p.1.1 : Int)), (11, int (p.1.2.1 : Int))]) (fun p => [.arr none 20 (lst clmV p.1.2.2)]) (fun p => p.1.1 + p.1.2.1) ⟨(m - a, b - m, l), by
      dsimp only
      intro x
      have e1 : m - (m - a) = a := by omega
      have e2 : m + (b - m) = b := by omega
      rw [e1, e2]
      exact ht.2 x, Rng.refl _ _ _, by dsimp only; omega, by dsimp only; omega, by dsimp only; omega, by dsimp only; omega⟩ ?_
  conv => whnf
  repeat' (first | ((first | (with_reducible apply Same.rfl) | (apply Same.int; focus (dsimp only; omega)) | (with_reducible apply Frz.l)) <;> conv => whnf) | fail)
  rintro ⟨⟨i, j, w⟩, hw, hr, hi1, hj1, hi2, hj2⟩
  dsimp only at hw hr hi1 hj1 hi2 hj2 ⊢
  have hwl := hr.len
  conv => whnf
  have f1 : (m : Int) - (i : Int) = ((m - i : Nat) : Int) := by omega
  by_cases hij : j < i
  · have kw := k_swapRange_Clm g w (m - i) m j (by omega) (by omega) (by omega)
    repeat' (first | ((with_reducible apply GiveN.keep [0]); (conv => whnf); (rw [f1, ← hwl]); (refine CallKN.ex kw ?_); (rintro _ _ ⟨v, ⟨hs, hv⟩, rfl, rfl⟩); (conv => whnf)) | ((first | ((with_reducible apply Wr.i64); focus omega) | ((with_reducible first | apply Bif.dec | apply Bif.bne) <;> intro h <;> (try simp only [lns] at h) <;> (try (exfalso; omega))) | (with_reducible apply Frz.l)) <;> conv => whnf) | fail)
    (refine ⟨⟨(i - j, j, v), ht.left hw (by omega) hij hs, hr.trans (hv.up (by omega) (by omega)), by dsimp only; omega, by dsimp only; omega, by dsimp only; omega, by dsimp only; omega⟩, ?_⟩; (try dsimp only); conv => whnf); repeat' (first | with_reducible apply True.intro | ((first | ((with_reducible apply Need.mk); focus omega) | (with_reducible apply Same.rfl) | (apply Same.int; focus omega) | (with_reducible apply Turn.l) | (with_reducible apply Frz.l)) <;> conv => whnf) | fail)
  · by_cases hji : i < j
    · have f2 : (m : Int) + (j : Int) - (i : Int) = ((m + j - i : Nat) : Int) := by omega
      have kw := k_swapRange_Clm g w (m - i) (m + j - i) i (by omega) (by omega) (by omega)
      repeat' (first | ((with_reducible apply GiveN.keep [0]); (conv => whnf); (rw [f1, f2, ← hwl]); (refine CallKN.ex kw ?_); (rintro _ _ ⟨v, ⟨hs, hv⟩, rfl, rfl⟩); (conv => whnf)) | ((first | ((with_reducible apply Wr.i64); focus omega) | ((with_reducible first | apply Bif.dec | apply Bif.bne) <;> intro h <;> (try simp only [lns] at h) <;> (try (exfalso; omega))) | (with_reducible apply Frz.l)) <;> conv => whnf) | fail)
      (refine ⟨⟨(i, j - i, v), ht.right hw (by omega) hji hs, hr.trans (hv.up (by omega) (by omega)), by dsimp only; omega, by dsimp only; omega, by dsimp only; omega, by dsimp only; omega⟩, ?_⟩; (try dsimp only); conv => whnf); repeat' (first | with_reducible apply True.intro | ((first | ((with_reducible apply Need.mk); focus omega) | (with_reducible apply Same.rfl) | (apply Same.int; focus omega) | (with_reducible apply Turn.l) | (with_reducible apply Frz.l)) <;> conv => whnf) | fail)
    · have hE : i = j := by omega
      subst hE
      have kw := k_swapRange_Clm g w (m - i) m i (by omega) (by omega) (by omega)
      repeat' (first | ((with_reducible apply GiveN.keep [0]); (conv => whnf); (rw [f1, ← hwl]); (refine CallKN.ex kw ?_); (rintro _ _ ⟨v, ⟨hs, hv⟩, rfl, rfl⟩); (conv => whnf)) | ((first | ((with_reducible apply Wr.i64); focus omega) | ((with_reducible apply Bif.bne) <;> intro h <;> (try simp only [lns] at h) <;> (try (exfalso; omega))) | (with_reducible apply Frz.l)) <;> conv => whnf) | fail)
      (refine ⟨_, _, ⟨v, ⟨ht.done (hv.len.trans hwl) hw (by omega) hs, hr.trans (hv.up (by omega) (by omega))⟩, rfl, rfl⟩, ?_⟩; conv => whnf); repeat' (first | with_reducible apply True.intro | ((first | (with_reducible apply Same.rfl) | (with_reducible apply Cut.l) | (with_reducible apply Frz.l)) <;> conv => whnf) | fail)
end Go.Fw

/- Slices of Clm: slices.SortStableFunc, the merge. Written by wip/gen/gen.py. -/
namespace Go.Fw
open Go.Proofs
set_option maxHeartbeats 4000000
set_option maxRecDepth 4000
theorem k_symMerge_Clm (g : FuncId) (c : Clm → Clm → Int) (hg : ∀ x y, Con Tryz.prog g [clmV x, clmV y] [] (int (c x y)) []) (C : PreOK c) : ∀ (d : Nat) (l : List Clm) (a m b : Nat), b - a ≤ d → a < m → m < b → b ≤ l.length → l.length ≤ 1000000 → Srt c l a m → Srt c l m b →
    ∃ r hp', (∃ w : List Clm, (Rng l w a b ∧ Srt c w a b) ∧ r = .tup [] ∧ hp' = [.arr none 20 (lst clmV w)]) ∧ ConK Tryz.prog 102 [.ov 20 0 0 l.length, int a, int m, int b, .clo g []] [.arr none 20 (lst clmV l)] r hp' := by
  intro d
  induction d with
  | zero => intro l a m b h1 h2 h3; omega
  | succ d ih =>
  intro l a m b hd ham hmb hb hl hs1 hs2
  by_cases hA : m = a + 1
  · subst hA
    refine spec_of_runRK ttok mixed (T0 := 13164839976634628298295110780136696778032692856359452003713154079) (ts := []) 220 rfl rfl rfl rfl (by simp) rfl ?_
    conv => whnf
    repeat' (first | ((first | ((with_reducible apply Wr.i64); focus omega) | ((with_reducible apply Bif.beq) <;> intro h <;> (try simp only [lns] at h) <;> (try (exfalso; omega))) | (with_reducible apply Frz.l)) <;> conv => whnf) | fail)
    refine loop_keep ttok mixed (T0 := 13164839976634628298295110780136696778032692856359452003713154079) [0, 1, 2, 3, 4] (ι := {x : Nat × Nat // a + 1 ≤ x.1 ∧ x.1 ≤ x.2 ∧ x.2 ≤ b ∧ (∀ k, a + 1 ≤ k → k < x.1 → c (gt l k) (gt l a) < 0) ∧ ∀ k, x.2 ≤ k → k < b → ¬ c (gt l k) (gt l a) < 0})
      (fun x => [(10, int (x.1.1 : Int)), (11, int (x.1.2 : Int))]) (fun _ => [.arr none 20 (lst clmV l)]) (fun x => x.1.2 - x.1.1) ⟨(a + 1, b), by dsimp only; omega, by dsimp only; omega, by dsimp only; omega, fun k h1 h2 => by dsimp only at h2; omega, fun k h1 h2 => by dsimp only at h1; omega⟩ ?_
    conv => whnf
    repeat' (first | ((first | (with_reducible apply Same.rfl) | (with_reducible apply Frz.l)) <;> conv => whnf) | fail)
    rintro ⟨⟨i, j⟩, hi, hij, hj, lo, hh⟩
    dsimp only at hi hij hj lo hh ⊢
    conv => whnf
    by_cases hlt : i < j
    · have hq : ((i : Int) + (j : Int)).toNat = i + j := by omega
      repeat' (first | ((with_reducible apply Wr.half) <;> first | omega | decide | (conv => whnf)) | ((first | ((with_reducible apply Nm.mk); focus ((try simp only [lns]); exact rfl)) | ((with_reducible first | apply Wr.i64 | apply Wr.u64); focus omega) | ((with_reducible apply Need.mk); focus first | omega | kernel_rfl) | ((with_reducible apply Elem.lst); focus omega) | (apply CallN.mk (hg _ _)) | ((with_reducible apply Bif.dec) <;> intro h <;> (try simp only [lns] at h) <;> (try (exfalso; omega))) | (with_reducible apply Frz.l)) <;> conv => whnf) | fail)
      · rw [hq] at h
        (refine ⟨⟨((i + j) / 2 + 1, j), by dsimp only; omega, by dsimp only; omega, hj, fun k h1 h2 => by
          by_cases e : k = (i + j) / 2
          · rw [e]; exact h
          · exact C.lt_l (hs2 k ((i + j) / 2) h1 (by dsimp only at h2; omega) (by omega)) h, hh⟩, ?_⟩; (try dsimp only); conv => whnf); repeat' (first | with_reducible apply True.intro | ((first | ((with_reducible apply Need.mk); focus omega) | (with_reducible apply Same.rfl) | (apply Same.int; focus rfl) | (with_reducible apply Turn.l) | (with_reducible apply Frz.l)) <;> conv => whnf) | fail)
      · rw [hq] at h
        (refine ⟨⟨(i, (i + j) / 2), hi, by dsimp only; omega, by dsimp only; omega, lo, fun k h1 h2 => by
          by_cases e : k = (i + j) / 2
          · rw [e]; exact h
          · intro h3; exact h (C.lt_l (hs2 ((i + j) / 2) k (by omega) (by dsimp only at h1; omega) h2) h3)⟩, ?_⟩; (try dsimp only); conv => whnf); repeat' (first | with_reducible apply True.intro | ((first | ((with_reducible apply Need.mk); focus omega) | (with_reducible apply Same.rfl) | (apply Same.int; focus rfl) | (with_reducible apply Turn.l) | (with_reducible apply Frz.l)) <;> conv => whnf) | fail)
    · have hij2 : i = j := by omega
      subst hij2
      repeat' (first | ((first | ((with_reducible apply Bif.dec) <;> intro h <;> (try simp only [lns] at h) <;> (try (exfalso; omega))) | (with_reducible apply Frz.l)) <;> conv => whnf) | fail)
      refine loop_keep ttok mixed (T0 := 13164839976634628298295110780136696778032692856359452003713154079) [0, 1, 2, 3, 4, 10] (ι := {x : Nat × List Clm // UpI l x.2 a x.1 ∧ Rng l x.2 a b ∧ a ≤ x.1 ∧ x.1 + 1 ≤ i})
        (fun x => [(13, int (x.1.1 : Int))]) (fun x => [.arr none 20 (lst clmV x.1.2)]) (fun x => i - x.1.1) ⟨(a, l), UpI.start _ _, Rng.refl _ _ _, by dsimp only; omega, by dsimp only; omega⟩ ?_
      conv => whnf
      repeat' (first | ((first | (with_reducible apply Same.rfl) | (with_reducible apply Frz.l)) <;> conv => whnf) | fail)
      rintro ⟨⟨k, w⟩, hu, hr, hk1, hk2⟩
      dsimp only at hu hr hk1 hk2 ⊢
      have hwl := hr.len
      conv => whnf
      have e1 : ((k : Int) + 1).toNat = k + 1 := by omega
      repeat' (first | ((first | (with_reducible apply Nm.set _ (clm_mk _ _ _ _ _)) | ((with_reducible apply Nm.mk); focus ((try simp only [lns]); exact rfl)) | ((with_reducible apply Wr.i64); focus omega) | ((with_reducible apply Need.mk); focus first | omega | kernel_rfl) | ((with_reducible apply Elem.lst); focus first | omega | (simp only [lns]; omega)) | ((with_reducible apply Bif.dec) <;> intro h <;> (try simp only [lns] at h)) | (with_reducible apply Frz.l)) <;> conv => whnf) | fail)
      · have hu2 := hu.step hk1 (by omega)
        (refine ⟨⟨(k + 1, swapL w k (k + 1)), hu2, hr.trans (Rng.swap (by omega) (by omega) (by omega)), by dsimp only; omega, by dsimp only; omega⟩, ?_⟩; (try dsimp only); conv => whnf); repeat' (first | with_reducible apply True.intro | ((with_reducible apply Same.mk); (focus (rw [e1]; rfl)); (conv => whnf)) | ((first | ((with_reducible apply Need.mk); focus omega) | (with_reducible apply Same.rfl) | (apply Same.int; focus rfl) | (with_reducible apply Turn.l) | (with_reducible apply Frz.l)) <;> conv => whnf) | fail)
      · have hk : k = i - 1 := by omega
        subst hk
        (refine ⟨_, _, ⟨w, ⟨hr, hu.sorted C (by omega) hs2 lo hh⟩, rfl, rfl⟩, ?_⟩; conv => whnf); repeat' (first | with_reducible apply True.intro | ((first | (with_reducible apply Same.rfl) | (with_reducible apply Cut.l) | (with_reducible apply Frz.l)) <;> conv => whnf) | fail)
  by_cases hB : b = m + 1
  · subst hB
    refine spec_of_runRK ttok mixed (T0 := 13164839976634628298295110780136696778032692856359452003713154079) (ts := []) 220 rfl rfl rfl rfl (by simp) rfl ?_
    conv => whnf
    repeat' (first | ((first | ((with_reducible apply Wr.i64); focus omega) | ((with_reducible apply Bif.beq) <;> intro h <;> (try simp only [lns] at h) <;> (try (exfalso; omega))) | (with_reducible apply Frz.l)) <;> conv => whnf) | fail)
    refine loop_keep ttok mixed (T0 := 13164839976634628298295110780136696778032692856359452003713154079) [0, 1, 2, 3, 4] (ι := {x : Nat × Nat // a ≤ x.1 ∧ x.1 ≤ x.2 ∧ x.2 ≤ m ∧ (∀ k, a ≤ k → k < x.1 → ¬ c (gt l m) (gt l k) < 0) ∧ ∀ k, x.2 ≤ k → k < m → c (gt l m) (gt l k) < 0})
      (fun x => [(14, int (x.1.1 : Int)), (15, int (x.1.2 : Int))]) (fun _ => [.arr none 20 (lst clmV l)]) (fun x => x.1.2 - x.1.1) ⟨(a, m), by dsimp only; omega, by dsimp only; omega, by dsimp only; omega, fun k h1 h2 => by dsimp only at h2; omega, fun k h1 h2 => by dsimp only at h1; omega⟩ ?_
    conv => whnf
    repeat' (first | ((first | (with_reducible apply Same.rfl) | (with_reducible apply Frz.l)) <;> conv => whnf) | fail)
    rintro ⟨⟨i, j⟩, hi, hij, hj, lo, hh⟩
    dsimp only at hi hij hj lo hh ⊢
    conv => whnf
    by_cases hlt : i < j
    · have hq : ((i : Int) + (j : Int)).toNat = i + j := by omega
      repeat' (first | ((with_reducible apply Wr.half) <;> first | omega | decide | (conv => whnf)) | ((first | ((with_reducible apply Nm.mk); focus ((try simp only [lns]); exact rfl)) | ((with_reducible first | apply Wr.i64 | apply Wr.u64); focus omega) | ((with_reducible apply Need.mk); focus first | omega | kernel_rfl) | ((with_reducible apply Elem.lst); focus omega) | (apply CallN.mk (hg _ _)) | ((with_reducible apply Bif.dec) <;> intro h <;> (try simp only [lns] at h) <;> (try (exfalso; omega))) | (with_reducible apply Bif.not) | (with_reducible apply Frz.l)) <;> conv => whnf) | fail)
      · rw [hq] at h
        (refine ⟨⟨(i, (i + j) / 2), hi, by dsimp only; omega, by dsimp only; omega, lo, fun k h1 h2 => by
          by_cases e : k = (i + j) / 2
          · rw [e]; exact h
          · exact C.lt_r h (hs1 ((i + j) / 2) k (by omega) (by dsimp only at h1; omega) h2)⟩, ?_⟩; (try dsimp only); conv => whnf); repeat' (first | with_reducible apply True.intro | ((first | ((with_reducible apply Need.mk); focus omega) | (with_reducible apply Same.rfl) | (apply Same.int; focus rfl) | (with_reducible apply Turn.l) | (with_reducible apply Frz.l)) <;> conv => whnf) | fail)
      · rw [hq] at h
        (refine ⟨⟨((i + j) / 2 + 1, j), by dsimp only; omega, by dsimp only; omega, hj, fun k h1 h2 => by
          by_cases e : k = (i + j) / 2
          · rw [e]; exact h
          · intro h3; exact h (C.lt_r h3 (hs1 k ((i + j) / 2) h1 (by dsimp only at h2; omega) (by omega))), hh⟩, ?_⟩; (try dsimp only); conv => whnf); repeat' (first | with_reducible apply True.intro | ((first | ((with_reducible apply Need.mk); focus omega) | (with_reducible apply Same.rfl) | (apply Same.int; focus rfl) | (with_reducible apply Turn.l) | (with_reducible apply Frz.l)) <;> conv => whnf) | fail)
    · have hij2 : i = j := by omega
      subst hij2
      repeat' (first | ((first | ((with_reducible apply Bif.dec) <;> intro h <;> (try simp only [lns] at h) <;> (try (exfalso; omega))) | (with_reducible apply Frz.l)) <;> conv => whnf) | fail)
      refine loop_keep ttok mixed (T0 := 13164839976634628298295110780136696778032692856359452003713154079) [0, 1, 2, 3, 4, 14] (ι := {x : Nat × List Clm // DnI l x.2 m x.1 ∧ Rng l x.2 a (m + 1) ∧ i ≤ x.1 ∧ x.1 ≤ m})
        (fun x => [(17, int (x.1.1 : Int))]) (fun x => [.arr none 20 (lst clmV x.1.2)]) (fun x => x.1.1) ⟨(m, l), DnI.start _ _, Rng.refl _ _ _, by dsimp only; omega, by dsimp only; omega⟩ ?_
      conv => whnf
      repeat' (first | ((first | (with_reducible apply Same.rfl) | (with_reducible apply Frz.l)) <;> conv => whnf) | fail)
      rintro ⟨⟨k, w⟩, hu, hr, hk1, hk2⟩
      dsimp only at hu hr hk1 hk2 ⊢
      have hwl := hr.len
      conv => whnf
      have e1 : ((k : Int) - 1).toNat = k - 1 := by omega
      repeat' (first | ((first | (with_reducible apply Nm.set _ (clm_mk _ _ _ _ _)) | ((with_reducible apply Nm.mk); focus ((try simp only [lns]); exact rfl)) | ((with_reducible apply Wr.i64); focus omega) | ((with_reducible apply Need.mk); focus first | omega | kernel_rfl) | ((with_reducible apply Elem.lst); focus first | omega | (simp only [lns]; omega)) | ((with_reducible apply Bif.dec) <;> intro h <;> (try simp only [lns] at h)) | (with_reducible apply Frz.l)) <;> conv => whnf) | fail)
      · have hu2 := hu.step (by omega) (by omega)
        (refine ⟨⟨(k - 1, swapL w k (k - 1)), hu2, hr.trans (Rng.swap (by omega) (by omega) (by omega)), by dsimp only; omega, by dsimp only; omega⟩, ?_⟩; (try dsimp only); conv => whnf); repeat' (first | with_reducible apply True.intro | ((with_reducible apply Same.mk); (focus (rw [e1]; rfl)); (conv => whnf)) | ((first | ((with_reducible apply Need.mk); focus omega) | (with_reducible apply Same.rfl) | (apply Same.int; focus omega) | (with_reducible apply Turn.l) | (with_reducible apply Frz.l)) <;> conv => whnf) | fail)
      · have hk : k = i := by omega
        subst hk
        (refine ⟨_, _, ⟨w, ⟨hr, hu.sorted C (by omega) hs1 lo hh⟩, rfl, rfl⟩, ?_⟩; conv => whnf); repeat' (first | with_reducible apply True.intro | ((first | (with_reducible apply Same.rfl) | (with_reducible apply Cut.l) | (with_reducible apply Frz.l)) <;> conv => whnf) | fail)
  have hm2 : ((a : Int) + (b : Int)).toNat / 2 = (a + b) / 2 := by omega
  obtain ⟨mid, hmid⟩ : ∃ mid, mid = (a + b) / 2 := ⟨_, rfl⟩
  rw [← hmid] at hm2
  obtain ⟨s0, r0, hx⟩ : ∃ s0 r0, mid < m ∧ s0 = mid + m - b ∧ r0 = mid ∨ ¬ mid < m ∧ s0 = a ∧ r0 = m := by
    by_cases h : mid < m
    · exact ⟨_, _, .inl ⟨h, rfl, rfl⟩⟩
    · exact ⟨_, _, .inr ⟨h, rfl, rfl⟩⟩
  refine spec_of_runRK ttok mixed (T0 := 13164839976634628298295110780136696778032692856359452003713154079) (ts := []) 220 rfl rfl rfl rfl (by simp) rfl ?_
  conv => whnf
  rcases hx with hx | hx
  all_goals
    repeat' (first | ((with_reducible apply Wr.half) <;> first | omega | decide | ((try rw [hm2]); (conv => whnf))) | ((first | ((with_reducible first | apply Wr.i64 | apply Wr.u64); focus omega) | ((with_reducible apply Need.mk); focus omega) | ((with_reducible first | apply Bif.dec | apply Bif.beq) <;> intro h <;> (try simp only [lns] at h) <;> (try (exfalso; omega))) | (with_reducible apply Frz.l)) <;> conv => whnf) | fail)
  all_goals
    refine loop_keep ttok mixed (T0 := 13164839976634628298295110780136696778032692856359452003713154079) [0, 1, 2, 3, 4, 18, 19, 22] (ι := {x : Nat × Nat // s0 ≤ x.1 ∧ x.1 ≤ x.2 ∧ x.2 ≤ r0 ∧ (x.1 = s0 ∨ c (gt l (x.1 - 1)) (gt l (mid + m - x.1)) ≤ 0) ∧ (x.2 = r0 ∨ c (gt l (mid + m - 1 - x.2)) (gt l x.2) < 0)})
      (fun x => [(20, int (x.1.1 : Int)), (21, int (x.1.2 : Int))]) (fun _ => [.arr none 20 (lst clmV l)]) (fun x => x.1.2 - x.1.1) ⟨(s0, r0), by dsimp only; omega, by dsimp only; omega, by dsimp only; omega, .inl rfl, .inl rfl⟩ ?_
    conv => whnf
    repeat' (first | ((first | (with_reducible apply Same.rfl) | (apply Same.int; focus (dsimp only; omega)) | (with_reducible apply Frz.l)) <;> conv => whnf) | fail)
    rintro ⟨⟨s, r⟩, hi, hij, hj, lo, hh⟩
    dsimp only at hi hij hj lo hh ⊢
    conv => whnf
    by_cases hlt : s < r
    · have hq : ((s : Int) + (r : Int)).toNat = s + r := by omega
      have hp : ((mid : Int) + (m : Int) - 1 - (((s + r) / 2 : Nat) : Int)).toNat = mid + m - 1 - (s + r) / 2 := by omega
      repeat' (first | ((with_reducible apply Wr.half) <;> first | omega | decide | (conv => whnf)) | ((first | ((with_reducible apply Nm.mk); focus ((try simp only [lns]); exact rfl)) | ((with_reducible first | apply Wr.i64 | apply Wr.u64); focus omega) | ((with_reducible apply Need.mk); focus first | omega | kernel_rfl) | ((with_reducible apply Elem.lst); focus omega) | (apply CallN.mk (hg _ _)) | ((with_reducible apply Bif.dec) <;> intro h <;> (try simp only [lns] at h) <;> (try (exfalso; omega))) | (with_reducible apply Bif.not) | (with_reducible apply Frz.l)) <;> conv => whnf) | fail)
      · rw [hq, hp] at h
        (refine ⟨⟨(s, (s + r) / 2), hi, by dsimp only; omega, by dsimp only; omega, lo, .inr h⟩, ?_⟩; (try dsimp only); conv => whnf); repeat' (first | with_reducible apply True.intro | ((first | ((with_reducible apply Need.mk); focus omega) | (with_reducible apply Same.rfl) | (apply Same.int; focus rfl) | (with_reducible apply Turn.l) | (with_reducible apply Frz.l)) <;> conv => whnf) | fail)
      · rw [hq, hp] at h
        (refine ⟨⟨((s + r) / 2 + 1, r), by dsimp only; omega, by dsimp only; omega, hj, .inr (by
          dsimp only
          have e1 : (s + r) / 2 + 1 - 1 = (s + r) / 2 := by omega
          have e2 : mid + m - ((s + r) / 2 + 1) = mid + m - 1 - (s + r) / 2 := by omega
          rw [e1, e2]
          have := C.anti (gt l ((s + r) / 2)) (gt l (mid + m - 1 - (s + r) / 2))
          omega), hh⟩, ?_⟩; (try dsimp only); conv => whnf); repeat' (first | with_reducible apply True.intro | ((first | ((with_reducible apply Need.mk); focus omega) | (with_reducible apply Same.rfl) | (apply Same.int; focus rfl) | (with_reducible apply Turn.l) | (with_reducible apply Frz.l)) <;> conv => whnf) | fail)
    · have hij2 : s = r := by omega
      subst hij2
      obtain ⟨e, he⟩ : ∃ e, e = mid + m - s := ⟨_, rfl⟩
      have heI : (mid : Int) + (m : Int) - (s : Int) = (e : Int) := by omega
      rw [← he] at lo
      have p1 : a < s → e < b → c (gt l (s - 1)) (gt l e) ≤ 0 := fun h1 h2 => by
        rcases lo with lo | lo
        · omega
        · exact lo
      have p2 : s < m → m < e → c (gt l (e - 1)) (gt l s) ≤ 0 := fun h1 h2 => by
        rcases hh with hh | hh
        · omega
        · have e1 : mid + m - 1 - s = e - 1 := by omega
          rw [e1] at hh
          omega
      have k1 : a ≤ s ∧ s ≤ m := by omega
      have k2 : m ≤ e ∧ e ≤ b := by omega
      have k3 : s + e = mid + m := by omega
      have k4 : s ≤ mid ∧ mid ≤ e := by omega
      have k5 : a < mid ∧ mid < b := by omega
      by_cases c1 : s < m ∧ m < e
      · by_cases c2 : a < s ∧ s < mid
        · by_cases c3 : mid < e ∧ e < b
          · have kr := k_rotate_Clm g l s m e c1.1 c1.2 (by omega) hl
            repeat' (first | ((with_reducible apply GiveN.keep [0]); (conv => whnf); (try rw [heI]); (refine CallKN.ex kr ?_); (rintro _ _ ⟨w, ⟨hw, hr⟩, rfl, rfl⟩); (conv => whnf)) | ((first | ((with_reducible apply Wr.i64); focus omega) | (with_reducible apply Bif.T) | ((with_reducible apply Bif.dec) <;> intro h <;> (try simp only [lns] at h) <;> (try (exfalso; omega))) | (with_reducible apply Frz.l)) <;> conv => whnf) | fail)
            all_goals
              have hww : w.length = l.length := hw.len
              obtain ⟨⟨q1, q2, q3, q4⟩, q5⟩ := sym_cut C hs1 hs2 k1 k2 k3 k4 p1 p2 hw
              refine GiveN.keep [0] ?_
              conv => whnf
              try rw [heI]
              rw [show l.length = w.length from by omega]
              refine CallKN.ex (ih w a s mid (by omega) (by omega) (by omega) (by omega) (by omega) q1 q2) ?_
              rintro _ _ ⟨v, ⟨g1, g2⟩, rfl, rfl⟩
              have hwv : v.length = l.length := by have := g1.len; omega
              conv => whnf
              repeat' (first | ((first | (with_reducible apply Bif.T) | ((with_reducible apply Bif.dec) <;> intro h <;> (try simp only [lns] at h) <;> (try (exfalso; omega))) | (with_reducible apply Frz.l)) <;> conv => whnf) | fail)
              all_goals
                refine GiveN.keep [0] ?_
                conv => whnf
                try rw [heI]
                rw [show w.length = v.length from by omega]
                refine CallKN.ex (ih v mid e b (by omega) (by omega) (by omega) (by omega) (by omega) (q3.same fun i i1 i2 => g1.out i (.inr i1)) (q4.same fun i i1 i2 => g1.out i (.inr (by omega)))) ?_
                rintro _ _ ⟨u, ⟨g3, g4⟩, rfl, rfl⟩
                have hwu : u.length = l.length := by have := g3.len; omega
                conv => whnf
                repeat' (first | ((with_reducible apply Frz.l) <;> conv => whnf) | fail)
                all_goals
                  (refine ⟨_, _, ⟨u, sym_all C hs1 hs2 k1 k2 k3 k4 p1 p2 hw hr g1 (fun _ _ => g2) g3 (fun _ _ => g4), rfl, rfl⟩, ?_⟩; conv => whnf); repeat' (first | with_reducible apply True.intro | ((first | (with_reducible apply Same.rfl) | (with_reducible apply Cut.l) | (with_reducible apply Frz.l)) <;> conv => whnf) | fail)
          · have kr := k_rotate_Clm g l s m e c1.1 c1.2 (by omega) hl
            repeat' (first | ((with_reducible apply GiveN.keep [0]); (conv => whnf); (try rw [heI]); (refine CallKN.ex kr ?_); (rintro _ _ ⟨w, ⟨hw, hr⟩, rfl, rfl⟩); (conv => whnf)) | ((first | ((with_reducible apply Wr.i64); focus omega) | (with_reducible apply Bif.T) | ((with_reducible apply Bif.dec) <;> intro h <;> (try simp only [lns] at h) <;> (try (exfalso; omega))) | (with_reducible apply Frz.l)) <;> conv => whnf) | fail)
            all_goals
              have hww : w.length = l.length := hw.len
              obtain ⟨⟨q1, q2, q3, q4⟩, q5⟩ := sym_cut C hs1 hs2 k1 k2 k3 k4 p1 p2 hw
              refine GiveN.keep [0] ?_
              conv => whnf
              try rw [heI]
              rw [show l.length = w.length from by omega]
              refine CallKN.ex (ih w a s mid (by omega) (by omega) (by omega) (by omega) (by omega) q1 q2) ?_
              rintro _ _ ⟨v, ⟨g1, g2⟩, rfl, rfl⟩
              have hwv : v.length = l.length := by have := g1.len; omega
              conv => whnf
              repeat' (first | ((first | (with_reducible apply Bif.T) | ((with_reducible apply Bif.dec) <;> intro h <;> (try simp only [lns] at h) <;> (try (exfalso; omega))) | (with_reducible apply Frz.l)) <;> conv => whnf) | fail)
              all_goals
                have g3 := Rng.refl v mid b
                have g4 : Srt c v mid e → Srt c v e b → Srt c v mid b := fun h1 h2 => by
                  by_cases e1 : mid = e
                  · rw [e1]; exact h2
                  · have e2 : e = b := by omega
                    rw [← e2]; exact h1
                (refine ⟨_, _, ⟨v, sym_all C hs1 hs2 k1 k2 k3 k4 p1 p2 hw hr g1 (fun _ _ => g2) g3 (g4), rfl, rfl⟩, ?_⟩; conv => whnf); repeat' (first | with_reducible apply True.intro | ((first | (with_reducible apply Same.rfl) | (with_reducible apply Cut.l) | (with_reducible apply Frz.l)) <;> conv => whnf) | fail)
        · by_cases c3 : mid < e ∧ e < b
          · have kr := k_rotate_Clm g l s m e c1.1 c1.2 (by omega) hl
            repeat' (first | ((with_reducible apply GiveN.keep [0]); (conv => whnf); (try rw [heI]); (refine CallKN.ex kr ?_); (rintro _ _ ⟨w, ⟨hw, hr⟩, rfl, rfl⟩); (conv => whnf)) | ((first | ((with_reducible apply Wr.i64); focus omega) | (with_reducible first | apply Bif.T | apply Bif.F) | ((with_reducible apply Bif.dec) <;> intro h <;> (try simp only [lns] at h) <;> (try (exfalso; omega))) | (with_reducible apply Frz.l)) <;> conv => whnf) | fail)
            all_goals
              have hww : w.length = l.length := hw.len
              obtain ⟨⟨q1, q2, q3, q4⟩, q5⟩ := sym_cut C hs1 hs2 k1 k2 k3 k4 p1 p2 hw
              have g1 := Rng.refl w a mid
              have g2 : Srt c w a s → Srt c w s mid → Srt c w a mid := fun h1 h2 => by
                by_cases e1 : a = s
                · rw [e1]; exact h2
                · have e2 : s = mid := by omega
                  rw [← e2]; exact h1
              refine GiveN.keep [0] ?_
              conv => whnf
              try rw [heI]
              rw [show l.length = w.length from by omega]
              refine CallKN.ex (ih w mid e b (by omega) (by omega) (by omega) (by omega) (by omega) (q3.same fun i i1 i2 => g1.out i (.inr i1)) (q4.same fun i i1 i2 => g1.out i (.inr (by omega)))) ?_
              rintro _ _ ⟨u, ⟨g3, g4⟩, rfl, rfl⟩
              have hwu : u.length = l.length := by have := g3.len; omega
              conv => whnf
              repeat' (first | ((with_reducible apply Frz.l) <;> conv => whnf) | fail)
              all_goals
                (refine ⟨_, _, ⟨u, sym_all C hs1 hs2 k1 k2 k3 k4 p1 p2 hw hr g1 (g2) g3 (fun _ _ => g4), rfl, rfl⟩, ?_⟩; conv => whnf); repeat' (first | with_reducible apply True.intro | ((first | (with_reducible apply Same.rfl) | (with_reducible apply Cut.l) | (with_reducible apply Frz.l)) <;> conv => whnf) | fail)
          · have kr := k_rotate_Clm g l s m e c1.1 c1.2 (by omega) hl
            repeat' (first | ((with_reducible apply GiveN.keep [0]); (conv => whnf); (try rw [heI]); (refine CallKN.ex kr ?_); (rintro _ _ ⟨w, ⟨hw, hr⟩, rfl, rfl⟩); (conv => whnf)) | ((first | ((with_reducible apply Wr.i64); focus omega) | (with_reducible first | apply Bif.T | apply Bif.F) | ((with_reducible apply Bif.dec) <;> intro h <;> (try simp only [lns] at h) <;> (try (exfalso; omega))) | (with_reducible apply Frz.l)) <;> conv => whnf) | fail)
            all_goals
              have hww : w.length = l.length := hw.len
              obtain ⟨⟨q1, q2, q3, q4⟩, q5⟩ := sym_cut C hs1 hs2 k1 k2 k3 k4 p1 p2 hw
              have g1 := Rng.refl w a mid
              have g2 : Srt c w a s → Srt c w s mid → Srt c w a mid := fun h1 h2 => by
                by_cases e1 : a = s
                · rw [e1]; exact h2
                · have e2 : s = mid := by omega
                  rw [← e2]; exact h1
              have g3 := Rng.refl w mid b
              have g4 : Srt c w mid e → Srt c w e b → Srt c w mid b := fun h1 h2 => by
                by_cases e1 : mid = e
                · rw [e1]; exact h2
                · have e2 : e = b := by omega
                  rw [← e2]; exact h1
              (refine ⟨_, _, ⟨w, sym_all C hs1 hs2 k1 k2 k3 k4 p1 p2 hw hr g1 (g2) g3 (g4), rfl, rfl⟩, ?_⟩; conv => whnf); repeat' (first | with_reducible apply True.intro | ((first | (with_reducible apply Same.rfl) | (with_reducible apply Cut.l) | (with_reducible apply Frz.l)) <;> conv => whnf) | fail)
      · by_cases c2 : a < s ∧ s < mid
        · by_cases c3 : mid < e ∧ e < b
          · have hw : Rot l l s m e := by
              by_cases q : s = m
              · rw [q]; exact Rot.none1 _ _ _
              · have q2 : m = e := by omega
                rw [← q2]; exact Rot.none2 _ _ _ k1.2
            have hr := Rng.refl l s e
            repeat' (first | ((first | ((with_reducible apply Bif.dec) <;> intro h <;> (try simp only [lns] at h) <;> (try (exfalso; omega))) | (with_reducible apply Frz.l)) <;> conv => whnf) | fail)
            all_goals
              obtain ⟨⟨q1, q2, q3, q4⟩, q5⟩ := sym_cut C hs1 hs2 k1 k2 k3 k4 p1 p2 hw
              refine GiveN.keep [0] ?_
              conv => whnf
              try rw [heI]
              refine CallKN.ex (ih l a s mid (by omega) (by omega) (by omega) (by omega) (by omega) q1 q2) ?_
              rintro _ _ ⟨v, ⟨g1, g2⟩, rfl, rfl⟩
              have hwv : v.length = l.length := by have := g1.len; omega
              conv => whnf
              repeat' (first | ((with_reducible apply Frz.l) <;> conv => whnf) | fail)
              all_goals
                refine GiveN.keep [0] ?_
                conv => whnf
                try rw [heI]
                rw [show l.length = v.length from by omega]
                refine CallKN.ex (ih v mid e b (by omega) (by omega) (by omega) (by omega) (by omega) (q3.same fun i i1 i2 => g1.out i (.inr i1)) (q4.same fun i i1 i2 => g1.out i (.inr (by omega)))) ?_
                rintro _ _ ⟨u, ⟨g3, g4⟩, rfl, rfl⟩
                have hwu : u.length = l.length := by have := g3.len; omega
                conv => whnf
                repeat' (first | ((with_reducible apply Frz.l) <;> conv => whnf) | fail)
                all_goals
                  (refine ⟨_, _, ⟨u, sym_all C hs1 hs2 k1 k2 k3 k4 p1 p2 hw hr g1 (fun _ _ => g2) g3 (fun _ _ => g4), rfl, rfl⟩, ?_⟩; conv => whnf); repeat' (first | ((with_reducible apply Frz.l) <;> conv => whnf) | fail)
          · have hw : Rot l l s m e := by
              by_cases q : s = m
              · rw [q]; exact Rot.none1 _ _ _
              · have q2 : m = e := by omega
                rw [← q2]; exact Rot.none2 _ _ _ k1.2
            have hr := Rng.refl l s e
            repeat' (first | ((first | ((with_reducible apply Wr.i64); focus omega) | (with_reducible first | apply Bif.T | apply Bif.F) | ((with_reducible apply Bif.dec) <;> intro h <;> (try simp only [lns] at h) <;> (try (exfalso; omega))) | (with_reducible apply Frz.l)) <;> conv => whnf) | fail)
            all_goals
              obtain ⟨⟨q1, q2, q3, q4⟩, q5⟩ := sym_cut C hs1 hs2 k1 k2 k3 k4 p1 p2 hw
              refine GiveN.keep [0] ?_
              conv => whnf
              try rw [heI]
              refine CallKN.ex (ih l a s mid (by omega) (by omega) (by omega) (by omega) (by omega) q1 q2) ?_
              rintro _ _ ⟨v, ⟨g1, g2⟩, rfl, rfl⟩
              have hwv : v.length = l.length := by have := g1.len; omega
              conv => whnf
              repeat' (first | ((first | (with_reducible apply Bif.F) | ((with_reducible apply Bif.dec) <;> intro h <;> (try simp only [lns] at h) <;> (try (exfalso; omega))) | (with_reducible apply Frz.l)) <;> conv => whnf) | fail)
              all_goals
                have g3 := Rng.refl v mid b
                have g4 : Srt c v mid e → Srt c v e b → Srt c v mid b := fun h1 h2 => by
                  by_cases e1 : mid = e
                  · rw [e1]; exact h2
                  · have e2 : e = b := by omega
                    rw [← e2]; exact h1
                (refine ⟨_, _, ⟨v, sym_all C hs1 hs2 k1 k2 k3 k4 p1 p2 hw hr g1 (fun _ _ => g2) g3 (g4), rfl, rfl⟩, ?_⟩; conv => whnf); repeat' (first | with_reducible apply True.intro | ((first | (with_reducible apply Same.rfl) | (with_reducible apply Cut.l) | (with_reducible apply Frz.l)) <;> conv => whnf) | fail)
        · by_cases c3 : mid < e ∧ e < b
          · have hw : Rot l l s m e := by
              by_cases q : s = m
              · rw [q]; exact Rot.none1 _ _ _
              · have q2 : m = e := by omega
                rw [← q2]; exact Rot.none2 _ _ _ k1.2
            have hr := Rng.refl l s e
            repeat' (first | ((first | ((with_reducible apply Wr.i64); focus omega) | (with_reducible apply Bif.T) | ((with_reducible apply Bif.dec) <;> intro h <;> (try simp only [lns] at h) <;> (try (exfalso; omega))) | (with_reducible apply Frz.l)) <;> conv => whnf) | fail)
            all_goals
              obtain ⟨⟨q1, q2, q3, q4⟩, q5⟩ := sym_cut C hs1 hs2 k1 k2 k3 k4 p1 p2 hw
              have g1 := Rng.refl l a mid
              have g2 : Srt c l a s → Srt c l s mid → Srt c l a mid := fun h1 h2 => by
                by_cases e1 : a = s
                · rw [e1]; exact h2
                · have e2 : s = mid := by omega
                  rw [← e2]; exact h1
              refine GiveN.keep [0] ?_
              conv => whnf
              try rw [heI]
              refine CallKN.ex (ih l mid e b (by omega) (by omega) (by omega) (by omega) (by omega) (q3.same fun i i1 i2 => g1.out i (.inr i1)) (q4.same fun i i1 i2 => g1.out i (.inr (by omega)))) ?_
              rintro _ _ ⟨u, ⟨g3, g4⟩, rfl, rfl⟩
              have hwu : u.length = l.length := by have := g3.len; omega
              conv => whnf
              repeat' (first | ((with_reducible apply Frz.l) <;> conv => whnf) | fail)
              all_goals
                (refine ⟨_, _, ⟨u, sym_all C hs1 hs2 k1 k2 k3 k4 p1 p2 hw hr g1 (g2) g3 (fun _ _ => g4), rfl, rfl⟩, ?_⟩; conv => whnf); repeat' (first | with_reducible apply True.intro | ((first | (with_reducible apply Same.rfl) | (with_reducible apply Cut.l) | (with_reducible apply Frz.l)) <;> conv => whnf) | fail)
          · have hw : Rot l l s m e := by
              by_cases q : s = m
              · rw [q]; exact Rot.none1 _ _ _
              · have q2 : m = e := by omega
                rw [← q2]; exact Rot.none2 _ _ _ k1.2
            have hr := Rng.refl l s e
            repeat' (first | ((first | ((with_reducible apply Wr.i64); focus omega) | (with_reducible first | apply Bif.T | apply Bif.F) | ((with_reducible apply Bif.dec) <;> intro h <;> (try simp only [lns] at h) <;> (try (exfalso; omega))) | (with_reducible apply Frz.l)) <;> conv => whnf) | fail)
            all_goals
              obtain ⟨⟨q1, q2, q3, q4⟩, q5⟩ := sym_cut C hs1 hs2 k1 k2 k3 k4 p1 p2 hw
              have g1 := Rng.refl l a mid
              have g2 : Srt c l a s → Srt c l s mid → Srt c l a mid := fun h1 h2 => by
                by_cases e1 : a = s
                · rw [e1]; exact h2
                · have e2 : s = mid := by omega
                  rw [← e2]; exact h1
              have g3 := Rng.refl l mid b
              have g4 : Srt c l mid e → Srt c l e b → Srt c l mid b := fun h1 h2 => by
                by_cases e1 : mid = e
                · rw [e1]; exact h2
                · have e2 : e = b := by omega
                  rw [← e2]; exact h1
              (refine ⟨_, _, ⟨l, sym_all C hs1 hs2 k1 k2 k3 k4 p1 p2 hw hr g1 (g2) g3 (g4), rfl, rfl⟩, ?_⟩; conv => whnf); repeat' (first | with_reducible apply True.intro | ((first | (with_reducible apply Same.rfl) | (with_reducible apply Cut.l) | (with_reducible apply Frz.l)) <;> conv => whnf) | fail)
end Go.Fw

/- Slices of Clm: slices.SortStableFunc, the whole. Written by wip/gen/gen.py. -/
namespace Go.Fw
open Go.Proofs
set_option maxHeartbeats 4000000
set_option maxRecDepth 4000
theorem k_stable_Clm (g : FuncId) (c : Clm → Clm → Int) (hg : ∀ x y, Con Tryz.prog g [clmV x, clmV y] [] (int (c x y)) []) (C : PreOK c) (l : List Clm) (hl : l.length ≤ 1000000) :
    ∃ r hp', (∃ w : List Clm, (Rng l w 0 l.length ∧ Srt c w 0 l.length) ∧ r = .tup [] ∧ hp' = [.arr none 20 (lst clmV w)]) ∧ ConK Tryz.prog 88 [.ov 20 0 0 l.length, int l.length, .clo g []] [.arr none 20 (lst clmV l)] r hp' := by
  refine spec_of_runRK ttok mixed (T0 := 18014433942971335) (ts := []) 63 rfl rfl rfl rfl (by simp) rfl ?_
  conv => whnf
  repeat' (first | ((with_reducible apply Frz.l) <;> conv => whnf) | fail)
  refine loop_keep ttok mixed (T0 := 18014433942971335) [0, 1, 2, 6] (ι := {x : Nat × List Clm // Rng l x.2 0 l.length ∧ Blk c x.2 20 x.1 ∧ x.1 ≤ l.length ∧ ∃ q, x.1 = 20 * q})
    (fun x => [(7, int (x.1.1 : Int)), (8, int ((x.1.1 + 20 : Nat) : Int))]) (fun x => [.arr none 20 (lst clmV x.1.2)]) (fun x => l.length - x.1.1) ⟨(0, l), Rng.refl _ _ _, Blk.zero _ _, Nat.zero_le _, 0, rfl⟩ ?_
  conv => whnf
  repeat' (first | ((first | (with_reducible apply Same.rfl) | (apply Same.int; focus rfl) | (with_reducible apply Frz.l)) <;> conv => whnf) | fail)
  rintro ⟨⟨a, w⟩, hr, hB, hal, q, hq⟩
  dsimp only at hr hB hal hq ⊢
  have hwl := hr.len
  conv => whnf
  by_cases hab : a + 20 ≤ l.length
  · have kw := k_insSort_Clm g c hg C w a (a + 20) (by omega) (by omega) (by omega)
    rw [hwl] at kw
    repeat' (first | ((with_reducible apply GiveN.keep [0]); (conv => whnf); (refine CallKN.ex kw ?_); (rintro _ _ ⟨v, ⟨hv, hs⟩, rfl, rfl⟩); (conv => whnf)) | ((first | ((with_reducible apply Wr.i64); focus omega) | ((with_reducible apply Bif.dec) <;> intro h <;> (try simp only [lns] at h) <;> (try (exfalso; omega))) | (with_reducible apply Frz.l)) <;> conv => whnf) | fail)
    (refine ⟨⟨(a + 20, v), hr.trans (hv.up (by omega) (by omega)), hB.step hq (by omega) hv hs, by dsimp only; omega, q + 1, by dsimp only; omega⟩, ?_⟩; (try dsimp only); conv => whnf); repeat' (first | with_reducible apply True.intro | ((first | ((with_reducible apply Need.mk); focus omega) | (with_reducible apply Same.rfl) | (apply Same.int; focus rfl) | (with_reducible apply Turn.l) | (with_reducible apply Frz.l)) <;> conv => whnf) | fail)
  · have kw := k_insSort_Clm g c hg C w a l.length (by omega) (by omega) (by omega)
    rw [hwl] at kw
    repeat' (first | ((with_reducible apply GiveN.keep [0]); (conv => whnf); (refine CallKN.ex kw ?_); (rintro _ _ ⟨v, ⟨hv, hs⟩, rfl, rfl⟩); (conv => whnf)) | ((first | ((with_reducible apply Bif.dec) <;> intro h <;> (try simp only [lns] at h) <;> (try (exfalso; omega))) | (with_reducible apply Frz.l)) <;> conv => whnf) | fail)
    have hB2 : Blk c v 20 l.length := hB.step hq (by omega) hv hs
    have hr2 : Rng l v 0 l.length := hr.trans (hv.up (by omega) (by omega))
    have hvl := hr2.len
    clear kw hv hs hB hr hwl hab hal hq
    refine loop_keep ttok mixed (T0 := 18014433942971335) [0, 1, 2] (ι := {x : Nat × List Clm // Rng l x.2 0 l.length ∧ Blk c x.2 x.1 l.length ∧ 20 ≤ x.1 ∧ x.1 ≤ 2 * l.length + 20})
      (fun x => [(6, int (x.1.1 : Int))]) (fun x => [.arr none 20 (lst clmV x.1.2)]) (fun x => l.length - x.1.1) ⟨(20, v), hr2, hB2, by dsimp only; omega, by dsimp only; omega⟩ ?_
    conv => whnf
    repeat' (first | ((first | (with_reducible apply Same.rfl) | (apply Same.int; focus rfl) | (with_reducible apply Frz.l)) <;> conv => whnf) | fail)
    rintro ⟨⟨bs, v⟩, hr, hB, hb1, hb2⟩
    dsimp only at hr hB hb1 hb2 ⊢
    have hvl := hr.len
    conv => whnf
    by_cases hbl : bs < l.length
    · repeat' (first | ((first | ((with_reducible apply Wr.i64); focus omega) | ((with_reducible apply Bif.dec) <;> intro h <;> (try simp only [lns] at h) <;> (try (exfalso; omega))) | (with_reducible apply Frz.l)) <;> conv => whnf) | fail)
      refine loop_keep ttok mixed (T0 := 18014433942971335) [0, 1, 2, 6] (ι := {x : Nat × List Clm // Rng l x.2 0 l.length ∧ Blk c x.2 (2 * bs) x.1 ∧ BlkF c x.2 bs x.1 l.length ∧ x.1 ≤ l.length ∧ ∃ q, x.1 = 2 * bs * q})
        (fun x => [(7, int (x.1.1 : Int)), (8, int ((x.1.1 + 2 * bs : Nat) : Int))]) (fun x => [.arr none 20 (lst clmV x.1.2)]) (fun x => l.length - x.1.1) ⟨(0, v), hr, Blk.zero _ _, hB.from0, Nat.zero_le _, 0, rfl⟩ ?_
      conv => whnf
      repeat' (first | ((first | (with_reducible apply Same.rfl) | (apply Same.int; focus first | rfl | (dsimp only; omega)) | (with_reducible apply Frz.l)) <;> conv => whnf) | fail)
      rintro ⟨⟨a, w⟩, hr, hB, hF, hal, q, hq⟩
      dsimp only at hr hB hF hal hq ⊢
      have hwl := hr.len
      have q1 : a = bs * (2 * q) := by rw [hq, Nat.mul_assoc, Nat.mul_left_comm]
      have q2 : a + bs = bs * (2 * q + 1) := by rw [Nat.mul_add, ← q1, Nat.mul_one]
      have q3 : a + 2 * bs = 2 * bs * (q + 1) := by rw [Nat.mul_add, ← hq, Nat.mul_one]
      conv => whnf
      by_cases hab : a + 2 * bs ≤ l.length
      · have kw := k_symMerge_Clm g c hg C (2 * bs) w a (a + bs) (a + 2 * bs) (by omega) (by omega) (by omega) (by omega) (by omega) (hF.run q1 (Nat.le_refl a) (by omega) (by omega)) (hF.run q2 (by omega) (by omega) (by omega))
        rw [hwl] at kw
        repeat' (first | ((with_reducible apply GiveN.keep [0]); (conv => whnf); (refine CallKN.ex kw ?_); (rintro _ _ ⟨u, ⟨hu, hs⟩, rfl, rfl⟩); (conv => whnf)) | ((first | ((with_reducible apply Wr.i64); focus omega) | ((with_reducible apply Bif.dec) <;> intro h <;> (try simp only [lns] at h) <;> (try (exfalso; omega))) | (with_reducible apply Frz.l)) <;> conv => whnf) | fail)
        (refine ⟨⟨(a + 2 * bs, u), hr.trans (hu.up (by omega) (by omega)), hB.step hq (by omega) hu hs, hF.step hu (by omega), by dsimp only; omega, q + 1, q3⟩, ?_⟩; (try dsimp only); conv => whnf); repeat' (first | with_reducible apply True.intro | ((first | ((with_reducible apply Need.mk); focus omega) | (with_reducible apply Same.rfl) | (apply Same.int; focus rfl) | (with_reducible apply Turn.l) | (with_reducible apply Frz.l)) <;> conv => whnf) | fail)
      · by_cases hmn : a + bs < l.length
        · have kw := k_symMerge_Clm g c hg C (2 * bs) w a (a + bs) l.length (by omega) (by omega) (by omega) (by omega) (by omega) (hF.run q1 (Nat.le_refl a) (by omega) (by omega)) (hF.run q2 (by omega) (by omega) (by omega))
          rw [hwl] at kw
          repeat' (first | ((with_reducible apply GiveN.keep [0]); (conv => whnf); (refine CallKN.ex kw ?_); (rintro _ _ ⟨u, ⟨hu, hs⟩, rfl, rfl⟩); (conv => whnf)) | ((first | ((with_reducible apply Wr.i64); focus omega) | ((with_reducible apply Bif.dec) <;> intro h <;> (try simp only [lns] at h) <;> (try (exfalso; omega))) | (with_reducible apply Frz.l)) <;> conv => whnf) | fail)
          (refine ⟨⟨(2 * bs, u), hr.trans (hu.up (by omega) (by omega)), hB.step hq (by omega) hu hs, by dsimp only; omega, by dsimp only; omega⟩, ?_⟩; (try dsimp only); conv => whnf); repeat' (first | with_reducible apply True.intro | ((first | ((with_reducible apply Need.mk); focus omega) | (with_reducible apply Same.rfl) | (apply Same.int; focus omega) | (with_reducible apply Turn.l) | (with_reducible apply Frz.l)) <;> conv => whnf) | fail)
        · repeat' (first | ((first | ((with_reducible apply Wr.i64); focus omega) | ((with_reducible apply Bif.dec) <;> intro h <;> (try simp only [lns] at h) <;> (try (exfalso; omega))) | (with_reducible apply Frz.l)) <;> conv => whnf) | fail)
          (refine ⟨⟨(2 * bs, w), hr, hB.step hq (by omega) (Rng.refl w a l.length) (hF.run q1 (Nat.le_refl a) (by omega) (Nat.le_refl _)), by dsimp only; omega, by dsimp only; omega⟩, ?_⟩; (try dsimp only); conv => whnf); repeat' (first | with_reducible apply True.intro | ((first | ((with_reducible apply Need.mk); focus omega) | (with_reducible apply Same.rfl) | (apply Same.int; focus omega) | (with_reducible apply Turn.l) | (with_reducible apply Frz.l)) <;> conv => whnf) | fail)
    · repeat' (first | ((first | ((with_reducible apply Bif.dec) <;> intro h <;> (try simp only [lns] at h) <;> (try (exfalso; omega))) | (with_reducible apply Frz.l)) <;> conv => whnf) | fail)
      (refine ⟨_, _, ⟨v, ⟨hr, hB.all (by omega)⟩, rfl, rfl⟩, ?_⟩; conv => whnf); repeat' (first | with_reducible apply True.intro | ((first | (with_reducible apply Same.rfl) | (with_reducible apply Cut.l) | (with_reducible apply Frz.l)) <;> conv => whnf) | fail)
theorem k_SortStable_Clm (g : FuncId) (c : Clm → Clm → Int) (hg : ∀ x y, Con Tryz.prog g [clmV x, clmV y] [] (int (c x y)) []) (C : PreOK c) (l : List Clm) (hl : l.length ≤ 1000000) :
    ∃ r hp', (∃ w : List Clm, (Rng l w 0 l.length ∧ Srt c w 0 l.length) ∧ r = .tup [] ∧ hp' = [.arr none 20 (lst clmV w)]) ∧ ConK Tryz.prog 60 [.ov 20 0 0 l.length, .clo g []] [.arr none 20 (lst clmV l)] r hp' := by
  have kw := k_stable_Clm g c hg C l hl
  refine spec_of_runRK ttok mixed (T0 := 3) (ts := []) 9 rfl rfl rfl rfl (by simp) rfl ?_
  conv => whnf
  repeat' (first | ((with_reducible apply GiveN.keep [0]); (conv => whnf); (refine CallKN.ex kw ?_); (rintro _ _ ⟨u, ⟨hu, hs⟩, rfl, rfl⟩); (conv => whnf)) | ((with_reducible apply Frz.l) <;> conv => whnf) | fail)
  (refine ⟨_, _, ⟨u, ⟨hu, hs⟩, rfl, rfl⟩, ?_⟩; conv => whnf); repeat' (first | with_reducible apply True.intro | ((first | (with_reducible apply Same.rfl) | (with_reducible apply Cut.l) | (with_reducible apply Frz.l)) <;> conv => whnf) | fail)
end Go.Fw
