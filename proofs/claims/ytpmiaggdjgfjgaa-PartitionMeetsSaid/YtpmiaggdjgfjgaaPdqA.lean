/- slices.Sort of numbers: the small parts. -/
import Derived.Test.YtpmiaggdjgfjgaaPdq
namespace Go.Fw
open Go.Proofs
set_option maxHeartbeats 4000000
set_option maxRecDepth 4000
theorem k_cLess (a b : Int) : Con Try.prog 72 [.v (.int .u64 a), .v (.int .u64 b)] [] (bool (decide (a < b))) [] := by
  have h1 : Con Try.prog 98 [.v (.int .u64 a)] [] (bool false) [] := by
    refine spec_of_run ttok mixed (T0 := 5) (ts := [.tmp 2]) 6 rfl rfl rfl rfl (by simp) rfl ?_
    conv => whnf
    skip
    all_goals (apply Same.bool (by simp); (conv => whnf); repeat' (first | with_reducible apply True.intro | fail))
  refine spec_of_run ttok mixed (T0 := 19) (ts := [.tmp 4]) 17 rfl rfl rfl rfl (by simp) rfl ?_
  conv => whnf
  repeat' (first | with_reducible apply True.intro | ((first | (apply CallN.mk (h1)) | (with_reducible apply Bif.F) | (apply Same.bool; focus (with_reducible rfl))) <;> conv => whnf) | fail)
theorem k_ordIns (l : List Int) (a b : Nat) (hab : a ≤ b) (hb : b ≤ l.length) (hl : l.length ≤ 1000000) :
    ∃ r hp', (∃ w : List Int, (Rng l w a b ∧ Srt cI w a b) ∧ r = .tup [] ∧ hp' = [.arr none 1 (lst u64 w)]) ∧ ConK Try.prog 82 [.ov 1 0 0 l.length, int a, int b] [.arr none 1 (lst u64 l)] r hp' := by
  refine spec_of_runRK ttok mixed (T0 := 1073746119) (ts := []) 49 rfl rfl rfl rfl (by simp) rfl ?_
  conv => whnf
  repeat' (first | (((with_reducible apply Wr.i64); focus omega) <;> conv => whnf) | fail)
  refine loop_keep ttok mixed (T0 := 1073746119) [0, 1, 2] (ι := {p : Nat × List Int // Rng l p.2 a b ∧ Srt cI p.2 a p.1 ∧ a + 1 ≤ p.1 ∧ p.1 ≤ b + 1 ∧ (p.1 ≤ b ∨ a = b)})
    (fun p => [(6, int (p.1.1 : Int))]) (fun p => [.arr none 1 (lst u64 p.1.2)]) (fun p => b + 1 - p.1.1) ⟨(a + 1, l), Rng.refl _ _ _, Srt.small (by omega), by dsimp only; omega, by dsimp only; omega, by dsimp only; omega⟩ ?_
  conv => whnf
  repeat' (first | ((first | (with_reducible apply Same.rfl) | (apply Same.int; focus rfl)) <;> conv => whnf) | fail)
  rintro ⟨⟨i, w⟩, hr, hs, hi1, hi2, hi3⟩
  dsimp only at hr hs hi1 hi2 hi3 ⊢
  have hwl := hr.len
  conv => whnf
  repeat' (first | (((with_reducible apply Bif.dec) <;> intro h <;> (try simp only [lns] at h)) <;> conv => whnf) | fail)
  · refine loop_keep ttok mixed (T0 := 1073746119) [0, 1, 2, 6] (ι := {p : Nat × List Int // Rng l p.2 a b ∧ InsJ cI p.2 a i p.1})
      (fun p => [(7, int (p.1.1 : Int))]) (fun p => [.arr none 1 (lst u64 p.1.2)]) (fun p => p.1.1) ⟨(i, w), hr, InsJ.start hs (by omega)⟩ ?_
    conv => whnf
    repeat' (first | ((with_reducible apply Same.rfl) <;> conv => whnf) | fail)
    rintro ⟨⟨j, v⟩, hv, hI⟩
    dsimp only at hv hI ⊢
    have hvl := hv.len
    have hI1 := hI.1
    have hI2 := hI.2.1
    conv => whnf
    have e1 : ((j : Int) - 1).toNat = j - 1 := by omega
    repeat' (first | ((first | (with_reducible apply Nm.set _ (rfl)) | ((with_reducible apply Nm.mk); focus ((try simp only [lns]); exact rfl)) | ((with_reducible apply Wr.i64); focus omega) | ((with_reducible apply Need.mk); focus first | omega | kernel_rfl) | ((with_reducible apply Elem.lst); focus first | omega | (simp only [lns]; omega)) | (apply CallN.mk (k_cLess _ _)) | (with_reducible first | apply Bif.T | apply Bif.F) | ((with_reducible apply Bif.dec) <;> intro h <;> (try simp only [lns] at h))) <;> conv => whnf) | fail)
    · rw [e1] at h
      have hs2 := hI.step cI_pre (by omega) (by omega) (show cI _ _ < 0 by unfold cI; omega)
      (refine ⟨⟨(j - 1, swapL v j (j - 1)), hv.trans (Rng.swap (by omega) (by omega) (by omega)), hs2⟩, ?_⟩; (try dsimp only); conv => whnf); repeat' (first | with_reducible apply True.intro | ((with_reducible apply Same.mk); (focus (rw [e1]; rfl)); (conv => whnf)) | ((first | ((with_reducible apply Need.mk); focus omega) | (with_reducible apply Same.rfl) | (apply Same.int; focus omega) | (with_reducible apply Turn.l)) <;> conv => whnf) | fail)
    · rw [e1] at h
      (refine ⟨⟨(i + 1, v), hv, hI.stop cI_pre (.inr (show ¬ cI _ _ < 0 by unfold cI; omega)), by dsimp only; omega, by dsimp only; omega, by dsimp only; omega⟩, ?_⟩; (try dsimp only); conv => whnf); repeat' (first | with_reducible apply True.intro | ((first | ((with_reducible apply Need.mk); focus omega) | (with_reducible apply Same.rfl) | (apply Same.int; focus rfl) | (with_reducible apply Turn.l)) <;> conv => whnf) | fail)
    · (refine ⟨⟨(i + 1, v), hv, hI.stop cI_pre (.inl (by omega)), by dsimp only; omega, by dsimp only; omega, by dsimp only; omega⟩, ?_⟩; (try dsimp only); conv => whnf); repeat' (first | with_reducible apply True.intro | ((first | ((with_reducible apply Need.mk); focus omega) | (with_reducible apply Same.rfl) | (apply Same.int; focus rfl) | (with_reducible apply Turn.l)) <;> conv => whnf) | fail)
  · (refine ⟨_, _, ⟨w, ⟨hr, hs.sub (Nat.le_refl a) (by omega)⟩, rfl, rfl⟩, ?_⟩; conv => whnf); repeat' (first | with_reducible apply True.intro | ((first | (with_reducible apply Same.rfl) | (with_reducible apply Cut.l)) <;> conv => whnf) | fail)
theorem k_sift (l : List Int) (lo hi f : Nat) (hlo : lo ≤ hi) (hf : f + hi ≤ l.length) (hl : l.length ≤ 1000000) (hp : HpF l f (lo + 1) hi) :
    ∃ r hp', (∃ w : List Int, (Rng l w f (f + hi) ∧ HpF w f lo hi) ∧ r = .tup [] ∧ hp' = [.arr none 1 (lst u64 w)]) ∧ ConK Try.prog 101 [.ov 1 0 0 l.length, int lo, int hi, int f] [.arr none 1 (lst u64 l)] r hp' := by
  refine spec_of_runRK ttok mixed (T0 := 4503668346913551) (ts := []) 76 rfl rfl rfl rfl (by simp) rfl ?_
  conv => whnf
  skip
  refine loop_keep ttok mixed (T0 := 4503668346913551) [0, 1, 2, 3] (ι := {p : Nat × List Int // Rng l p.2 f (f + hi) ∧ SfI p.2 f lo hi p.1 ∧ p.1 ≤ hi})
    (fun p => [(8, int (p.1.1 : Int))]) (fun p => [.arr none 1 (lst u64 p.1.2)]) (fun p => hi - p.1.1) ⟨(lo, l), Rng.refl _ _ _, SfI.start hp, hlo⟩ ?_
  conv => whnf
  repeat' (first | ((with_reducible apply Same.rfl) <;> conv => whnf) | fail)
  rintro ⟨⟨x, w⟩, hr, hs, hxh⟩
  dsimp only at hr hs hxh ⊢
  have hwl := hr.len
  have hx := hs.le
  conv => whnf
  have e0 : ((f : Int) + (x : Int)).toNat = f + x := by omega
  have e1 : ((f : Int) + (2 * (x : Int) + 1)).toNat = f + (2 * x + 1) := by omega
  have e2 : ((f : Int) + (2 * (x : Int) + 1) + 1).toNat = f + (2 * x + 2) := by omega
  have e3 : ((f : Int) + (2 * (x : Int) + 1 + 1)).toNat = f + (2 * x + 2) := by omega
  have C1 : isCh x (2 * x + 1) := .inl rfl
  have C2 : isCh x (2 * x + 2) := .inr rfl
  repeat' (first | ((first | (with_reducible apply Nm.set _ (rfl)) | ((with_reducible apply Nm.mk); focus ((try simp only [lns]); exact rfl)) | ((with_reducible apply Wr.i64); focus omega) | ((with_reducible apply Need.mk); focus first | omega | kernel_rfl) | ((with_reducible apply Elem.lst); focus first | omega | (simp only [lns]; omega)) | (apply CallN.mk (k_cLess _ _)) | (with_reducible first | apply Bif.T | apply Bif.F) | ((with_reducible apply Bif.dec) <;> intro h <;> (try simp only [lns] at h)) | (with_reducible apply Bif.not)) <;> conv => whnf) | fail)
  · (refine ⟨_, _, ⟨w, ⟨hr, hs.stop fun ch c1 c2 => by unfold isCh at c1; omega⟩, rfl, rfl⟩, ?_⟩; conv => whnf); repeat' (first | with_reducible apply True.intro | ((first | (with_reducible apply Same.rfl) | (with_reducible apply Cut.l)) <;> conv => whnf) | fail)
  · rename_i g1 g2 g3
    rw [e1, e2] at g3
    rw [e0, e3] at h
    have hs2 := hs.step C2 (by omega) (by omega) (fun c k1 k2 => by rcases k1 with rfl | rfl <;> omega) h
    (refine ⟨⟨(2 * x + 2, swapL w (f + x) (f + (2 * x + 2))), hr.trans (Rng.swap (by omega) (by omega) (by omega)), hs2, by dsimp only; omega⟩, ?_⟩; (try dsimp only); conv => whnf); repeat' (first | with_reducible apply True.intro | ((with_reducible apply Same.mk); (focus (rw [e0, e3]; rfl)); (conv => whnf)) | ((first | ((with_reducible apply Need.mk); focus omega) | (with_reducible apply Same.rfl) | (apply Same.int; focus rfl) | (with_reducible apply Turn.l)) <;> conv => whnf) | fail)
  · rename_i g1 g2 g3
    rw [e1, e2] at g3
    rw [e0, e3] at h
    (refine ⟨_, _, ⟨w, ⟨hr, hs.stop fun c k1 k2 => by rcases k1 with rfl | rfl <;> omega⟩, rfl, rfl⟩, ?_⟩; conv => whnf); repeat' (first | with_reducible apply True.intro | ((first | (with_reducible apply Same.rfl) | (with_reducible apply Cut.l)) <;> conv => whnf) | fail)
  · rename_i g1 g2 g3
    rw [e1, e2] at g3
    rw [e0, e1] at h
    have hs2 := hs.step C1 (by omega) (by omega) (fun c k1 k2 => by rcases k1 with rfl | rfl <;> omega) h
    (refine ⟨⟨(2 * x + 1, swapL w (f + x) (f + (2 * x + 1))), hr.trans (Rng.swap (by omega) (by omega) (by omega)), hs2, by dsimp only; omega⟩, ?_⟩; (try dsimp only); conv => whnf); repeat' (first | with_reducible apply True.intro | ((with_reducible apply Same.mk); (focus (rw [e0, e1]; rfl)); (conv => whnf)) | ((first | ((with_reducible apply Need.mk); focus omega) | (with_reducible apply Same.rfl) | (apply Same.int; focus rfl) | (with_reducible apply Turn.l)) <;> conv => whnf) | fail)
  · rename_i g1 g2 g3
    rw [e1, e2] at g3
    rw [e0, e1] at h
    (refine ⟨_, _, ⟨w, ⟨hr, hs.stop fun c k1 k2 => by rcases k1 with rfl | rfl <;> omega⟩, rfl, rfl⟩, ?_⟩; conv => whnf); repeat' (first | with_reducible apply True.intro | ((first | (with_reducible apply Same.rfl) | (with_reducible apply Cut.l)) <;> conv => whnf) | fail)
  · rename_i g1 g2
    rw [e0, e1] at h
    have hs2 := hs.step C1 (by omega) (by omega) (fun c k1 k2 => by rcases k1 with rfl | rfl <;> omega) h
    (refine ⟨⟨(2 * x + 1, swapL w (f + x) (f + (2 * x + 1))), hr.trans (Rng.swap (by omega) (by omega) (by omega)), hs2, by dsimp only; omega⟩, ?_⟩; (try dsimp only); conv => whnf); repeat' (first | with_reducible apply True.intro | ((with_reducible apply Same.mk); (focus (rw [e0, e1]; rfl)); (conv => whnf)) | ((first | ((with_reducible apply Need.mk); focus omega) | (with_reducible apply Same.rfl) | (apply Same.int; focus rfl) | (with_reducible apply Turn.l)) <;> conv => whnf) | fail)
  · rename_i g1 g2
    rw [e0, e1] at h
    (refine ⟨_, _, ⟨w, ⟨hr, hs.stop fun c k1 k2 => by rcases k1 with rfl | rfl <;> omega⟩, rfl, rfl⟩, ?_⟩; conv => whnf); repeat' (first | with_reducible apply True.intro | ((first | (with_reducible apply Same.rfl) | (with_reducible apply Cut.l)) <;> conv => whnf) | fail)
theorem k_heap (l : List Int) (a b : Nat) (hab : a < b) (hb : b ≤ l.length) (hl : l.length ≤ 1000000) :
    ∃ r hp', (∃ w : List Int, (Rng l w a b ∧ Srt cI w a b) ∧ r = .tup [] ∧ hp' = [.arr none 1 (lst u64 w)]) ∧ ConK Try.prog 83 [.ov 1 0 0 l.length, int a, int b] [.arr none 1 (lst u64 l)] r hp' := by
  have hd : (b : Int) - (a : Int) = ((b - a : Nat) : Int) := by omega
  have hq : (((b - a : Nat) : Int) - 1).tdiv 2 = (((b - a - 1) / 2 + 1 : Nat) : Int) - 1 := by rw [Int.tdiv_eq_ediv_of_nonneg (by omega)]; omega
  have ha : a + (b - a) = b := by omega
  refine spec_of_runRK ttok mixed (T0 := 1074268103) (ts := []) 56 rfl rfl rfl rfl (by simp) rfl ?_
  conv => whnf
  repeat' (first | ((first | ((with_reducible apply Wr.i64); focus omega) | ((with_reducible apply Need.mk); focus omega)) <;> conv => whnf) | fail)
  rw [hd, hq]
  repeat' (first | (((with_reducible apply Wr.i64); focus omega) <;> conv => whnf) | fail)
  refine loop_keep ttok mixed (T0 := 1074268103) [0, 1, 2, 6, 7, 8] (ι := {p : Nat × List Int // Rng l p.2 a b ∧ HpF p.2 a p.1 (b - a) ∧ p.1 ≤ b - a})
    (fun p => [(9, int ((p.1.1 : Int) - 1))]) (fun p => [.arr none 1 (lst u64 p.1.2)]) (fun p => p.1.1) ⟨((b - a - 1) / 2 + 1, l), Rng.refl _ _ _, fun x ch h1 h2 h3 => by unfold isCh at h2; omega, by dsimp only; omega⟩ ?_
  conv => whnf
  repeat' (first | ((first | (with_reducible apply Same.rfl) | (apply Same.int; focus rfl)) <;> conv => whnf) | fail)
  rintro ⟨⟨m, w⟩, hr, hs, hm⟩
  dsimp only at hr hs hm ⊢
  have hwl := hr.len
  rcases m with _ | k
  · conv => whnf
    repeat' (first | ((first | ((with_reducible apply Wr.i64); focus omega) | ((with_reducible apply Bif.dec) <;> intro h <;> (try simp only [lns] at h) <;> (try (exfalso; omega)))) <;> conv => whnf) | fail)
    refine loop_keep ttok mixed (T0 := 1074268103) [0, 1, 2, 6, 7, 8] (ι := {p : Nat × List Int // Rng l p.2 a b ∧ PopI p.2 a (b - a) p.1 ∧ p.1 ≤ b - a})
      (fun p => [(10, int ((p.1.1 : Int) - 1))]) (fun p => [.arr none 1 (lst u64 p.1.2)]) (fun p => p.1.1) ⟨(b - a, w), hr, ⟨hs, fun x y h1 h2 h3 => by omega⟩, Nat.le_refl _⟩ ?_
    conv => whnf
    repeat' (first | ((first | (with_reducible apply Same.rfl) | (apply Same.int; focus rfl)) <;> conv => whnf) | fail)
    rintro ⟨⟨m, v⟩, hv, hP, hm2⟩
    dsimp only at hv hP hm2 ⊢
    have hvl := hv.len
    rcases m with _ | k
    · conv => whnf
      repeat' (first | (((with_reducible apply Bif.dec) <;> intro h <;> (try simp only [lns] at h) <;> (try (exfalso; omega))) <;> conv => whnf) | fail)
      (refine ⟨_, _, ⟨v, ⟨hv, by have := hP.done; rwa [ha] at this⟩, rfl, rfl⟩, ?_⟩; conv => whnf); repeat' (first | with_reducible apply True.intro | ((first | (with_reducible apply Same.rfl) | (with_reducible apply Cut.l)) <;> conv => whnf) | fail)
    · rw [show ((k + 1 : Nat) : Int) - 1 = (k : Int) by omega]
      conv => whnf
      have e1 : ((a : Int) + (k : Int)).toNat = a + k := by omega
      obtain ⟨s1, s2⟩ := hP.swap (by omega) (by omega)
      have hsl : (swapL v a (a + k)).length = l.length := by rw [swapL_len, hvl]
      have ks := k_sift (swapL v a (a + k)) 0 k a (by omega) (by omega) (by omega) s1
      rw [hsl] at ks
      repeat' (first | ((with_reducible apply GiveN.keep [0]); (conv => whnf)) | ((first | (with_reducible apply Nm.set _ (rfl)) | ((with_reducible apply Nm.mk); focus ((try simp only [lns]); exact rfl)) | ((with_reducible apply Wr.i64); focus omega) | ((with_reducible apply Need.mk); focus first | omega | kernel_rfl) | ((with_reducible apply Elem.lst); focus first | omega | (simp only [lns]; omega)) | (refine CallKN.ex (ks) ?_; rintro _ _ ⟨u, ⟨u1, u2⟩, rfl, rfl⟩) | ((with_reducible apply Bif.dec) <;> intro h <;> (try simp only [lns] at h) <;> (try (exfalso; omega)))) <;> conv => whnf) | fail)
      (refine ⟨⟨(k, u), hv.trans ((Rng.swap (by omega) (by omega) (by omega)).trans (u1.up (by omega) (by omega))), PopI.sift s2 u1 u2, by dsimp only; omega⟩, ?_⟩; (try dsimp only); conv => whnf); repeat' (first | with_reducible apply True.intro | ((first | ((with_reducible apply Need.mk); focus omega) | (with_reducible apply Same.rfl) | (apply Same.int; focus rfl) | (with_reducible apply Turn.l)) <;> conv => whnf) | fail)
  · rw [show ((k + 1 : Nat) : Int) - 1 = (k : Int) by omega]
    conv => whnf
    have ks := k_sift w k (b - a) a (by omega) (by omega) (by omega) hs
    rw [hwl] at ks
    repeat' (first | ((with_reducible apply GiveN.keep [0]); (conv => whnf)) | ((first | ((with_reducible apply Wr.i64); focus omega) | (refine CallKN.ex (ks) ?_; rintro _ _ ⟨u, ⟨u1, u2⟩, rfl, rfl⟩) | ((with_reducible apply Bif.dec) <;> intro h <;> (try simp only [lns] at h) <;> (try (exfalso; omega)))) <;> conv => whnf) | fail)
    rw [ha] at u1
    (refine ⟨⟨(k, u), hr.trans u1, u2, by dsimp only; omega⟩, ?_⟩; (try dsimp only); conv => whnf); repeat' (first | with_reducible apply True.intro | ((first | ((with_reducible apply Need.mk); focus omega) | (with_reducible apply Same.rfl) | (apply Same.int; focus rfl) | (with_reducible apply Turn.l)) <;> conv => whnf) | fail)
end Go.Fw
