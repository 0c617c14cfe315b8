/- slices.Sort of numbers: patterns are broken; what is sorted already. -/
import Derived.Test.YtpmiaggdjgfjgaaGreatPdqB

namespace Go.Fw
open Go.Proofs
set_option maxHeartbeats 4000000
set_option maxRecDepth 8000
/-- bits.Len of small numbers. -/
def lenN (n : Nat) : Int := if n = 0 then 0 else if n < 2 then 1 else if n < 4 then 2 else if n < 8 then 3 else if n < 16 then 4 else 5
theorem k_Len64 (n : Nat) (h : n ≤ 24) : Con Tryz.prog 85 [.v (.int .u64 (n : Int))] [] (int (lenN n)) [] := by
  refine spec_of_run ttok mixed (T0 := 16661) (ts := [.tmp 2]) 25 rfl rfl rfl rfl (by simp) rfl ?_
  conv => whnf
  repeat' (first | ((with_reducible apply Need.mk); (focus (refine ⟨by omega, ?_⟩; show (n : Int) < ((256 : Nat) : Int); omega)); (conv => whnf)) | ((first | ((with_reducible apply Wr.u8); focus omega) | ((with_reducible apply Bif.dec) <;> intro h <;> (try simp only [lns] at h) <;> (try (exfalso; omega))) | (with_reducible apply Frz.l)) <;> conv => whnf) | fail)
  refine Wr.eq (y := lenN n) ?_ ?_
  · rw [Int.toNat_natCast]
    refine (?_ : ∀ m : Fin 25, IntKind.wrap .i64 (strAt _ m.1) = lenN m.1) ⟨n, by omega⟩
    decide +kernel
  · have : 0 ≤ lenN n ∧ lenN n ≤ 5 := by unfold lenN; omega
    conv => whnf
    repeat' (first | with_reducible apply True.intro | ((first | ((with_reducible apply Wr.i64); focus omega) | (apply Same.int; focus omega) | (with_reducible apply Frz.l)) <;> conv => whnf) | fail)
theorem k_Len (n : Nat) (h : n ≤ 24) : Con Tryz.prog 57 [.v (.int .u64 (n : Int))] [] (int (lenN n)) [] := by
  refine spec_of_run ttok mixed (T0 := 5) (ts := [.tmp 2]) 8 rfl rfl rfl rfl (by simp) rfl ?_
  conv => whnf
  repeat' (first | with_reducible apply True.intro | ((first | (apply CallN.mk (k_Len64 n h)) | (with_reducible apply Bif.F) | (with_reducible apply Same.rfl) | (with_reducible apply Frz.l)) <;> conv => whnf) | fail)
theorem k_next2 (n : Nat) (h : 13 ≤ n ∧ n ≤ 24) : Con Tryz.prog 97 [int n] [] (.v (.int .u64 (if n < 16 then 16 else 32))) [] := by
  have hL := k_Len n h.2
  by_cases h1 : n < 16
  · have e : lenN n = 4 := by unfold lenN; repeat' split
                              all_goals omega
    rw [if_pos h1]
    rw [e] at hL
    refine spec_of_run ttok mixed (T0 := 5) (ts := [.tmp 2]) 7 rfl rfl rfl rfl (by simp) rfl ?_
    conv => whnf
    repeat' (first | with_reducible apply True.intro | ((with_reducible apply Wr.eq (show IntKind.wrap .u64 (1 * 2 ^ min (Int.toNat 4) IntKind.u64.bits) = 16 from by decide)); (conv => whnf)) | ((first | ((with_reducible apply Wr.u64); focus omega) | ((with_reducible apply Need.mk); focus omega) | (apply CallN.mk (hL)) | (with_reducible apply Same.rfl) | (with_reducible apply Frz.l)) <;> conv => whnf) | fail) 
  · have e : lenN n = 5 := by unfold lenN; repeat' split
                              all_goals omega
    rw [if_neg h1]
    rw [e] at hL
    refine spec_of_run ttok mixed (T0 := 5) (ts := [.tmp 2]) 7 rfl rfl rfl rfl (by simp) rfl ?_
    conv => whnf
    repeat' (first | with_reducible apply True.intro | ((with_reducible apply Wr.eq (show IntKind.wrap .u64 (1 * 2 ^ min (Int.toNat 5) IntKind.u64.bits) = 32 from by decide)); (conv => whnf)) | ((first | ((with_reducible apply Wr.u64); focus omega) | ((with_reducible apply Need.mk); focus omega) | (apply CallN.mk (hL)) | (with_reducible apply Same.rfl) | (with_reducible apply Frz.l)) <;> conv => whnf) | fail) 
theorem k_xorNext (x : Int) : ∃ r hp', (∃ y : Int, r = .v (.int .u64 y) ∧ hp' = [.cells (.v (.int .u64 y))]) ∧ Con Tryz.prog 98 [.pb 0 []] [.cells (.v (.int .u64 x))] r hp' := by
  refine spec_of_runR ttok mixed (T0 := 5) (ts := [.tmp 2]) 33 rfl rfl rfl rfl (by simp) rfl ?_
  conv => whnf
  repeat' (first | ((with_reducible apply Wr.mk); (conv => whnf)) | ((first | ((with_reducible apply Need.mk); focus first | omega | kernel_rfl) | (with_reducible apply Frz.l)) <;> conv => whnf) | fail)
  (apply Ex2.mk (.v (.int .u64 _)) ([.cells (.v (.int .u64 _))])); (focus ((conv => whnf); repeat' (first | with_reducible apply True.intro | ((first | (with_reducible apply Same.rfl) | (with_reducible apply Frz.l)) <;> conv => whnf) | fail))); exact ⟨_, rfl, rfl⟩
theorem and_range (x m : Int) (hm : 0 ≤ m ∧ m < 4294967296) : 0 ≤ IntKind.wrap .u64 ((BitVec.ofInt (IntKind.bits .u64) x &&& BitVec.ofInt (IntKind.bits .u64) m).toNat : Int) ∧ IntKind.wrap .u64 ((BitVec.ofInt (IntKind.bits .u64) x &&& BitVec.ofInt (IntKind.bits .u64) m).toNat : Int) ≤ m := by
  have h1 : (BitVec.ofInt 64 x &&& BitVec.ofInt 64 m).toNat ≤ (BitVec.ofInt 64 m).toNat := by
    rw [BitVec.toNat_and]; exact Nat.and_le_right
  have h2 : (BitVec.ofInt 64 m).toNat = m.toNat := by
    rw [BitVec.toNat_ofInt]; omega
  have h3 : ((BitVec.ofInt 64 x &&& BitVec.ofInt 64 m).toNat : Int) ≤ m := by omega
  have h4 : (0 : Int) ≤ ((BitVec.ofInt 64 x &&& BitVec.ofInt 64 m).toNat : Int) := by omega
  show 0 ≤ IntKind.wrap .u64 ((BitVec.ofInt 64 x &&& BitVec.ofInt 64 m).toNat : Int) ∧ IntKind.wrap .u64 ((BitVec.ofInt 64 x &&& BitVec.ofInt 64 m).toNat : Int) ≤ m
  generalize ((BitVec.ofInt 64 x &&& BitVec.ofInt 64 m).toNat : Int) = z at *
  simp [IntKind.wrap, IntKind.bits, IntKind.signed]; omega
theorem k_break (l : List Int) (a b : Nat) (hab : a + 12 < b) (hab2 : b ≤ a + 24) (hb : b ≤ l.length) (hl : l.length ≤ 1000000) :
    ∃ r hp', (∃ w : List Int, Rng l w a b ∧ r = .tup [] ∧ hp' = [.arr none 1 (lst u64 w)]) ∧ ConK Tryz.prog 78 [.ov 1 0 0 l.length, int a, int b] [.arr none 1 (lst u64 l)] r hp' := by
  have hd : (b : Int) - (a : Int) = ((b - a : Nat) : Int) := by omega
  have hq : (((b - a : Nat) : Int)).tdiv 4 = (((b - a) / 4 : Nat) : Int) := by rw [Int.tdiv_eq_ediv_of_nonneg (by omega)]; omega
  have hn := k_next2 (b - a) (by omega)
  generalize hM : (if b - a < 16 then (16 : Int) else 32) = M at hn
  have hM2 : (b - a : Nat) ≤ M ∧ M ≤ 2 * ((b - a : Nat) : Int) := by rw [← hM]; split <;> omega
  refine spec_of_runRK ttok mixed (T0 := 8804682991559) (ts := []) 65 rfl rfl rfl rfl (by simp) rfl ?_
  conv => whnf
  repeat' (first | ((first | ((with_reducible first | apply Wr.i64 | apply Wr.u64); focus omega) | ((with_reducible apply Bif.dec) <;> intro h <;> (try simp only [lns] at h) <;> (try (exfalso; omega))) | (with_reducible apply Frz.l)) <;> conv => whnf) | fail)
  rw [hd]
  repeat' (first | ((first | ((with_reducible apply Wr.i64); focus omega) | ((with_reducible apply Need.mk); focus omega) | (apply CallN.mk (hn)) | (with_reducible apply Frz.l)) <;> conv => whnf) | fail)
  rw [hq]
  repeat' (first | ((with_reducible apply Frz.l) <;> conv => whnf) | fail)
  refine loop_keep ttok mixed (T0 := 8804682991559) [0, 1, 2, 6, 8] (ι := {p : Nat × Int × List Int // Rng l p.2.2 a b ∧ a ≤ p.1 ∧ p.1 ≤ a + (b - a) / 4 * 2 + 2})
    (fun p => [(9, int (p.1.1 : Int)), (7, .pb 1 [])]) (fun p => [.arr none 1 (lst u64 p.1.2.2), .cells (.v (.int .u64 p.1.2.1))]) (fun p => a + (b - a) / 4 * 2 + 2 - p.1.1) ⟨(a + (b - a) / 4 * 2 - 1, ((b - a : Nat) : Int), l), Rng.refl _ _ _, by dsimp only; omega, by dsimp only; omega⟩ ?_
  conv => whnf
  repeat' (first | ((first | (with_reducible apply Same.rfl) | (apply Same.int; focus (dsimp only; omega)) | (with_reducible apply Frz.l)) <;> conv => whnf) | fail)
  rintro ⟨⟨i, x, w⟩, hr, h1, h2⟩
  dsimp only at hr h1 h2 ⊢
  have hwl := hr.len
  conv => whnf
  repeat' (first | ((first | ((with_reducible apply Wr.i64); focus omega) | ((with_reducible apply Need.mk); focus omega) | ((with_reducible apply Bif.dec) <;> intro h <;> (try simp only [lns] at h)) | (with_reducible apply Frz.l)) <;> conv => whnf) | fail)
  rw [hq]
  repeat' (first | ((first | ((with_reducible apply Wr.u64); focus omega) | (refine CallN.ex (k_xorNext x) ?_; rintro _ _ ⟨y, rfl, rfl⟩) | (with_reducible apply Frz.l)) <;> conv => whnf) | fail)
  · have hz := and_range y (M - 1) (by omega)
    generalize IntKind.wrap .u64 ((BitVec.ofInt (IntKind.bits .u64) y &&& BitVec.ofInt (IntKind.bits .u64) (M - 1)).toNat : Int) = z at hz ⊢
    obtain ⟨k, rfl⟩ := Int.eq_ofNat_of_zero_le hz.1
    have e1 : ((a : Int) + ((k : Int) - ((b - a : Nat) : Int))).toNat = a + (k - (b - a)) ∨ k < b - a := by omega
    have e2 : ((a : Int) + (k : Int)).toNat = a + k := by omega
    repeat' (first | ((first | (with_reducible apply Nm.set _ (rfl)) | ((with_reducible apply Nm.mk); focus ((try simp only [lns]); exact rfl)) | ((with_reducible apply Wr.i64); focus omega) | ((with_reducible apply Need.mk); focus first | omega | kernel_rfl) | ((with_reducible apply Elem.lst); focus first | omega | (simp only [lns]; omega)) | ((with_reducible apply Bif.dec) <;> intro h <;> (try simp only [lns] at h)) | (with_reducible apply Frz.l)) <;> conv => whnf) | fail)
    · have e1 : ((a : Int) + ((k : Int) - ((b - a : Nat) : Int))).toNat = a + (k - (b - a)) := by omega
      (refine ⟨⟨(i + 1, y, swapL w i (a + (k - (b - a)))), hr.trans (Rng.swap (by omega) (by omega) (by omega)), by dsimp only; omega, by dsimp only; omega⟩, ?_⟩; (try dsimp only); conv => whnf); repeat' (first | with_reducible apply True.intro | ((with_reducible apply Same.mk); (focus (rw [e1]; rfl)); (conv => whnf)) | ((first | ((with_reducible apply Need.mk); focus omega) | (with_reducible apply Same.rfl) | (apply Same.int; focus rfl) | (with_reducible apply Turn.l) | (with_reducible apply Frz.l)) <;> conv => whnf) | fail)
    · (refine ⟨⟨(i + 1, y, swapL w i (a + k)), hr.trans (Rng.swap (by omega) (by omega) (by omega)), by dsimp only; omega, by dsimp only; omega⟩, ?_⟩; (try dsimp only); conv => whnf); repeat' (first | with_reducible apply True.intro | ((with_reducible apply Same.mk); (focus (rw [e2]; rfl)); (conv => whnf)) | ((first | ((with_reducible apply Need.mk); focus omega) | (with_reducible apply Same.rfl) | (apply Same.int; focus rfl) | (with_reducible apply Turn.l) | (with_reducible apply Frz.l)) <;> conv => whnf) | fail)
  · (refine ⟨_, _, ⟨w, hr, rfl, rfl⟩, ?_⟩; conv => whnf); repeat' (first | with_reducible apply True.intro | ((first | (with_reducible apply Same.rfl) | (with_reducible apply Cut.l) | (with_reducible apply Frz.l)) <;> conv => whnf) | fail)
end Go.Fw

/- slices.Sort of numbers: partitions. -/
namespace Go.Fw
open Go.Proofs
set_option maxHeartbeats 8000000
set_option maxRecDepth 4000
theorem k_partIns (l : List Int) (a b : Nat) (hab : a + 12 < b) (hab2 : b < a + 50) (hb : b ≤ l.length) (hl : l.length ≤ 1000000) :
    ∃ r hp', (∃ x : Bool, r = bool x ∧ hp' = [] ∧ (x = true → Srt cI l a b)) ∧ Con Tryz.prog 81 [.fs .no 1 (lst u64 l), int a, int b] [] r hp' := by
  refine spec_of_runR ttok mixed (T0 := 83087207854311395603287443752634311) (ts := [.tmp 6]) 133 rfl rfl rfl rfl (by simp) rfl ?_
  conv => whnf
  repeat' (first | ((first | ((with_reducible apply Wr.i64); focus omega) | (with_reducible apply Frz.l)) <;> conv => whnf) | fail)
  refine loop_keep ttok mixed (T0 := 83087207854311395603287443752634311) [0, 1, 2] (ι := Unit) (fun _ => [(7, int (((a + 1 : Nat) : Int))), (8, int 0)]) (fun _ => []) (fun _ => 0) () ?_
  conv => whnf
  repeat' (first | ((first | (with_reducible apply Same.rfl) | (apply Same.int; focus rfl) | (with_reducible apply Frz.l)) <;> conv => whnf) | fail)
  rintro ⟨⟩
  conv => whnf
  repeat' (first | ((first | ((with_reducible apply Bif.dec) <;> intro h <;> (try simp only [lns] at h) <;> (try (exfalso; omega))) | (with_reducible apply Frz.l)) <;> conv => whnf) | fail)
  refine loop_keep ttok mixed (T0 := 83087207854311395603287443752634311) [0, 1, 2, 8] (ι := {i : Nat // a + 1 ≤ i ∧ i ≤ b ∧ Srt cI l a i}) (fun i => [(7, int ((i.1 : Nat) : Int))]) (fun _ => []) (fun i => b - i.1) ⟨a + 1, by omega, by omega, Srt.small (by omega)⟩ ?_
  conv => whnf
  repeat' (first | ((first | (with_reducible apply Same.rfl) | (with_reducible apply Frz.l)) <;> conv => whnf) | fail)
  rintro ⟨i, h1, h2, h3⟩
  dsimp only
  conv => whnf
  have e1 : ((i : Int) - 1).toNat = i - 1 := by omega
  have h4 : i < b → ¬ gt l i < gt l (i - 1) → Srt cI l a (i + 1) := fun h5 h6 => srt_iff.2 fun x y g1 g2 g3 => by
    by_cases hy : y = i
    · subst hy
      by_cases hx : x = y - 1
      · subst hx; omega
      · have := srt_iff.1 h3 x (y - 1) g1 (by omega) (by omega)
        omega
    · exact srt_iff.1 h3 x y g1 g2 (by omega)
  repeat' (first | ((first | ((with_reducible apply Nm.mk); focus ((try simp only [lns]); exact rfl)) | ((with_reducible apply Wr.i64); focus omega) | ((with_reducible apply Need.mk); focus first | (simp only [lns]; omega) | kernel_rfl) | ((with_reducible apply Elem.lst); focus omega) | (apply CallN.mk (k_cLess _ _)) | (with_reducible first | apply Bif.T | apply Bif.F) | ((with_reducible first | apply Bif.dec | apply Bif.beq) <;> intro h <;> (try simp only [lns] at h) <;> (try (exfalso; omega))) | (with_reducible apply Bif.not) | (with_reducible apply Frz.l)) <;> conv => whnf) | fail)
  · (refine ⟨_, _, ⟨false, rfl, rfl, fun h => (by cases h)⟩, ?_⟩; conv => whnf); repeat' (first | with_reducible apply True.intro | ((first | (apply Same.bool; focus (with_reducible rfl)) | (with_reducible apply Frz.l)) <;> conv => whnf) | fail)
  · rw [e1] at h
    (refine ⟨⟨i + 1, by omega, by omega, h4 (by omega) h⟩, ?_⟩; (try dsimp only); conv => whnf); repeat' (first | with_reducible apply True.intro | ((first | ((with_reducible apply Need.mk); focus omega) | (with_reducible apply Same.rfl) | (apply Same.int; focus rfl) | (with_reducible apply Turn.l) | (with_reducible apply Frz.l)) <;> conv => whnf) | fail)
  · have hib : i = b := by omega
    (refine ⟨_, _, ⟨true, rfl, rfl, fun _ => by rw [← hib]; exact h3⟩, ?_⟩; conv => whnf); repeat' (first | with_reducible apply True.intro | ((first | (apply Same.bool; focus (with_reducible rfl)) | (with_reducible apply Frz.l)) <;> conv => whnf) | fail)
theorem pe_lt {w : List Int} {a i j j0 : Nat} (hA : i ≤ j0 → gt w a < gt w i) (hj0 : j ≤ j0) (hij : i ≤ j) (h : gt w j ≤ gt w a) : i < j := by
  rcases Nat.lt_or_ge i j with hh | hh
  · exact hh
  · have he : i = j := by omega
    subst he
    have := hA hj0
    omega
theorem k_partEq (l : List Int) (a b pv : Nat) (hab : a + 1 < b) (hp : a ≤ pv ∧ pv < b) (hb : b ≤ l.length) (hl : l.length ≤ 1000000) (hmin : ∀ x, a ≤ x → x < b → gt l pv ≤ gt l x) :
    ∃ r hp', (∃ (w : List Int) (m : Nat), (Rng l w a b ∧ a < m ∧ m ≤ b ∧ ∀ x y, a ≤ x → x < m → a ≤ y → y < b → gt w x ≤ gt w y) ∧ r = int m ∧ hp' = [.arr none 1 (lst u64 w)]) ∧ ConK Tryz.prog 82 [.ov 1 0 0 l.length, int a, int b, int pv] [.arr none 1 (lst u64 l)] r hp' := by
  obtain ⟨v, hv, hR, hM⟩ : ∃ v, v = swapL l a pv ∧ Rng l v a b ∧ ∀ x, a ≤ x → x < b → gt v a ≤ gt v x := by
    refine ⟨_, rfl, Rng.swap (by omega) (by omega) hb, fun x h1 h2 => ?_⟩
    have g := swapL_gt (l := l) (i := a) (j := pv) (by omega) (by omega)
    have ga : gt (swapL l a pv) a = gt l pv := by
      rw [g]
      by_cases h : a = pv
      · rw [if_pos h, h]
      · rw [if_neg h, if_pos rfl]
    rw [ga, g]
    repeat' split
    · exact hmin a (by omega) (by omega)
    · exact hmin pv (by omega) (by omega)
    · exact hmin x h1 h2
  refine spec_of_runRK ttok mixed (T0 := 19023213622105999119) (ts := [.tmp 8]) 84 rfl rfl rfl rfl (by simp) rfl ?_
  conv => whnf
  repeat' (first | ((first | (with_reducible apply Nm.set _ (rfl)) | ((with_reducible apply Nm.mk); focus ((try simp only [lns]); exact rfl)) | ((with_reducible apply Wr.i64); focus omega) | ((with_reducible apply Need.mk); focus first | omega | kernel_rfl) | ((with_reducible apply Elem.lst); focus first | omega | (simp only [lns]; omega)) | (with_reducible apply Frz.l)) <;> conv => whnf) | fail)
  rw [show (b : Int) - 1 = ((b - 1 : Nat) : Int) by omega]
  refine loop_keep ttok mixed (T0 := 19023213622105999119) [0, 1, 2] (ι := {p : Nat × Nat × List Int // Rng l p.2.2 a b ∧ PeI p.2.2 a b p.1 p.2.1})
    (fun p => [(9, int (p.1.1 : Int)), (10, int (p.1.2.1 : Int))]) (fun p => [.arr none 1 (lst u64 p.1.2.2)]) (fun p => p.1.2.1 + 1 - p.1.1) ⟨(a + 1, b - 1, v), hR, PeI.start hab hM⟩ ?_
  conv => whnf
  repeat' (first | ((with_reducible apply Same.mk); (focus (exact congrArg (lst u64) hv.symm)); (conv => whnf)) | ((first | (with_reducible apply Same.rfl) | (apply Same.int; focus rfl) | (with_reducible apply Frz.l)) <;> conv => whnf) | fail)
  rintro ⟨⟨i0, j0, w⟩, hr, hI0⟩
  dsimp only at hr hI0 ⊢
  have hwl := hr.len
  have ij0 := hI0.ij
  conv => whnf
  repeat' (first | ((with_reducible apply Frz.l) <;> conv => whnf) | fail)
  refine loop_keep ttok mixed (T0 := 19023213622105999119) [0, 1, 2, 10] (ι := {i : Nat // PeI w a b i j0 ∧ i0 ≤ i})
    (fun i => [(9, int ((i.1 : Nat) : Int))]) (fun _ => [.arr none 1 (lst u64 w)]) (fun i => b + 1 - i.1) ⟨i0, hI0, Nat.le_refl _⟩ ?_
  conv => whnf
  repeat' (first | ((first | (with_reducible apply Same.rfl) | (with_reducible apply Frz.l)) <;> conv => whnf) | fail)
  rintro ⟨i, hI, hi0⟩
  dsimp only
  have ij := hI.ij
  conv => whnf
  repeat' (first | ((first | ((with_reducible apply Nm.mk); focus ((try simp only [lns]); exact rfl)) | ((with_reducible apply Wr.i64); focus omega) | ((with_reducible apply Need.mk); focus first | omega | kernel_rfl) | ((with_reducible apply Elem.lst); focus omega) | (apply CallN.mk (k_cLess _ _)) | (with_reducible first | apply Bif.T | apply Bif.F) | ((with_reducible apply Bif.dec) <;> intro h <;> (try simp only [lns] at h)) | (with_reducible apply Bif.not) | (with_reducible apply Frz.l)) <;> conv => whnf) | fail)
  rotate_left
  · (refine ⟨⟨i + 1, hI.i1 (by omega) (by omega), by omega⟩, ?_⟩; (try dsimp only); conv => whnf); repeat' (first | with_reducible apply True.intro | ((first | ((with_reducible apply Need.mk); focus omega) | (with_reducible apply Same.rfl) | (apply Same.int; focus rfl) | (with_reducible apply Turn.l) | (with_reducible apply Frz.l)) <;> conv => whnf) | fail)
  · have hA : i ≤ j0 → gt w a < gt w i := by intro hh; omega
    refine loop_keep ttok mixed (T0 := 19023213622105999119) [0, 1, 2, 9] (ι := {j : Nat // PeI w a b i j ∧ j ≤ j0})
      (fun j => [(10, int ((j.1 : Nat) : Int))]) (fun _ => [.arr none 1 (lst u64 w)]) (fun j => j.1) ⟨j0, hI, Nat.le_refl _⟩ ?_
    conv => whnf
    repeat' (first | ((first | (with_reducible apply Same.rfl) | (with_reducible apply Frz.l)) <;> conv => whnf) | fail)
    rintro ⟨j, hJ, hj0⟩
    dsimp only
    have jj := hJ.ij
    conv => whnf
    repeat' (first | ((first | ((with_reducible apply Need.mk); focus kernel_rfl) | (with_reducible apply Bif.F) | ((with_reducible apply Bif.dec) <;> intro h <;> (try simp only [lns] at h) <;> (try (exfalso; omega))) | (with_reducible apply Frz.l)) <;> conv => whnf) | fail)
    · (refine ⟨_, _, ⟨w, i, ⟨hr, by omega, by omega, hJ.done⟩, rfl, rfl⟩, ?_⟩; conv => whnf); repeat' (first | with_reducible apply True.intro | ((first | (with_reducible apply Same.rfl) | (with_reducible apply Cut.l) | (with_reducible apply Frz.l)) <;> conv => whnf) | fail)
  · have hA : i ≤ j0 → gt w a < gt w i := by intro hh; omega
    refine loop_keep ttok mixed (T0 := 19023213622105999119) [0, 1, 2, 9] (ι := {j : Nat // PeI w a b i j ∧ j ≤ j0})
      (fun j => [(10, int ((j.1 : Nat) : Int))]) (fun _ => [.arr none 1 (lst u64 w)]) (fun j => j.1) ⟨j0, hI, Nat.le_refl _⟩ ?_
    conv => whnf
    repeat' (first | ((first | (with_reducible apply Same.rfl) | (with_reducible apply Frz.l)) <;> conv => whnf) | fail)
    rintro ⟨j, hJ, hj0⟩
    dsimp only
    have jj := hJ.ij
    conv => whnf
    repeat' (first | ((first | (with_reducible apply Nm.set _ (rfl)) | ((with_reducible apply Nm.mk); focus ((try simp only [lns]); exact rfl)) | ((with_reducible apply Wr.i64); focus omega) | ((with_reducible apply Need.mk); focus first | omega | kernel_rfl) | ((with_reducible apply Elem.lst); focus first | omega | (simp only [lns]; omega)) | (apply CallN.mk (k_cLess _ _)) | (with_reducible first | apply Bif.T | apply Bif.F) | ((with_reducible apply Bif.dec) <;> intro h <;> (try simp only [lns] at h) <;> (try (exfalso; omega))) | (with_reducible apply Frz.l)) <;> conv => whnf) | fail)
    · (refine ⟨⟨j - 1, hJ.j1 (by omega), by omega⟩, ?_⟩; (try dsimp only); conv => whnf); repeat' (first | with_reducible apply True.intro | ((first | ((with_reducible apply Need.mk); focus omega) | (with_reducible apply Same.rfl) | (apply Same.int; focus omega) | (with_reducible apply Turn.l) | (with_reducible apply Frz.l)) <;> conv => whnf) | fail)
    · (refine ⟨⟨(i + 1, j - 1, swapL w i j), hr.trans (Rng.swap (by omega) (by omega) (by omega)), hJ.swap (by omega) (pe_lt hA hj0 (by omega) (by omega)) (by omega)⟩, ?_⟩; (try dsimp only); conv => whnf); repeat' (first | with_reducible apply True.intro | ((first | ((with_reducible apply Need.mk); focus omega) | (with_reducible apply Same.rfl) | (apply Same.int; focus first | rfl | omega) | (apply Same.rfl) | (with_reducible apply Turn.l) | (with_reducible apply Frz.l)) <;> conv => whnf) | fail)
    · (refine ⟨_, _, ⟨w, i, ⟨hr, by omega, by omega, hJ.done⟩, rfl, rfl⟩, ?_⟩; conv => whnf); repeat' (first | with_reducible apply True.intro | ((first | (with_reducible apply Same.rfl) | (with_reducible apply Cut.l) | (with_reducible apply Frz.l)) <;> conv => whnf) | fail)
theorem k_part (l : List Int) (a b pv : Nat) (hab : a + 1 < b) (hp : a ≤ pv ∧ pv < b) (hb : b ≤ l.length) (hl : l.length ≤ 1000000) :
    ∃ r hp', (∃ (w : List Int) (m : Nat) (x : Bool), (Rng l w a b ∧ Part w a b m) ∧ r = .tup [int m, bool x] ∧ hp' = [.arr none 1 (lst u64 w)]) ∧ ConK Tryz.prog 83 [.ov 1 0 0 l.length, int a, int b, int pv] [.arr none 1 (lst u64 l)] r hp' := by
  obtain ⟨v, hv, hR⟩ : ∃ v, v = swapL l a pv ∧ Rng l v a b := ⟨_, rfl, Rng.swap (by omega) (by omega) hb⟩
  refine spec_of_runRK ttok mixed (T0 := 22458641409078797123448399039441150152463) (ts := [.tmp 8, .tmp 9]) 168 rfl rfl rfl rfl (by simp) rfl ?_
  conv => whnf
  repeat' (first | ((first | (with_reducible apply Nm.set _ (rfl)) | ((with_reducible apply Nm.mk); focus ((try simp only [lns]); exact rfl)) | ((with_reducible apply Wr.i64); focus omega) | ((with_reducible apply Need.mk); focus first | omega | kernel_rfl) | ((with_reducible apply Elem.lst); focus first | omega | (simp only [lns]; omega)) | (with_reducible apply Frz.l)) <;> conv => whnf) | fail)
  rw [show (b : Int) - 1 = ((b - 1 : Nat) : Int) by omega]
  have hvl := hR.len
  refine loop_keep ttok mixed (T0 := 22458641409078797123448399039441150152463) [0, 1, 2, 11] (ι := {i : Nat // PtI v a b i (b - 1)})
    (fun i => [(10, int ((i.1 : Nat) : Int))]) (fun _ => [.arr none 1 (lst u64 v)]) (fun i => b + 1 - i.1) ⟨a + 1, PtI.start hab⟩ ?_
  conv => whnf
  repeat' (first | ((with_reducible apply Same.mk); (focus (exact congrArg (lst u64) hv.symm)); (conv => whnf)) | ((first | (with_reducible apply Same.rfl) | (apply Same.int; focus rfl) | (with_reducible apply Frz.l)) <;> conv => whnf) | fail)
  rintro ⟨i0, hI0⟩
  dsimp only
  have ij0 := hI0.ij
  conv => whnf
  repeat' (first | ((first | ((with_reducible apply Nm.mk); focus ((try simp only [lns]); exact rfl)) | ((with_reducible apply Wr.i64); focus omega) | ((with_reducible apply Need.mk); focus first | omega | kernel_rfl) | ((with_reducible apply Elem.lst); focus omega) | (apply CallN.mk (k_cLess _ _)) | (with_reducible first | apply Bif.T | apply Bif.F) | ((with_reducible apply Bif.dec) <;> intro h <;> (try simp only [lns] at h)) | (with_reducible apply Frz.l)) <;> conv => whnf) | fail)
  · (refine ⟨⟨i0 + 1, hI0.i1 (by omega) h⟩, ?_⟩; (try dsimp only); conv => whnf); repeat' (first | with_reducible apply True.intro | ((first | ((with_reducible apply Need.mk); focus omega) | (with_reducible apply Same.rfl) | (apply Same.int; focus rfl) | (with_reducible apply Turn.l) | (with_reducible apply Frz.l)) <;> conv => whnf) | fail)
  · have hA : i0 ≤ b - 1 → gt v a ≤ gt v i0 := by intro hh; omega
    refine loop_keep ttok mixed (T0 := 22458641409078797123448399039441150152463) [0, 1, 2, 10] (ι := {j : Nat // PtI v a b i0 j ∧ j ≤ b - 1})
      (fun j => [(11, int ((j.1 : Nat) : Int))]) (fun _ => [.arr none 1 (lst u64 v)]) (fun j => j.1) ⟨b - 1, hI0, Nat.le_refl _⟩ ?_
    conv => whnf
    repeat' (first | ((first | (with_reducible apply Same.rfl) | (apply Same.int; focus rfl) | (with_reducible apply Frz.l)) <;> conv => whnf) | fail)
    rintro ⟨j0, hJ0, hj0⟩
    dsimp only
    have jj0 := hJ0.ij
    conv => whnf
    repeat' (first | ((first | (with_reducible apply Nm.set _ (rfl)) | ((with_reducible apply Nm.mk); focus ((try simp only [lns]); exact rfl)) | ((with_reducible apply Wr.i64); focus omega) | ((with_reducible apply Need.mk); focus first | omega | kernel_rfl) | ((with_reducible apply Elem.lst); focus first | omega | (simp only [lns]; omega)) | (apply CallN.mk (k_cLess _ _)) | (with_reducible first | apply Bif.T | apply Bif.F) | ((with_reducible apply Bif.dec) <;> intro h <;> (try simp only [lns] at h) <;> (try (exfalso; omega))) | (with_reducible apply Bif.not) | (with_reducible apply Frz.l)) <;> conv => whnf) | fail)
    · obtain ⟨u, hu, hU⟩ : ∃ u, u = swapL v i0 j0 ∧ PtI u a b (i0 + 1) (j0 - 1) := ⟨_, rfl, hJ0.swap (by omega) (by omega) (hA (by omega)) (by omega)⟩
      have hRu : Rng l u a b := by rw [hu]; exact hR.trans (Rng.swap (by omega) (by omega) (by omega))
      refine loop_keep ttok mixed (T0 := 22458641409078797123448399039441150152463) [0, 1, 2] (ι := {p : Nat × Nat × List Int // Rng l p.2.2 a b ∧ PtI p.2.2 a b p.1 p.2.1})
        (fun p => [(10, int (p.1.1 : Int)), (11, int (p.1.2.1 : Int))]) (fun p => [.arr none 1 (lst u64 p.1.2.2)]) (fun p => p.1.2.1 + 1 - p.1.1) ⟨(i0 + 1, j0 - 1, u), hRu, hU⟩ ?_
      conv => whnf
      repeat' (first | ((with_reducible apply Same.mk); (focus (exact congrArg (lst u64) hu.symm)); (conv => whnf)) | ((first | (with_reducible apply Same.rfl) | (apply Same.int; focus first | rfl | (dsimp only; omega)) | (with_reducible apply Frz.l)) <;> conv => whnf) | fail)
      rintro ⟨⟨i1, j1, w⟩, hw, hW⟩
      dsimp only at hw hW ⊢
      have hwl := hw.len
      have ij1 := hW.ij
      conv => whnf
      repeat' (first | ((with_reducible apply Frz.l) <;> conv => whnf) | fail)
      refine loop_keep ttok mixed (T0 := 22458641409078797123448399039441150152463) [0, 1, 2, 11] (ι := {i : Nat // PtI w a b i j1 ∧ i1 ≤ i})
        (fun i => [(10, int ((i.1 : Nat) : Int))]) (fun _ => [.arr none 1 (lst u64 w)]) (fun i => b + 1 - i.1) ⟨i1, hW, Nat.le_refl _⟩ ?_
      conv => whnf
      repeat' (first | ((first | (with_reducible apply Same.rfl) | (with_reducible apply Frz.l)) <;> conv => whnf) | fail)
      rintro ⟨i, hI, hi⟩
      dsimp only
      have ij := hI.ij
      conv => whnf
      repeat' (first | ((first | ((with_reducible apply Nm.mk); focus ((try simp only [lns]); exact rfl)) | ((with_reducible apply Wr.i64); focus omega) | ((with_reducible apply Need.mk); focus first | omega | kernel_rfl) | ((with_reducible apply Elem.lst); focus omega) | (apply CallN.mk (k_cLess _ _)) | (with_reducible first | apply Bif.T | apply Bif.F) | ((with_reducible apply Bif.dec) <;> intro h <;> (try simp only [lns] at h)) | (with_reducible apply Frz.l)) <;> conv => whnf) | fail)
      · (refine ⟨⟨i + 1, hI.i1 (by omega) h, by omega⟩, ?_⟩; (try dsimp only); conv => whnf); repeat' (first | with_reducible apply True.intro | ((first | ((with_reducible apply Need.mk); focus omega) | (with_reducible apply Same.rfl) | (apply Same.int; focus rfl) | (with_reducible apply Turn.l) | (with_reducible apply Frz.l)) <;> conv => whnf) | fail)
      · have hB : i ≤ j1 → gt w a ≤ gt w i := by intro hh; omega
        refine loop_keep ttok mixed (T0 := 22458641409078797123448399039441150152463) [0, 1, 2, 10] (ι := {j : Nat // PtI w a b i j ∧ j ≤ j1})
          (fun j => [(11, int ((j.1 : Nat) : Int))]) (fun _ => [.arr none 1 (lst u64 w)]) (fun j => j.1) ⟨j1, hI, Nat.le_refl _⟩ ?_
        conv => whnf
        repeat' (first | ((first | (with_reducible apply Same.rfl) | (with_reducible apply Frz.l)) <;> conv => whnf) | fail)
        rintro ⟨j, hJ, hj⟩
        dsimp only
        have jj := hJ.ij
        conv => whnf
        repeat' (first | ((first | (with_reducible apply Nm.set _ (rfl)) | ((with_reducible apply Nm.mk); focus ((try simp only [lns]); exact rfl)) | ((with_reducible apply Wr.i64); focus omega) | ((with_reducible apply Need.mk); focus first | omega | kernel_rfl) | ((with_reducible apply Elem.lst); focus first | omega | (simp only [lns]; omega)) | (apply CallN.mk (k_cLess _ _)) | (with_reducible first | apply Bif.T | apply Bif.F) | ((with_reducible apply Bif.dec) <;> intro h <;> (try simp only [lns] at h) <;> (try (exfalso; omega))) | (with_reducible apply Bif.not) | (with_reducible apply Frz.l)) <;> conv => whnf) | fail)
        · (refine ⟨⟨(i + 1, j - 1, swapL w i j), hw.trans (Rng.swap (by omega) (by omega) (by omega)), hJ.swap (by omega) (by omega) (hB (by omega)) (by omega)⟩, ?_⟩; (try dsimp only); conv => whnf); repeat' (first | with_reducible apply True.intro | ((first | ((with_reducible apply Need.mk); focus omega) | (with_reducible apply Same.rfl) | (apply Same.int; focus first | rfl | omega) | (apply Same.rfl) | (with_reducible apply Turn.l) | (with_reducible apply Frz.l)) <;> conv => whnf) | fail)
        · (refine ⟨⟨j - 1, hJ.j1 (by omega) (by omega), by omega⟩, ?_⟩; (try dsimp only); conv => whnf); repeat' (first | with_reducible apply True.intro | ((first | ((with_reducible apply Need.mk); focus omega) | (with_reducible apply Same.rfl) | (apply Same.int; focus omega) | (with_reducible apply Turn.l) | (with_reducible apply Frz.l)) <;> conv => whnf) | fail)
        · (refine ⟨_, _, ⟨swapL w j a, j, false, ⟨hw.trans (Rng.swap (by omega) (by omega) (by omega)), hJ.done (by omega) (by omega)⟩, rfl, rfl⟩, ?_⟩; conv => whnf); repeat' (first | with_reducible apply True.intro | ((first | (with_reducible apply Same.rfl) | (apply Same.bool; focus (with_reducible rfl)) | (apply Same.rfl) | (with_reducible apply Cut.l) | (with_reducible apply Frz.l)) <;> conv => whnf) | fail)
      · have hB : i ≤ j1 → gt w a ≤ gt w i := by intro hh; omega
        refine loop_keep ttok mixed (T0 := 22458641409078797123448399039441150152463) [0, 1, 2, 10] (ι := {j : Nat // PtI w a b i j ∧ j ≤ j1})
          (fun j => [(11, int ((j.1 : Nat) : Int))]) (fun _ => [.arr none 1 (lst u64 w)]) (fun j => j.1) ⟨j1, hI, Nat.le_refl _⟩ ?_
        conv => whnf
        repeat' (first | ((first | (with_reducible apply Same.rfl) | (with_reducible apply Frz.l)) <;> conv => whnf) | fail)
        rintro ⟨j, hJ, hj⟩
        dsimp only
        have jj := hJ.ij
        conv => whnf
        repeat' (first | ((first | (with_reducible apply Nm.set _ (rfl)) | ((with_reducible apply Nm.mk); focus ((try simp only [lns]); exact rfl)) | ((with_reducible apply Need.mk); focus first | omega | kernel_rfl) | ((with_reducible apply Elem.lst); focus first | omega | (simp only [lns]; omega)) | (with_reducible apply Bif.F) | ((with_reducible apply Bif.dec) <;> intro h <;> (try simp only [lns] at h) <;> (try (exfalso; omega))) | (with_reducible apply Frz.l)) <;> conv => whnf) | fail)
        · (refine ⟨_, _, ⟨swapL w j a, j, false, ⟨hw.trans (Rng.swap (by omega) (by omega) (by omega)), hJ.done (by omega) (by omega)⟩, rfl, rfl⟩, ?_⟩; conv => whnf); repeat' (first | with_reducible apply True.intro | ((first | (with_reducible apply Same.rfl) | (apply Same.bool; focus (with_reducible rfl)) | (apply Same.rfl) | (with_reducible apply Cut.l) | (with_reducible apply Frz.l)) <;> conv => whnf) | fail)
    · (refine ⟨⟨j0 - 1, hJ0.j1 (by omega) (by omega), by omega⟩, ?_⟩; (try dsimp only); conv => whnf); repeat' (first | with_reducible apply True.intro | ((first | ((with_reducible apply Need.mk); focus omega) | (with_reducible apply Same.rfl) | (apply Same.int; focus omega) | (with_reducible apply Turn.l) | (with_reducible apply Frz.l)) <;> conv => whnf) | fail)
    · (refine ⟨_, _, ⟨swapL v j0 a, j0, true, ⟨hR.trans (Rng.swap (by omega) (by omega) (by omega)), hJ0.done (by omega) (by omega)⟩, rfl, rfl⟩, ?_⟩; conv => whnf); repeat' (first | with_reducible apply True.intro | ((first | (with_reducible apply Same.rfl) | (apply Same.bool; focus (with_reducible rfl)) | (apply Same.rfl) | (with_reducible apply Cut.l) | (with_reducible apply Frz.l)) <;> conv => whnf) | fail)
  · have hA : i0 ≤ b - 1 → gt v a ≤ gt v i0 := by intro hh; omega
    refine loop_keep ttok mixed (T0 := 22458641409078797123448399039441150152463) [0, 1, 2, 10] (ι := {j : Nat // PtI v a b i0 j ∧ j ≤ b - 1})
      (fun j => [(11, int ((j.1 : Nat) : Int))]) (fun _ => [.arr none 1 (lst u64 v)]) (fun j => j.1) ⟨b - 1, hI0, Nat.le_refl _⟩ ?_
    conv => whnf
    repeat' (first | ((first | (with_reducible apply Same.rfl) | (apply Same.int; focus rfl) | (with_reducible apply Frz.l)) <;> conv => whnf) | fail)
    rintro ⟨j0, hJ0, hj0⟩
    dsimp only
    have jj0 := hJ0.ij
    conv => whnf
    repeat' (first | ((first | (with_reducible apply Nm.set _ (rfl)) | ((with_reducible apply Nm.mk); focus ((try simp only [lns]); exact rfl)) | ((with_reducible apply Need.mk); focus first | omega | kernel_rfl) | ((with_reducible apply Elem.lst); focus first | omega | (simp only [lns]; omega)) | (with_reducible apply Bif.F) | ((with_reducible apply Bif.dec) <;> intro h <;> (try simp only [lns] at h) <;> (try (exfalso; omega))) | (with_reducible apply Frz.l)) <;> conv => whnf) | fail)
    · (refine ⟨_, _, ⟨swapL v j0 a, j0, true, ⟨hR.trans (Rng.swap (by omega) (by omega) (by omega)), hJ0.done (by omega) (by omega)⟩, rfl, rfl⟩, ?_⟩; conv => whnf); repeat' (first | with_reducible apply True.intro | ((first | (with_reducible apply Same.rfl) | (apply Same.bool; focus (with_reducible rfl)) | (apply Same.rfl) | (with_reducible apply Cut.l) | (with_reducible apply Frz.l)) <;> conv => whnf) | fail)
end Go.Fw

/- slices.Sort of numbers: the whole. -/
namespace Go.Fw
open Go.Proofs
set_option maxHeartbeats 32000000
set_option maxRecDepth 8000
/-- What is turned within [a, b) of l, and is as long as L. -/
def InR (L : Nat) (w u : List Int) (a b : Nat) : Prop := Rng w u a b ∧ u.length = L
def ArrL (w : List Int) (r : SV) (hp' : List OB) : Prop := r = .tup [] ∧ hp' = [.arr none 1 (lst u64 w)]
theorem ExS.mk {α : Type} {p : α → Prop} {Q : {x // p x} → Prop} (v : α) (h : ∀ hp : p v, Q ⟨v, hp⟩) (hp : p v) : ∃ x, Q x := ⟨⟨v, hp⟩, h hp⟩
theorem k_pdq : ∀ (n : Nat) (l : List Int) (a b : Nat) (lim : Int), b - a ≤ n → a ≤ b → b ≤ l.length → l.length ≤ 24 → 0 ≤ lim ∧ lim ≤ 1000 → Below l a b →
    ∃ r hp', (∃ w : List Int, (Rng l w a b ∧ Srt cI w a b) ∧ r = .tup [] ∧ hp' = [.arr none 1 (lst u64 w)]) ∧ ConK Tryz.prog 56 [.ov 1 0 0 l.length, int a, int b, int lim] [.arr none 1 (lst u64 l)] r hp' := by
  intro n
  induction n with
  | zero =>
    intro l a b lim hn hab hb hl hlim hbel
    have he : b = a := by omega
    subst he
    have hI := k_ordIns l b b (Nat.le_refl _) hb (by omega)
    refine spec_of_runRK ttok mixed (T0 := 10384593871817177683247510831234831) (ts := []) 134 rfl rfl rfl rfl (by simp) rfl ?_
    conv => whnf
    repeat' (first | ((with_reducible apply Frz.l) <;> conv => whnf) | fail)
    refine loop_keep ttok mixed (T0 := 10384593871817177683247510831234831) [0, 1, 2, 3] (ι := Unit) (fun _ => [(8, bool true), (9, bool true)]) (fun _ => [.arr none 1 (lst u64 l)]) (fun _ => 0) () ?_
    conv => whnf
    repeat' (first | ((first | (with_reducible apply Same.rfl) | (apply Same.bool; focus (with_reducible rfl)) | (with_reducible apply Frz.l)) <;> conv => whnf) | fail)
    rintro ⟨⟩
    conv => whnf
    repeat' (first | ((with_reducible apply GiveN.keep [0]); (conv => whnf)) | ((first | ((with_reducible apply Wr.i64); focus omega) | (refine CallKN.ex (hI) ?_; rintro _ _ ⟨u, hu, rfl, rfl⟩) | ((with_reducible apply Bif.dec) <;> intro h <;> (try simp only [lns] at h) <;> (try (exfalso; omega))) | (with_reducible apply Frz.l)) <;> conv => whnf) | fail)
    (refine ⟨_, _, ⟨u, hu, rfl, rfl⟩, ?_⟩; conv => whnf); repeat' (first | with_reducible apply True.intro | ((first | (with_reducible apply Same.rfl) | (with_reducible apply Cut.l) | (with_reducible apply Frz.l)) <;> conv => whnf) | fail)
  | succ n ih =>
    intro l a b lim hn hab hb hl hlim hbel
    refine spec_of_runRK ttok mixed (T0 := 10384593871817177683247510831234831) (ts := []) 134 rfl rfl rfl rfl (by simp) rfl ?_
    conv => whnf
    repeat' (first | ((with_reducible apply Frz.l) <;> conv => whnf) | fail)
    refine loop_keep ttok mixed (T0 := 10384593871817177683247510831234831) [0] (ι := {p : (Nat × Nat) × Int × Bool × Bool × List Int // Rng l p.2.2.2.2 a b ∧ Mid p.2.2.2.2 a p.1.1 p.1.2 b ∧ a ≤ p.1.1 ∧ p.1.1 ≤ p.1.2 ∧ p.1.2 ≤ b ∧ 0 ≤ p.2.1 ∧ p.2.1 ≤ 1000})
      (fun p => [(1, int (p.1.1.1 : Int)), (2, int (p.1.1.2 : Int)), (3, int p.1.2.1), (8, bool p.1.2.2.1), (9, bool p.1.2.2.2.1)]) (fun p => [.arr none 1 (lst u64 p.1.2.2.2.2)]) (fun p => p.1.1.2 - p.1.1.1) ⟨((a, b), lim, true, true, l), Rng.refl _ _ _, Mid.start _ _ _, by dsimp only; omega, by dsimp only; omega, by dsimp only; omega, hlim.1, hlim.2⟩ ?_
    conv => whnf
    repeat' (first | ((first | (with_reducible apply Same.rfl) | (apply Same.bool; focus (with_reducible rfl)) | (with_reducible apply Frz.l)) <;> conv => whnf) | fail)
    rintro ⟨⟨⟨a', b'⟩, lm, bal, par, w⟩, hr, hM, h1, h2, h3, h4, h5⟩
    dsimp only at hr hM h1 h2 h3 h4 h5 ⊢
    have hwl := hr.len
    have hB' : Below w a' b' := hM.below (hbel.rng hr) h1 h3
    have fin : ∀ u, Rng w u a' b' → Srt cI u a' b' → Rng l u a b ∧ Srt cI u a b := fun u g1 g2 => ⟨hr.trans (g1.up h1 h3), (hM.rng g1 h1 h3).done g2⟩
    by_cases h12 : b' ≤ a' + 12
    · have hI := k_ordIns w a' b' h2 (by omega) (by omega)
      rw [hwl] at hI
      conv => whnf
      repeat' (first | ((with_reducible apply GiveN.keep [0]); (conv => whnf)) | ((first | ((with_reducible apply Wr.i64); focus omega) | (refine CallKN.ex (hI) ?_; rintro _ _ ⟨u, ⟨u1, u2⟩, rfl, rfl⟩) | ((with_reducible apply Bif.dec) <;> intro h <;> (try simp only [lns] at h) <;> (try (exfalso; omega))) | (with_reducible apply Frz.l)) <;> conv => whnf) | fail)
      (refine ⟨_, _, ⟨u, fin u u1 u2, rfl, rfl⟩, ?_⟩; conv => whnf); repeat' (first | with_reducible apply True.intro | ((first | (with_reducible apply Same.rfl) | (with_reducible apply Cut.l) | (with_reducible apply Frz.l)) <;> conv => whnf) | fail)
    by_cases hl0 : lm = 0
    · subst hl0
      have hI := k_heap w a' b' (by omega) (by omega) (by omega)
      rw [hwl] at hI
      conv => whnf
      repeat' (first | ((with_reducible apply GiveN.keep [0]); (conv => whnf)) | ((first | ((with_reducible apply Wr.i64); focus omega) | (refine CallKN.ex (hI) ?_; rintro _ _ ⟨u, ⟨u1, u2⟩, rfl, rfl⟩) | ((with_reducible first | apply Bif.dec | apply Bif.beq) <;> intro h <;> (try simp only [lns] at h) <;> (try (exfalso; omega))) | (with_reducible apply Frz.l)) <;> conv => whnf) | fail)
      (refine ⟨_, _, ⟨u, fin u u1 u2, rfl, rfl⟩, ?_⟩; conv => whnf); repeat' (first | with_reducible apply True.intro | ((first | (with_reducible apply Same.rfl) | (with_reducible apply Cut.l) | (with_reducible apply Frz.l)) <;> conv => whnf) | fail)
    have kB : ∀ u, InR l.length w u a' b' → ∃ r hp', (∃ u', InR l.length w u' a' b' ∧ ArrL u' r hp') ∧ ConK Tryz.prog 78 [.ov 1 0 0 l.length, int a', int b'] [.arr none 1 (lst u64 u)] r hp' := fun u hu => by
      obtain ⟨r, hp', ⟨u', g1, g2, g3⟩, hc⟩ := k_break u a' b' (by omega) (by omega) (by have := hu.2; omega) (by have := hu.2; omega)
      rw [hu.2] at hc
      exact ⟨r, hp', ⟨u', ⟨hu.1.trans g1, g1.len.trans hu.2⟩, g2, g3⟩, hc⟩
    have kV : ∀ u, InR l.length w u a' b' → ∃ r hp', (∃ u', InR l.length w u' a' b' ∧ ArrL u' r hp') ∧ ConK Tryz.prog 80 [.ov 1 0 0 l.length, int a', int b'] [.arr none 1 (lst u64 u)] r hp' := fun u hu => by
      obtain ⟨r, hp', ⟨u', g1, g2, g3⟩, hc⟩ := k_revRange u a' b' (by omega) (by have := hu.2; omega) (by have := hu.2; omega)
      rw [hu.2] at hc
      exact ⟨r, hp', ⟨u', ⟨hu.1.trans g1, g1.len.trans hu.2⟩, g2, g3⟩, hc⟩
    have kE : ∀ u (pv : Nat), InR l.length w u a' b' → a' ≤ pv ∧ pv < b' → 0 < a' → ¬ gt u ((a' : Int) - 1).toNat < gt u pv → ∃ r hp', (∃ (u' : List Int) (m : Nat), (InR l.length w u' a' b' ∧ a' < m ∧ m ≤ b' ∧ Mid u' a m b' b) ∧ r = int m ∧ hp' = [.arr none 1 (lst u64 u')]) ∧ ConK Tryz.prog 82 [.ov 1 0 0 l.length, int a', int b', int pv] [.arr none 1 (lst u64 u)] r hp' := fun u pv hu hp h0 hle => by
      obtain ⟨r, hp', ⟨u', m, ⟨g1, g2, g3, g4⟩, g5, g6⟩, hc⟩ := k_partEq u a' b' pv (by omega) hp (by have := hu.2; omega) (by have := hu.2; omega) (fun x x1 x2 => by have := hB'.rng hu.1 h0 x x1 x2; rw [show ((a' : Int) - 1).toNat = a' - 1 by omega] at hle; omega)
      rw [hu.2] at hc
      exact ⟨r, hp', ⟨u', m, ⟨⟨hu.1.trans g1, g1.len.trans hu.2⟩, g2, g3, (hM.rng (hu.1.trans g1) h1 h3).eq g4⟩, g5, g6⟩, hc⟩
    have kP : ∀ u (pv : Nat), InR l.length w u a' b' → a' ≤ pv ∧ pv < b' → ∃ r hp', (∃ (u' : List Int) (m : Nat) (x : Bool), (InR l.length w u' a' b' ∧ Part u' a' b' m ∧ a' ≤ m ∧ m < b') ∧ r = .tup [int m, bool x] ∧ hp' = [.arr none 1 (lst u64 u')]) ∧ ConK Tryz.prog 83 [.ov 1 0 0 l.length, int a', int b', int pv] [.arr none 1 (lst u64 u)] r hp' := fun u pv hu hp => by
      obtain ⟨r, hp', ⟨u', m, x, ⟨g1, g2⟩, g5, g6⟩, hc⟩ := k_part u a' b' pv (by omega) hp (by have := hu.2; omega) (by have := hu.2; omega)
      rw [hu.2] at hc
      exact ⟨r, hp', ⟨u', m, x, ⟨⟨hu.1.trans g1, g1.len.trans hu.2⟩, g2, g2.at_.1, g2.at_.2⟩, g5, g6⟩, hc⟩
    have kL : ∀ u (m : Nat) (k : Int), InR l.length w u a' b' → Part u a' b' m → 0 ≤ k ∧ k ≤ 1000 → ∃ r hp', (∃ (u' : List Int), (InR l.length w u' a' b' ∧ Mid u' a (m + 1) b' b) ∧ r = .tup [] ∧ hp' = [.arr none 1 (lst u64 u')]) ∧ ConK Tryz.prog 56 [.ov 1 0 0 l.length, int a', int m, int k] [.arr none 1 (lst u64 u)] r hp' := fun u m k hu hp hk => by
      have hm := hp.at_
      have hul := hu.2
      obtain ⟨r, hp', ⟨u', ⟨g1, g2⟩, g5, g6⟩, hc⟩ := ih u a' m k (by omega) hm.1 (by omega) (by omega) hk (fun h0 x x1 x2 => hB'.rng hu.1 h0 x x1 (by omega))
      rw [hu.2] at hc
      exact ⟨r, hp', ⟨u', ⟨⟨hu.1.trans (g1.up (Nat.le_refl _) (by omega)), g1.len.trans hu.2⟩, (hM.rng hu.1 h1 h3).left hp g1 g2 h1 h3⟩, g5, g6⟩, hc⟩
    have kR : ∀ u (m : Nat) (k : Int), InR l.length w u a' b' → Part u a' b' m → 0 ≤ k ∧ k ≤ 1000 → ∃ r hp', (∃ (u' : List Int), (InR l.length w u' a' b' ∧ Mid u' a a' m b) ∧ r = .tup [] ∧ hp' = [.arr none 1 (lst u64 u')]) ∧ ConK Tryz.prog 56 [.ov 1 0 0 l.length, int ((m : Int) + 1), int b', int k] [.arr none 1 (lst u64 u)] r hp' := fun u m k hu hp hk => by
      have hm := hp.at_
      have hul := hu.2
      obtain ⟨r, hp', ⟨u', ⟨g1, g2⟩, g5, g6⟩, hc⟩ := ih u (m + 1) b' k (by omega) (by omega) (by omega) (by omega) hk (fun h0 x x1 x2 => hp.hi x (by omega) x2)
      rw [hu.2] at hc
      exact ⟨r, hp', ⟨u', ⟨⟨hu.1.trans (g1.up (by omega) (Nat.le_refl _)), g1.len.trans hu.2⟩, (hM.rng hu.1 h1 h3).right hp g1 g2 h1 h3⟩, g5, g6⟩, hc⟩
    have kC : ∀ u, InR l.length w u a' b' → _ := fun u hu => k_choose u a' b' (by omega) (by omega) (by have := hu.2; omega) (by have := hu.2; omega)
    have kS : ∀ u, InR l.length w u a' b' → _ := fun u hu => k_partIns u a' b' (by omega) (by omega) (by have := hu.2; omega) (by have := hu.2; omega)
    have tk : ∀ u, InR l.length w u a' b' → List.take l.length (List.drop 0 (lst u64 u)) = lst u64 u := fun u hu => by
      rw [List.drop_zero, ← hu.2, ← lst_len (f := u64) u, List.take_length]
    have nd : ∀ u, InR l.length w u a' b' → 0 + l.length ≤ (lst u64 u).length := fun u hu => by rw [lst_len, hu.2]; omega
    have hR0 : InR l.length w w a' b' := ⟨Rng.refl _ _ _, hwl⟩
    have wrev : ∀ pv : Nat, a' ≤ pv → pv < b' → IntKind.wrap .i64 ((b' : Int) - 1 - ((pv : Int) - (a' : Int))) = ((b' - 1 - (pv - a') : Nat) : Int) := fun pv p1 p2 => by
      simp [IntKind.wrap, IntKind.bits, IntKind.signed]; omega
    have hq8 : IntKind.wrap .i64 (((b' : Int) - (a' : Int)).tdiv 8) = (((b' - a') / 8 : Nat) : Int) := by
      rw [Int.tdiv_eq_ediv_of_nonneg (by omega)]
      simp [IntKind.wrap, IntKind.bits, IntKind.signed]; omega
    have ge : ∀ u, InR l.length w u a' b' → u.length = l.length := fun u hu => hu.2
    conv => whnf
    repeat' (first | ((with_reducible apply Elem.lst); (focus (have := ge _ ‹InR l.length w _ a' b'›; omega)); (conv => whnf)) | ((with_reducible apply Wr.eq hq8); (conv => whnf)) | ((with_reducible apply Wr.eq (wrev pv p1 p2)); (conv => whnf)) | ((with_reducible apply Nm.mk (tk _ (by assumption))); (conv => whnf)) | ((with_reducible apply Need.mk); (focus (exact nd _ (by assumption))); (conv => whnf)) | ((with_reducible apply GiveN.keep [0]); (conv => whnf); (refine CallKN.ex (kB _ (by assumption)) ?_); (rintro _ _ ⟨u1, hu1, rfl, rfl⟩); (conv => whnf)) | ((with_reducible apply GiveN.keep [0]); (conv => whnf); (refine CallKN.ex (kV _ (by assumption)) ?_); (rintro _ _ ⟨u2, hu2, rfl, rfl⟩); (conv => whnf)) | ((with_reducible apply GiveN.keep [0]); (conv => whnf); (refine CallKN.ex (kE _ _ (by assumption) (by omega) (by omega) (by assumption)) ?_); (rintro _ _ ⟨u3, me, ⟨hu3, e1, e2, e3⟩, rfl, rfl⟩); (conv => whnf)) | ((with_reducible apply GiveN.keep [0]); (conv => whnf); (refine CallKN.ex (kP _ _ (by assumption) (by omega)) ?_); (rintro _ _ ⟨u4, m, x4, ⟨hu4, hP, m1, m2⟩, rfl, rfl⟩); (conv => whnf)) | ((with_reducible apply GiveN.keep [0]); (conv => whnf); (refine CallKN.ex (kL _ _ _ (by assumption) (by assumption) (by omega)) ?_); (rintro _ _ ⟨u5, ⟨hu5, hM5⟩, rfl, rfl⟩); (conv => whnf)) | ((with_reducible apply GiveN.keep [0]); (conv => whnf); (refine CallKN.ex (kR _ _ _ (by assumption) (by assumption) (by omega)) ?_); (rintro _ _ ⟨u6, ⟨hu6, hM6⟩, rfl, rfl⟩); (conv => whnf)) | ((first | ((with_reducible apply Nm.mk); focus ((try simp only [lns]); exact rfl)) | ((with_reducible apply Wr.i64); focus omega) | ((with_reducible apply Need.mk); focus first | omega | exact CleanP.nil rfl | kernel_rfl) | (refine CallN.ex (kC _ (by assumption)) ?_; rintro _ _ ⟨pv, hint, rfl, rfl, p1, p2⟩) | (refine CallN.ex (kS _ (by assumption)) ?_; rintro _ _ ⟨xs, rfl, rfl, hx⟩) | (apply CallN.mk (k_cLess _ _)) | (with_reducible first | apply Bif.T | apply Bif.F) | ((with_reducible first | apply Bif.dec | apply Bif.beq) <;> intro h <;> (try simp only [lns] at h) <;> (try (exfalso; omega))) | (with_reducible apply Bif.not) | ((with_reducible apply Bif.mk) <;> intro h) | (with_reducible apply GiveN.lend) | (with_reducible apply Frz.l)) <;> conv => whnf) | fail)
    all_goals (try (refine ⟨_, _, ⟨_, fin _ (And.left (by assumption)) (hx h), rfl, rfl⟩, ?_⟩; (conv => whnf); repeat' (first | with_reducible apply True.intro | ((first | (with_reducible apply Same.rfl) | (with_reducible apply Cut.l) | (with_reducible apply Frz.l)) <;> conv => whnf) | fail)))
    all_goals (first | apply ExS.mk ((me, b'), _, _, _, u3) | apply ExS.mk ((m + 1, b'), _, _, _, u5) | apply ExS.mk ((a', m), _, _, _, u6))
    any_goals (intro _; (try dsimp only); (conv => whnf); repeat' (first | with_reducible apply True.intro | ((first | ((with_reducible apply Need.mk); focus omega) | (with_reducible apply Same.rfl) | (apply Same.int; focus rfl) | (apply Same.bool; focus (with_reducible rfl)) | (with_reducible apply Turn.l) | (with_reducible apply Frz.l)) <;> conv => whnf) | fail))
    all_goals (first
      | exact ⟨hr.trans (hu3.1.up h1 h3), e3, by dsimp only; omega, by dsimp only; omega, by dsimp only; omega, by dsimp only; omega, by dsimp only; omega⟩
      | exact ⟨hr.trans (hu5.1.up h1 h3), hM5, by dsimp only; omega, by dsimp only; omega, by dsimp only; omega, by dsimp only; omega, by dsimp only; omega⟩
      | exact ⟨hr.trans (hu6.1.up h1 h3), hM6, by dsimp only; omega, by dsimp only; omega, by dsimp only; omega, by dsimp only; omega, by dsimp only; omega⟩)
theorem k_Sort (l : List Int) (hl : l.length ≤ 24) :
    ∃ r hp', (∃ w : List Int, (Rng l w 0 l.length ∧ Srt cI w 0 l.length) ∧ r = .tup [] ∧ hp' = [.arr none 1 (lst u64 w)]) ∧ ConK Tryz.prog 33 [.ov 1 0 0 l.length] [.arr none 1 (lst u64 l)] r hp' := by
  have hL := k_Len l.length hl
  have hb : 0 ≤ lenN l.length ∧ lenN l.length ≤ 5 := by unfold lenN; omega
  have hP := k_pdq l.length l 0 l.length (lenN l.length) (by omega) (by omega) (Nat.le_refl _) hl ⟨hb.1, by omega⟩ (fun h => absurd h (by omega))
  refine spec_of_runRK ttok mixed (T0 := 5) (ts := []) 11 rfl rfl rfl rfl (by simp) rfl ?_
  conv => whnf
  repeat' (first | ((with_reducible apply GiveN.keep [0]); (conv => whnf); (refine CallKN.ex hP ?_); (rintro _ _ ⟨w, hw, rfl, rfl⟩); (conv => whnf)) | ((first | ((with_reducible apply Wr.u64); focus omega) | (apply CallN.mk (hL)) | (with_reducible apply Frz.l)) <;> conv => whnf) | fail)
  (refine ⟨_, _, ⟨w, hw, rfl, rfl⟩, ?_⟩; conv => whnf); repeat' (first | with_reducible apply True.intro | ((first | (with_reducible apply Same.rfl) | (with_reducible apply Cut.l) | (with_reducible apply Frz.l)) <;> conv => whnf) | fail)
end Go.Fw
