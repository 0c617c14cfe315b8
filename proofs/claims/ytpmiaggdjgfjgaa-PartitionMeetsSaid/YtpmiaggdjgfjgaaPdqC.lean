/- slices.Sort of numbers: patterns are broken; what is sorted already. -/
import Derived.Test.YtpmiaggdjgfjgaaPdqB
namespace Go.Fw
open Go.Proofs
set_option maxHeartbeats 4000000
set_option maxRecDepth 8000
/-- bits.Len of small numbers. -/
def lenN (n : Nat) : Int := if n = 0 then 0 else if n < 2 then 1 else if n < 4 then 2 else if n < 8 then 3 else if n < 16 then 4 else 5
theorem k_Len64 (n : Nat) (h : n ≤ 24) : Con Try.prog 91 [.v (.int .u64 (n : Int))] [] (int (lenN n)) [] := by
  refine spec_of_run ttok mixed (T0 := 16661) (ts := [.tmp 2]) 25 rfl rfl rfl rfl (by simp) rfl ?_
  conv => whnf
  repeat' (first | ((with_reducible apply Need.mk); (focus (refine ⟨by omega, ?_⟩; show (n : Int) < ((256 : Nat) : Int); omega)); (conv => whnf)) | ((first | ((with_reducible apply Wr.u8); focus omega) | ((with_reducible apply Bif.dec) <;> intro h <;> (try simp only [lns] at h) <;> (try (exfalso; omega)))) <;> conv => whnf) | fail)
  refine Wr.eq (y := lenN n) ?_ ?_
  · rw [Int.toNat_natCast]
    refine (?_ : ∀ m : Fin 25, IntKind.wrap .i64 (strAt _ m.1) = lenN m.1) ⟨n, by omega⟩
    decide +kernel
  · have : 0 ≤ lenN n ∧ lenN n ≤ 5 := by unfold lenN; omega
    conv => whnf
    repeat' (first | with_reducible apply True.intro | ((first | ((with_reducible apply Wr.i64); focus omega) | (apply Same.int; focus omega)) <;> conv => whnf) | fail)
theorem k_Len (n : Nat) (h : n ≤ 24) : Con Try.prog 66 [.v (.int .u64 (n : Int))] [] (int (lenN n)) [] := by
  refine spec_of_run ttok mixed (T0 := 5) (ts := [.tmp 2]) 8 rfl rfl rfl rfl (by simp) rfl ?_
  conv => whnf
  repeat' (first | with_reducible apply True.intro | ((first | (apply CallN.mk (k_Len64 n h)) | (with_reducible apply Bif.F) | (with_reducible apply Same.rfl)) <;> conv => whnf) | fail)
theorem k_next2 (n : Nat) (h : 13 ≤ n ∧ n ≤ 24) : Con Try.prog 102 [int n] [] (.v (.int .u64 (if n < 16 then 16 else 32))) [] := by
  have hL := k_Len n h.2
  by_cases h1 : n < 16
  · have e : lenN n = 4 := by unfold lenN; repeat' split
                              all_goals omega
    rw [if_pos h1]
    rw [e] at hL
    refine spec_of_run ttok mixed (T0 := 5) (ts := [.tmp 2]) 7 rfl rfl rfl rfl (by simp) rfl ?_
    conv => whnf
    repeat' (first | with_reducible apply True.intro | ((with_reducible apply Wr.eq (show IntKind.wrap .u64 (1 * 2 ^ min (Int.toNat 4) IntKind.u64.bits) = 16 from by decide)); (conv => whnf)) | ((first | ((with_reducible apply Wr.u64); focus omega) | ((with_reducible apply Need.mk); focus omega) | (apply CallN.mk (hL)) | (with_reducible apply Same.rfl)) <;> conv => whnf) | fail) 
  · have e : lenN n = 5 := by unfold lenN; repeat' split
                              all_goals omega
    rw [if_neg h1]
    rw [e] at hL
    refine spec_of_run ttok mixed (T0 := 5) (ts := [.tmp 2]) 7 rfl rfl rfl rfl (by simp) rfl ?_
    conv => whnf
    repeat' (first | with_reducible apply True.intro | ((with_reducible apply Wr.eq (show IntKind.wrap .u64 (1 * 2 ^ min (Int.toNat 5) IntKind.u64.bits) = 32 from by decide)); (conv => whnf)) | ((first | ((with_reducible apply Wr.u64); focus omega) | ((with_reducible apply Need.mk); focus omega) | (apply CallN.mk (hL)) | (with_reducible apply Same.rfl)) <;> conv => whnf) | fail) 
theorem k_xorNext (x : Int) : ∃ r hp', (∃ y : Int, r = .v (.int .u64 y) ∧ hp' = [.cells (.v (.int .u64 y))]) ∧ Con Try.prog 103 [.pb 0 []] [.cells (.v (.int .u64 x))] r hp' := by
  refine spec_of_runR ttok mixed (T0 := 5) (ts := [.tmp 2]) 33 rfl rfl rfl rfl (by simp) rfl ?_
  conv => whnf
  repeat' (first | ((with_reducible apply Wr.mk); (conv => whnf)) | (((with_reducible apply Need.mk); focus first | omega | kernel_rfl) <;> conv => whnf) | fail)
  (apply Ex2.mk (.v (.int .u64 _)) ([.cells (.v (.int .u64 _))])); (focus ((conv => whnf); repeat' (first | with_reducible apply True.intro | ((with_reducible apply Same.rfl) <;> conv => whnf) | fail))); exact ⟨_, rfl, rfl⟩
theorem and_range (x m : Int) (hm : 0 ≤ m ∧ m < 4294967296) : 0 ≤ IntKind.wrap .u64 ((BitVec.ofInt (IntKind.bits .u64) x &&& BitVec.ofInt (IntKind.bits .u64) m).toNat : Int) ∧ IntKind.wrap .u64 ((BitVec.ofInt (IntKind.bits .u64) x &&& BitVec.ofInt (IntKind.bits .u64) m).toNat : Int) ≤ m := by
  have h1 : (BitVec.ofInt 64 x &&& BitVec.ofInt 64 m).toNat ≤ (BitVec.ofInt 64 m).toNat := by
    rw [BitVec.toNat_and]; exact Nat.and_le_right
  have h2 : (BitVec.ofInt 64 m).toNat = m.toNat := by
    rw [BitVec.toNat_ofInt]; omega
  have h3 : ((BitVec.ofInt 64 x &&& BitVec.ofInt 64 m).toNat : Int) ≤ m := by omega
  have h4 : (0 : Int) ≤ ((BitVec.ofInt 64 x &&& BitVec.ofInt 64 m).toNat : Int) := by omega
  show 0 ≤ IntKind.wrap .u64 ((BitVec.ofInt 64 x &&& BitVec.ofInt 64 m).toNat : Int) ∧ IntKind.wrap .u64 ((BitVec.ofInt 64 x &&& BitVec.ofInt 64 m).toNat : Int) ≤ m
  generalize ((BitVec.ofInt 64 x &&& BitVec.ofInt 64 m).toNat : Int) = z at *
  simp [IntKind.wrap, IntKind.bits, IntKind.signed]; omega
theorem k_break (l : List Int) (a b : Nat) (hab : a + 12 < b) (hab2 : b ≤ a + 24) (hb : b ≤ l.length) (hl : l.length ≤ 1000000) :
    ∃ r hp', (∃ w : List Int, Rng l w a b ∧ r = .tup [] ∧ hp' = [.arr none 1 (lst u64 w)]) ∧ ConK Try.prog 84 [.ov 1 0 0 l.length, int a, int b] [.arr none 1 (lst u64 l)] r hp' := by
  have hd : (b : Int) - (a : Int) = ((b - a : Nat) : Int) := by omega
  have hq : (((b - a : Nat) : Int)).tdiv 4 = (((b - a) / 4 : Nat) : Int) := by rw [Int.tdiv_eq_ediv_of_nonneg (by omega)]; omega
  have hn := k_next2 (b - a) (by omega)
  generalize hM : (if b - a < 16 then (16 : Int) else 32) = M at hn
  have hM2 : (b - a : Nat) ≤ M ∧ M ≤ 2 * ((b - a : Nat) : Int) := by rw [← hM]; split <;> omega
  refine spec_of_runRK ttok mixed (T0 := 8804682991559) (ts := []) 65 rfl rfl rfl rfl (by simp) rfl ?_
  conv => whnf
  repeat' (first | ((first | ((with_reducible first | apply Wr.i64 | apply Wr.u64); focus omega) | ((with_reducible apply Bif.dec) <;> intro h <;> (try simp only [lns] at h) <;> (try (exfalso; omega)))) <;> conv => whnf) | fail)
  rw [hd]
  repeat' (first | ((first | ((with_reducible apply Wr.i64); focus omega) | ((with_reducible apply Need.mk); focus omega) | (apply CallN.mk (hn))) <;> conv => whnf) | fail)
  rw [hq]
  skip
  refine loop_keep ttok mixed (T0 := 8804682991559) [0, 1, 2, 6, 8] (ι := {p : Nat × Int × List Int // Rng l p.2.2 a b ∧ a ≤ p.1 ∧ p.1 ≤ a + (b - a) / 4 * 2 + 2})
    (fun p => [(9, int (p.1.1 : Int)), (7, .pb 1 [])]) (fun p => [.arr none 1 (lst u64 p.1.2.2), .cells (.v (.int .u64 p.1.2.1))]) (fun p => a + (b - a) / 4 * 2 + 2 - p.1.1) ⟨(a + (b - a) / 4 * 2 - 1, ((b - a : Nat) : Int), l), Rng.refl _ _ _, by dsimp only; omega, by dsimp only; omega⟩ ?_
  conv => whnf
  repeat' (first | ((first | (with_reducible apply Same.rfl) | (apply Same.int; focus (dsimp only; omega))) <;> conv => whnf) | fail)
  rintro ⟨⟨i, x, w⟩, hr, h1, h2⟩
  dsimp only at hr h1 h2 ⊢
  have hwl := hr.len
  conv => whnf
  repeat' (first | ((first | ((with_reducible apply Wr.i64); focus omega) | ((with_reducible apply Need.mk); focus omega) | ((with_reducible apply Bif.dec) <;> intro h <;> (try simp only [lns] at h))) <;> conv => whnf) | fail)
  rw [hq]
  repeat' (first | ((first | ((with_reducible apply Wr.u64); focus omega) | (refine CallN.ex (k_xorNext x) ?_; rintro _ _ ⟨y, rfl, rfl⟩)) <;> conv => whnf) | fail)
  · have hz := and_range y (M - 1) (by omega)
    generalize IntKind.wrap .u64 ((BitVec.ofInt (IntKind.bits .u64) y &&& BitVec.ofInt (IntKind.bits .u64) (M - 1)).toNat : Int) = z at hz ⊢
    obtain ⟨k, rfl⟩ := Int.eq_ofNat_of_zero_le hz.1
    have e1 : ((a : Int) + ((k : Int) - ((b - a : Nat) : Int))).toNat = a + (k - (b - a)) ∨ k < b - a := by omega
    have e2 : ((a : Int) + (k : Int)).toNat = a + k := by omega
    repeat' (first | ((first | (with_reducible apply Nm.set _ (rfl)) | ((with_reducible apply Nm.mk); focus ((try simp only [lns]); exact rfl)) | ((with_reducible apply Wr.i64); focus omega) | ((with_reducible apply Need.mk); focus first | omega | kernel_rfl) | ((with_reducible apply Elem.lst); focus first | omega | (simp only [lns]; omega)) | ((with_reducible apply Bif.dec) <;> intro h <;> (try simp only [lns] at h))) <;> conv => whnf) | fail)
    · have e1 : ((a : Int) + ((k : Int) - ((b - a : Nat) : Int))).toNat = a + (k - (b - a)) := by omega
      (refine ⟨⟨(i + 1, y, swapL w i (a + (k - (b - a)))), hr.trans (Rng.swap (by omega) (by omega) (by omega)), by dsimp only; omega, by dsimp only; omega⟩, ?_⟩; (try dsimp only); conv => whnf); repeat' (first | with_reducible apply True.intro | ((with_reducible apply Same.mk); (focus (rw [e1]; rfl)); (conv => whnf)) | ((first | ((with_reducible apply Need.mk); focus omega) | (with_reducible apply Same.rfl) | (apply Same.int; focus rfl) | (with_reducible apply Turn.l)) <;> conv => whnf) | fail)
    · (refine ⟨⟨(i + 1, y, swapL w i (a + k)), hr.trans (Rng.swap (by omega) (by omega) (by omega)), by dsimp only; omega, by dsimp only; omega⟩, ?_⟩; (try dsimp only); conv => whnf); repeat' (first | with_reducible apply True.intro | ((with_reducible apply Same.mk); (focus (rw [e2]; rfl)); (conv => whnf)) | ((first | ((with_reducible apply Need.mk); focus omega) | (with_reducible apply Same.rfl) | (apply Same.int; focus rfl) | (with_reducible apply Turn.l)) <;> conv => whnf) | fail)
  · (refine ⟨_, _, ⟨w, hr, rfl, rfl⟩, ?_⟩; conv => whnf); repeat' (first | with_reducible apply True.intro | ((first | (with_reducible apply Same.rfl) | (with_reducible apply Cut.l)) <;> conv => whnf) | fail)
end Go.Fw
