/- Prefixes: address.Mask, ValidPrefix on both sides. -/
import Derived.Test.YtlkhjalnnciocaaGreatDst
namespace Go.Fw
set_option maxRecDepth 4000
open Go.Proofs
set_option maxHeartbeats 4000000
/-- The first k bytes, masked. -/
def mIP (l : List Int) (b : Int) (k : Nat) : List Int := (List.range 16).map fun i => if i < k then cutB (gt l i) (keepN b i) else 0
theorem mIP_len (l : List Int) (b : Int) (k : Nat) : (mIP l b k).length = 16 := by simp [mIP]
theorem mIP_zero (l : List Int) (b : Int) : mIP l b 0 = List.replicate 16 0 := by
  rfl
theorem mIP_all (l : List Int) (b : Int) : mIP l b 16 = maskL l b := by
  apply List.map_congr_left
  intro i hi
  rw [if_pos (List.mem_range.1 hi)]
theorem mIP_succ {l : List Int} {b : Int} {k : Nat} (hk : k < 16) : (mIP l b k).set k (cutB (gt l k) (keepN b k)) = mIP l b (k + 1) := by
  apply List.ext_getElem?
  intro i
  rw [List.getElem?_set]
  simp only [mIP, List.length_map, List.length_range, List.getElem?_map]
  by_cases hi : k = i
  · subst hi
    simp [hk]
  · rw [if_neg hi]
    by_cases h16 : i < 16
    · rw [List.getElem?_range h16]
      simp only [Option.map_some]
      congr 1
      by_cases h1 : i < k
      · rw [if_pos h1, if_pos (by omega)]
      · rw [if_neg h1, if_neg (by omega)]
    · rw [List.getElem?_eq_none (by simpa using h16)]; rfl
theorem mIP_step {a : IP} {c : Int} {k : Nat} (hk : k < 16) : (mIP a.1 c k).set k (IntKind.wrap .u8 ((BitVec.ofInt (IntKind.bits .u8) (a.1.getD k 0) &&& ~~~BitVec.ofInt (IntKind.bits .u8) (Int.fdiv 255 (2 ^ min (min (max (c - 8 * (k : Int)) 0) 8).toNat (IntKind.bits .u8)))).toNat)) = mIP a.1 c (k + 1) := by
  rw [← mIP_succ hk, ← cutB_is (byte_gt hk) (keepN_range c k)]
  rfl
theorem k_Mask (a : IP) (b : Int) : Con Tryz.prog 126 [ipV a, int b] [] (pfxV (maskP a b)) [] := by
  have la := a.2.1
  refine spec_of_run ttok mixed (T0 := 12535) (ts := [.cell 4 70]) 33 rfl rfl rfl rfl (by simp) rfl ?_
  conv => whnf
  repeat' (first | ((with_reducible apply Frz.l) <;> conv => whnf) | fail)
  obtain ⟨c, hc⟩ : ∃ c, c = min (max b 0) 128 := ⟨_, rfl⟩
  refine loop_keep ttok mixed (T0 := 12535) [] (ι := {k : Nat // k ≤ 16})
    (fun k => [(12, int (k.1 : Int)), (2, .pb 0 []), (4, .pb 1 []), (5, .pb 2 [])]) (fun k => [.cells (ipV a), .cells (pfxV pfx0), .cells (.agg [.ba 16 (mIP a.1 c k.1), .v (.int .i64 c)])]) (fun k => 16 - k.1) ⟨0, by omega⟩ ?_
  conv => whnf
  repeat' (first | ((apply Same.mk (by rw [mIP_zero, hc]; rfl)); (conv => whnf)) | ((first | (with_reducible apply Same.rfl) | (apply Same.int; focus rfl) | (apply Same.rfl) | (with_reducible apply Frz.l)) <;> conv => whnf) | fail)
  rintro ⟨k, hk⟩
  dsimp only
  conv => whnf
  repeat' (first | ((first | ((with_reducible apply Nm.mk); focus ((try simp only [lns]); exact rfl)) | ((with_reducible apply Wr.i64); focus omega) | ((with_reducible apply Need.mk); focus first | omega | kernel_rfl) | ((with_reducible apply Bif.dec) <;> intro h <;> (try simp only [lns] at h)) | (with_reducible apply Frz.l)) <;> conv => whnf) | fail)
  · (refine ⟨⟨k + 1, by omega⟩, ?_⟩; (try dsimp only); conv => whnf); repeat' (first | with_reducible apply True.intro | ((apply Same.mk (by rw [mIP_step (by omega)])); (conv => whnf)) | ((first | ((with_reducible apply Need.mk); focus omega) | (with_reducible apply Same.rfl) | (apply Same.int; focus rfl) | (with_reducible apply Turn.l) | (with_reducible apply Frz.l)) <;> conv => whnf) | fail)
  · have e : k = 16 := by omega
    subst e
    rw [mIP_all, hc]
    repeat' (first | with_reducible apply True.intro | ((first | (apply Same.int; focus rfl) | (apply Same.rfl) | (with_reducible apply Frz.l)) <;> conv => whnf) | fail)
theorem maskP_eq {p : Pfx} (h : 0 ≤ p.bits ∧ p.bits ≤ 128) : decide (maskP p.ip p.bits = p) = vPfx p := by
  rw [Bool.eq_iff_iff, decide_eq_true_eq, vPfx, decide_eq_true_eq]
  have e : min (max p.bits 0) 128 = p.bits := by omega
  constructor
  · intro g
    refine ⟨h.1, h.2, ?_⟩
    have := congrArg Pfx.ip g
    rwa [show (maskP p.ip p.bits).ip = maskI p.ip (min (max p.bits 0) 128) from rfl, e] at this
  · rintro ⟨_, _, g⟩
    exact pfx_ext (by rw [show (maskP p.ip p.bits).ip = maskI p.ip (min (max p.bits 0) 128) from rfl, e, g]) e
theorem vPfx_out {p : Pfx} (h : ¬ (0 ≤ p.bits ∧ p.bits ≤ 128)) : vPfx p = false := by
  rw [vPfx, decide_eq_false_iff_not]; exact fun g => h ⟨g.1, g.2.1⟩
theorem k_ValidPrefix (p : Pfx) : Con Tryz.prog 124 [pfxV p] [] (bool (vPfx p)) [] := by
  refine spec_of_run ttok mixed (T0 := 7) (ts := [.tmp 2]) 20 rfl rfl rfl rfl (by simp) rfl ?_
  conv => whnf
  repeat' (first | ((first | ((with_reducible apply Need.mk); focus kernel_rfl) | (apply CallN.mk (k_Mask _ _)) | (with_reducible first | apply Bif.T | apply Bif.F) | ((with_reducible apply Bif.dec) <;> intro h <;> (try simp only [lns] at h)) | (with_reducible apply Frz.l)) <;> conv => whnf) | fail)
  · apply Same.bool (by rw [pfx_eq, maskP_eq ⟨by omega, by omega⟩]); (conv => whnf); repeat' (first | with_reducible apply True.intro | ((with_reducible apply Frz.l) <;> conv => whnf) | fail)
  · apply Same.bool (vPfx_out (by omega)).symm; (conv => whnf); repeat' (first | with_reducible apply True.intro | ((with_reducible apply Frz.l) <;> conv => whnf) | fail)
  · apply Same.bool (vPfx_out (by omega)).symm; (conv => whnf); repeat' (first | with_reducible apply True.intro | ((with_reducible apply Frz.l) <;> conv => whnf) | fail)
theorem and1_all : ∀ (x : Fin 256) (r : Fin 8), IntKind.wrap .u8 ((BitVec.ofInt 8 (Int.fdiv (x.1 : Int) (2 ^ (min (7 - r.1) 8))) &&& BitVec.ofInt 8 1).toNat) = (x.1 : Int).fdiv (2 ^ (7 - r.1)) % 2 := by decide +kernel
theorem and1 {x : Int} {r : Nat} (hx : 0 ≤ x ∧ x ≤ 255) (hr : r < 8) : IntKind.wrap .u8 ((BitVec.ofInt 8 (Int.fdiv x (2 ^ (min (7 - r) 8))) &&& BitVec.ofInt 8 1).toNat) = x.fdiv (2 ^ (7 - r)) % 2 := by
  obtain ⟨y, rfl⟩ := fin_ex (n := 256) (x := x) (by omega)
  exact and1_all y ⟨r, hr⟩
theorem k_bit (a : IP) (i : Nat) (hi : i < 128) : Con Tryz.prog 127 [ipV a, int i] [] (.v (.int .u8 (bitI a i))) [] := by
  have e1 : (i : Int).tdiv 8 = ((i / 8 : Nat) : Int) := by rw [Int.tdiv_eq_ediv_of_nonneg (by omega)]; omega
  have e2 : (i : Int).tmod 8 = ((i % 8 : Nat) : Int) := by rw [Int.tmod_eq_emod_of_nonneg (by omega)]; omega
  have hw1 : IntKind.wrap .i64 ((i : Int).tdiv 8) = ((i / 8 : Nat) : Int) := by rw [e1, wrap64_id (by omega)]
  have hw2 : IntKind.wrap .u64 ((i : Int).tmod 8) = ((i % 8 : Nat) : Int) := by rw [e2]; simp [IntKind.wrap, IntKind.bits, IntKind.signed]; omega
  have e3 : ((7 : Int) - ((i % 8 : Nat) : Int)).toNat = 7 - i % 8 := by omega
  refine spec_of_run ttok mixed (T0 := 23) (ts := [.tmp 4]) 15 rfl rfl rfl rfl (by simp) rfl ?_
  conv => whnf
  repeat' (first | ((apply Wr.eq hw1); (conv => whnf)) | ((apply Wr.eq hw2); (conv => whnf)) | ((first | ((with_reducible apply Nm.mk); focus ((try simp only [lns]); exact rfl)) | ((with_reducible apply Wr.u64); focus omega) | ((with_reducible apply Need.mk); focus omega) | (with_reducible apply Frz.l)) <;> conv => whnf) | fail)
  all_goals (apply Same.int (by rw [e3]; exact and1 (byte_gt (by omega)) (by omega)); (conv => whnf); repeat' (first | with_reducible apply True.intro | ((with_reducible apply Frz.l) <;> conv => whnf) | fail))
theorem k_ref04_ValidPrefix (p : Pfx) : Con Tryz.prog 79 [pfxV p] [] (bool (vPfx p)) [] := by
  by_cases hb : 0 ≤ p.bits ∧ p.bits ≤ 128
  · refine spec_of_run ttok mixed (T0 := 4229135) (ts := [.tmp 2]) 23 rfl rfl rfl rfl (by simp) rfl ?_
    conv => whnf
    repeat' (first | ((first | (with_reducible apply Bif.F) | ((with_reducible apply Bif.dec) <;> intro h <;> (try simp only [lns] at h) <;> (try (exfalso; omega))) | (with_reducible apply Frz.l)) <;> conv => whnf) | fail)
    refine loop_keep ttok mixed (T0 := 4229135) [1] (ι := {k : Nat // k ≤ 128 ∧ p.bits ≤ k ∧ ∀ i : Nat, p.bits ≤ i → i < k → bitI p.ip i = 0})
      (fun k => [(3, int (k.1 : Int))]) (fun _ => [.cells (pfxV p)]) (fun k => 128 - k.1) ⟨p.bits.toNat, by omega, by omega, fun i h1 h2 => by omega⟩ ?_
    conv => whnf
    repeat' (first | ((first | (with_reducible apply Same.rfl) | (apply Same.int; focus (dsimp only; omega)) | (with_reducible apply Frz.l)) <;> conv => whnf) | fail)
    rintro ⟨k, hk, hb2, he⟩
    dsimp only
    conv => whnf
    repeat' (first | ((first | ((with_reducible apply Wr.i64); focus omega) | (apply CallN.mk (k_bit _ k (by omega))) | ((with_reducible first | apply Bif.dec | apply Bif.bne) <;> intro h <;> (try simp only [lns] at h)) | (with_reducible apply Frz.l)) <;> conv => whnf) | fail)
    · apply Same.bool (by
        symm
        rw [← Bool.not_eq_true, vPfx_bits hb]
        exact fun g => h (g k hb2 (by omega)))
      conv => whnf
      repeat' (first | with_reducible apply True.intro | ((with_reducible apply Frz.l) <;> conv => whnf) | fail)
    · (refine ⟨⟨k + 1, by omega, by omega, fun i h1 h2 => by rcases Nat.lt_or_ge i k with h3 | h3; exact he i h1 h3; rw [show i = k by omega]; exact h⟩, ?_⟩; (try dsimp only); conv => whnf); repeat' (first | with_reducible apply True.intro | ((first | ((with_reducible apply Need.mk); focus omega) | (with_reducible apply Same.rfl) | (apply Same.int; focus rfl) | (with_reducible apply Turn.l) | (with_reducible apply Frz.l)) <;> conv => whnf) | fail)
    · apply Same.bool (by symm; rw [vPfx_bits hb]; exact fun i h1 h2 => he i h1 (by omega))
      conv => whnf
      repeat' (first | with_reducible apply True.intro | ((with_reducible apply Frz.l) <;> conv => whnf) | fail)
  · rw [vPfx_out hb]
    refine spec_of_run ttok mixed (T0 := 4229135) (ts := [.tmp 2]) 23 rfl rfl rfl rfl (by simp) rfl ?_
    conv => whnf
    repeat' (first | with_reducible apply True.intro | ((first | (with_reducible first | apply Bif.T | apply Bif.F) | ((with_reducible apply Bif.dec) <;> intro h <;> (try simp only [lns] at h) <;> (try (exfalso; omega))) | (apply Same.bool; focus (with_reducible rfl)) | (with_reducible apply Frz.l)) <;> conv => whnf) | fail)
end Go.Fw
