/- Guards: accept, Open. -/
import Derived.Test.YtlkhjalnnciocaaGreatTopK
namespace Go.Fw
open Go.Proofs
set_option maxHeartbeats 8000000
set_option maxRecDepth 8000
theorem k_cmpI (x : Int) : Con Tryz.prog 182 [int x, int x] [] (int 0) [] := by
  refine spec_of_run ttok mixed (T0 := 604275) (ts := [.tmp 4]) 20 rfl rfl rfl rfl (by simp) rfl ?_
  conv => whnf
  have c : Con Tryz.prog 209 [int x] [] (bool false) [] := by
    refine spec_of_run ttok mixed (T0 := 5) (ts := [.tmp 2]) 6 rfl rfl rfl rfl (by simp) rfl ?_
    conv => whnf
    repeat' (first | with_reducible apply True.intro | ((apply Same.bool (by simp)); (conv => whnf)) | ((with_reducible apply Frz.l) <;> conv => whnf) | fail)
  repeat' (first | with_reducible apply True.intro | ((first | (apply CallN.mk (c)) | (with_reducible apply Bif.F) | ((with_reducible apply Bif.dec) <;> intro h <;> (try simp only [lns] at h) <;> (try (exfalso; omega))) | (apply Same.int; focus rfl) | (with_reducible apply Frz.l)) <;> conv => whnf) | fail)
theorem k_cmpS (x : Int) : Con Tryz.prog 183 [.v (.int .u16 x), .v (.int .u16 x)] [] (int 0) [] := by
  refine spec_of_run ttok mixed (T0 := 604275) (ts := [.tmp 4]) 20 rfl rfl rfl rfl (by simp) rfl ?_
  conv => whnf
  have c : Con Tryz.prog 210 [.v (.int .u16 x)] [] (bool false) [] := by
    refine spec_of_run ttok mixed (T0 := 5) (ts := [.tmp 2]) 6 rfl rfl rfl rfl (by simp) rfl ?_
    conv => whnf
    repeat' (first | with_reducible apply True.intro | ((apply Same.bool (by simp)); (conv => whnf)) | ((with_reducible apply Frz.l) <;> conv => whnf) | fail)
  repeat' (first | with_reducible apply True.intro | ((first | (apply CallN.mk (c)) | (with_reducible apply Bif.F) | ((with_reducible apply Bif.dec) <;> intro h <;> (try simp only [lns] at h) <;> (try (exfalso; omega))) | (apply Same.int; focus rfl) | (with_reducible apply Frz.l)) <;> conv => whnf) | fail)
theorem k_cmpE (x : Int) : Con Tryz.prog 184 [q64 x, q64 x] [] (int 0) [] := by
  refine spec_of_run ttok mixed (T0 := 604275) (ts := [.tmp 4]) 20 rfl rfl rfl rfl (by simp) rfl ?_
  conv => whnf
  have c : Con Tryz.prog 211 [q64 x] [] (bool false) [] := by
    refine spec_of_run ttok mixed (T0 := 5) (ts := [.tmp 2]) 6 rfl rfl rfl rfl (by simp) rfl ?_
    conv => whnf
    repeat' (first | with_reducible apply True.intro | ((apply Same.bool (by simp)); (conv => whnf)) | ((with_reducible apply Frz.l) <;> conv => whnf) | fail)
  repeat' (first | with_reducible apply True.intro | ((first | (apply CallN.mk (c)) | (with_reducible apply Bif.F) | ((with_reducible apply Bif.dec) <;> intro h <;> (try simp only [lns] at h) <;> (try (exfalso; omega))) | (apply Same.int; focus rfl) | (with_reducible apply Frz.l)) <;> conv => whnf) | fail)
theorem k_cmp8 (x : Int) : Con Tryz.prog 123 [.v (.int .u8 x), .v (.int .u8 x)] [] (int 0) [] := by
  refine spec_of_run ttok mixed (T0 := 604275) (ts := [.tmp 4]) 20 rfl rfl rfl rfl (by simp) rfl ?_
  conv => whnf
  have c : Con Tryz.prog 185 [.v (.int .u8 x)] [] (bool false) [] := by
    refine spec_of_run ttok mixed (T0 := 5) (ts := [.tmp 2]) 6 rfl rfl rfl rfl (by simp) rfl ?_
    conv => whnf
    repeat' (first | with_reducible apply True.intro | ((apply Same.bool (by simp)); (conv => whnf)) | ((with_reducible apply Frz.l) <;> conv => whnf) | fail)
  repeat' (first | with_reducible apply True.intro | ((first | (apply CallN.mk (c)) | (with_reducible apply Bif.F) | ((with_reducible apply Bif.dec) <;> intro h <;> (try simp only [lns] at h) <;> (try (exfalso; omega))) | (apply Same.int; focus rfl) | (with_reducible apply Frz.l)) <;> conv => whnf) | fail)
theorem k_or0 (t : Tg) (n : Nat) (h : n = 2 ∨ n = 3) : Con Tryz.prog 121 [.fs t 1 (ints (List.replicate n 0))] [] (int 0) [] := by
  rcases h with rfl | rfl
  all_goals
    refine spec_of_run ttok mixed (T0 := 17389) (ts := [.tmp 2]) 18 rfl rfl rfl rfl (by simp) rfl ?_
    conv => whnf
    repeat' (first | ((first | ((with_reducible apply Nm.mk); focus ((try simp only [lns]); exact rfl)) | (with_reducible apply Frz.l)) <;> conv => whnf) | fail)
    refine LoopN.unr 5 ttok mixed (T0 := 17389) ?_
    conv => whnf
    repeat' (first | with_reducible apply True.intro | ((apply Elem.mk _ rfl); (conv => whnf)) | ((apply Need.mk (by decide)); (conv => whnf)) | ((apply Same.mk rfl); (conv => whnf)) | ((first | ((with_reducible apply Nm.mk); focus ((try simp only [lns]); exact rfl)) | ((with_reducible apply Wr.i64); focus omega) | ((with_reducible first | apply Bif.dec | apply Bif.bne) <;> intro h <;> (try simp only [lns] at h) <;> (try (exfalso; omega))) | (with_reducible apply Frz.l)) <;> conv => whnf) | fail)
theorem two0 : [SV.v (.int .i64 0), SV.v (.int .i64 0)] = ints (List.replicate 2 0) := rfl
theorem three0 : [SV.v (.int .i64 0), SV.v (.int .i64 0), SV.v (.int .i64 0)] = ints (List.replicate 3 0) := rfl
theorem k_aCmp : Con Tryz.prog 122 [d0V, d0V] [] (int 0) [] := by
  refine spec_of_run ttok mixed (T0 := 31) (ts := [.tmp 4]) 22 rfl rfl rfl rfl (by simp) rfl ?_
  conv => whnf
  repeat' (first | with_reducible apply True.intro | ((first | ((with_reducible apply Nm.mk); focus ((try simp only [lns]); exact rfl)) | ((with_reducible apply Need.mk); focus first | (simp only [lns]; omega) | exact CleanP.nil rfl | kernel_rfl) | (apply CallN.mk (k_cmpI _)) | (apply CallN.mk (k_cmpS _)) | (apply CallN.mk (k_cmpE _)) | (apply CallN.mk (k_or0 _ 3 (by decide))) | (with_reducible apply Same.rfl) | (with_reducible apply GiveN.lend) | (with_reducible apply Frz.l)) <;> conv => whnf) | fail)
theorem k_pCmp (p q : Pr) : Con Tryz.prog 58 [prV p, prV q] [] (int 0) [] := by
  refine spec_of_run ttok mixed (T0 := 31) (ts := [.tmp 4]) 17 rfl rfl rfl rfl (by simp) rfl ?_
  conv => whnf
  repeat' (first | with_reducible apply True.intro | ((first | ((with_reducible apply Nm.mk); focus ((try simp only [lns]); exact rfl)) | ((with_reducible apply Need.mk); focus first | (simp only [lns]; omega) | exact CleanP.nil rfl | kernel_rfl) | (apply CallN.mk (k_aCmp)) | (apply CallN.mk (k_cmp8 _)) | (apply CallN.mk (k_or0 _ 2 (by decide))) | (with_reducible apply Same.rfl) | (with_reducible apply GiveN.lend) | (with_reducible apply Frz.l)) <;> conv => whnf) | fail)
def seenP (p : Pr) (c : Nat) : Bool := decide (c ≤ p.last ∧ (32 ≤ p.last - c ∨ p.win >>> (p.last - c) % 2 = 1))
def accM (p : Pr) (c : Nat) : Pr := if c > p.last then ⟨c, (p.win * 2 ^ min (c - p.last) 32) % 4294967296 ||| 1⟩ else ⟨p.last, p.win ||| (1 <<< (p.last - c))⟩
def pr0V : SV := .agg [adrV adr0, .v (.int .u8 0), .v (.int .u32 0), .v (.int .u32 0)]
theorem or32 {a b : Nat} (ha : a ≤ 4294967295) (hb : b ≤ 4294967295) : IntKind.wrap .u32 ((BitVec.ofInt (IntKind.bits .u32) (a : Int) ||| BitVec.ofInt (IntKind.bits .u32) (b : Int)).toNat) = ((a ||| b : Nat) : Int) := by
  have w : ∀ y : Nat, y ≤ 4294967295 → IntKind.wrap .u32 (y : Int) = (y : Int) := fun y hy => by simp [IntKind.wrap, IntKind.bits, IntKind.signed]; omega
  have h1 := Nat.or_lt_two_pow (n := 32) (x := a) (y := b) (by omega) (by omega)
  rw [BitVec.toNat_or, show IntKind.bits .u32 = 32 from rfl, BitVec.ofInt_natCast, BitVec.ofInt_natCast, BitVec.toNat_ofNat, BitVec.toNat_ofNat, Nat.mod_eq_of_lt (by omega), Nat.mod_eq_of_lt (by omega), w _ (by omega)]
theorem p2I (k : Nat) : (2 : Int) ^ k = ((2 ^ k : Nat) : Int) := by rw [Int.natCast_pow]; rfl
theorem shl32 (a d : Nat) : IntKind.wrap .u32 ((a : Int) * 2 ^ min ((d : Int)).toNat (IntKind.bits .u32)) = ((a * 2 ^ min d 32 % 4294967296 : Nat) : Int) := by
  have : ∀ x : Int, IntKind.wrap .u32 x = x % 4294967296 := fun x => by simp [IntKind.wrap, IntKind.bits, IntKind.signed]
  rw [this, Int.toNat_natCast, show IntKind.bits .u32 = 32 from rfl, p2I, ← Int.natCast_mul]
  omega
theorem shr32 {a d : Nat} (hd : d < 32) : (a : Int).fdiv (2 ^ min ((d : Int)).toNat (IntKind.bits .u32)) = ((a >>> d : Nat) : Int) := by
  rw [Int.toNat_natCast, show IntKind.bits .u32 = 32 from rfl, Nat.min_eq_left (by omega), Nat.shiftRight_eq_div_pow, p2I, Int.fdiv_eq_ediv_of_nonneg _ (Int.natCast_nonneg _), ← Int.natCast_ediv]
theorem k_accept (p : Pr) (c : Nat) (hp : p.win ≤ 4294967295 ∧ p.last ≤ 4294967295) (hc : c ≤ 4294967295) :
    Con Tryz.prog 59 [prV p, .v (.int .u32 (c : Int))] [] (if seenP p c = true then .tup [pr0V, int 13] else .tup [prV (accM p c), int 0]) [] := by
  by_cases hgt : c > p.last
  · have hs : seenP p c = false := by rw [seenP, decide_eq_false_iff_not]; omega
    rw [if_neg (by rw [hs]; decide), accM, if_pos hgt]
    have e2 : ((c : Int) - (p.last : Int)) = ((c - p.last : Nat) : Int) := by omega
    have e1 : IntKind.wrap .u32 ((p.win : Int) * 2 ^ min ((c : Int) - (p.last : Int)).toNat (IntKind.bits .u32)) = ((p.win * 2 ^ min (c - p.last) 32 % 4294967296 : Nat) : Int) := by rw [e2]; exact shl32 _ _
    have e3 := or32 (a := p.win * 2 ^ min (c - p.last) 32 % 4294967296) (b := 1) (by omega) (by decide)
    refine spec_of_run ttok mixed (T0 := 68719477879) (ts := [.cell 4 148, .tmp 5]) 45 rfl rfl rfl rfl (by simp) rfl ?_
    conv => whnf
    repeat' (first | with_reducible apply True.intro | ((with_reducible apply Wr.u32); (focus omega); (conv => whnf)) | ((apply Wr.eq e1); (conv => whnf)) | ((apply Same.int e3); (conv => whnf)) | ((apply Same.mk rfl); (conv => whnf)) | ((first | ((with_reducible apply Need.mk); focus omega) | ((with_reducible apply Bif.dec) <;> intro h <;> (try simp only [lns] at h) <;> (try (exfalso; omega))) | (with_reducible apply Frz.l)) <;> conv => whnf) | fail)
    done
  · have hb : p.last - c ≤ 4294967295 := by omega
    have e2 : ((p.last : Int) - (c : Int)) = ((p.last - c : Nat) : Int) := by omega
    have ew : IntKind.wrap .u32 ((p.last : Int) - (c : Int)) = ((p.last - c : Nat) : Int) := by rw [e2]; simp [IntKind.wrap, IntKind.bits, IntKind.signed]; omega
    by_cases hw : p.last - c < 32
    · have e3 := and32 (a := p.win >>> (p.last - c)) (by rw [Nat.shiftRight_eq_div_pow]; exact Nat.le_trans (Nat.div_le_self _ _) hp.1)
      have e4 : (p.win : Int).fdiv (2 ^ min (p.last - c) (IntKind.bits .u32)) = ((p.win >>> (p.last - c) : Nat) : Int) := shr32 (a := p.win) hw
      have e5 : IntKind.wrap .u32 (1 * 2 ^ min (((p.last - c : Nat) : Int)).toNat (IntKind.bits .u32)) = ((1 <<< (p.last - c) : Nat) : Int) := by
        rw [Int.toNat_natCast, show IntKind.bits .u32 = 32 from rfl, Nat.min_eq_left (by omega), Nat.shiftLeft_eq, p2I, Int.one_mul, Nat.one_mul]
        have h1 : 2 ^ (p.last - c) < 2 ^ 32 := Nat.pow_lt_pow_right (by decide) hw
        generalize 2 ^ (p.last - c) = z at *
        simp [IntKind.wrap, IntKind.bits, IntKind.signed]; omega
      have e6 := or32 (a := p.win) (b := 1 <<< (p.last - c)) hp.1 (by
        rw [Nat.shiftLeft_eq, Nat.one_mul]
        have h1 : 2 ^ (p.last - c) < 2 ^ 32 := Nat.pow_lt_pow_right (by decide) hw
        omega)
      by_cases hbit : p.win >>> (p.last - c) % 2 = 1
      · have hs : seenP p c = true := by rw [seenP, decide_eq_true_eq]; exact ⟨by omega, .inr hbit⟩
        rw [if_pos hs]
        refine spec_of_run ttok mixed (T0 := 68719477879) (ts := [.cell 4 148, .tmp 5]) 45 rfl rfl rfl rfl (by simp) rfl ?_
        conv => whnf
        repeat' (first | with_reducible apply True.intro | ((apply Wr.eq ew); (conv => whnf)) | ((apply Same.mk rfl); (conv => whnf)) | ((first | ((with_reducible apply Need.mk); focus omega) | (with_reducible apply Bif.F) | ((with_reducible first | apply Bif.dec | apply Bif.beq) <;> intro h <;> (try simp only [lns] at h) <;> (try first | (exfalso; omega) | (exact absurd h (by rw [e4, e3]; omega)))) | (with_reducible apply Frz.l)) <;> conv => whnf) | fail)
        done
      · have hs : seenP p c = false := by rw [seenP, decide_eq_false_iff_not]; omega
        rw [if_neg (by rw [hs]; decide), accM, if_neg hgt]
        refine spec_of_run ttok mixed (T0 := 68719477879) (ts := [.cell 4 148, .tmp 5]) 45 rfl rfl rfl rfl (by simp) rfl ?_
        conv => whnf
        repeat' (first | with_reducible apply True.intro | ((apply Wr.eq ew); (conv => whnf)) | ((apply Wr.eq e5); (conv => whnf)) | ((apply Same.int e6); (conv => whnf)) | ((first | ((with_reducible apply Need.mk); focus omega) | (with_reducible apply Bif.F) | ((with_reducible first | apply Bif.dec | apply Bif.beq) <;> intro h <;> (try simp only [lns] at h) <;> (try first | (exfalso; omega) | (exact absurd h (by rw [e4, e3]; omega)))) | (with_reducible apply Same.rfl) | (apply Same.int; focus rfl) | (with_reducible apply Frz.l)) <;> conv => whnf) | fail)
        done
    · have hs : seenP p c = true := by rw [seenP, decide_eq_true_eq]; exact ⟨by omega, .inl (by omega)⟩
      rw [if_pos hs]
      refine spec_of_run ttok mixed (T0 := 68719477879) (ts := [.cell 4 148, .tmp 5]) 45 rfl rfl rfl rfl (by simp) rfl ?_
      conv => whnf
      repeat' (first | with_reducible apply True.intro | ((apply Wr.eq ew); (conv => whnf)) | ((apply Same.mk rfl); (conv => whnf)) | ((first | (with_reducible apply Bif.T) | ((with_reducible apply Bif.dec) <;> intro h <;> (try simp only [lns] at h) <;> (try (exfalso; omega))) | (with_reducible apply Frz.l)) <;> conv => whnf) | fail)
      done
end Go.Fw
