/- checksum: Extend, CRC, Append, Check. -/
import Derived.Test.YtlkhjalnnciocaaGreatTopC
namespace Go.Fw
open Go.Proofs
set_option maxHeartbeats 8000000
set_option maxRecDepth 8000
theorem xor16 {a b : Nat} (ha : a < 65536) (hb : b < 65536) : IntKind.wrap .u16 ((BitVec.ofInt (IntKind.bits .u16) (a : Int) ^^^ BitVec.ofInt (IntKind.bits .u16) (b : Int)).toNat) = ((a ^^^ b : Nat) : Int) := by
  have w : ∀ y : Nat, y < 65536 → IntKind.wrap .u16 (y : Int) = (y : Int) := fun y hy => by simp [IntKind.wrap, IntKind.bits, IntKind.signed]; omega
  rw [BitVec.toNat_xor, show IntKind.bits .u16 = 16 from rfl, BitVec.ofInt_natCast, BitVec.ofInt_natCast, BitVec.toNat_ofNat, BitVec.toNat_ofNat, Nat.mod_eq_of_lt (by omega), Nat.mod_eq_of_lt (by omega), w _ (Nat.xor_lt_two_pow (n := 16) ha hb)]
theorem and16 {a : Nat} (ha : a < 65536) : IntKind.wrap .u16 ((BitVec.ofInt (IntKind.bits .u16) (a : Int) &&& BitVec.ofInt (IntKind.bits .u16) 1).toNat) = ((a % 2 : Nat) : Int) := by
  have w : ∀ y : Nat, y < 65536 → IntKind.wrap .u16 (y : Int) = (y : Int) := fun y hy => by simp [IntKind.wrap, IntKind.bits, IntKind.signed]; omega
  rw [BitVec.toNat_and, show IntKind.bits .u16 = 16 from rfl, BitVec.ofInt_natCast, show BitVec.ofInt 16 1 = BitVec.ofNat 16 1 from rfl, BitVec.toNat_ofNat, BitVec.toNat_ofNat, Nat.mod_eq_of_lt (by omega), Nat.mod_eq_of_lt (by omega), Nat.and_one_is_mod, w _ (by omega)]
theorem shr16 (a : Nat) : (a : Int).fdiv (2 ^ min (Int.toNat 1) (IntKind.bits .u16)) = ((a >>> 1 : Nat) : Int) := by
  show (a : Int).fdiv 2 = _
  rw [Nat.shiftRight_eq_div_pow, Int.fdiv_eq_ediv_of_nonneg _ (by omega)]
  omega
theorem k_Extend (s : Nat) (b : List UInt8) (t : Tg) (hs : s < 65536) (hb : b.length ≤ 1000000) : Con Tryz.prog 206 [.v (.int .u16 (s : Int)), .fs t 1 (lst b8 b)] [] (.v (.int .u16 (crcF s b : Int))) [] := by
  refine spec_of_run ttok mixed (T0 := 34344915) (ts := [.tmp 4]) 31 rfl rfl rfl rfl (by simp) rfl ?_
  conv => whnf
  repeat' (first | ((first | ((with_reducible apply Nm.mk); focus ((try simp only [lns]); exact rfl)) | (with_reducible apply Frz.l)) <;> conv => whnf) | fail)
  refine loop_keep ttok mixed (T0 := 34344915) [8, 9] (ι := {k : Nat // k ≤ b.length})
    (fun k => [(0, .v (.int .u16 (crcF s (b.take k.1) : Int))), (10, int (k.1 : Int))]) (fun _ => []) (fun k => b.length - k.1) ⟨0, by omega⟩ ?_
  conv => whnf
  repeat' (first | ((first | (with_reducible apply Same.rfl) | (apply Same.int; focus rfl) | (with_reducible apply Frz.l)) <;> conv => whnf) | fail)
  rintro ⟨k, hk⟩
  dsimp only
  conv => whnf
  by_cases hkn : k < b.length
  · have hl := crcF_lt (b.take k) hs
    have e : crcF s (b.take (k + 1)) = zi 8 (crcF s (b.take k) ^^^ (gt b k).toNat) := by
      rw [take_gt hkn]; unfold crcF; rw [List.foldl_append]; rfl
    have hc := (gt b k).toNat_lt
    generalize crcF s (b.take k) = v at *
    generalize hq : v ^^^ (gt b k).toNat = q at *
    have hq16 : q < 65536 := by rw [← hq]; exact Nat.xor_lt_two_pow (n := 16) hl (by omega)
    have ex := xor16 (a := v) (b := (gt b k).toNat) hl (by omega)
    rw [hq] at ex
    repeat' (first | ((first | ((with_reducible apply Nm.mk); focus ((try simp only [lns]); exact rfl)) | ((with_reducible apply Wr.u16); focus omega) | ((with_reducible apply Need.mk); focus (simp only [lns]; omega)) | ((with_reducible apply Elem.lst); focus omega) | ((with_reducible apply Bif.dec) <;> intro h <;> (try simp only [lns] at h) <;> (try (exfalso; omega))) | (with_reducible apply Frz.l)) <;> conv => whnf) | fail)
    refine loop_keep ttok mixed (T0 := 34344915) [8, 9, 10] (ι := {j : Nat // j ≤ 8})
      (fun j => [(0, .v (.int .u16 (zi j.1 q : Int))), (18, int (j.1 : Int))]) (fun _ => []) (fun j => 8 - j.1) ⟨0, by omega⟩ ?_
    conv => whnf
    repeat' (first | ((apply Same.mk (by rw [ex]; rfl)); (conv => whnf)) | ((first | (with_reducible apply Same.rfl) | (apply Same.int; focus rfl) | (with_reducible apply Frz.l)) <;> conv => whnf) | fail)
    rintro ⟨j, hj⟩
    dsimp only
    conv => whnf
    have hz := zi_lt j hq16
    have ez : zi (j + 1) q = zs (zi j q) := by rw [zi_add]; rfl
    have ea := and16 hz
    have eh := shr16 (zi j q)
    have hx : zi j q >>> 1 < 65536 := by rw [Nat.shiftRight_eq_div_pow]; omega
    have ex2 := xor16 (a := zi j q >>> 1) (b := 33800) hx (by decide)
    have e1 : zi j q % 2 = 1 → zs (zi j q) = (zi j q >>> 1) ^^^ 33800 := fun h => by rw [zs, if_pos h]
    have e0 : ¬ zi j q % 2 = 1 → zs (zi j q) = zi j q >>> 1 := fun h => by rw [zs, if_neg h, Nat.xor_zero]
    by_cases hj8 : j < 8
    · repeat' (first | ((first | ((with_reducible apply Wr.i64); focus omega) | ((with_reducible apply Need.mk); focus omega) | ((with_reducible first | apply Bif.dec | apply Bif.beq) <;> intro h <;> (try simp only [lns] at h) <;> (try (exfalso; omega))) | (with_reducible apply Frz.l)) <;> conv => whnf) | fail)
      · rw [ea] at h
        (refine ⟨⟨j + 1, by omega⟩, ?_⟩; (try dsimp only); conv => whnf); repeat' (first | with_reducible apply True.intro | ((apply Same.mk (by rw [ez, e1 (by omega), eh]; exact congrArg (fun z => SV.v (.int .u16 z)) ex2)); (conv => whnf)) | ((first | ((with_reducible apply Need.mk); focus omega) | (with_reducible apply Same.rfl) | (apply Same.int; focus rfl) | (with_reducible apply Turn.l) | (with_reducible apply Frz.l)) <;> conv => whnf) | fail)
      · rw [ea] at h
        (refine ⟨⟨j + 1, by omega⟩, ?_⟩; (try dsimp only); conv => whnf); repeat' (first | with_reducible apply True.intro | ((apply Same.mk (by rw [ez, e0 (by omega), eh])); (conv => whnf)) | ((first | ((with_reducible apply Need.mk); focus omega) | (with_reducible apply Same.rfl) | (apply Same.int; focus rfl) | (with_reducible apply Turn.l) | (with_reducible apply Frz.l)) <;> conv => whnf) | fail)
    · obtain rfl : j = 8 := by omega
      repeat' (first | ((first | ((with_reducible apply Wr.i64); focus omega) | ((with_reducible apply Bif.dec) <;> intro h <;> (try simp only [lns] at h) <;> (try (exfalso; omega))) | (with_reducible apply Frz.l)) <;> conv => whnf) | fail)
      (refine ⟨⟨k + 1, by omega⟩, ?_⟩; (try dsimp only); conv => whnf); repeat' (first | with_reducible apply True.intro | ((apply Same.mk (by rw [e])); (conv => whnf)) | ((first | ((with_reducible apply Need.mk); focus omega) | (with_reducible apply Same.rfl) | (apply Same.int; focus rfl) | (with_reducible apply Turn.l) | (with_reducible apply Frz.l)) <;> conv => whnf) | fail)
  · obtain rfl : k = b.length := by omega
    rw [List.take_length]
    repeat' (first | with_reducible apply True.intro | ((first | ((with_reducible apply Bif.dec) <;> intro h <;> (try simp only [lns] at h) <;> (try (exfalso; omega))) | (with_reducible apply Same.rfl) | (with_reducible apply Frz.l)) <;> conv => whnf) | fail)
theorem k_CRC (b : List UInt8) (t : Tg) (hb : b.length ≤ 1000000) : Con Tryz.prog 175 [.fs t 1 (lst b8 b)] [] (.v (.int .u16 (crcF 0 b : Int))) [] := by
  have c := k_Extend 0 b t (by decide) hb
  refine spec_of_run ttok mixed (T0 := 5) (ts := [.tmp 2]) 5 rfl rfl rfl rfl (by simp) rfl ?_
  conv => whnf
  repeat' (first | with_reducible apply True.intro | ((first | (apply CallN.mk (c)) | (with_reducible apply Same.rfl) | (with_reducible apply Frz.l)) <;> conv => whnf) | fail)
theorem u8lo (x : Nat) : IntKind.wrap .u8 (x : Int) = ((UInt8.ofNat x).toNat : Int) := by
  rw [UInt8.toNat_ofNat']
  simp [IntKind.wrap, IntKind.bits, IntKind.signed]
theorem shr8n (a : Nat) : (a : Int).fdiv (2 ^ min (Int.toNat 8) (IntKind.bits .u16)) = ((a / 256 : Nat) : Int) := by
  show (a : Int).fdiv 256 = _
  rw [Int.fdiv_eq_ediv_of_nonneg _ (by omega)]
  omega
theorem shrlo (a : Nat) : IntKind.wrap .u8 ((a : Int).fdiv (2 ^ min (Int.toNat 8) (IntKind.bits .u16))) = ((UInt8.ofNat (a / 256)).toNat : Int) := by rw [shr8n, u8lo]
theorem ap1 (b : List UInt8) {n : Nat} (h : n = b.length + 2) : (lst b8 (List.replicate n 0)).take (0 + 0) ++ lst b8 b ++ (lst b8 (List.replicate n 0)).drop (0 + 0 + (lst b8 b).length) = lst b8 (b ++ [0, 0]) := by
  subst h
  rw [lst_take, lst_drop, lst_app, lst_app, lst_len, Nat.add_zero, Nat.zero_add, List.take_zero, List.nil_append, List.drop_replicate, Nat.add_sub_cancel_left]
  rfl
theorem ap2 (b : List UInt8) (x y : UInt8) : (lst b8 (b ++ [0, 0])).take (0 + b.length) ++ [b8 x, b8 y] ++ (lst b8 (b ++ [0, 0])).drop (0 + b.length + 2) = lst b8 (b ++ [x, y]) := by
  rw [lst_take, lst_drop, Nat.zero_add, List.take_left' rfl, List.drop_eq_nil_of_le (by simp), lst_nil, List.append_nil, show [b8 x, b8 y] = lst b8 [x, y] from rfl, lst_app]
theorem two_mk (x y : UInt8) : [SV.v (.int .u8 (x.toNat : Int)), SV.v (.int .u8 (y.toNat : Int))] = [b8 x, b8 y] := rfl
theorem k_crcAppend (b : List UInt8) (t : Tg) (hb : b.length ≤ 100000) : Con Tryz.prog 107 [.fs t 1 (lst b8 b)] [] (.ov 1 0 0 (b.length + 2)) [.arr (some (b.length + 2)) 1 (lst b8 (crcA b))] := by
  have c := fun t => k_CRC b t (by omega)
  refine spec_of_run ttok mixed (T0 := 29) (ts := [.tmp 2]) 22 rfl rfl rfl rfl (by simp) rfl ?_
  conv => whnf
  repeat' (first | with_reducible apply True.intro | ((apply Wr.eq (u8lo _)); (conv => whnf)) | ((apply Wr.eq (shrlo _)); (conv => whnf)) | ((with_reducible apply Alt.r); (with_reducible apply Alt.l); (conv => whnf)) | ((apply Nm.mk (ap1 b (by omega))); (conv => whnf)) | ((apply Nm.mk (show ((b.length : Int) + 2).toNat = b.length + 2 by omega)); (conv => whnf)) | ((apply Nm.mk (ap2 b _ _)); (conv => whnf)) | ((first | (with_reducible apply Nm.rep _ (b8_zero0)) | ((with_reducible apply Nm.mk); focus ((try simp only [lns]); exact rfl)) | ((with_reducible apply Wr.i64); focus omega) | ((with_reducible apply Need.mk); focus first | omega | (simp only [lns]; omega) | (refine ⟨?_, ?_, ?_⟩ <;> first | omega | (unfold roomOK; omega) | fail)) | (apply CallN.mk (c _)) | (with_reducible apply Same.rfl) | (apply Same.rfl) | (with_reducible apply Frz.l)) <;> conv => whnf) | fail)
theorem k_Check (b : List UInt8) (t : Tg) (hb : b.length ≤ 100000) : Con Tryz.prog 108 [.fs t 1 (lst b8 b)] [] (bool (crcOK b)) [] := by
  have c := fun t => k_CRC (b.take (b.length - 2)) t (by simp; omega)
  have hl := crcF_lt (b.take (b.length - 2)) (s := 0) (by decide)
  by_cases h2 : 2 ≤ b.length
  · refine spec_of_run ttok mixed (T0 := 541) (ts := [.tmp 2]) 32 rfl rfl rfl rfl (by simp) rfl ?_
    conv => whnf
    repeat' (first | ((apply Nm.mk (nm_pre (m := b.length - 2) (by omega))); (conv => whnf)) | ((apply Wr.eq (u8lo _)); (conv => whnf)) | ((apply Wr.eq (shrlo _)); (conv => whnf)) | ((apply Nm.mk (show ((b.length : Int) - 2).toNat = b.length - 2 by omega)); (conv => whnf)) | ((apply Nm.mk (show ((b.length : Int) - 2 + 1).toNat = b.length - 1 by omega)); (conv => whnf)) | ((first | ((with_reducible apply Nm.mk); focus ((try simp only [lns]); exact rfl)) | ((with_reducible apply Wr.i64); focus omega) | ((with_reducible apply Need.mk); focus first | omega | (simp only [lns]; omega)) | ((with_reducible apply Elem.lst); focus omega) | (apply CallN.mk (c _)) | (with_reducible first | apply Bif.T | apply Bif.F) | ((with_reducible first | apply Bif.dec | apply Bif.beq) <;> intro h <;> (try simp only [lns] at h) <;> (try (exfalso; omega))) | (with_reducible apply Frz.l)) <;> conv => whnf) | fail)
    all_goals
      have m1 := UInt8.toNat_ofNat' (n := crcF 0 (b.take (b.length - 2)))
      have m2 := UInt8.toNat_ofNat' (n := crcF 0 (b.take (b.length - 2)) / 256)
      apply Same.bool (by
        rw [crcOK, Bool.eq_iff_iff]
        simp only [decide_eq_true_eq, Bool.false_eq_true, false_iff, beq_iff_eq]
        omega)
      conv => whnf
      repeat' (first | with_reducible apply True.intro | ((with_reducible apply Frz.l) <;> conv => whnf) | fail)
  · have e : crcOK b = false := by rw [crcOK, decide_eq_false_iff_not]; exact fun h => h2 h.1
    rw [e]
    refine spec_of_run ttok mixed (T0 := 541) (ts := [.tmp 2]) 32 rfl rfl rfl rfl (by simp) rfl ?_
    conv => whnf
    repeat' (first | with_reducible apply True.intro | ((first | ((with_reducible apply Nm.mk); focus ((try simp only [lns]); exact rfl)) | ((with_reducible apply Wr.i64); focus omega) | ((with_reducible apply Bif.dec) <;> intro h <;> (try simp only [lns] at h) <;> (try (exfalso; omega))) | (apply Same.bool; focus (with_reducible rfl)) | (with_reducible apply Frz.l)) <;> conv => whnf) | fail)
end Go.Fw
