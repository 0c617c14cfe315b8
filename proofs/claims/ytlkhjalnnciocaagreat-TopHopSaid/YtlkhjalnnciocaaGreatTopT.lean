/- checksum: Extend, CRC, Append, Check. -/
import Derived.Test.YtlkhjalnnciocaaGreatTopC

namespace Go.Fw
open Go.Proofs
set_option maxHeartbeats 8000000
set_option maxRecDepth 8000
theorem xor16 {a b : Nat} (ha : a < 65536) (hb : b < 65536) : IntKind.wrap .u16 ((BitVec.ofInt (IntKind.bits .u16) (a : Int) ^^^ BitVec.ofInt (IntKind.bits .u16) (b : Int)).toNat) = ((a ^^^ b : Nat) : Int) := by
  have w : ∀ y : Nat, y < 65536 → IntKind.wrap .u16 (y : Int) = (y : Int) := fun y hy => by simp [IntKind.wrap, IntKind.bits, IntKind.signed]; omega
  rw [BitVec.toNat_xor, show IntKind.bits .u16 = 16 from rfl, BitVec.ofInt_natCast, BitVec.ofInt_natCast, BitVec.toNat_ofNat, BitVec.toNat_ofNat, Nat.mod_eq_of_lt (by omega), Nat.mod_eq_of_lt (by omega), w _ (Nat.xor_lt_two_pow (n := 16) ha hb)]
theorem and16 {a : Nat} (ha : a < 65536) : IntKind.wrap .u16 ((BitVec.ofInt (IntKind.bits .u16) (a : Int) &&& BitVec.ofInt (IntKind.bits .u16) 1).toNat) = ((a % 2 : Nat) : Int) := by
  have w : ∀ y : Nat, y < 65536 → IntKind.wrap .u16 (y : Int) = (y : Int) := fun y hy => by simp [IntKind.wrap, IntKind.bits, IntKind.signed]; omega
  rw [BitVec.toNat_and, show IntKind.bits .u16 = 16 from rfl, BitVec.ofInt_natCast, show BitVec.ofInt 16 1 = BitVec.ofNat 16 1 from rfl, BitVec.toNat_ofNat, BitVec.toNat_ofNat, Nat.mod_eq_of_lt (by omega), Nat.mod_eq_of_lt (by omega), Nat.and_one_is_mod, w _ (by omega)]
theorem shr16 (a : Nat) : (a : Int).fdiv (2 ^ min (Int.toNat 1) (IntKind.bits .u16)) = ((a >>> 1 : Nat) : Int) := by
  show (a : Int).fdiv 2 = _
  rw [Nat.shiftRight_eq_div_pow, Int.fdiv_eq_ediv_of_nonneg _ (by omega)]
  omega
theorem k_Extend (s : Nat) (b : List UInt8) (t : Tg) (hs : s < 65536) (hb : b.length ≤ 1000000) : Con Tryz.prog 206 [.v (.int .u16 (s : Int)), .fs t 1 (lst b8 b)] [] (.v (.int .u16 (crcF s b : Int))) [] := by
  refine spec_of_run ttok mixed (T0 := 34344915) (ts := [.tmp 4]) 31 rfl rfl rfl rfl (by simp) rfl ?_
  conv => whnf
  repeat' (first | ((first | ((with_reducible apply Nm.mk); focus ((try simp only [lns]); exact rfl)) | (with_reducible apply Frz.l)) <;> conv => whnf) | fail)
  refine loop_keep ttok mixed (T0 := 34344915) [8, 9] (ι := {k : Nat // k ≤ b.length})
    (fun k => [(0, .v (.int .u16 (crcF s (b.take k.1) : Int))), (10, int (k.1 : Int))]) (fun _ => []) (fun k => b.length - k.1) ⟨0, by omega⟩ ?_
  conv => whnf
  repeat' (first | ((first | (with_reducible apply Same.rfl) | (apply Same.int; focus rfl) | (with_reducible apply Frz.l)) <;> conv => whnf) | fail)
  rintro ⟨k, hk⟩
  dsimp only
  conv => whnf
  by_cases hkn : k < b.length
  · have hl := crcF_lt (b.take k) hs
    have e : crcF s (b.take (k + 1)) = zi 8 (crcF s (b.take k) ^^^ (gt b k).toNat) := by
      rw [take_gt hkn]; unfold crcF; rw [List.foldl_append]; rfl
    have hc := (gt b k).toNat_lt
    generalize crcF s (b.take k) = v at *
    generalize hq : v ^^^ (gt b k).toNat = q at *
    have hq16 : q < 65536 := by rw [← hq]; exact Nat.xor_lt_two_pow (n := 16) hl (by omega)
    have ex := xor16 (a := v) (b := (gt b k).toNat) hl (by omega)
    rw [hq] at ex
    repeat' (first | ((first | ((with_reducible apply Nm.mk); focus ((try simp only [lns]); exact rfl)) | ((with_reducible apply Wr.u16); focus omega) | ((with_reducible apply Need.mk); focus (simp only [lns]; omega)) | ((with_reducible apply Elem.lst); focus omega) | ((with_reducible apply Bif.dec) <;> intro h <;> (try simp only [lns] at h) <;> (try (exfalso; omega))) | (with_reducible apply Frz.l)) <;> conv => whnf) | fail)
    refine loop_keep ttok mixed (T0 := 34344915) [8, 9, 10] (ι := {j : Nat // j ≤ 8})
      (fun j => [(0, .v (.int .u16 (zi j.1 q : Int))), (18, int (j.1 : Int))]) (fun _ => []) (fun j => 8 - j.1) ⟨0, by omega⟩ ?_
    conv => whnf
    repeat' (first | ((apply Same.mk (by rw [ex]; rfl)); (conv => whnf)) | ((first | (with_reducible apply Same.rfl) | (apply Same.int; focus rfl) | (with_reducible apply Frz.l)) <;> conv => whnf) | fail)
    rintro ⟨j, hj⟩
    dsimp only
    conv => whnf
    have hz := zi_lt j hq16
    have ez : zi (j + 1) q = zs (zi j q) := by rw [zi_add]; rfl
    have ea := and16 hz
    have eh := shr16 (zi j q)
    have hx : zi j q >>> 1 < 65536 := by rw [Nat.shiftRight_eq_div_pow]; omega
    have ex2 := xor16 (a := zi j q >>> 1) (b := 33800) hx (by decide)
    have e1 : zi j q % 2 = 1 → zs (zi j q) = (zi j q >>> 1) ^^^ 33800 := fun h => by rw [zs, if_pos h]
    have e0 : ¬ zi j q % 2 = 1 → zs (zi j q) = zi j q >>> 1 := fun h => by rw [zs, if_neg h, Nat.xor_zero]
    by_cases hj8 : j < 8
    · repeat' (first | ((first | ((with_reducible apply Wr.i64); focus omega) | ((with_reducible apply Need.mk); focus omega) | ((with_reducible first | apply Bif.dec | apply Bif.beq) <;> intro h <;> (try simp only [lns] at h) <;> (try (exfalso; omega))) | (with_reducible apply Frz.l)) <;> conv => whnf) | fail)
      · rw [ea] at h
        (refine ⟨⟨j + 1, by omega⟩, ?_⟩; (try dsimp only); conv => whnf); repeat' (first | with_reducible apply True.intro | ((apply Same.mk (by rw [ez, e1 (by omega), eh]; exact congrArg (fun z => SV.v (.int .u16 z)) ex2)); (conv => whnf)) | ((first | ((with_reducible apply Need.mk); focus omega) | (with_reducible apply Same.rfl) | (apply Same.int; focus rfl) | (with_reducible apply Turn.l) | (with_reducible apply Frz.l)) <;> conv => whnf) | fail)
      · rw [ea] at h
        (refine ⟨⟨j + 1, by omega⟩, ?_⟩; (try dsimp only); conv => whnf); repeat' (first | with_reducible apply True.intro | ((apply Same.mk (by rw [ez, e0 (by omega), eh])); (conv => whnf)) | ((first | ((with_reducible apply Need.mk); focus omega) | (with_reducible apply Same.rfl) | (apply Same.int; focus rfl) | (with_reducible apply Turn.l) | (with_reducible apply Frz.l)) <;> conv => whnf) | fail)
    · obtain rfl : j = 8 := by omega
      repeat' (first | ((first | ((with_reducible apply Wr.i64); focus omega) | ((with_reducible apply Bif.dec) <;> intro h <;> (try simp only [lns] at h) <;> (try (exfalso; omega))) | (with_reducible apply Frz.l)) <;> conv => whnf) | fail)
      (refine ⟨⟨k + 1, by omega⟩, ?_⟩; (try dsimp only); conv => whnf); repeat' (first | with_reducible apply True.intro | ((apply Same.mk (by rw [e])); (conv => whnf)) | ((first | ((with_reducible apply Need.mk); focus omega) | (with_reducible apply Same.rfl) | (apply Same.int; focus rfl) | (with_reducible apply Turn.l) | (with_reducible apply Frz.l)) <;> conv => whnf) | fail)
  · obtain rfl : k = b.length := by omega
    rw [List.take_length]
    repeat' (first | with_reducible apply True.intro | ((first | ((with_reducible apply Bif.dec) <;> intro h <;> (try simp only [lns] at h) <;> (try (exfalso; omega))) | (with_reducible apply Same.rfl) | (with_reducible apply Frz.l)) <;> conv => whnf) | fail)
theorem k_CRC (b : List UInt8) (t : Tg) (hb : b.length ≤ 1000000) : Con Tryz.prog 175 [.fs t 1 (lst b8 b)] [] (.v (.int .u16 (crcF 0 b : Int))) [] := by
  have c := k_Extend 0 b t (by decide) hb
  refine spec_of_run ttok mixed (T0 := 5) (ts := [.tmp 2]) 5 rfl rfl rfl rfl (by simp) rfl ?_
  conv => whnf
  repeat' (first | with_reducible apply True.intro | ((first | (apply CallN.mk (c)) | (with_reducible apply Same.rfl) | (with_reducible apply Frz.l)) <;> conv => whnf) | fail)
theorem u8lo (x : Nat) : IntKind.wrap .u8 (x : Int) = ((UInt8.ofNat x).toNat : Int) := by
  rw [UInt8.toNat_ofNat']
  simp [IntKind.wrap, IntKind.bits, IntKind.signed]
theorem shr8n (a : Nat) : (a : Int).fdiv (2 ^ min (Int.toNat 8) (IntKind.bits .u16)) = ((a / 256 : Nat) : Int) := by
  show (a : Int).fdiv 256 = _
  rw [Int.fdiv_eq_ediv_of_nonneg _ (by omega)]
  omega
theorem shrlo (a : Nat) : IntKind.wrap .u8 ((a : Int).fdiv (2 ^ min (Int.toNat 8) (IntKind.bits .u16))) = ((UInt8.ofNat (a / 256)).toNat : Int) := by rw [shr8n, u8lo]
theorem ap1 (b : List UInt8) {n : Nat} (h : n = b.length + 2) : (lst b8 (List.replicate n 0)).take (0 + 0) ++ lst b8 b ++ (lst b8 (List.replicate n 0)).drop (0 + 0 + (lst b8 b).length) = lst b8 (b ++ [0, 0]) := by
  subst h
  rw [lst_take, lst_drop, lst_app, lst_app, lst_len, Nat.add_zero, Nat.zero_add, List.take_zero, List.nil_append, List.drop_replicate, Nat.add_sub_cancel_left]
  rfl
theorem ap2 (b : List UInt8) (x y : UInt8) : (lst b8 (b ++ [0, 0])).take (0 + b.length) ++ [b8 x, b8 y] ++ (lst b8 (b ++ [0, 0])).drop (0 + b.length + 2) = lst b8 (b ++ [x, y]) := by
  rw [lst_take, lst_drop, Nat.zero_add, List.take_left' rfl, List.drop_eq_nil_of_le (by simp), lst_nil, List.append_nil, show [b8 x, b8 y] = lst b8 [x, y] from rfl, lst_app]
theorem k_crcAppend (b : List UInt8) (t : Tg) (hb : b.length ≤ 100000) : Con Tryz.prog 107 [.fs t 1 (lst b8 b)] [] (.ov 1 0 0 (b.length + 2)) [.arr (some (b.length + 2)) 1 (lst b8 (crcA b))] := by
  have c := fun t => k_CRC b t (by omega)
  refine spec_of_run ttok mixed (T0 := 29) (ts := [.tmp 2]) 22 rfl rfl rfl rfl (by simp) rfl ?_
  conv => whnf
  repeat' (first | with_reducible apply True.intro | ((apply Wr.eq (u8lo _)); (conv => whnf)) | ((apply Wr.eq (shrlo _)); (conv => whnf)) | ((with_reducible apply Alt.r); (with_reducible apply Alt.l); (conv => whnf)) | ((apply Nm.mk (ap1 b (by omega))); (conv => whnf)) | ((apply Nm.mk (show ((b.length : Int) + 2).toNat = b.length + 2 by omega)); (conv => whnf)) | ((apply Nm.mk (ap2 b _ _)); (conv => whnf)) | ((first | (with_reducible apply Nm.rep _ (b8_zero0)) | ((with_reducible apply Nm.mk); focus ((try simp only [lns]); exact rfl)) | ((with_reducible apply Wr.i64); focus omega) | ((with_reducible apply Need.mk); focus first | omega | (simp only [lns]; omega) | (refine ⟨?_, ?_, ?_⟩ <;> first | omega | (unfold roomOK; omega) | fail)) | (apply CallN.mk (c _)) | (with_reducible apply Same.rfl) | (apply Same.rfl) | (with_reducible apply Frz.l)) <;> conv => whnf) | fail)
theorem k_Check (b : List UInt8) (t : Tg) (hb : b.length ≤ 100000) : Con Tryz.prog 108 [.fs t 1 (lst b8 b)] [] (bool (crcOK b)) [] := by
  have c := fun t => k_CRC (b.take (b.length - 2)) t (by simp; omega)
  have hl := crcF_lt (b.take (b.length - 2)) (s := 0) (by decide)
  by_cases h2 : 2 ≤ b.length
  · refine spec_of_run ttok mixed (T0 := 541) (ts := [.tmp 2]) 32 rfl rfl rfl rfl (by simp) rfl ?_
    conv => whnf
    repeat' (first | ((apply Nm.mk (nm_pre (m := b.length - 2) (by omega))); (conv => whnf)) | ((apply Wr.eq (u8lo _)); (conv => whnf)) | ((apply Wr.eq (shrlo _)); (conv => whnf)) | ((apply Nm.mk (show ((b.length : Int) - 2).toNat = b.length - 2 by omega)); (conv => whnf)) | ((apply Nm.mk (show ((b.length : Int) - 2 + 1).toNat = b.length - 1 by omega)); (conv => whnf)) | ((first | ((with_reducible apply Nm.mk); focus ((try simp only [lns]); exact rfl)) | ((with_reducible apply Wr.i64); focus omega) | ((with_reducible apply Need.mk); focus first | omega | (simp only [lns]; omega)) | ((with_reducible apply Elem.lst); focus omega) | (apply CallN.mk (c _)) | (with_reducible first | apply Bif.T | apply Bif.F) | ((with_reducible first | apply Bif.dec | apply Bif.beq) <;> intro h <;> (try simp only [lns] at h) <;> (try (exfalso; omega))) | (with_reducible apply Frz.l)) <;> conv => whnf) | fail)
    all_goals
      have m1 := UInt8.toNat_ofNat' (n := crcF 0 (b.take (b.length - 2)))
      have m2 := UInt8.toNat_ofNat' (n := crcF 0 (b.take (b.length - 2)) / 256)
      apply Same.bool (by
        rw [crcOK, Bool.eq_iff_iff]
        simp only [decide_eq_true_eq, Bool.false_eq_true, false_iff, beq_iff_eq]
        omega)
      conv => whnf
      repeat' (first | with_reducible apply True.intro | ((with_reducible apply Frz.l) <;> conv => whnf) | fail)
  · have e : crcOK b = false := by rw [crcOK, decide_eq_false_iff_not]; exact fun h => h2 h.1
    rw [e]
    refine spec_of_run ttok mixed (T0 := 541) (ts := [.tmp 2]) 32 rfl rfl rfl rfl (by simp) rfl ?_
    conv => whnf
    repeat' (first | with_reducible apply True.intro | ((first | ((with_reducible apply Nm.mk); focus ((try simp only [lns]); exact rfl)) | ((with_reducible apply Wr.i64); focus omega) | ((with_reducible apply Bif.dec) <;> intro h <;> (try simp only [lns] at h) <;> (try (exfalso; omega))) | (apply Same.bool; focus (with_reducible rfl)) | (with_reducible apply Frz.l)) <;> conv => whnf) | fail)
end Go.Fw

/- siphash: what it computes (its numbers are as they come), Tag, Verify. -/
namespace Go.Fw
open Go.Proofs
set_option maxHeartbeats 8000000
set_option maxRecDepth 8000
/-- Bytes in an array. -/
def toI (l : List UInt8) : List Int := l.map fun u => (u.toNat : Int)
theorem toI_len (l : List UInt8) : (toI l).length = l.length := by simp [toI]
theorem toI_rows (l : List UInt8) : bytesRows (toI l) = lst b8 l := by simp [bytesRows, toI, lst, b8]
def keyV (k : List UInt8) : SV := .ba 16 (toI k)
theorem rows_lo {k : List UInt8} : ((bytesRows (toI k)).drop 0).take 8 = lst b8 (k.take 8) := by rw [toI_rows, List.drop_zero, lst_take]
theorem rows_hi {k : List UInt8} (h : k.length = 16) : ((bytesRows (toI k)).drop 8).take 8 = lst b8 (k.drop 8) := by rw [toI_rows, lst_drop, lst_take, List.take_of_length_le (by simp; omega)]
abbrev q64 (x : Int) : SV := .v (.int .u64 x)
def ad (a b : Int) : Int := IntKind.wrap .u64 (a + b)
def xr (a b : Int) : Int := IntKind.wrap .u64 ((BitVec.ofInt (IntKind.bits .u64) a ^^^ BitVec.ofInt (IntKind.bits .u64) b).toNat)
def orB (a b : Int) : Int := IntKind.wrap .u64 ((BitVec.ofInt (IntKind.bits .u64) a ||| BitVec.ofInt (IntKind.bits .u64) b).toNat)
def rotI (x : Int) (k : Nat) : Int := orB (IntKind.wrap .u64 (x * 2 ^ k)) (x.fdiv (2 ^ (64 - k)))
theorem k_Rot (x : Int) (k : Nat) (h : k = 13 ∨ k = 32 ∨ k = 16 ∨ k = 21 ∨ k = 17) : Con Tryz.prog 208 [q64 x, int (k : Int)] [] (q64 (rotI x k)) [] := by
  rcases h with rfl | rfl | rfl | rfl | rfl
  all_goals
    refine spec_of_run ttok mixed (T0 := 51) (ts := [.tmp 4]) 17 rfl rfl rfl rfl (by simp) rfl ?_
    conv => whnf
    repeat' (first | with_reducible apply True.intro | ((with_reducible apply Wr.u64); (focus omega); (conv => whnf)) | ((with_reducible apply Wr.u64); (focus decide); (conv => whnf)) | ((apply Wr.mk); (conv => whnf)) | ((apply Need.mk (by decide)); (conv => whnf)) | ((apply Same.mk rfl); (conv => whnf)) | ((with_reducible apply Frz.l) <;> conv => whnf) | fail)
structure S4 where
  a : Int
  b : Int
  c : Int
  d : Int
def s4V (s : S4) : SV := .agg [q64 s.a, q64 s.b, q64 s.c, q64 s.d]
def rnd (s : S4) : S4 :=
  let a := ad s.a s.b
  let b := xr (rotI s.b 13) a
  let a := rotI a 32
  let c := ad s.c s.d
  let d := xr (rotI s.d 16) c
  let a := ad a d
  let d := xr (rotI d 21) a
  let c := ad c b
  let b := xr (rotI b 17) c
  let c := rotI c 32
  ⟨a, b, c, d⟩
def rnds : Nat → S4 → S4
  | 0, s => s
  | n + 1, s => rnds n (rnd s)
theorem rnds_snoc : ∀ (n : Nat) (s : S4), rnds (n + 1) s = rnd (rnds n s)
  | 0, _ => rfl
  | n + 1, s => by rw [rnds, rnds_snoc]; rfl
theorem k_rounds (s : S4) (n : Nat) (hn : n ≤ 100) : Con Tryz.prog 181 [s4V s, int (n : Int)] [] (s4V (rnds n s)) [] := by
  refine spec_of_run ttok mixed (T0 := 247) (ts := [.cell 4 285]) 82 rfl rfl rfl rfl (by simp) rfl ?_
  conv => whnf
  repeat' (first | ((with_reducible apply Frz.l) <;> conv => whnf) | fail)
  refine loop_keep ttok mixed (T0 := 247) [5] (ι := {k : Nat // k ≤ n})
    (fun k => [(6, int (k.1 : Int)), (2, .pb 0 []), (4, .pb 1 [])]) (fun k => [.cells (s4V (rnds k.1 s)), .cells (s4V ⟨0, 0, 0, 0⟩)]) (fun k => n - k.1) ⟨0, by omega⟩ ?_
  conv => whnf
  repeat' (first | ((apply Same.mk rfl); (conv => whnf)) | ((with_reducible apply Frz.l) <;> conv => whnf) | fail)
  rintro ⟨k, hk⟩
  dsimp only
  conv => whnf
  by_cases hkn : k < n
  · repeat' (first | ((apply Elem.mk _ rfl); (conv => whnf)) | ((with_reducible apply Wr.i64); (focus omega); (conv => whnf)) | ((apply Wr.mk); (conv => whnf)) | ((apply Need.mk rfl); (conv => whnf)) | ((first | ((with_reducible apply Nm.mk); focus ((try simp only [lns]); exact rfl)) | ((with_reducible apply Need.mk); focus omega) | (apply CallN.mk (k_Rot _ 13 (by decide))) | (apply CallN.mk (k_Rot _ 32 (by decide))) | (apply CallN.mk (k_Rot _ 16 (by decide))) | (apply CallN.mk (k_Rot _ 21 (by decide))) | (apply CallN.mk (k_Rot _ 17 (by decide))) | ((with_reducible apply Bif.dec) <;> intro h <;> (try simp only [lns] at h) <;> (try (exfalso; omega))) | (with_reducible apply Frz.l)) <;> conv => whnf) | fail)
    (refine ⟨⟨k + 1, by omega⟩, ?_⟩; (try dsimp only); conv => whnf); repeat' (first | with_reducible apply True.intro | ((apply Same.mk (by rw [rnds_snoc]; simp only [Int.reduceToNat, List.set_cons_zero, List.set_cons_succ]; rfl)); (conv => whnf)) | ((first | ((with_reducible apply Need.mk); focus omega) | (with_reducible apply Same.rfl) | (apply Same.int; focus rfl) | (with_reducible apply Turn.l) | (with_reducible apply Frz.l)) <;> conv => whnf) | fail)
  · obtain rfl : k = n := by omega
    repeat' (first | with_reducible apply True.intro | ((apply Same.mk rfl); (conv => whnf)) | ((first | ((with_reducible apply Bif.dec) <;> intro h <;> (try simp only [lns] at h) <;> (try (exfalso; omega))) | (with_reducible apply Frz.l)) <;> conv => whnf) | fail)
def mixS (s : S4) (m : Int) : S4 := let t := rnds 2 ⟨s.a, s.b, s.c, xr s.d m⟩; ⟨xr t.a m, t.b, t.c, t.d⟩
theorem k_mix (s : S4) (m : Int) : Con Tryz.prog 180 [s4V s, q64 m] [] (s4V (mixS s m)) [] := by
  have c := k_rounds ⟨s.a, s.b, s.c, xr s.d m⟩ 2 (by decide)
  obtain ⟨t, ht⟩ : ∃ t, t = rnds 2 ⟨s.a, s.b, s.c, xr s.d m⟩ := ⟨_, rfl⟩
  have e : mixS s m = ⟨xr t.a m, t.b, t.c, t.d⟩ := by rw [mixS, ← ht]
  rw [e]
  rw [← ht] at c
  refine spec_of_run ttok mixed (T0 := 23) (ts := [.cell 4 285]) 18 rfl rfl rfl rfl (by simp) rfl ?_
  conv => whnf
  repeat' (first | with_reducible apply True.intro | ((apply Elem.mk _ rfl); (conv => whnf)) | ((apply Need.mk rfl); (conv => whnf)) | ((apply Same.mk (by simp only [Int.reduceToNat, List.set_cons_zero, List.set_cons_succ]; rfl)); (conv => whnf)) | ((first | ((with_reducible apply Nm.mk); focus ((try simp only [lns]); exact rfl)) | ((with_reducible apply Need.mk); focus omega) | (apply CallN.mk (c)) | (with_reducible apply Same.rfl) | (with_reducible apply Frz.l)) <;> conv => whnf) | fail)
/-- The number of at most eight bytes, the least significant one first: what is computed. -/
def litA : Int → List UInt8 → Nat → Int
  | n, [], _ => n
  | n, c :: r, i => litA (orB n (IntKind.wrap .u64 (IntKind.wrap .u64 (c.toNat : Int) * 2 ^ min (8 * (i : Int)).toNat (IntKind.bits .u64)))) r (i + 1)
theorem k_little (b : List UInt8) (t : Tg) (hb : b.length ≤ 1000000) : Con Tryz.prog 179 [.fs t 1 (lst b8 b)] [] (q64 (litA 0 b 0)) [] := by
  refine spec_of_run ttok mixed (T0 := 1021) (ts := [.tmp 2]) 22 rfl rfl rfl rfl (by simp) rfl ?_
  conv => whnf
  repeat' (first | ((first | ((with_reducible apply Nm.mk); focus ((try simp only [lns]); exact rfl)) | (with_reducible apply Frz.l)) <;> conv => whnf) | fail)
  refine loop_keep ttok mixed (T0 := 1021) [6, 7] (ι := {p : Int × Nat // p.2 ≤ b.length ∧ litA p.1 (b.drop p.2) p.2 = litA 0 b 0})
    (fun p => [(3, q64 p.1.1), (8, int (p.1.2 : Int))]) (fun _ => []) (fun p => b.length - p.1.2) ⟨(0, 0), by simp, by simp⟩ ?_
  conv => whnf
  repeat' (first | ((first | (with_reducible apply Same.rfl) | (apply Same.int; focus rfl) | (with_reducible apply Frz.l)) <;> conv => whnf) | fail)
  rintro ⟨⟨v, k⟩, hk, he⟩
  dsimp only at hk he ⊢
  conv => whnf
  by_cases hkn : k < b.length
  · rw [drop_gt hkn, litA] at he
    repeat' (first | ((with_reducible apply Wr.i64); (focus omega); (conv => whnf)) | ((apply Wr.mk); (conv => whnf)) | ((first | ((with_reducible apply Nm.mk); focus ((try simp only [lns]); exact rfl)) | ((with_reducible apply Need.mk); focus first | omega | (simp only [lns]; omega)) | ((with_reducible apply Elem.lst); focus omega) | ((with_reducible apply Bif.dec) <;> intro h <;> (try simp only [lns] at h) <;> (try (exfalso; omega))) | (with_reducible apply Frz.l)) <;> conv => whnf) | fail)
    (refine ⟨⟨(_, k + 1), hkn, he⟩, ?_⟩; (try dsimp only); conv => whnf); repeat' (first | with_reducible apply True.intro | ((apply Same.mk rfl); (conv => whnf)) | ((first | ((with_reducible apply Need.mk); focus omega) | (with_reducible apply Turn.l) | (with_reducible apply Frz.l)) <;> conv => whnf) | fail)
  · rw [List.drop_eq_nil_of_le (by omega), litA] at he
    subst he
    repeat' (first | with_reducible apply True.intro | ((first | ((with_reducible apply Bif.dec) <;> intro h <;> (try simp only [lns] at h) <;> (try (exfalso; omega))) | (with_reducible apply Same.rfl) | (with_reducible apply Frz.l)) <;> conv => whnf) | fail)
end Go.Fw

/- siphash.Sum, Tag, Verify. -/
namespace Go.Fw
open Go.Proofs
set_option maxHeartbeats 8000000
set_option maxRecDepth 8000
def runW (b : List UInt8) (s : S4) : Nat → S4
  | 0 => s
  | i + 1 => mixS (runW b s i) (litA 0 ((b.drop (8 * i)).take 8) 0)
def begS (k : List UInt8) : S4 := ⟨xr (litA 0 (k.take 8) 0) 8317987319222330741, xr (litA 0 (k.drop 8) 0) 7237128888997146477, xr (litA 0 (k.take 8) 0) 7816392313619706465, xr (litA 0 (k.drop 8) 0) 8387220255154660723⟩
def lastS (k b : List UInt8) : S4 := mixS (runW b (begS k) (b.length / 8)) (orB (litA 0 (b.drop (8 * (b.length / 8))) 0) (IntKind.wrap .u64 ((b.length : Int) * 2 ^ min (Int.toNat 56) (IntKind.bits .u64))))
def finS (k b : List UInt8) : S4 := let t := lastS k b; rnds 4 ⟨t.a, t.b, xr t.c 255, t.d⟩
def sumS (k b : List UInt8) : Int := let t := finS k b; xr (xr (xr t.a t.b) t.c) t.d
theorem k_Sum (k b : List UInt8) (t : Tg) (hk : k.length = 16) (hb : b.length ≤ 1000000) : Con Tryz.prog 117 [keyV k, .fs t 1 (lst b8 b)] [] (q64 (sumS k b)) [] := by
  have c1 := fun t => k_little (k.take 8) t (by simp; omega)
  have c2 := fun t => k_little (k.drop 8) t (by simp; omega)
  obtain ⟨v0, hv0⟩ : ∃ s, s = begS k := ⟨_, rfl⟩
  unfold begS at hv0
  refine spec_of_run ttok mixed (T0 := 469763063) (ts := [.tmp 4]) 70 rfl rfl rfl rfl (by simp) rfl ?_
  conv => whnf
  repeat' (first | ((apply Nm.mk rows_lo); (conv => whnf)) | ((apply Nm.mk (rows_hi hk)); (conv => whnf)) | ((first | ((with_reducible apply Nm.mk); focus ((try simp only [lns]); exact rfl)) | ((with_reducible apply Need.mk); focus first | omega | exact CleanP.nil rfl | kernel_rfl) | (apply CallN.mk (c1 _)) | (apply CallN.mk (c2 _)) | (with_reducible apply Frz.l)) <;> conv => whnf) | fail)
  have hd : (b.length : Int).tdiv 8 = ((b.length / 8 : Nat) : Int) := by rw [Int.tdiv_eq_ediv_of_nonneg (by omega)]; omega
  repeat' (first | ((apply Wr.eq (show IntKind.wrap .i64 ((b.length : Int).tdiv 8) = ((b.length / 8 : Nat) : Int) by rw [hd, wrap64_id (by omega)])); (conv => whnf)) | ((with_reducible apply Frz.l) <;> conv => whnf) | fail)
  refine loop_keep ttok mixed (T0 := 469763063) [1, 8, 26] (ι := {i : Nat // i ≤ b.length / 8})
    (fun i => [(2, .pb 0 []), (7, .pb 1 []), (27, int (i.1 : Int))]) (fun i => [.cells (keyV k), .cells (s4V (runW b v0 i.1))]) (fun i => b.length / 8 - i.1) ⟨0, by omega⟩ ?_
  conv => whnf
  repeat' (first | ((apply Same.mk (by rw [hv0]; rfl)); (conv => whnf)) | ((first | (with_reducible apply Same.rfl) | (apply Same.int; focus rfl) | (with_reducible apply Frz.l)) <;> conv => whnf) | fail)
  rintro ⟨i, hi⟩
  dsimp only
  conv => whnf
  have c3 := fun t => k_little ((b.drop (8 * i)).take 8) t (by simp; omega)
  have c4 := k_mix (runW b v0 i) (litA 0 ((b.drop (8 * i)).take 8) 0)
  by_cases hin : i < b.length / 8
  · have en : List.take ((8 * (i : Int) + 8).toNat - (8 * (i : Int)).toNat) (List.drop (8 * (i : Int)).toNat (lst b8 b)) = lst b8 ((b.drop (8 * i)).take 8) := by
      rw [show (8 * (i : Int)).toNat = 8 * i by omega, show (8 * (i : Int) + 8).toNat - 8 * i = 8 by omega, lst_drop, lst_take]
    repeat' (first | ((apply Nm.mk en); (conv => whnf)) | ((first | ((with_reducible apply Nm.mk); focus ((try simp only [lns]); exact rfl)) | ((with_reducible apply Wr.i64); focus omega) | ((with_reducible apply Need.mk); focus first | (simp only [lns]; omega) | kernel_rfl) | (apply CallN.mk (c3 _)) | (apply CallN.mk (c4)) | ((with_reducible apply Bif.dec) <;> intro h <;> (try simp only [lns] at h) <;> (try (exfalso; omega))) | (with_reducible apply Frz.l)) <;> conv => whnf) | fail)
    (refine ⟨⟨i + 1, by omega⟩, ?_⟩; (try dsimp only); conv => whnf); repeat' (first | with_reducible apply True.intro | ((first | ((with_reducible apply Need.mk); focus omega) | (with_reducible apply Same.rfl) | (apply Same.int; focus rfl) | (apply Same.rfl) | (with_reducible apply Turn.l) | (with_reducible apply Frz.l)) <;> conv => whnf) | fail)
  · obtain rfl : i = b.length / 8 := by omega
    have c5 := fun t => k_little (b.drop (8 * (b.length / 8))) t (by simp; omega)
    have c6 := k_mix (runW b v0 (b.length / 8)) (orB (litA 0 (b.drop (8 * (b.length / 8))) 0) (IntKind.wrap .u64 ((b.length : Int) * 2 ^ min (Int.toNat 56) (IntKind.bits .u64))))
    obtain ⟨s1, hs1⟩ : ∃ s1, s1 = lastS k b := ⟨_, rfl⟩
    have q1 : lastS k b = mixS (runW b v0 (b.length / 8)) (orB (litA 0 (b.drop (8 * (b.length / 8))) 0) (IntKind.wrap .u64 ((b.length : Int) * 2 ^ min (Int.toNat 56) (IntKind.bits .u64)))) := by rw [hv0]; rfl
    rw [← q1, ← hs1] at c6
    have c7 := k_rounds ⟨s1.a, s1.b, xr s1.c 255, s1.d⟩ 4 (by decide)
    obtain ⟨s2, hs2⟩ : ∃ s2, s2 = finS k b := ⟨_, rfl⟩
    have q2 : finS k b = rnds 4 ⟨s1.a, s1.b, xr s1.c 255, s1.d⟩ := by rw [finS, ← hs1]
    rw [← q2, ← hs2] at c7
    have q3 : sumS k b = xr (xr (xr s2.a s2.b) s2.c) s2.d := by rw [sumS, ← hs2]
    rw [q3]
    repeat' (first | with_reducible apply True.intro | ((apply Nm.mk (nm_tail (n := 8 * (b.length / 8)) (by omega))); (conv => whnf)) | ((apply Elem.mk _ rfl); (conv => whnf)) | ((apply Need.mk rfl); (conv => whnf)) | ((with_reducible apply Wr.i64); (focus omega); (conv => whnf)) | ((with_reducible apply Wr.u64); (focus omega); (conv => whnf)) | ((apply Wr.mk); (conv => whnf)) | ((apply Same.mk rfl); (conv => whnf)) | ((first | ((with_reducible apply Nm.mk); focus ((try simp only [lns]); exact rfl)) | ((with_reducible apply Need.mk); focus first | omega | (simp only [lns]; omega) | kernel_rfl) | (apply CallN.mk (c5 _)) | (apply CallN.mk (c6)) | (apply CallN.mk (c7)) | ((with_reducible apply Bif.dec) <;> intro h <;> (try simp only [lns] at h) <;> (try (exfalso; omega))) | (with_reducible apply Frz.l)) <;> conv => whnf) | fail)
/-- The n least significant bytes of the sum. -/
def tagB (k b : List UInt8) (i : Nat) : UInt8 := UInt8.ofNat (IntKind.wrap .u8 ((sumS k b).fdiv (2 ^ min (8 * (i : Int)).toNat (IntKind.bits .u64)))).toNat
def tagM (k b : List UInt8) : List UInt8 := (List.range 4).map (tagB k b)
theorem tagM_len (k b : List UInt8) : (tagM k b).length = 4 := by simp [tagM]
theorem wrapB (x : Int) : IntKind.wrap .u8 x = ((UInt8.ofNat (IntKind.wrap .u8 x).toNat).toNat : Int) := by
  have h : 0 ≤ IntKind.wrap .u8 x ∧ IntKind.wrap .u8 x ≤ 255 := by simp [IntKind.wrap, IntKind.bits, IntKind.signed]; omega
  rw [UInt8.toNat_ofNat']
  omega
theorem tag_step {k b : List UInt8} {i : Nat} (h : i < 4) : ((tagM k b).take i ++ List.replicate (4 - i) 0).set i (tagB k b i) = (tagM k b).take (i + 1) ++ List.replicate (4 - (i + 1)) 0 := by
  have e : gt (tagM k b) i = tagB k b i := by rw [gt_eq (by rw [tagM_len]; exact h)]; simp [tagM]
  rw [take_gt (by rw [tagM_len]; exact h), e, List.set_append_right _ _ (by simp [tagM_len]; omega), show 4 - i = (4 - (i + 1)) + 1 by omega, List.replicate_succ]
  have e : i - ((tagM k b).take i).length = 0 := by simp [tagM_len]; omega
  rw [e, List.set_cons_zero]; simp
theorem k_Tag (k b : List UInt8) (t : Tg) (hk : k.length = 16) (hb : b.length ≤ 1000000) : Con Tryz.prog 53 [keyV k, .fs t 1 (lst b8 b), int 4] [] (.tup [.ov 1 0 0 4, bool true]) [.arr (some 4) 1 (lst b8 (tagM k b))] := by
  have c := fun t => k_Sum k b t hk hb
  refine spec_of_run ttok mixed (T0 := 29427663) (ts := [.tmp 6, .tmp 7]) 36 rfl rfl rfl rfl (by simp) rfl ?_
  conv => whnf
  repeat' (first | ((first | (with_reducible apply Nm.rep _ (b8_zero0)) | ((with_reducible apply Nm.mk); focus ((try simp only [lns]); exact rfl)) | ((with_reducible apply Need.mk); focus (refine ⟨?_, ?_, ?_⟩ <;> first | omega | (unfold roomOK; omega) | fail)) | (apply CallN.mk (c _)) | (with_reducible apply Bif.F) | ((with_reducible apply Bif.dec) <;> intro h <;> (try simp only [lns] at h) <;> (try (exfalso; omega))) | (with_reducible apply Frz.l)) <;> conv => whnf) | fail)
  refine loop_keep ttok mixed (T0 := 29427663) [8, 22] (ι := {i : Nat // i ≤ 4})
    (fun i => [(9, .ov 1 1 0 4), (23, int (i.1 : Int))]) (fun i => [.cells (keyV k), .arr (some 4) 1 (lst b8 ((tagM k b).take i.1 ++ List.replicate (4 - i.1) 0))]) (fun i => 4 - i.1) ⟨0, by omega⟩ ?_
  conv => whnf
  repeat' (first | ((apply Same.mk rfl); (conv => whnf)) | ((with_reducible apply Frz.l) <;> conv => whnf) | fail)
  rintro ⟨i, hi⟩
  dsimp only
  conv => whnf
  by_cases hin : i < 4
  · repeat' (first | ((with_reducible apply Wr.i64); (focus omega); (conv => whnf)) | ((apply Wr.eq (wrapB _)); (conv => whnf)) | ((first | ((with_reducible apply Nm.mk); focus ((try simp only [lns, tagM_len]); exact rfl)) | ((with_reducible apply Need.mk); focus omega) | ((with_reducible apply Elem.lst); focus (simp only [lns, tagM_len]; omega)) | ((with_reducible apply Bif.dec) <;> intro h <;> (try simp only [lns, tagM_len] at h) <;> (try (exfalso; omega))) | (with_reducible apply Frz.l)) <;> conv => whnf) | fail)
    (refine ⟨⟨i + 1, by omega⟩, ?_⟩; (try dsimp only); conv => whnf); repeat' (first | with_reducible apply True.intro | ((apply Same.mk (by rw [← tag_step hin, ← lst_set]; rfl)); (conv => whnf)) | ((first | ((with_reducible apply Need.mk); focus omega) | (with_reducible apply Same.rfl) | (apply Same.int; focus rfl) | (with_reducible apply Turn.l) | (with_reducible apply Frz.l)) <;> conv => whnf) | fail)
  · obtain rfl : i = 4 := by omega
    repeat' (first | with_reducible apply True.intro | ((apply Same.mk (by rw [List.take_of_length_le (by rw [tagM_len]; omega), Nat.sub_self, List.replicate_zero, List.append_nil])); (conv => whnf)) | ((first | ((with_reducible apply Bif.dec) <;> intro h <;> (try simp only [lns, tagM_len] at h) <;> (try (exfalso; omega))) | (with_reducible apply Same.rfl) | (apply Same.bool; focus (with_reducible rfl)) | (with_reducible apply Frz.l)) <;> conv => whnf) | fail)
theorem k_Verify (k b m : List UInt8) (t1 t2 : Tg) (hk : k.length = 16) (hb : b.length ≤ 1000000) (hm : m.length = 4) : Con Tryz.prog 57 [keyV k, .fs t1 1 (lst b8 b), .fs t2 1 (lst b8 m)] [] (bool (decide (tagM k b = m))) [] := by
  have c := fun t => k_Tag k b t hk hb
  have ce := fun t1 t2 => k_bytesEqual (tagM k b) m t1 t2
  refine spec_of_run ttok mixed (T0 := 463) (ts := [.tmp 6]) 23 rfl rfl rfl rfl (by simp) rfl ?_
  conv => whnf
  repeat' (first | with_reducible apply True.intro | ((apply Nm.mk (nm_all (tagM_len _ _).symm)); (conv => whnf)) | ((first | ((with_reducible apply Nm.mk); focus ((try simp only [lns, hm, tagM_len]); exact rfl)) | ((with_reducible apply Need.mk); focus first | (simp only [lns, hm, tagM_len]; omega) | exact CleanP.nil rfl) | (apply CallN.mk (c _)) | (apply CallN.mk (ce _ _)) | (with_reducible apply Bif.T) | (with_reducible apply Same.rfl) | (with_reducible apply GiveN.lend) | (with_reducible apply Frz.l)) <;> conv => whnf) | fail)
end Go.Fw
