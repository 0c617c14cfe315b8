/- Addresses as bytes; Split, Join, IID of the program; LinkLocal of the reference. -/
import Derived.Test.YtlkhjalnnciocaaGreatTopQ

namespace Go.Fw
open Go.Proofs
set_option maxHeartbeats 4000000
set_option maxRecDepth 4000
/-- The bytes of an address. -/
def ipB (a : IP) : List UInt8 := a.1.map fun x => UInt8.ofNat x.toNat
theorem ipB_len (a : IP) : (ipB a).length = 16 := by simp [ipB, a.2.1]
theorem toI_ipB (a : IP) : toI (ipB a) = a.1 := by
  unfold toI ipB
  rw [List.map_map]
  conv => rhs; rw [← List.map_id a.1]
  apply List.map_congr_left
  intro x hx
  have := a.2.2 x hx
  show ((UInt8.ofNat x.toNat).toNat : Int) = x
  rw [UInt8.toNat_ofNat']; omega
theorem rows_ip (a : IP) : bytesRows a.1 = lst b8 (ipB a) := by rw [← toI_ipB, toI_rows]
theorem toI_byt (l : List UInt8) : ∀ x ∈ toI l, 0 ≤ x ∧ x ≤ 255 := fun x hx => by
  obtain ⟨u, _, rfl⟩ := List.mem_map.1 hx
  have := u.toNat_lt
  omega
def ofB (l : List UInt8) (h : l.length = 16) : IP := ⟨toI l, by rw [toI_len, h], toI_byt l⟩
/-- The numbers of the first and of the last 64 bits. -/
def hiN (a : IP) : Nat := beV ((ipB a).take 8)
def loN (a : IP) : Nat := beV ((ipB a).drop 8)
theorem uint_lo (a : IP) : uintM (ipB a) 0 8 = (hiN a, true) := by
  rw [uintM, if_pos (by simp [ipB_len])]; rfl
theorem uint_hi (a : IP) : uintM (ipB a) 8 8 = (loN a, true) := by
  have h := ipB_len a
  rw [uintM, if_pos (by omega)]
  show (beV (((ipB a).drop 8).take 8), true) = _
  rw [List.take_of_length_le (by simp; omega)]; rfl
theorem nm_ip (a : IP) : List.take 16 (List.drop 0 (bytesRows a.1)) = lst b8 (ipB a) := by
  rw [rows_ip, nm_all (ipB_len a).symm]
theorem k_aSplit (a : IP) : Con Tryz.prog 189 [ipV a] [] (.tup [q64 (hiN a : Int), q64 (loN a : Int)]) [] := by
  have c1 := fun t => k_Uint (ipB a) 0 8 t (by rw [ipB_len]; decide) (by decide) (by decide)
  have c2 := fun t => k_Uint (ipB a) 8 8 t (by rw [ipB_len]; decide) (by decide) (by decide)
  rw [uint_lo] at c1
  rw [uint_hi] at c2
  refine spec_of_run ttok mixed (T0 := 95) (ts := [.tmp 2, .tmp 3]) 20 rfl rfl rfl rfl (by simp) rfl ?_
  conv => whnf
  repeat' (first | with_reducible apply True.intro | ((apply Nm.mk (nm_ip a)); (conv => whnf)) | ((first | ((with_reducible apply Need.mk); focus first | omega | exact CleanP.nil rfl) | (apply CallN.mk (c1 _)) | (apply CallN.mk (c2 _)) | (with_reducible apply Same.rfl) | (with_reducible apply Frz.l)) <;> conv => whnf) | fail)
/-- The first 64 bits of an address, and a number. -/
def ipN (a : IP) (v : Nat) : IP := ofB ((ipB a).take 8 ++ beN 8 v) (by simp [ipB_len, beN_len])
theorem ipN_copy (a : IP) (v : Nat) : SV.ba 16 (a.1.take (Int.toNat 8) ++ (toI (beN 8 v)).take (16 - Int.toNat 8) ++ a.1.drop (Int.toNat 8 + min (16 - Int.toNat 8) (toI (beN 8 v)).length)) = ipV (ipN a v) := by
  have e1 : (toI (beN 8 v)).take 8 = toI (beN 8 v) := List.take_of_length_le (by rw [toI_len, beN_len]; omega)
  have e2 : a.1.drop 16 = [] := List.drop_eq_nil_of_le (by rw [a.2.1]; omega)
  have e3 : a.1.take 8 = toI ((ipB a).take 8) := by rw [← toI_ipB]; simp [toI, ipB]
  have e4 : (toI (beN 8 v)).length = 8 := by rw [toI_len, beN_len]
  rw [e4]
  show SV.ba 16 (a.1.take 8 ++ (toI (beN 8 v)).take 8 ++ a.1.drop 16) = _
  rw [e1, e2, e3, List.append_nil]
  simp [ipV, ipN, ofB, toI]
theorem k_aJoin (p : Pfx) (v : Nat) (hp : vPfx p = true) : Con Tryz.prog 191 [pfxV p, q64 (v : Int)] [] (if p.bits ≤ 64 then .tup [ipV (ipN p.ip v), bool true] else .tup [ipV ip0, bool false]) [] := by
  have c1 := k_ValidPrefix p
  have c2 := k_Append0 v 8 (by decide)
  rw [hp] at c1
  by_cases hb : p.bits ≤ 64
  · rw [if_pos hb]
    refine spec_of_run ttok mixed (T0 := 16503) (ts := [.cell 4 67, .tmp 5]) 23 rfl rfl rfl rfl (by simp) rfl ?_
    conv => whnf
    repeat' (first | with_reducible apply True.intro | ((apply Byt.mk (toI (beN 8 v)) (toI_rows _).symm); (conv => whnf)) | ((apply Same.mk (ipN_copy _ _)); (conv => whnf)) | ((apply Nm.mk (nm_all (beN_len 8 v).symm)); (conv => whnf)) | ((first | ((with_reducible apply Nm.mk); focus ((try simp only [lns, beN_len]); exact rfl)) | ((with_reducible apply Need.mk); focus first | omega | (simp only [lns, beN_len]; omega) | kernel_rfl) | (apply CallN.mk (c1)) | (apply CallN.mk (c2)) | (with_reducible first | apply Bif.T | apply Bif.F) | ((with_reducible apply Bif.dec) <;> intro h <;> (try simp only [lns, beN_len] at h) <;> (try (exfalso; omega))) | (with_reducible apply Bif.not) | (apply Same.bool; focus (with_reducible rfl)) | (with_reducible apply Frz.l)) <;> conv => whnf) | fail)
    done
  · rw [if_neg hb]
    refine spec_of_run ttok mixed (T0 := 16503) (ts := [.cell 4 67, .tmp 5]) 23 rfl rfl rfl rfl (by simp) rfl ?_
    conv => whnf
    repeat' (first | with_reducible apply True.intro | ((apply Same.mk rfl); (conv => whnf)) | ((first | (apply CallN.mk (c1)) | (with_reducible first | apply Bif.T | apply Bif.F) | ((with_reducible apply Bif.dec) <;> intro h <;> (try simp only [lns] at h) <;> (try (exfalso; omega))) | (with_reducible apply Bif.not) | (with_reducible apply Frz.l)) <;> conv => whnf) | fail)
    done
theorem xor64 {a b : Nat} (ha : a ≤ 18446744073709551615) (hb : b ≤ 18446744073709551615) : IntKind.wrap .u64 ((BitVec.ofInt (IntKind.bits .u64) (a : Int) ^^^ BitVec.ofInt (IntKind.bits .u64) (b : Int)).toNat) = ((a ^^^ b : Nat) : Int) := by
  have w : ∀ y : Nat, y < 18446744073709551616 → IntKind.wrap .u64 (y : Int) = (y : Int) := fun y hy => by simp [IntKind.wrap, IntKind.bits, IntKind.signed]; omega
  rw [BitVec.toNat_xor, show IntKind.bits .u64 = 64 from rfl, BitVec.ofInt_natCast, BitVec.ofInt_natCast, BitVec.toNat_ofNat, BitVec.toNat_ofNat, Nat.mod_eq_of_lt (by omega), Nat.mod_eq_of_lt (by omega), w _ (Nat.xor_lt_two_pow (n := 64) (by omega) (by omega))]
def iidL (e : Nat) : Nat := e ^^^ 144115188075855872
theorem k_aIID (e : Nat) (he : e ≤ 18446744073709551615) : Con Tryz.prog 196 [lnkV e] [] (.tup [q64 (iidL e : Int), bool true]) [] := by
  have c := k_lnkValid e
  have x := xor64 (a := e) (b := 144115188075855872) he (by decide)
  refine spec_of_run ttok mixed (T0 := 33615) (ts := [.tmp 2, .tmp 3]) 20 rfl rfl rfl rfl (by simp) rfl ?_
  conv => whnf
  repeat' (first | with_reducible apply True.intro | ((apply Same.int x); (conv => whnf)) | ((first | (apply CallN.mk (c)) | (with_reducible apply Bif.T) | ((with_reducible apply Bif.beq) <;> intro h <;> (try simp only [lns] at h) <;> (try (exfalso; omega))) | (with_reducible apply Bif.not) | (apply Same.bool; focus (with_reducible rfl)) | (with_reducible apply Frz.l)) <;> conv => whnf) | fail)
theorem k_rSome (e : Nat) : Con Tryz.prog 78 [lnkV e] [] (bool true) [] := by
  have := k_refSome (lnk e)
  rwa [show someA (lnk e) = true by simp [someA, vAdr_lnk, lnk, vAdr]] at this
theorem k_rIID (e : Nat) (he : e ≤ 18446744073709551615) : Con Tryz.prog 33 [lnkV e] [] (.tup [q64 (iidL e : Int), bool true]) [] := by
  have c := k_rSome e
  have x := xor64 (a := e) (b := 144115188075855872) he (by decide)
  refine spec_of_run ttok mixed (T0 := 591) (ts := [.tmp 2, .tmp 3]) 17 rfl rfl rfl rfl (by simp) rfl ?_
  conv => whnf
  repeat' (first | with_reducible apply True.intro | ((apply Same.int x); (conv => whnf)) | ((first | (apply CallN.mk (c)) | (with_reducible apply Bif.T) | ((with_reducible apply Bif.beq) <;> intro h <;> (try simp only [lns] at h) <;> (try (exfalso; omega))) | (with_reducible apply Bif.not) | (apply Same.bool; focus (with_reducible rfl)) | (with_reducible apply Frz.l)) <;> conv => whnf) | fail)
theorem be8_toI (v : Nat) : be8 (v : Int) 8 = toI (beN 8 v) := by
  unfold be8 toI beN
  rw [List.map_map]
  apply List.map_congr_left
  intro i hi
  have hi := List.mem_range.1 hi
  rw [if_pos hi]
  show _ = ((UInt8.ofNat (v / 256 ^ (8 - 1 - i))).toNat : Int)
  rw [UInt8.toNat_ofNat', pow2_256]
  norm_cast
theorem ipJ_N (a : IP) (v : Nat) : ipJ a (v : Int) = ipN a v := ip_ext (by
  show a.1.take 8 ++ be8 (v : Int) 8 = toI ((ipB a).take 8 ++ beN 8 v)
  rw [be8_toI]
  have e3 : a.1.take 8 = toI ((ipB a).take 8) := by rw [← toI_ipB]; simp [toI, ipB]
  rw [e3]; simp [toI])
/-- The prefix of the link-local addresses. -/
def llP : Pfx := ⟨⟨[0xfe, 0x80, 0, 0, 0, 0, 0, 0, 0, 0, 0, 0, 0, 0, 0, 0], by decide⟩, 64⟩
theorem llP_v : vPfx llP = true := by decide +kernel
theorem k_LinkLocal (e : Nat) (he : e ≤ 18446744073709551615) : Con Tryz.prog 110 [lnkV e] [] (.tup [ipV (ipN llP.ip (iidL e)), bool true]) [] := by
  have c := k_rIID e he
  have cj := k_Of 18338657682652659712 (iidL e)
  have eq : SV.ba 16 (be8 18338657682652659712 8 ++ be8 (iidL e : Int) 8) = ipV (ipN llP.ip (iidL e)) := by
    rw [← ipJ_N]
    show SV.ba 16 _ = SV.ba 16 (List.take 8 _ ++ be8 _ 8)
    rw [show be8 18338657682652659712 8 = [0xfe, 0x80, 0, 0, 0, 0, 0, 0] by decide]
    rfl
  rw [eq] at cj
  refine spec_of_run ttok mixed (T0 := 4159) (ts := [.cell 2 67, .tmp 3]) 16 rfl rfl rfl rfl (by simp) rfl ?_
  conv => whnf
  repeat' (first | with_reducible apply True.intro | ((first | (apply CallN.mk (c)) | (apply CallN.mk (cj)) | (with_reducible apply Bif.T) | (with_reducible apply Bif.not) | (with_reducible apply Same.rfl) | (apply Same.bool; focus (with_reducible rfl)) | (with_reducible apply Frz.l)) <;> conv => whnf) | fail)
  done
end Go.Fw

/- Packets: Valid, Size, Sum. -/
namespace Go.Fw
open Go.Proofs
set_option maxHeartbeats 8000000
set_option maxRecDepth 8000
structure Pkt where
  cls : UInt8
  flow : Nat
  next : UInt8
  hops : UInt8
  src : IP
  dst : IP
  sp : Nat
  dp : Nat
  pay : List UInt8
def pktS (p : Pkt) (b : SV) : SV := .agg [b8 p.cls, .v (.int .u32 (p.flow : Int)), b8 p.next, b8 p.hops, ipV p.src, ipV p.dst, .v (.int .u16 (p.sp : Int)), .v (.int .u16 (p.dp : Int)), b]
def pktV (p : Pkt) : SV := pktS p (bys p.pay)
def sizeP (p : Pkt) : Nat := (if p.next = 17 then 48 else 40) + p.pay.length
/-- A valid packet. -/
structure VP (p : Pkt) : Prop where
  flow : p.flow ≤ 1048575
  src : gt p.src.1 0 ≠ 255
  size : sizeP p ≤ 1280
  sp : p.sp ≤ 65535
  dp : p.dp ≤ 65535
  port : p.next ≠ 17 → p.sp = 0 ∧ p.dp = 0
theorem next17 {x : UInt8} : ((x.toNat : Int) = 17) ↔ x = 17 := by
  constructor
  · intro h; apply UInt8.toNat_inj.1; show x.toNat = 17; omega
  · intro h; subst h; rfl
theorem k_pSize (p : Pkt) (b : SV) (hb : b = bys p.pay) (hl : p.pay.length ≤ 100000) : Con Tryz.prog 86 [pktS p b] [] (int (sizeP p : Int)) [] := by
  subst hb
  refine spec_of_run ttok mixed (T0 := 39) (ts := [.tmp 2]) 14 rfl rfl rfl rfl (by simp) rfl ?_
  conv => whnf
  repeat' (first | ((first | ((with_reducible apply Nm.mk); focus ((try simp only [lns]); exact rfl)) | ((with_reducible apply Wr.i64); focus omega) | ((with_reducible apply Bif.beq) <;> intro h <;> (try simp only [lns] at h)) | (with_reducible apply Frz.l)) <;> conv => whnf) | fail)
  · have := next17.1 h
    have e : sizeP p = 48 + p.pay.length := by rw [sizeP, if_pos this]
    rw [e]
    repeat' (first | with_reducible apply True.intro | ((first | (apply Same.int; focus rfl) | (with_reducible apply Frz.l)) <;> conv => whnf) | fail)
  · have e : sizeP p = 40 + p.pay.length := by rw [sizeP, if_neg fun g => h (next17.2 g)]
    rw [e]
    repeat' (first | with_reducible apply True.intro | ((first | (apply Same.int; focus rfl) | (with_reducible apply Frz.l)) <;> conv => whnf) | fail)
theorem k_aMulti (a : IP) : Con Tryz.prog 150 [ipV a] [] (bool (decide (gt a.1 0 = 255))) [] := by
  have := a.2.1
  refine spec_of_run ttok mixed (T0 := 7) (ts := [.tmp 2]) 6 rfl rfl rfl rfl (by simp) rfl ?_
  conv => whnf
  repeat' (first | with_reducible apply True.intro | ((apply Same.bool (by rw [Bool.eq_iff_iff, beq_iff_eq, decide_eq_true_eq]; exact Iff.rfl)); (conv => whnf)) | ((first | ((with_reducible apply Nm.mk); focus ((try simp only [lns]); exact rfl)) | ((with_reducible apply Need.mk); focus omega) | (with_reducible apply Frz.l)) <;> conv => whnf) | fail)
theorem k_pValid (p : Pkt) (h : VP p) : Con Tryz.prog 146 [pktV p] [] (bool true) [] := by
  obtain ⟨h1, h2, h3, h4, h5, h6⟩ := h
  have hl : p.pay.length ≤ sizeP p := by unfold sizeP; omega
  have cs := k_pSize p _ rfl (by omega)
  have cm := k_aMulti p.src
  rw [decide_eq_false h2] at cm
  by_cases hn : p.next = 17
  · have hn2 := next17.2 hn
    refine spec_of_run ttok mixed (T0 := 32775) (ts := [.tmp 2]) 29 rfl rfl rfl rfl (by simp) rfl ?_
    conv => whnf
    repeat' (first | with_reducible apply True.intro | ((first | (apply CallN.mk (cs)) | (apply CallN.mk (cm)) | (with_reducible first | apply Bif.T | apply Bif.F) | ((with_reducible first | apply Bif.dec | apply Bif.beq) <;> intro h <;> (try simp only [lns] at h) <;> (try (exfalso; omega))) | (apply Same.bool; focus (with_reducible rfl)) | (with_reducible apply Frz.l)) <;> conv => whnf) | fail)
  · obtain ⟨hsp, hdp⟩ := h6 hn
    have hn2 : ¬ (p.next.toNat : Int) = 17 := fun g => hn (next17.1 g)
    refine spec_of_run ttok mixed (T0 := 32775) (ts := [.tmp 2]) 29 rfl rfl rfl rfl (by simp) rfl ?_
    conv => whnf
    repeat' (first | with_reducible apply True.intro | ((apply Same.bool (by rw [hdp]; rfl)); (conv => whnf)) | ((first | (apply CallN.mk (cs)) | (apply CallN.mk (cm)) | (with_reducible first | apply Bif.T | apply Bif.F) | ((with_reducible first | apply Bif.dec | apply Bif.beq) <;> intro h <;> (try simp only [lns] at h) <;> (try (exfalso; omega))) | (with_reducible apply Frz.l)) <;> conv => whnf) | fail)
end Go.Fw

/- Packets: the checksum, whatever it is. -/
namespace Go.Fw
open Go.Proofs
set_option maxHeartbeats 8000000
set_option maxRecDepth 8000
def w64 (x : Int) : Nat := (x % 18446744073709551616).toNat
theorem wrapU (x : Int) : IntKind.wrap .u64 x = ((w64 x : Nat) : Int) := by
  have : IntKind.wrap .u64 x = x % 18446744073709551616 := by simp [IntKind.wrap, IntKind.bits, IntKind.signed]
  rw [this, w64]; omega
theorem w64_lt (x : Int) : w64 x < 18446744073709551616 := by unfold w64; omega
theorem k_fold (n : Nat) (hn : n < 18446744073709551616) : ∃ r hp', (∃ v : Nat, r = .v (.int .u16 (v : Int)) ∧ hp' = [] ∧ v ≤ 65535) ∧ Con Tryz.prog 187 [q64 (n : Int)] [] r hp' := by
  refine spec_of_runR ttok mixed (T0 := 21) (ts := [.tmp 2]) 12 rfl rfl rfl rfl (by simp) rfl ?_
  conv => whnf
  repeat' (first | ((with_reducible apply Frz.l) <;> conv => whnf) | fail)
  refine loop_keep ttok mixed (T0 := 21) [] (ι := {k : Nat // k < 18446744073709551616})
    (fun k => [(0, q64 (k.1 : Int))]) (fun _ => []) (fun k => k.1) ⟨n, hn⟩ ?_
  conv => whnf
  repeat' (first | ((first | (with_reducible apply Same.rfl) | (with_reducible apply Frz.l)) <;> conv => whnf) | fail)
  rintro ⟨k, hk⟩
  dsimp only
  conv => whnf
  have e1 : (k : Int).tmod 65536 = ((k % 65536 : Nat) : Int) := by rw [Int.tmod_eq_emod_of_nonneg (by omega)]; omega
  have e2 : IntKind.wrap .u64 ((k : Int).tdiv 65536) = ((k / 65536 : Nat) : Int) := by
    rw [Int.tdiv_eq_ediv_of_nonneg (by omega)]
    simp [IntKind.wrap, IntKind.bits, IntKind.signed]; omega
  have e3 : IntKind.wrap .u64 ((k : Int).tmod 65536 + ((k / 65536 : Nat) : Int)) = ((k % 65536 + k / 65536 : Nat) : Int) := by
    rw [e1]; simp [IntKind.wrap, IntKind.bits, IntKind.signed]; omega
  repeat' (first | ((apply Wr.eq e2); (conv => whnf)) | ((apply Wr.eq e3); (conv => whnf)) | ((first | ((with_reducible apply Wr.u16); focus omega) | ((with_reducible apply Need.mk); focus omega) | ((with_reducible apply Bif.dec) <;> intro h <;> (try simp only [lns] at h)) | (with_reducible apply Frz.l)) <;> conv => whnf) | fail)
  · (refine ⟨⟨k % 65536 + k / 65536, by omega⟩, ?_⟩; (try dsimp only); conv => whnf); repeat' (first | with_reducible apply True.intro | ((first | ((with_reducible apply Need.mk); focus omega) | (with_reducible apply Same.rfl) | (with_reducible apply Turn.l) | (with_reducible apply Frz.l)) <;> conv => whnf) | fail)
  · (refine ⟨_, _, ⟨k, rfl, rfl, by omega⟩, ?_⟩; conv => whnf); repeat' (first | with_reducible apply True.intro | ((first | (with_reducible apply Same.rfl) | (with_reducible apply Frz.l)) <;> conv => whnf) | fail)
theorem k_total (L : List (List UInt8)) (hL : L.length ≤ 100) (hl : ∀ l ∈ L, l.length ≤ 100000) : ∃ r hp', (∃ v : Nat, r = q64 (v : Int) ∧ hp' = [] ∧ v < 18446744073709551616) ∧ Con Tryz.prog 188 [.fs .no 1 (lst bys L)] [] r hp' := by
  refine spec_of_runR ttok mixed (T0 := 2596701) (ts := [.tmp 2]) 36 rfl rfl rfl rfl (by simp) rfl ?_
  conv => whnf
  repeat' (first | ((first | ((with_reducible apply Nm.mk); focus ((try simp only [lns]); exact rfl)) | (with_reducible apply Frz.l)) <;> conv => whnf) | fail)
  refine loop_keep ttok mixed (T0 := 2596701) [9, 10] (ι := {p : Nat × Nat × Bool // p.1 ≤ L.length ∧ p.2.1 < 18446744073709551616})
    (fun p => [(11, int (p.1.1 : Int)), (3, q64 (p.1.2.1 : Int)), (4, bool p.1.2.2)]) (fun _ => []) (fun p => L.length - p.1.1) ⟨(0, 0, true), by simp, by simp⟩ ?_
  conv => whnf
  repeat' (first | ((first | (with_reducible apply Same.rfl) | (apply Same.int; focus rfl) | (apply Same.bool; focus (with_reducible rfl)) | (with_reducible apply Frz.l)) <;> conv => whnf) | fail)
  rintro ⟨⟨i, n, hi⟩, h1, h2⟩
  dsimp only at h1 h2 ⊢
  conv => whnf
  by_cases hin : i < L.length
  · have hlen := hl _ (gt_mem hin)
    repeat' (first | ((first | ((with_reducible apply Nm.mk); focus ((try simp only [lns]); exact rfl)) | ((with_reducible apply Need.mk); focus (simp only [lns]; omega)) | ((with_reducible apply Elem.lst); focus omega) | ((with_reducible apply Bif.dec) <;> intro h <;> (try simp only [lns] at h) <;> (try (exfalso; omega))) | (with_reducible apply Frz.l)) <;> conv => whnf) | fail)
    refine loop_keep ttok mixed (T0 := 2596701) [9, 10, 11, 15, 16] (ι := {p : Nat × Nat × Bool // p.1 ≤ (gt L i).length ∧ p.2.1 < 18446744073709551616})
      (fun p => [(17, int (p.1.1 : Int)), (3, q64 (p.1.2.1 : Int)), (4, bool p.1.2.2)]) (fun _ => []) (fun p => (gt L i).length - p.1.1) ⟨(0, n, hi), by simp, h2⟩ ?_
    conv => whnf
    repeat' (first | ((first | (with_reducible apply Same.rfl) | (apply Same.int; focus rfl) | (with_reducible apply Frz.l)) <;> conv => whnf) | fail)
    rintro ⟨⟨j, m, hj⟩, h3, h4⟩
    dsimp only at h3 h4 ⊢
    conv => whnf
    by_cases hjn : j < (gt L i).length
    · repeat' (first | ((with_reducible apply Wr.i64); (focus omega); (conv => whnf)) | ((apply Wr.eq (wrapU _)); (conv => whnf)) | ((first | ((with_reducible apply Nm.mk); focus ((try simp only [lns]); exact rfl)) | ((with_reducible apply Need.mk); focus first | omega | (simp only [lns]; omega)) | ((with_reducible apply Elem.lst); focus omega) | ((with_reducible apply Bif.dec) <;> intro h <;> (try simp only [lns] at h) <;> (try (exfalso; omega))) | ((with_reducible apply Bif.mk) <;> intro h) | (with_reducible apply Frz.l)) <;> conv => whnf) | fail)
      · (refine ⟨⟨(j + 1, w64 ((m : Int) + (w64 ((w64 ((gt (gt L i) j).toNat : Int) : Int) * 2 ^ min (Int.toNat 8) (IntKind.bits .u64)) : Int)), !hj), hjn, by dsimp only; exact w64_lt _⟩, ?_⟩; (try dsimp only); conv => whnf); repeat' (first | with_reducible apply True.intro | ((apply Same.mk rfl); (conv => whnf)) | ((first | ((with_reducible apply Need.mk); focus omega) | (with_reducible apply Turn.l) | (with_reducible apply Frz.l)) <;> conv => whnf) | fail)
      · (refine ⟨⟨(j + 1, w64 ((m : Int) + (w64 ((gt (gt L i) j).toNat : Int) : Int)), !hj), hjn, by dsimp only; exact w64_lt _⟩, ?_⟩; (try dsimp only); conv => whnf); repeat' (first | with_reducible apply True.intro | ((apply Same.mk rfl); (conv => whnf)) | ((first | ((with_reducible apply Need.mk); focus omega) | (with_reducible apply Turn.l) | (with_reducible apply Frz.l)) <;> conv => whnf) | fail)
    · repeat' (first | ((first | ((with_reducible apply Wr.i64); focus omega) | ((with_reducible apply Bif.dec) <;> intro h <;> (try simp only [lns] at h) <;> (try (exfalso; omega))) | (with_reducible apply Frz.l)) <;> conv => whnf) | fail)
      (refine ⟨⟨(i + 1, m, hj), hin, h4⟩, ?_⟩; (try dsimp only); conv => whnf); repeat' (first | with_reducible apply True.intro | ((first | ((with_reducible apply Need.mk); focus omega) | (with_reducible apply Same.rfl) | (apply Same.int; focus rfl) | (with_reducible apply Turn.l) | (with_reducible apply Frz.l)) <;> conv => whnf) | fail)
  · repeat' (first | ((first | ((with_reducible apply Bif.dec) <;> intro h <;> (try simp only [lns] at h) <;> (try (exfalso; omega))) | (with_reducible apply Frz.l)) <;> conv => whnf) | fail)
    (refine ⟨_, _, ⟨n, rfl, rfl, h2⟩, ?_⟩; conv => whnf); repeat' (first | with_reducible apply True.intro | ((first | (with_reducible apply Same.rfl) | (with_reducible apply Frz.l)) <;> conv => whnf) | fail)
theorem k_Internet (L : List (List UInt8)) (hL : L.length ≤ 100) (hl : ∀ l ∈ L, l.length ≤ 100000) : ∃ r hp', (∃ v : Nat, r = .v (.int .u16 (v : Int)) ∧ hp' = [] ∧ v ≤ 65535) ∧ Con Tryz.prog 135 [.fs .no 1 (lst bys L)] [] r hp' := by
  refine spec_of_runR ttok mixed (T0 := 5) (ts := [.tmp 2]) 7 rfl rfl rfl rfl (by simp) rfl ?_
  conv => whnf
  repeat' (first | ((first | ((with_reducible apply Wr.u16); focus omega) | (refine CallN.ex (k_total L hL hl) ?_; rintro _ _ ⟨v, rfl, rfl, hv⟩) | (refine CallN.ex (k_fold _ hv) ?_; rintro _ _ ⟨v2, rfl, rfl, hv2⟩) | (with_reducible apply Frz.l)) <;> conv => whnf) | fail)
  (refine ⟨_, _, ⟨65535 - v2, rfl, rfl, by omega⟩, ?_⟩; conv => whnf); repeat' (first | with_reducible apply True.intro | ((apply Same.mk (by congr 2; omega)); (conv => whnf)) | ((with_reducible apply Frz.l) <;> conv => whnf) | fail)
  done
def numV (v n : Nat) : SV := .agg [q64 (v : Int), int (n : Int)]
theorem k_numbers (b : List UInt8) (v1 n1 v2 n2 v3 n3 v4 n4 : Nat) (t t2 : Tg) (h1 : n1 ≤ 8) (h2 : n2 ≤ 8) (h3 : n3 ≤ 8) (h4 : n4 ≤ 8) (hb : b.length ≤ 10000) :
    Con Tryz.prog 203 [.fs t 1 (lst b8 b), .fs t2 2 [numV v1 n1, numV v2 n2, numV v3 n3, numV v4 n4]] []
      (.ov 1 0 0 ((b ++ beN n1 v1 ++ beN n2 v2 ++ beN n3 v3).length + n4)) [.arr (some ((b ++ beN n1 v1 ++ beN n2 v2 ++ beN n3 v3).length + n4)) 1 (lst b8 (b ++ beN n1 v1 ++ beN n2 v2 ++ beN n3 v3 ++ beN n4 v4))] := by
  have c1 := fun t => k_Append b v1 n1 t h1 (by omega)
  have c2 := fun t => k_Append (b ++ beN n1 v1) v2 n2 t h2 (by simp [beN_len]; omega)
  have c3 := fun t => k_Append (b ++ beN n1 v1 ++ beN n2 v2) v3 n3 t h3 (by simp [beN_len]; omega)
  have c4 := fun t => k_Append (b ++ beN n1 v1 ++ beN n2 v2 ++ beN n3 v3) v4 n4 t h4 (by simp [beN_len]; omega)
  refine spec_of_run ttok mixed (T0 := 2003) (ts := [.tmp 4]) 21 rfl rfl rfl rfl (by simp) rfl ?_
  conv => whnf
  repeat' (first | ((first | ((with_reducible apply Nm.mk); focus ((try simp only [lns]); exact rfl)) | (with_reducible apply Frz.l)) <;> conv => whnf) | fail)
  refine LoopN.unr 6 ttok mixed (T0 := 2003) ?_
  conv => whnf
  repeat' (first | with_reducible apply True.intro | ((apply Elem.mk _ rfl); (conv => whnf)) | ((apply Nm.mk (nm_all (by simp [beN_len] <;> omega))); (conv => whnf)) | ((apply Same.mk rfl); (conv => whnf)) | ((first | ((with_reducible apply Nm.mk); focus ((try simp only [lns, beN_len]); exact rfl)) | ((with_reducible apply Wr.i64); focus omega) | ((with_reducible apply Need.mk); focus first | (simp only [lns, beN_len]; omega) | exact CleanP.lst rfl (fun _ => rfl)) | (apply CallN.mk (c1 _)) | (apply CallN.mk (c2 _)) | (apply CallN.mk (c3 _)) | (apply CallN.mk (c4 _)) | ((with_reducible apply Bif.dec) <;> intro h <;> (try simp only [lns, beN_len] at h) <;> (try (exfalso; omega))) | (with_reducible apply GiveN.lend) | (with_reducible apply Frz.l)) <;> conv => whnf) | fail)
  done
end Go.Fw

/- Packets: encoding, Sum. -/
namespace Go.Fw
open Go.Proofs
set_option maxHeartbeats 8000000
set_option maxRecDepth 8000
def headN (p : Pkt) : Nat := 1610612736 + p.cls.toNat * 1048576 + p.flow
def encB (p : Pkt) (s : Nat) : List UInt8 :=
  ([] ++ beN 4 (headN p) ++ beN 2 (sizeP p - 40) ++ beN 1 p.next.toNat ++ beN 1 p.hops.toNat ++ ipB p.src ++ ipB p.dst) ++ beN 2 p.sp ++ beN 2 p.dp ++ beN 2 (sizeP p - 40) ++ beN 2 s
theorem encB_len (p : Pkt) (s : Nat) : (encB p s).length = 48 := by simp [encB, beN_len, ipB_len]
theorem shl20 (c : UInt8) : IntKind.wrap .u64 ((c.toNat : Int) * 2 ^ min (Int.toNat 20) (IntKind.bits .u64)) = ((c.toNat * 1048576 : Nat) : Int) := by
  have := c.toNat_lt
  show IntKind.wrap .u64 ((c.toNat : Int) * 1048576) = _
  simp [IntKind.wrap, IntKind.bits, IntKind.signed]; omega
theorem k_encoding (p : Pkt) (s : Nat) (h : VP p) (hn : p.next = 17) (hs : s ≤ 65535) :
    Con Tryz.prog 165 [pktV p, .v (.int .u16 (s : Int))] [] (.ov 1 0 0 (48 + p.pay.length)) [.arr none 1 (lst b8 (encB p s ++ p.pay))] := by
  obtain ⟨h1, h2, h3, h4, h5, h6⟩ := h
  have hsz : sizeP p = 48 + p.pay.length := by rw [sizeP, if_pos hn]
  have cs := k_pSize p _ rfl (by omega)
  have hcl := p.cls.toNat_lt
  have hho := p.hops.toNat_lt
  have hn2 : p.next.toNat = 17 := by rw [hn]; rfl
  have n1 := fun t t2 => k_numbers [] (headN p) 4 (sizeP p - 40) 2 p.next.toNat 1 p.hops.toNat 1 t t2 (by decide) (by decide) (by decide) (by decide) (by decide)
  have n2 := fun t t2 => k_numbers ([] ++ beN 4 (headN p) ++ beN 2 (sizeP p - 40) ++ beN 1 p.next.toNat ++ beN 1 p.hops.toNat ++ ipB p.src ++ ipB p.dst) p.sp 2 p.dp 2 (sizeP p - 40) 2 s 2 t t2 (by decide) (by decide) (by decide) (by decide) (by simp [beN_len, ipB_len])
  have e0 : ((sizeP p : Int) - 40) = ((sizeP p - 40 : Nat) : Int) := by omega
  have e1 : IntKind.wrap .u64 ((sizeP p : Int) - 40) = ((sizeP p - 40 : Nat) : Int) := by rw [e0]; simp [IntKind.wrap, IntKind.bits, IntKind.signed]; omega
  refine spec_of_run ttok mixed (T0 := 281474976710903) (ts := [.tmp 4]) 70 rfl rfl rfl rfl (by simp) rfl ?_
  conv => whnf
  repeat' (first | with_reducible apply True.intro | ((with_reducible apply Wr.i64); (focus omega); (conv => whnf)) | ((apply Wr.eq e1); (conv => whnf)) | ((with_reducible apply Wr.u64); (focus omega); (conv => whnf)) | ((apply Wr.eq (shl20 _)); (conv => whnf)) | ((apply Nm.mk (nm_ip _)); (conv => whnf)) | ((refine Nm.mk (nm_all (n := 4 + 2 + 1 + 1 + 16 + 16) ?_) ?_); (focus (simp [beN_len, ipB_len]; done)); (conv => whnf)) | ((with_reducible apply Nm.mk (lst_app _ _)); (conv => whnf)) | ((first | (with_reducible apply Nm.rep _ (rfl)) | ((with_reducible apply Nm.mk); focus ((try simp only [lns, beN_len, ipB_len]); exact rfl)) | ((with_reducible apply Need.mk); focus first | omega | (simp only [lns, beN_len, ipB_len]; omega) | exact CleanP.lst rfl (fun _ => rfl) | kernel_rfl | (unfold roomOK; simp only [lns, beN_len, ipB_len]; omega)) | (apply CallN.mk (cs)) | (apply CallN.mk (n1 _ _)) | (apply CallN.mk (n2 _ _)) | ((with_reducible apply Bif.beq) <;> intro h <;> (try simp only [lns, beN_len, ipB_len] at h) <;> (try (exfalso; omega))) | (with_reducible apply Same.rfl) | (apply Same.rfl) | (with_reducible first | apply Alt.l | apply Cut.l | apply GiveN.lend) | (with_reducible apply Frz.l)) <;> conv => whnf) | fail)
  done
theorem k_udpSum (b : List UInt8) (h1 : 48 ≤ b.length) (h2 : b.length ≤ 2000) : ∃ r hp', (∃ v : Nat, r = .v (.int .u16 (v : Int)) ∧ hp' = [] ∧ v ≤ 65535) ∧ Con Tryz.prog 156 [bys b] [] r hp' := by
  obtain ⟨_, _, ⟨v, rfl, rfl, hv⟩, hI⟩ := k_Internet [(b.drop 8).take 32, (beN 4 (b.length - 40)).take 4, [0, 0, 0, 17], (b.drop 40).take 6, [0, 0], b.drop 48] (by simp) (fun l hl => by simp at hl; rcases hl with rfl | rfl | rfl | rfl | rfl | rfl <;> simp [beN_len] <;> omega)
  have ca := k_Append0 (b.length - 40) 4 (by decide)
  have e0 : ((b.length : Int) - 40) = ((b.length - 40 : Nat) : Int) := by omega
  have e1 : IntKind.wrap .u64 ((b.length : Int) - 40) = ((b.length - 40 : Nat) : Int) := by rw [e0]; simp [IntKind.wrap, IntKind.bits, IntKind.signed]; omega
  refine spec_of_runR ttok mixed (T0 := 33554557) (ts := [.tmp 2]) 27 rfl rfl rfl rfl (by simp) rfl ?_
  conv => whnf
  repeat' (first | ((with_reducible apply Wr.i64); (focus omega); (conv => whnf)) | ((apply Wr.eq e1); (conv => whnf)) | ((apply Nm.mk (nm_mid (n := 8) (m := 32) (by decide) (by decide))); (conv => whnf)) | ((apply Nm.mk (nm_mid (n := 40) (m := 6) (by decide) (by decide))); (conv => whnf)) | ((apply Nm.mk (nm_tail (n := 48) (by decide))); (conv => whnf)) | ((first | ((with_reducible apply Nm.mk); focus ((try simp only [lns, beN_len, ipB_len]); exact rfl)) | ((with_reducible apply Need.mk); focus first | omega | (simp only [lns, beN_len, ipB_len]; omega) | exact CleanP.nil rfl | kernel_rfl) | (apply CallN.mk (ca)) | (apply CallN.le (hI); focus ((repeat' (first | (with_reducible apply ArgLe.nil) | (exact ArgLe.nil) | (exact ArgLe.rfl) | (exact ArgLe.fs) | (exact True.intro) | (apply And.intro) | (apply Wk.arg; repeat' (first | (exact Wk.rfl) | (exact Wk.nilS) | (exact Wk.tag) | (apply Wk.cons) | (apply Wk.lits) | (exact WkL.nil) | (apply WkL.cons) | fail)) | fail)); done)) | ((with_reducible apply Bif.beq) <;> intro h <;> (try simp only [lns, beN_len, ipB_len] at h)) | (with_reducible apply GiveN.lend) | (with_reducible apply Frz.l)) <;> conv => whnf) | fail)
  · (refine ⟨_, _, ⟨65535, rfl, rfl, by decide⟩, ?_⟩; conv => whnf); repeat' (first | with_reducible apply True.intro | ((first | (apply Same.int; focus rfl) | (with_reducible apply Frz.l)) <;> conv => whnf) | fail)
  · (refine ⟨_, _, ⟨v, rfl, rfl, hv⟩, ?_⟩; conv => whnf); repeat' (first | with_reducible apply True.intro | ((first | (with_reducible apply Same.rfl) | (with_reducible apply Frz.l)) <;> conv => whnf) | fail)
theorem k_SumX (p : Pkt) (h : VP p) (hn : p.next = 17) : ∃ r hp', (∃ v : Nat, r = .v (.int .u16 (v : Int)) ∧ hp' = [] ∧ v ≤ 65535) ∧ Con Tryz.prog 87 [pktV p] [] r hp' := by
  have cv := k_pValid p h
  have ce := k_encoding p 0 h hn (by decide)
  have hsz : sizeP p = 48 + p.pay.length := by rw [sizeP, if_pos hn]
  have hs := h.size
  have hn2 := next17.2 hn
  have hl : (encB p 0 ++ p.pay).length = 48 + p.pay.length := by rw [List.length_append, encB_len]
  obtain ⟨_, _, ⟨v, rfl, rfl, hv⟩, hu⟩ := k_udpSum (encB p 0 ++ p.pay) (by omega) (by omega)
  generalize encB p 0 ++ p.pay = b at *
  refine spec_of_runR ttok mixed (T0 := 1031) (ts := [.tmp 2]) 14 rfl rfl rfl rfl (by simp) rfl ?_
  conv => whnf
  repeat' (first | ((apply Nm.mk (nm_all hl.symm)); (conv => whnf)) | ((first | ((with_reducible apply Need.mk); focus first | (simp only [lns, beN_len, ipB_len, hl]; omega) | exact CleanP.nil rfl) | (apply CallN.mk (cv)) | (apply CallN.mk (ce)) | (apply CallN.mk (hu)) | (with_reducible first | apply Bif.T | apply Bif.F) | ((with_reducible apply Bif.bne) <;> intro h <;> (try simp only [lns, beN_len, ipB_len, hl] at h) <;> (try (exfalso; omega))) | (with_reducible apply Bif.not) | (with_reducible apply GiveN.lend) | (with_reducible apply Frz.l)) <;> conv => whnf) | fail)
  (refine ⟨_, _, ⟨v, rfl, rfl, hv⟩, ?_⟩; conv => whnf); repeat' (first | with_reducible apply True.intro | ((first | (with_reducible apply Same.rfl) | (with_reducible apply Frz.l)) <;> conv => whnf) | fail)
theorem k_SumE (p : Pkt) (h : VP p) (hn : p.next = 17) : ∃ v : Nat, v ≤ 65535 ∧ Con Tryz.prog 87 [pktV p] [] (.v (.int .u16 (v : Int))) [] := by
  obtain ⟨_, _, ⟨v, rfl, rfl, hv⟩, hc⟩ := k_SumX p h hn
  exact ⟨v, hv, hc⟩
/-- The checksum, whatever it is. -/
noncomputable def sumP (p : Pkt) : Nat := open Classical in if h : VP p ∧ p.next = 17 then (k_SumE p h.1 h.2).choose else 0
theorem k_pSum (p : Pkt) (h : VP p) (hn : p.next = 17) : sumP p ≤ 65535 ∧ Con Tryz.prog 87 [pktV p] [] (.v (.int .u16 (sumP p : Int))) [] := by
  have e : sumP p = (k_SumE p h hn).choose := by rw [sumP, dif_pos ⟨h, hn⟩]
  rw [e]
  exact (k_SumE p h hn).choose_spec
end Go.Fw
