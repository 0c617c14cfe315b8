/- Addresses as bytes; Split, Join, IID of the program; LinkLocal of the reference. -/
import Derived.Test.YtlkhjalnnciocaaGreatTopQ
namespace Go.Fw
open Go.Proofs
set_option maxHeartbeats 4000000
set_option maxRecDepth 4000
/-- The bytes of an address. -/
def ipB (a : IP) : List UInt8 := a.1.map fun x => UInt8.ofNat x.toNat
theorem ipB_len (a : IP) : (ipB a).length = 16 := by simp [ipB, a.2.1]
theorem toI_ipB (a : IP) : toI (ipB a) = a.1 := by
  unfold toI ipB
  rw [List.map_map]
  conv => rhs; rw [← List.map_id a.1]
  apply List.map_congr_left
  intro x hx
  have := a.2.2 x hx
  show ((UInt8.ofNat x.toNat).toNat : Int) = x
  rw [UInt8.toNat_ofNat']; omega
theorem rows_ip (a : IP) : bytesRows a.1 = lst b8 (ipB a) := by rw [← toI_ipB, toI_rows]
theorem toI_byt (l : List UInt8) : ∀ x ∈ toI l, 0 ≤ x ∧ x ≤ 255 := fun x hx => by
  obtain ⟨u, _, rfl⟩ := List.mem_map.1 hx
  have := u.toNat_lt
  omega
def ofB (l : List UInt8) (h : l.length = 16) : IP := ⟨toI l, by rw [toI_len, h], toI_byt l⟩
theorem toI_inj {a b : List UInt8} (h : toI a = toI b) : a = b := by
  unfold toI at h
  refine List.map_inj_right (f := fun u : UInt8 => (u.toNat : Int)) (fun x y e => ?_) |>.1 h
  exact UInt8.toNat_inj.1 (by omega)
theorem ipB_inj {a b : IP} (h : ipB a = ipB b) : a = b := ip_ext (by rw [← toI_ipB, ← toI_ipB b, h])
theorem ipB_ofB (l : List UInt8) (h : l.length = 16) : ipB (ofB l h) = l := toI_inj (toI_ipB _)
/-- The numbers of the first and of the last 64 bits. -/
def hiN (a : IP) : Nat := beV ((ipB a).take 8)
def loN (a : IP) : Nat := beV ((ipB a).drop 8)
theorem uint_lo (a : IP) : uintM (ipB a) 0 8 = (hiN a, true) := by
  rw [uintM, if_pos (by simp [ipB_len])]; rfl
theorem uint_hi (a : IP) : uintM (ipB a) 8 8 = (loN a, true) := by
  have h := ipB_len a
  rw [uintM, if_pos (by omega)]
  show (beV (((ipB a).drop 8).take 8), true) = _
  rw [List.take_of_length_le (by simp; omega)]; rfl
theorem nm_ip (a : IP) : List.take 16 (List.drop 0 (bytesRows a.1)) = lst b8 (ipB a) := by
  rw [rows_ip, nm_all (ipB_len a).symm]
theorem k_aSplit (a : IP) : Con Tryz.prog 189 [ipV a] [] (.tup [q64 (hiN a : Int), q64 (loN a : Int)]) [] := by
  have c1 := fun t => k_Uint (ipB a) 0 8 t (by rw [ipB_len]; decide) (by decide) (by decide)
  have c2 := fun t => k_Uint (ipB a) 8 8 t (by rw [ipB_len]; decide) (by decide) (by decide)
  rw [uint_lo] at c1
  rw [uint_hi] at c2
  refine spec_of_run ttok mixed (T0 := 95) (ts := [.tmp 2, .tmp 3]) 20 rfl rfl rfl rfl (by simp) rfl ?_
  conv => whnf
  repeat' (first | with_reducible apply True.intro | ((apply Nm.mk (nm_ip a)); (conv => whnf)) | ((first | (with_reducible first | apply Nm.set _ (int_mk _) | apply Nm.snoc _ (int_mk _) | apply Nm.rep _ (int_mk _) | apply Nm.set _ (bool_mk _) | apply Nm.snoc _ (bool_mk _) | apply Nm.rep _ (bool_mk _) | apply Nm.set _ (rfl) | apply Nm.snoc _ (rfl) | apply Nm.rep _ (rfl)) | ((with_reducible apply Nm.mk); focus ((try simp only [lns]); exact rfl)) | ((with_reducible first | apply Wr.i64 | apply Wr.u8 | apply Wr.u16 | apply Wr.u32 | apply Wr.u64); focus omega) | ((with_reducible apply Need.mk); focus first | omega | (simp only [lns]; omega) | exact List.cons_ne_nil _ _ | exact CleanP.nil rfl | exact CleanP.cell rfl rfl | exact CleanP.lst rfl (fun _ => rfl) | exact CleanP.lst2 rfl (fun _ => rfl) (fun _ => rfl) | kernel_rfl | (dsimp only; omega) | (unfold roomOK; simp only [lns]; omega) | (refine ⟨?_, ?_, ?_⟩ <;> first | omega | (unfold roomOK; omega) | fail)) | ((with_reducible apply Elem.lst); focus first | omega | (simp only [lns]; omega)) | (apply CallN.mk (c1 _)) | (apply CallN.mk (c2 _)) | (with_reducible first | apply Bif.T | apply Bif.F) | ((with_reducible first | apply Bif.dec | apply Bif.beq | apply Bif.bne) <;> intro h <;> (try simp only [lns] at h) <;> (try first | (exfalso; omega) | (exact absurd True.intro h))) | (with_reducible first | apply Bif.not | apply Bif.and | apply Bif.or) | ((with_reducible apply Bif.mk) <;> intro h <;> (try first | (exfalso; omega) | (exact absurd True.intro h))) | (with_reducible apply Same.rfl) | (apply Same.int; focus first | rfl | omega | (dsimp only; omega) | (simp only [lns]; omega)) | (apply Same.bool; focus (with_reducible rfl)) | (apply Same.ov; (focus first | rfl | omega | (simp only [lns]; omega)); focus first | rfl | omega | (simp only [lns]; first | done | omega)) | ((with_reducible apply Same.mk); focus first | omega | (simp only [lns]; omega)) | (apply Same.rfl) | (with_reducible first | apply Alt.l | apply OwnN.l | apply Sl3.l | apply Cut.l | apply Turn.l | apply GiveN.lend) | (with_reducible apply Frz.l)) <;> conv => whnf) | fail)
/-- The first 64 bits of an address, and a number. -/
def ipN (a : IP) (v : Nat) : IP := ofB ((ipB a).take 8 ++ beN 8 v) (by simp [ipB_len, beN_len])
theorem ipN_copy (a : IP) (v : Nat) : SV.ba 16 (a.1.take (Int.toNat 8) ++ (toI (beN 8 v)).take (16 - Int.toNat 8) ++ a.1.drop (Int.toNat 8 + min (16 - Int.toNat 8) (toI (beN 8 v)).length)) = ipV (ipN a v) := by
  have e1 : (toI (beN 8 v)).take 8 = toI (beN 8 v) := List.take_of_length_le (by rw [toI_len, beN_len]; omega)
  have e2 : a.1.drop 16 = [] := List.drop_eq_nil_of_le (by rw [a.2.1]; omega)
  have e3 : a.1.take 8 = toI ((ipB a).take 8) := by rw [← toI_ipB]; simp [toI, ipB]
  have e4 : (toI (beN 8 v)).length = 8 := by rw [toI_len, beN_len]
  rw [e4]
  show SV.ba 16 (a.1.take 8 ++ (toI (beN 8 v)).take 8 ++ a.1.drop 16) = _
  rw [e1, e2, e3, List.append_nil]
  simp [ipV, ipN, ofB, toI]
theorem k_aJoin (p : Pfx) (v : Nat) (hp : vPfx p = true) : Con Tryz.prog 191 [pfxV p, q64 (v : Int)] [] (if p.bits ≤ 64 then .tup [ipV (ipN p.ip v), bool true] else .tup [ipV ip0, bool false]) [] := by
  have c1 := k_ValidPrefix p
  have c2 := k_Append0 v 8 (by decide)
  rw [hp] at c1
  by_cases hb : p.bits ≤ 64
  · rw [if_pos hb]
    refine spec_of_run ttok mixed (T0 := 16503) (ts := [.cell 4 67, .tmp 5]) 23 rfl rfl rfl rfl (by simp) rfl ?_
    conv => whnf
    repeat' (first | with_reducible apply True.intro | ((apply Byt.mk (toI (beN 8 v)) (toI_rows _).symm); (conv => whnf)) | ((apply Same.mk (ipN_copy _ _)); (conv => whnf)) | ((apply Nm.mk (nm_all (beN_len 8 v).symm)); (conv => whnf)) | ((first | (with_reducible first | apply Nm.set _ (int_mk _) | apply Nm.snoc _ (int_mk _) | apply Nm.rep _ (int_mk _) | apply Nm.set _ (bool_mk _) | apply Nm.snoc _ (bool_mk _) | apply Nm.rep _ (bool_mk _) | apply Nm.set _ (rfl) | apply Nm.snoc _ (rfl) | apply Nm.rep _ (rfl)) | ((with_reducible apply Nm.mk); focus ((try simp only [lns, beN_len]); exact rfl)) | ((with_reducible first | apply Wr.i64 | apply Wr.u8 | apply Wr.u16 | apply Wr.u32 | apply Wr.u64); focus omega) | ((with_reducible apply Need.mk); focus first | omega | (simp only [lns, beN_len]; omega) | exact List.cons_ne_nil _ _ | exact CleanP.nil rfl | exact CleanP.cell rfl rfl | exact CleanP.lst rfl (fun _ => rfl) | exact CleanP.lst2 rfl (fun _ => rfl) (fun _ => rfl) | kernel_rfl | (dsimp only; omega) | (unfold roomOK; simp only [lns, beN_len]; omega) | (refine ⟨?_, ?_, ?_⟩ <;> first | omega | (unfold roomOK; omega) | fail)) | ((with_reducible apply Elem.lst); focus first | omega | (simp only [lns, beN_len]; omega)) | (apply CallN.mk (c1)) | (apply CallN.mk (c2)) | (with_reducible first | apply Bif.T | apply Bif.F) | ((with_reducible first | apply Bif.dec | apply Bif.beq | apply Bif.bne) <;> intro h <;> (try simp only [lns, beN_len] at h) <;> (try first | (exfalso; omega) | (exact absurd True.intro h))) | (with_reducible first | apply Bif.not | apply Bif.and | apply Bif.or) | ((with_reducible apply Bif.mk) <;> intro h <;> (try first | (exfalso; omega) | (exact absurd True.intro h))) | (with_reducible apply Same.rfl) | (apply Same.int; focus first | rfl | omega | (dsimp only; omega) | (simp only [lns, beN_len]; omega)) | (apply Same.bool; focus (with_reducible rfl)) | (apply Same.ov; (focus first | rfl | omega | (simp only [lns, beN_len]; omega)); focus first | rfl | omega | (simp only [lns, beN_len]; first | done | omega)) | ((with_reducible apply Same.mk); focus first | omega | (simp only [lns, beN_len]; omega)) | (apply Same.rfl) | (with_reducible first | apply Alt.l | apply OwnN.l | apply Sl3.l | apply Cut.l | apply Turn.l | apply GiveN.lend) | (with_reducible apply Frz.l)) <;> conv => whnf) | fail)
    done
  · rw [if_neg hb]
    refine spec_of_run ttok mixed (T0 := 16503) (ts := [.cell 4 67, .tmp 5]) 23 rfl rfl rfl rfl (by simp) rfl ?_
    conv => whnf
    repeat' (first | with_reducible apply True.intro | ((apply Same.mk rfl); (conv => whnf)) | ((first | (with_reducible first | apply Nm.set _ (int_mk _) | apply Nm.snoc _ (int_mk _) | apply Nm.rep _ (int_mk _) | apply Nm.set _ (bool_mk _) | apply Nm.snoc _ (bool_mk _) | apply Nm.rep _ (bool_mk _) | apply Nm.set _ (rfl) | apply Nm.snoc _ (rfl) | apply Nm.rep _ (rfl)) | ((with_reducible apply Nm.mk); focus ((try simp only [lns]); exact rfl)) | ((with_reducible first | apply Wr.i64 | apply Wr.u8 | apply Wr.u16 | apply Wr.u32 | apply Wr.u64); focus omega) | ((with_reducible apply Need.mk); focus first | omega | (simp only [lns]; omega) | exact List.cons_ne_nil _ _ | exact CleanP.nil rfl | exact CleanP.cell rfl rfl | exact CleanP.lst rfl (fun _ => rfl) | exact CleanP.lst2 rfl (fun _ => rfl) (fun _ => rfl) | kernel_rfl | (dsimp only; omega) | (unfold roomOK; simp only [lns]; omega) | (refine ⟨?_, ?_, ?_⟩ <;> first | omega | (unfold roomOK; omega) | fail)) | ((with_reducible apply Elem.lst); focus first | omega | (simp only [lns]; omega)) | (apply CallN.mk (c1)) | (apply CallN.mk (c2)) | (with_reducible first | apply Bif.T | apply Bif.F) | ((with_reducible first | apply Bif.dec | apply Bif.beq | apply Bif.bne) <;> intro h <;> (try simp only [lns] at h) <;> (try first | (exfalso; omega) | (exact absurd True.intro h))) | (with_reducible first | apply Bif.not | apply Bif.and | apply Bif.or) | ((with_reducible apply Bif.mk) <;> intro h <;> (try first | (exfalso; omega) | (exact absurd True.intro h))) | (with_reducible apply Same.rfl) | (apply Same.int; focus first | rfl | omega | (dsimp only; omega) | (simp only [lns]; omega)) | (apply Same.bool; focus (with_reducible rfl)) | (apply Same.ov; (focus first | rfl | omega | (simp only [lns]; omega)); focus first | rfl | omega | (simp only [lns]; first | done | omega)) | ((with_reducible apply Same.mk); focus first | omega | (simp only [lns]; omega)) | (apply Same.rfl) | (with_reducible first | apply Alt.l | apply OwnN.l | apply Sl3.l | apply Cut.l | apply Turn.l | apply GiveN.lend) | (with_reducible apply Frz.l)) <;> conv => whnf) | fail)
    done
theorem xor64 {a b : Nat} (ha : a ≤ 18446744073709551615) (hb : b ≤ 18446744073709551615) : IntKind.wrap .u64 ((BitVec.ofInt (IntKind.bits .u64) (a : Int) ^^^ BitVec.ofInt (IntKind.bits .u64) (b : Int)).toNat) = ((a ^^^ b : Nat) : Int) := by
  have w : ∀ y : Nat, y < 18446744073709551616 → IntKind.wrap .u64 (y : Int) = (y : Int) := fun y hy => by simp [IntKind.wrap, IntKind.bits, IntKind.signed]; omega
  rw [BitVec.toNat_xor, show IntKind.bits .u64 = 64 from rfl, BitVec.ofInt_natCast, BitVec.ofInt_natCast, BitVec.toNat_ofNat, BitVec.toNat_ofNat, Nat.mod_eq_of_lt (by omega), Nat.mod_eq_of_lt (by omega), w _ (Nat.xor_lt_two_pow (n := 64) (by omega) (by omega))]
def iidL (e : Nat) : Nat := e ^^^ 144115188075855872
theorem k_aIID (e : Nat) (he : e ≤ 18446744073709551615) : Con Tryz.prog 196 [lnkV e] [] (.tup [q64 (iidL e : Int), bool true]) [] := by
  have c := k_lnkValid e
  have x := xor64 (a := e) (b := 144115188075855872) he (by decide)
  refine spec_of_run ttok mixed (T0 := 33615) (ts := [.tmp 2, .tmp 3]) 20 rfl rfl rfl rfl (by simp) rfl ?_
  conv => whnf
  repeat' (first | with_reducible apply True.intro | ((apply Same.int x); (conv => whnf)) | ((first | (with_reducible first | apply Nm.set _ (int_mk _) | apply Nm.snoc _ (int_mk _) | apply Nm.rep _ (int_mk _) | apply Nm.set _ (bool_mk _) | apply Nm.snoc _ (bool_mk _) | apply Nm.rep _ (bool_mk _) | apply Nm.set _ (rfl) | apply Nm.snoc _ (rfl) | apply Nm.rep _ (rfl)) | ((with_reducible apply Nm.mk); focus ((try simp only [lns]); exact rfl)) | ((with_reducible first | apply Wr.i64 | apply Wr.u8 | apply Wr.u16 | apply Wr.u32 | apply Wr.u64); focus omega) | ((with_reducible apply Need.mk); focus first | omega | (simp only [lns]; omega) | exact List.cons_ne_nil _ _ | exact CleanP.nil rfl | exact CleanP.cell rfl rfl | exact CleanP.lst rfl (fun _ => rfl) | exact CleanP.lst2 rfl (fun _ => rfl) (fun _ => rfl) | kernel_rfl | (dsimp only; omega) | (unfold roomOK; simp only [lns]; omega) | (refine ⟨?_, ?_, ?_⟩ <;> first | omega | (unfold roomOK; omega) | fail)) | ((with_reducible apply Elem.lst); focus first | omega | (simp only [lns]; omega)) | (apply CallN.mk (c)) | (with_reducible first | apply Bif.T | apply Bif.F) | ((with_reducible first | apply Bif.dec | apply Bif.beq | apply Bif.bne) <;> intro h <;> (try simp only [lns] at h) <;> (try first | (exfalso; omega) | (exact absurd True.intro h))) | (with_reducible first | apply Bif.not | apply Bif.and | apply Bif.or) | ((with_reducible apply Bif.mk) <;> intro h <;> (try first | (exfalso; omega) | (exact absurd True.intro h))) | (with_reducible apply Same.rfl) | (apply Same.int; focus first | rfl | omega | (dsimp only; omega) | (simp only [lns]; omega)) | (apply Same.bool; focus (with_reducible rfl)) | (apply Same.ov; (focus first | rfl | omega | (simp only [lns]; omega)); focus first | rfl | omega | (simp only [lns]; first | done | omega)) | ((with_reducible apply Same.mk); focus first | omega | (simp only [lns]; omega)) | (apply Same.rfl) | (with_reducible first | apply Alt.l | apply OwnN.l | apply Sl3.l | apply Cut.l | apply Turn.l | apply GiveN.lend) | (with_reducible apply Frz.l)) <;> conv => whnf) | fail)
theorem k_rSome (e : Nat) : Con Tryz.prog 78 [lnkV e] [] (bool true) [] := by
  have := k_refSome (lnk e)
  rwa [show someA (lnk e) = true by simp [someA, vAdr_lnk, lnk, vAdr]] at this
theorem k_rIID (e : Nat) (he : e ≤ 18446744073709551615) : Con Tryz.prog 33 [lnkV e] [] (.tup [q64 (iidL e : Int), bool true]) [] := by
  have c := k_rSome e
  have x := xor64 (a := e) (b := 144115188075855872) he (by decide)
  refine spec_of_run ttok mixed (T0 := 591) (ts := [.tmp 2, .tmp 3]) 17 rfl rfl rfl rfl (by simp) rfl ?_
  conv => whnf
  repeat' (first | with_reducible apply True.intro | ((apply Same.int x); (conv => whnf)) | ((first | (with_reducible first | apply Nm.set _ (int_mk _) | apply Nm.snoc _ (int_mk _) | apply Nm.rep _ (int_mk _) | apply Nm.set _ (bool_mk _) | apply Nm.snoc _ (bool_mk _) | apply Nm.rep _ (bool_mk _) | apply Nm.set _ (rfl) | apply Nm.snoc _ (rfl) | apply Nm.rep _ (rfl)) | ((with_reducible apply Nm.mk); focus ((try simp only [lns]); exact rfl)) | ((with_reducible first | apply Wr.i64 | apply Wr.u8 | apply Wr.u16 | apply Wr.u32 | apply Wr.u64); focus omega) | ((with_reducible apply Need.mk); focus first | omega | (simp only [lns]; omega) | exact List.cons_ne_nil _ _ | exact CleanP.nil rfl | exact CleanP.cell rfl rfl | exact CleanP.lst rfl (fun _ => rfl) | exact CleanP.lst2 rfl (fun _ => rfl) (fun _ => rfl) | kernel_rfl | (dsimp only; omega) | (unfold roomOK; simp only [lns]; omega) | (refine ⟨?_, ?_, ?_⟩ <;> first | omega | (unfold roomOK; omega) | fail)) | ((with_reducible apply Elem.lst); focus first | omega | (simp only [lns]; omega)) | (apply CallN.mk (c)) | (with_reducible first | apply Bif.T | apply Bif.F) | ((with_reducible first | apply Bif.dec | apply Bif.beq | apply Bif.bne) <;> intro h <;> (try simp only [lns] at h) <;> (try first | (exfalso; omega) | (exact absurd True.intro h))) | (with_reducible first | apply Bif.not | apply Bif.and | apply Bif.or) | ((with_reducible apply Bif.mk) <;> intro h <;> (try first | (exfalso; omega) | (exact absurd True.intro h))) | (with_reducible apply Same.rfl) | (apply Same.int; focus first | rfl | omega | (dsimp only; omega) | (simp only [lns]; omega)) | (apply Same.bool; focus (with_reducible rfl)) | (apply Same.ov; (focus first | rfl | omega | (simp only [lns]; omega)); focus first | rfl | omega | (simp only [lns]; first | done | omega)) | ((with_reducible apply Same.mk); focus first | omega | (simp only [lns]; omega)) | (apply Same.rfl) | (with_reducible first | apply Alt.l | apply OwnN.l | apply Sl3.l | apply Cut.l | apply Turn.l | apply GiveN.lend) | (with_reducible apply Frz.l)) <;> conv => whnf) | fail)
theorem be8_toI (v : Nat) : be8 (v : Int) 8 = toI (beN 8 v) := by
  unfold be8 toI beN
  rw [List.map_map]
  apply List.map_congr_left
  intro i hi
  have hi := List.mem_range.1 hi
  rw [if_pos hi]
  show _ = ((UInt8.ofNat (v / 256 ^ (8 - 1 - i))).toNat : Int)
  rw [UInt8.toNat_ofNat', pow2_256]
  norm_cast
theorem ipJ_N (a : IP) (v : Nat) : ipJ a (v : Int) = ipN a v := ip_ext (by
  show a.1.take 8 ++ be8 (v : Int) 8 = toI ((ipB a).take 8 ++ beN 8 v)
  rw [be8_toI]
  have e3 : a.1.take 8 = toI ((ipB a).take 8) := by rw [← toI_ipB]; simp [toI, ipB]
  rw [e3]; simp [toI])
/-- The prefix of the link-local addresses. -/
def llP : Pfx := ⟨⟨[0xfe, 0x80, 0, 0, 0, 0, 0, 0, 0, 0, 0, 0, 0, 0, 0, 0], by decide⟩, 64⟩
theorem llP_v : vPfx llP = true := by decide +kernel
theorem k_LinkLocal (e : Nat) (he : e ≤ 18446744073709551615) : Con Tryz.prog 110 [lnkV e] [] (.tup [ipV (ipN llP.ip (iidL e)), bool true]) [] := by
  have c := k_rIID e he
  have cj := k_Of 18338657682652659712 (iidL e)
  have eq : SV.ba 16 (be8 18338657682652659712 8 ++ be8 (iidL e : Int) 8) = ipV (ipN llP.ip (iidL e)) := by
    rw [← ipJ_N]
    show SV.ba 16 _ = SV.ba 16 (List.take 8 _ ++ be8 _ 8)
    rw [show be8 18338657682652659712 8 = [0xfe, 0x80, 0, 0, 0, 0, 0, 0] by decide]
    rfl
  rw [eq] at cj
  refine spec_of_run ttok mixed (T0 := 4159) (ts := [.cell 2 67, .tmp 3]) 16 rfl rfl rfl rfl (by simp) rfl ?_
  conv => whnf
  repeat' (first | with_reducible apply True.intro | ((first | (with_reducible first | apply Nm.set _ (int_mk _) | apply Nm.snoc _ (int_mk _) | apply Nm.rep _ (int_mk _) | apply Nm.set _ (bool_mk _) | apply Nm.snoc _ (bool_mk _) | apply Nm.rep _ (bool_mk _) | apply Nm.set _ (rfl) | apply Nm.snoc _ (rfl) | apply Nm.rep _ (rfl)) | ((with_reducible apply Nm.mk); focus ((try simp only [lns]); exact rfl)) | ((with_reducible first | apply Wr.i64 | apply Wr.u8 | apply Wr.u16 | apply Wr.u32 | apply Wr.u64); focus omega) | ((with_reducible apply Need.mk); focus first | omega | (simp only [lns]; omega) | exact List.cons_ne_nil _ _ | exact CleanP.nil rfl | exact CleanP.cell rfl rfl | exact CleanP.lst rfl (fun _ => rfl) | exact CleanP.lst2 rfl (fun _ => rfl) (fun _ => rfl) | kernel_rfl | (dsimp only; omega) | (unfold roomOK; simp only [lns]; omega) | (refine ⟨?_, ?_, ?_⟩ <;> first | omega | (unfold roomOK; omega) | fail)) | ((with_reducible apply Elem.lst); focus first | omega | (simp only [lns]; omega)) | (apply CallN.mk (c)) | (apply CallN.mk (cj)) | (with_reducible first | apply Bif.T | apply Bif.F) | ((with_reducible first | apply Bif.dec | apply Bif.beq | apply Bif.bne) <;> intro h <;> (try simp only [lns] at h) <;> (try first | (exfalso; omega) | (exact absurd True.intro h))) | (with_reducible first | apply Bif.not | apply Bif.and | apply Bif.or) | ((with_reducible apply Bif.mk) <;> intro h <;> (try first | (exfalso; omega) | (exact absurd True.intro h))) | (with_reducible apply Same.rfl) | (apply Same.int; focus first | rfl | omega | (dsimp only; omega) | (simp only [lns]; omega)) | (apply Same.bool; focus (with_reducible rfl)) | (apply Same.ov; (focus first | rfl | omega | (simp only [lns]; omega)); focus first | rfl | omega | (simp only [lns]; first | done | omega)) | ((with_reducible apply Same.mk); focus first | omega | (simp only [lns]; omega)) | (apply Same.rfl) | (with_reducible first | apply Alt.l | apply OwnN.l | apply Sl3.l | apply Cut.l | apply Turn.l | apply GiveN.lend) | (with_reducible apply Frz.l)) <;> conv => whnf) | fail)
  done
end Go.Fw
