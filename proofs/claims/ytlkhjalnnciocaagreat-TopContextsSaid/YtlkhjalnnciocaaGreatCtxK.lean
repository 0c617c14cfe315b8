/- The law's prefix and bytes. -/
import Derived.Test.YtlkhjalnnciocaaGreatIphG

namespace Go.Fw
open Go.Proofs
set_option maxHeartbeats 8000000
set_option maxRecDepth 8000
theorem u8any (x : Int) : IntKind.wrap .u8 x = ((UInt8.ofNat (IntKind.wrap .u8 x).toNat).toNat : Int) := wrapB x
theorem k_BytesO (l : List Int) (k n : Int) (hk : 0 ≤ k) (hl : l.length ≤ 400) (hn : 0 ≤ n ∧ n ≤ 1000) :
    ∃ r hp', (∃ (b : List UInt8) (k' : Int), r = .ov 1 1 0 b.length ∧ hp' = [.cells (tape l k'), .arr (some b.length) 1 (lst b8 b)] ∧ b.length ≤ n ∧ 0 ≤ k') ∧ Con Tryz.prog 11 [.pb 0 [], int n] [.cells (tape l k)] r hp' := by
  refine spec_of_runR ttok mixed (T0 := 32883) (ts := [.tmp 4]) 25 rfl rfl rfl rfl (by simp) rfl ?_
  conv => whnf
  repeat' (first | ((first | (with_reducible apply Nm.rep _ (b8_zero0)) | ((with_reducible apply Nm.mk); focus ((try simp only [lns, beN_len, ipB_len]); exact rfl)) | ((with_reducible apply Wr.i64); focus omega) | ((with_reducible apply Need.mk); focus (refine ⟨?_, ?_, ?_⟩ <;> first | omega | (unfold roomOK; omega) | fail)) | (refine CallN.ex (k_tape_Next l _ (n + 1) hk hl (by omega)) ?_; rintro _ _ ⟨x, k1, rfl, rfl, h1, h2, h3⟩) | (with_reducible apply Frz.l)) <;> conv => whnf) | fail)
  obtain ⟨m, rfl⟩ : ∃ m : Nat, x = (m : Int) := ⟨x.toNat, by omega⟩
  refine loop_keep ttok mixed (T0 := 32883) [] (ι := {p : Nat × List UInt8 × Int // p.1 ≤ m ∧ p.2.1.length = m ∧ 0 ≤ p.2.2})
    (fun p => [(0, .pb 0 []), (5, .ov 1 1 0 m), (6, int (p.1.1 : Int))]) (fun p => [.cells (tape l p.1.2.2), .arr (some m) 1 (lst b8 p.1.2.1)]) (fun p => m - p.1.1) ⟨(0, List.replicate m 0, k1), by simp, by simp, h3⟩ ?_
  conv => whnf
  repeat' (first | ((apply Same.mk rfl); (conv => whnf)) | ((with_reducible apply Frz.l) <;> conv => whnf) | fail)
  rintro ⟨⟨i, b, k2⟩, hi, hb, hk2⟩
  dsimp only at hi hb hk2 ⊢
  conv => whnf
  by_cases him : i < m
  · repeat' (first | ((apply Wr.eq (u8any _)); (conv => whnf)) | ((first | ((with_reducible apply Nm.mk); focus ((try simp only [lns, beN_len, ipB_len, hb]); exact rfl)) | ((with_reducible apply Wr.i64); focus omega) | ((with_reducible apply Need.mk); focus omega) | ((with_reducible apply Elem.lst); focus omega) | (refine CallN.ex (k_tape_Next l _ 256 (by assumption) hl (by omega)) ?_; rintro _ _ ⟨y, k3, rfl, rfl, g1, g2, g3⟩) | ((with_reducible apply Bif.dec) <;> intro h <;> (try simp only [lns, beN_len, ipB_len, hb] at h) <;> (try (exfalso; omega))) | (with_reducible apply Frz.l)) <;> conv => whnf) | fail)
    (refine ⟨⟨(i + 1, b.set i (UInt8.ofNat (IntKind.wrap .u8 y).toNat), k3), him, by simpa using hb, g3⟩, ?_⟩; (try dsimp only); conv => whnf); repeat' (first | with_reducible apply True.intro | ((apply Same.mk (by rw [← lst_set]; rfl)); (conv => whnf)) | ((first | ((with_reducible apply Need.mk); focus omega) | (with_reducible apply Same.rfl) | (apply Same.int; focus rfl) | (with_reducible apply Turn.l) | (with_reducible apply Frz.l)) <;> conv => whnf) | fail)
  · obtain rfl : i = m := by omega
    repeat' (first | ((first | ((with_reducible apply Bif.dec) <;> intro h <;> (try simp only [lns, beN_len, ipB_len] at h) <;> (try (exfalso; omega))) | (with_reducible apply Frz.l)) <;> conv => whnf) | fail)
    subst hb
    (refine ⟨_, _, ⟨b, k2, rfl, rfl, by omega, hk2⟩, ?_⟩; conv => whnf); repeat' (first | with_reducible apply True.intro | ((first | (with_reducible apply Same.rfl) | (with_reducible apply Frz.l)) <;> conv => whnf) | fail)
theorem k_Bytes (l : List Int) (k n : Int) (hk : 0 ≤ k) (hl : l.length ≤ 400) (hn : 0 ≤ n ∧ n ≤ 1000) :
    ∃ r hp', (∃ (b : List UInt8) (k' : Int), r = bys b ∧ hp' = [.cells (tape l k')] ∧ b.length ≤ n ∧ 0 ≤ k') ∧ Con Tryz.prog 11 [.pb 0 [], int n] [.cells (tape l k)] r hp' := by
  obtain ⟨r, hp', ⟨b, k', rfl, rfl, hb, hk'⟩, hc⟩ := k_BytesO l k n hk hl hn
  refine ⟨_, _, ⟨b, k', rfl, rfl, hb, hk'⟩, (hc.fz 1 (Nat.le_refl _) (.one (.wholeC (Nat.le_refl 1) rfl) (fun l h => by cases h)) rfl ?_ rfl rfl).wk (.one .tag (fun l h => by cases h))⟩
  intro k ob h1 h2
  match k, h1, h2 with
  | 1, _, h2 => cases h2; exact ⟨_, _, _, rfl⟩
theorem k_rMulti (a : IP) : Con Tryz.prog 28 [ipV a] [] (bool (decide (gt a.1 0 = 255))) [] := by
  have := a.2.1
  refine spec_of_run ttok mixed (T0 := 7) (ts := [.tmp 2]) 6 rfl rfl rfl rfl (by simp) rfl ?_
  conv => whnf
  repeat' (first | with_reducible apply True.intro | ((apply Same.bool (by rw [Bool.eq_iff_iff, beq_iff_eq, decide_eq_true_eq]; exact Iff.rfl)); (conv => whnf)) | ((first | ((with_reducible apply Nm.mk); focus ((try simp only [lns, beN_len, ipB_len]); exact rfl)) | ((with_reducible apply Need.mk); focus omega) | (with_reducible apply Frz.l)) <;> conv => whnf) | fail)
def ofX (x y : Int) : IP := ⟨be8 x 8 ++ be8 y 8, by simp [be8_len], fun z hz => by
  rcases List.mem_append.1 hz with h | h
  · exact be8_byt x 8 z h
  · exact be8_byt y 8 z h⟩
theorem k_OfX (x y : Int) : Con Tryz.prog 29 [.v (.int .u64 x), .v (.int .u64 y)] [] (ipV (ofX x y)) [] := k_Of x y
def preX : List Int := [2306139568115548160, 2306139568115613696, 18338657682652659712, 18230571291595767808, 0]
def preB : List Int := [0, 10, 16, 32, 48, 64, 64, 64, 65, 128]
def prefL (i : Nat) (j : Int) (m : Nat) : Pfx := maskP (ofX (gt preX i) j) (gt preB m)
def u64S (x : Int) : SV := .v (.int .u64 x)
theorem preX_get {i : Nat} (h : i < 5) : (lst u64S preX)[i]? = some (.v (.int .u64 (gt preX i))) := by
  match i, h with
  | 0, _ | 1, _ | 2, _ | 3, _ | 4, _ => rfl
theorem preB_get {i : Nat} (h : i < 10) : (lst int preB)[i]? = some (.v (.int .i64 (gt preB i))) := by
  match i, h with
  | 0, _ | 1, _ | 2, _ | 3, _ | 4, _ | 5, _ | 6, _ | 7, _ | 8, _ | 9, _ => rfl
theorem k_Prefix (l : List Int) (k : Int) (hk : 0 ≤ k) (hl : l.length ≤ 400) :
    ∃ r hp', (∃ (i : Nat) (j : Int) (m : Nat) (k' : Int), i < 5 ∧ (0 ≤ j ∧ j < 2) ∧ m < 10 ∧ r = pfxV (prefL i j m) ∧ hp' = [.cells (tape l k')] ∧ 0 ≤ k') ∧ Con Tryz.prog 27 [.pb 0 []] [.cells (tape l k)] r hp' := by
  refine spec_of_runR ttok mixed (T0 := 13) (ts := [.cell 2 70]) 20 rfl rfl rfl rfl (by simp) rfl ?_
  conv => whnf
  repeat' (first | ((apply Elem.mk _ (show (lst u64S preX)[x.toNat]? = _ from preX_get (by omega))); (conv => whnf)) | ((apply Elem.mk _ (show (lst int preB)[z.toNat]? = _ from preB_get (by omega))); (conv => whnf)) | ((first | ((with_reducible apply Nm.mk); focus ((try simp only [lns, beN_len, ipB_len]); exact rfl)) | ((with_reducible apply Wr.u64); focus omega) | ((with_reducible apply Need.mk); focus omega) | (refine CallN.ex (k_tape_Next l _ 5 hk hl (by decide)) ?_; rintro _ _ ⟨x, k1, rfl, rfl, h1, h2, h3⟩) | (refine CallN.ex (k_tape_Next l _ 2 h3 hl (by decide)) ?_; rintro _ _ ⟨y, k2, rfl, rfl, g1, g2, g3⟩) | (refine CallN.ex (k_tape_Next l _ 10 g3 hl (by decide)) ?_; rintro _ _ ⟨z, k3, rfl, rfl, j1, j2, j3⟩) | (apply CallN.mk (k_OfX _ _)) | (apply CallN.mk (k_ref04_Mask _ _)) | (with_reducible apply Frz.l)) <;> conv => whnf) | fail)
  (refine ⟨_, _, ⟨x.toNat, y, z.toNat, k3, by omega, ⟨g1, g2⟩, by omega, rfl, rfl, j3⟩, ?_⟩; conv => whnf); repeat' (first | with_reducible apply True.intro | ((first | (with_reducible apply Same.rfl) | (apply Same.int; focus rfl) | (apply Same.rfl) | (with_reducible apply Frz.l)) <;> conv => whnf) | fail)
end Go.Fw

/- Prefixes of at most 64 bits and identifiers. -/
namespace Go.Fw
open Go.Proofs
set_option maxHeartbeats 8000000
set_option maxRecDepth 8000
theorem cutB_idem_all : ∀ (x : Fin 256) (k : Fin 9), cutB (cutB (x.1 : Int) (k.1 : Int)) (k.1 : Int) = cutB (x.1 : Int) (k.1 : Int) := by decide +kernel
theorem cutB_idem {x k : Int} (hx : 0 ≤ x ∧ x ≤ 255) (hk : 0 ≤ k ∧ k ≤ 8) : cutB (cutB x k) k = cutB x k := by
  obtain ⟨y, rfl⟩ := fin_ex (n := 256) (x := x) (by omega)
  obtain ⟨z, rfl⟩ := fin_ex (n := 9) (x := k) (by omega)
  exact cutB_idem_all y z
theorem vPfx_mask (a : IP) (b : Int) : vPfx (maskP a b) = true := by
  rw [vPfx, decide_eq_true_eq]
  refine ⟨by show 0 ≤ min (max b 0) 128; omega, by show min (max b 0) 128 ≤ 128; omega, ip_ext ?_⟩
  show maskL (maskL a.1 (min (max b 0) 128)) (min (max b 0) 128) = maskL a.1 (min (max b 0) 128)
  apply ext_gt (by simp [maskL_len])
  intro i hi
  rw [maskL_len] at hi
  rw [gt_maskL hi, gt_maskL hi, cutB_idem (byte_gt hi) (keepN_range _ _)]
theorem loN_ipN (a : IP) {v : Nat} (hv : v ≤ 18446744073709551615) : loN (ipN a v) = v := by
  unfold loN ipN
  rw [ipB_ofB, List.drop_left' (by simp [ipB_len])]
  exact beV_beN 8 v (by omega)
theorem ipN_lst (a : IP) (v : Nat) : (ipN a v).1 = a.1.take 8 ++ be8 (v : Int) 8 := by rw [← ipJ_N]; rfl
theorem gt_ipN {a : IP} {v i : Nat} (hi : i < 8) : gt (ipN a v).1 i = gt a.1 i := by
  have h := a.2.1
  rw [ipN_lst, gt_eq (by simp [be8_len]; omega), gt_eq (by omega), List.getElem_append_left (by simp; omega)]
  simp
theorem cutB_zero {x : Int} (h : 0 ≤ x ∧ x ≤ 255) : cutB x 0 = 0 := by
  show x - x % 256 = 0
  omega
theorem gt_pfx {p : Pfx} (hp : vPfx p = true) {i : Nat} (hi : i < 16) : gt p.ip.1 i = cutB (gt p.ip.1 i) (keepN p.bits i) := by
  rw [vPfx, decide_eq_true_eq] at hp
  rw [← gt_maskL hi]
  exact (congrArg (fun a : IP => gt a.1 i) hp.2.2).symm
theorem gt_pfx0 {p : Pfx} (hp : vPfx p = true) (hb : p.bits ≤ 64) {i : Nat} (h8 : 8 ≤ i) (hi : i < 16) : gt p.ip.1 i = 0 := by
  rw [gt_pfx hp hi, show keepN p.bits i = 0 by unfold keepN; omega, cutB_zero (byte_gt hi)]
theorem maskN {p : Pfx} (v : Nat) (hp : vPfx p = true) (hb : p.bits ≤ 64) : maskP (ipN p.ip v) p.bits = p := by
  have hp2 := hp
  rw [vPfx, decide_eq_true_eq] at hp2
  have e : min (max p.bits 0) 128 = p.bits := by omega
  refine pfx_ext (ip_ext ?_) e
  show maskL (ipN p.ip v).1 (min (max p.bits 0) 128) = p.ip.1
  rw [e]
  apply ext_gt (by rw [maskL_len, p.ip.2.1])
  intro i hi
  have hi : i < 16 := by rw [maskL_len] at hi; exact hi
  rw [gt_maskL hi]
  by_cases h8 : i < 8
  · rw [gt_ipN h8, ← gt_pfx hp hi]
  · rw [gt_pfx0 hp hb (by omega) hi, show keepN p.bits i = 0 by unfold keepN; omega, cutB_zero (byte_gt hi)]
theorem ll_lo : ∀ i : Fin 8, gt llP.ip.1 i.1 = gt (ofX 18338657682652659712 0).1 i.1 := by decide +kernel
theorem ll_hi : ∀ i : Fin 16, 8 ≤ i.1 → gt (ofX 18338657682652659712 0).1 i.1 = 0 := by decide +kernel
theorem localN {p : Pfx} {v : Nat} (hp : vPfx p = true) (hb : p.bits ≤ 64) (hv : v ≤ 18446744073709551615) (h : p.ip ≠ ofX 18338657682652659712 0) : localI (ipN p.ip v) = false := by
  rw [localI, decide_eq_false_iff_not, loN_ipN _ hv]
  rintro ⟨_, g⟩
  refine h (ip_ext (ext_gt (by rw [p.ip.2.1, (ofX _ _).2.1]) fun i hi => ?_))
  have hi : i < 16 := by have := p.ip.2.1; omega
  by_cases h8 : i < 8
  · rw [← gt_ipN (a := p.ip) (v := v) h8, ← g, gt_ipN h8]
    exact ll_lo ⟨i, h8⟩
  · rw [gt_pfx0 hp hb (by omega) hi, ll_hi ⟨i, hi⟩ (by show 8 ≤ i; omega)]
theorem ipN_ne (a : IP) {v : Nat} (hv : v ≤ 18446744073709551615) (h : v ≠ 0) : ipN a v ≠ ip0 := fun g => h (by rw [← loN_ipN a hv, g]; decide +kernel)
theorem k_PrefixV (l : List Int) (k : Int) (hk : 0 ≤ k) (hl : l.length ≤ 400) :
    ∃ r hp', (∃ (p : Pfx) (k' : Int), r = pfxV p ∧ hp' = [.cells (tape l k')] ∧ vPfx p = true ∧ 0 ≤ k') ∧ Con Tryz.prog 27 [.pb 0 []] [.cells (tape l k)] r hp' := by
  obtain ⟨r, hp', ⟨i, j, m, k', _, _, _, rfl, rfl, h⟩, c⟩ := k_Prefix l k hk hl
  exact ⟨_, _, ⟨_, _, rfl, rfl, vPfx_mask _ _, h⟩, c⟩
theorem iidD : iidL D0 = 1 ∧ iidL D1 = 2 := by decide
end Go.Fw

/- TopContexts: what is sent and read. -/
namespace Go.Fw
open Go.Proofs
set_option maxHeartbeats 8000000
set_option maxRecDepth 8000
structure LawOK (p : Pfx) (n : Nat) : Prop where
  hp : vPfx p = true
  hb : p.bits ≤ 64
  hm : gt p.ip.1 0 ≠ 255
  hip : p.ip ≠ ofX 18338657682652659712 0
  hn : 1 ≤ n ∧ n ≤ 1000
def cxtL (p : Pfx) (n : Nat) : Cxt := ⟨3, p, true, (n : Int)⟩
theorem vcxL {p : Pfx} {n : Nat} (h : LawOK p n) : VCx [cxtL p n] := .one ⟨by show (0 : Int) ≤ 3; decide, by show (3 : Int) < 16; decide⟩ h.hp (by have := h.hn; show isTm (n : Int); unfold isTm; omega)
def srcL (p : Pfx) : IP := ipN p.ip (iidL D0)
def dstL (p : Pfx) : IP := ipN p.ip (iidL D1)
def pktL (p : Pfx) (b : List UInt8) : Pkt := lawP (srcL p) (dstL p) b
theorem d0_le : D0 ≤ 18446744073709551615 := by decide
theorem d1_le : D1 ≤ 18446744073709551615 := by decide
theorem i0_le : iidL D0 ≤ 18446744073709551615 := by decide
theorem i1_le : iidL D1 ≤ 18446744073709551615 := by decide
theorem i0_ne : iidL D0 ≠ 0 := by decide
theorem i1_ne : iidL D1 ≠ 0 := by decide
theorem vpL {p : Pfx} {n : Nat} {b : List UInt8} (h : LawOK p n) (hb : b.length ≤ 20) : VP (pktL p b) :=
  ⟨Nat.zero_le _, by show gt (ipN p.ip _).1 0 ≠ 255; rw [gt_ipN (by decide)]; exact h.hm, by show (if (17 : UInt8) = 17 then 48 else 40) + b.length ≤ 1280; rw [if_pos rfl]; omega, by show 7 ≤ 65535; decide, by show 8 ≤ 65535; decide, fun g => absurd rfl g⟩
theorem forC_one {p : Pfx} {n : Nat} {v : Nat} {now : Int} (h : LawOK p n) (hn : now < n) : forC [cxtL p n] (ipN p.ip v) now = some (cxtL p n) := by
  show stepC (ipN p.ip v) now none (cxtL p n) = _
  have hok : okC (ipN p.ip v) now (cxtL p n) = true := by
    rw [okC, compC]
    show ((true && decide (now < (n : Int))) && decide (maskP (ipN p.ip v) p.bits = p)) = true
    rw [decide_eq_true hn, decide_eq_true (maskN v h.hp h.hb)]; rfl
  rw [stepC_ok hok]
theorem forC_late {p : Pfx} {n : Nat} {a : IP} : forC [cxtL p n] a (n : Int) = none := by
  show stepC a n none (cxtL p n) = _
  exact stepC_no (by rw [okC, compC]; show ¬ ((true && decide ((n : Int) < (n : Int))) && _) = true; rw [decide_eq_false (by omega)]; simp)
noncomputable def cmpL (p : Pfx) (b : List UInt8) : List UInt8 := [124, 247, 51, 63] ++ udpB (pktL p b) (sumP (pktL p b)) ++ b
def frL (a : IP) : Cpa := ⟨false, 0, 0, beN 8 (hiN a) ++ beN 8 (loN a)⟩
noncomputable def plnL (p : Pfx) (b : List UInt8) : List UInt8 := iphcM 124 false (frL (srcL p)) (frL (dstL p)) [63] ++ udpB (pktL p b) (sumP (pktL p b)) ++ b
theorem frL_len (a : IP) : (frL a).bytes.length = 16 := by simp [frL, beN_len]
theorem iphcL_len (p : Pfx) : (iphcM 124 false (frL (srcL p)) (frL (dstL p)) [63]).length = 35 := by
  show ([UInt8.ofNat _, UInt8.ofNat _] ++ idsB _ _ ++ [63] ++ (frL (srcL p)).bytes ++ (frL (dstL p)).bytes).length = 35
  rw [show idsB (frL (srcL p)) (frL (dstL p)) = [] from if_neg (by show ¬ ((16 * 0 + 0 : Int) ≠ 0); decide)]
  simp [frL_len]
theorem lensL (p : Pfx) (b : List UInt8) : (plnL p b).length = (cmpL p b).length + 31 := by
  rw [plnL, cmpL, List.length_append, List.length_append, iphcL_len]; simp; omega
theorem cmpL_le (p : Pfx) (b : List UInt8) : (cmpL p b).length ≤ 11 + b.length := by
  have hu := udpB_len (pktL p b) (sumP (pktL p b))
  rw [cmpL]; simp; omega
theorem lensI {p : Pfx} {b : List UInt8} (hb : b.length ≤ 20) : IntKind.wrap .i64 (((cmpL p b).length : Int) + 31) = ((plnL p b).length : Int) := by
  have h1 := cmpL_le p b
  have h2 := lensL p b
  rw [wrap64_id (by omega)]; omega
theorem plnL_le {p : Pfx} {b : List UInt8} (hb : b.length ≤ 20) : (plnL p b).length ≤ 100000 := by
  have h1 := cmpL_le p b
  have h2 := lensL p b
  omega
theorem k_encL (p : Pfx) (n : Nat) (b : List UInt8) (now : Int) (h : LawOK p n) (hb : b.length ≤ 20) (h0 : 0 ≤ now) (hn : now < n) :
    Con Tryz.prog 35 [pktV (pktL p b), lnkV D0, lnkV D1, cxts [cxtL p n], int now] [] (.tup [bys (cmpL p b), int 0]) [] := by
  have hT : isTm now := by have := h.hn; unfold isTm; omega
  have hv := vpL h hb
  have hs : srcL p ≠ ip0 := ipN_ne _ i0_le i0_ne
  have hd : dstL p ≠ ip0 := ipN_ne _ i1_le i1_ne
  have u0 := k_uni3 (srcL p) D0 true [cxtL p n] now (cxtL p n) (vcxL h) hT (by show 1 ≤ 1000; decide) d0_le (fun g => hs g.2) (localN h.hp h.hb i0_le h.hip) (forC_one h hn) ⟨h.hb, by rw [srcL, loN_ipN _ i0_le]; rfl⟩ (by rw [srcL, loN_ipN _ i0_le])
  have u1 := k_uni3 (dstL p) D1 false [cxtL p n] now (cxtL p n) (vcxL h) hT (by show 1 ≤ 1000; decide) d1_le (fun g => hd g.2) (localN h.hp h.hb i1_le h.hip) (forC_one h hn) ⟨h.hb, by rw [dstL, loN_ipN _ i1_le]; rfl⟩ (by rw [dstL, loN_ipN _ i1_le])
  have hm : gt (dstL p).1 0 ≠ 255 := by rw [dstL, gt_ipN (by decide)]; exact h.hm
  have ci := k_iEncF (pktL p b) D0 D1 [cxtL p n] now (vcxL h) hT (by show 1 ≤ 1000; decide) hv hm 124 [63] ⟨true, 3, 3, []⟩ ⟨true, 3, 3, []⟩ (by decide) (by decide) (by decide) (by decide) (by decide) (by decide) (by decide) (by decide) (k_fieldsC _ _ _) u0 u1
  exact k_cEncF (pktL p b) D0 D1 [cxtL p n] now [124, 247, 51, 63] hv rfl (by decide) (by show b.length ≤ 1280; omega) ci
theorem k_plnL (p : Pfx) (n : Nat) (b : List UInt8) (l : List Cxt) (now : Int) (h : LawOK p n) (hb : b.length ≤ 20) (hT : isTm now) (hv : VCx l) (hl : l.length ≤ 1000) (hf : ∀ a, forC l a now = none) :
    Con Tryz.prog 35 [pktV (pktL p b), lnkV D0, lnkV D1, cxts l, int now] [] (.tup [bys (plnL p b), int 0]) [] := by
  have hp := vpL h hb
  have hs : srcL p ≠ ip0 := ipN_ne _ i0_le i0_ne
  have hd : dstL p ≠ ip0 := ipN_ne _ i1_le i1_ne
  have u0 := k_uniN (srcL p) D0 true l now hv hT hl d0_le (fun g => hs g.2) (localN h.hp h.hb i0_le h.hip) (hf _)
  have u1 := k_uniN (dstL p) D1 false l now hv hT hl d1_le (fun g => hd g.2) (localN h.hp h.hb i1_le h.hip) (hf _)
  have hm : gt (dstL p).1 0 ≠ 255 := by rw [dstL, gt_ipN (by decide)]; exact h.hm
  have l0 := frL_len (srcL p)
  have l1 := frL_len (dstL p)
  have ci := k_iEncF (pktL p b) D0 D1 l now hv hT hl hp hm 124 [63] (frL (srcL p)) (frL (dstL p)) (by decide) (by show (0 : Int) ≤ 0 ∧ (0 : Int) ≤ 15; decide) (by show (0 : Int) ≤ 0 ∧ (0 : Int) ≤ 15; decide) (by show (0 : Int) ≤ 0 ∧ (0 : Int) ≤ 3; decide) (by show (0 : Int) ≤ 0 ∧ (0 : Int) ≤ 3; decide) (by decide) (by omega) (by omega) (k_fieldsC _ _ _) u0 u1
  exact k_cEncF (pktL p b) D0 D1 l now _ hp rfl (by rw [iphcL_len]; decide) (by show b.length ≤ 1280; omega) ci
theorem k_decL (p : Pfx) (n : Nat) (b : List UInt8) (now : Int) (h : LawOK p n) (hb : b.length ≤ 20) (h0 : 0 ≤ now) (hn : now < n + 32) :
    Con Tryz.prog 36 [bys (cmpL p b), lnkV D0, lnkV D1, cxts [cxtL p n], int now] [] (.tup [pktV (pktL p b), int 0]) [] := by
  have hT : isTm now := by have := h.hn; unfold isTm; omega
  have hv := vpL h hb
  have hu := udpB_len (pktL p b) (sumP (pktL p b))
  have hs : sumP (pktL p b) ≤ 65535 := (k_pSum (pktL p b) hv rfl).1
  have hcl : (cmpL p b).length = 4 + (udpB (pktL p b) (sumP (pktL p b))).length + b.length := by rw [cmpL]; simp; omega
  have ec : cmpL p b = 124 :: 247 :: 51 :: 63 :: (udpB (pktL p b) (sumP (pktL p b)) ++ b) := rfl
  have hg : gt [cxtL p n] 0 = cxtL p n := rfl
  have h2 : okD 3 now (cxtL p n) = true := by
    show (decide ((3 : Int) = 3) && decide (now < (n : Int) + 32)) = true
    rw [decide_eq_true hn]; rfl
  have ci := k_iDecC D0 D1 d0_le d1_le (udpB (pktL p b) (sumP (pktL p b)) ++ b) b (by simp; omega) [cxtL p n] now 0 (vcxL h) hT (by show 1 ≤ 1000; decide) (by show 0 < 1; decide) (fun j hj => absurd hj (Nat.not_lt_zero j)) h2 h.hb
    (by show gt (ipN p.ip _).1 0 ≠ 255; rw [gt_ipN (by decide)]; exact h.hm) (by show gt (ipN p.ip _).1 0 ≠ 255; rw [gt_ipN (by decide)]; exact h.hm)
  have cr := k_readUDP_D (pktL p b) (sumP (pktL p b)) b (by show ¬ (half 7 ∧ half 8); decide) (by show ¬ byt 8; decide) (by show ¬ byt 7; decide) (by show 7 ≤ 65535; decide) (by show 8 ≤ 65535; decide) hs (by omega)
  exact k_cDecF (pktL p b) D0 D1 [cxtL p n] now (cmpL p b) 4 4 _ hv rfl (by show (124 : UInt8) ≠ 65; decide) rfl (by omega) (by omega) (by omega) rfl ci cr
end Go.Fw
