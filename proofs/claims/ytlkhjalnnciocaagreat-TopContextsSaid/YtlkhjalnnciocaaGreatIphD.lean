/- IPHC: the form of an address that is not a multicast address. -/
import Derived.Test.YtlkhjalnnciocaaGreatIphA

namespace Go.Fw
open Go.Proofs
set_option maxHeartbeats 8000000
set_option maxRecDepth 8000
theorem hiN_le (a : IP) : hiN a ≤ 18446744073709551615 := by
  have := beV_lt 8 ((ipB a).take 8) (by simp [ipB_len])
  unfold hiN; omega
theorem loN_le (a : IP) : loN a ≤ 18446744073709551615 := by
  have := beV_lt 8 ((ipB a).drop 8) (by simp [ipB_len])
  unfold loN; omega
theorem k_high (a : IP) : Con Tryz.prog 194 [ipV a] [] (q64 (hiN a : Int)) [] := by
  have cs := k_aSplit a
  refine spec_of_run ttok mixed (T0 := 15) (ts := [.tmp 2]) 11 rfl rfl rfl rfl (by simp) rfl ?_
  conv => whnf
  repeat' (first | with_reducible apply True.intro | ((first | (apply CallN.mk (cs)) | (with_reducible apply Same.rfl) | (with_reducible apply Frz.l)) <;> conv => whnf) | fail)
theorem k_uni0 (e : Nat) (l : List Cxt) (now : Int) : Con Tryz.prog 149 [ipV ip0, lnkV e, bool true, cxts l, int now] [] (cpaV ⟨true, 0, 0, []⟩) [] := by
  refine Con.cl (r := .agg [bool true, int 0, int 0, nilV]) (hp' := []) ?_ (.one (.aggC (.wk rfl .rfl) (.aggC (.wk rfl .rfl) (.aggC (.wk rfl .rfl) (.aggC (.wk rfl .nilS) .aggN)))) (fun _ h => by cases h)) rfl
  refine spec_of_run ttok mixed (T0 := 9709185632895178773623935) (ts := [.cell 10 249]) 91 rfl rfl rfl rfl (by simp) rfl ?_
  conv => whnf
  repeat' (first | with_reducible apply True.intro | ((apply Same.mk rfl); (conv => whnf)) | ((first | (with_reducible apply Bif.T) | ((with_reducible apply Bif.beq) <;> intro h <;> (try simp only [lns, beN_len, ipB_len] at h) <;> (try (exact absurd rfl h))) | (with_reducible apply Frz.l)) <;> conv => whnf) | fail)
theorem k_uniN (a : IP) (e : Nat) (s : Bool) (l : List Cxt) (now : Int) (h : VCx l) (hn : isTm now) (hl : l.length ≤ 1000) (he : e ≤ 18446744073709551615) (h0 : ¬ (s = true ∧ a = ip0)) (h1 : localI a = false) (h2 : forC l a now = none) :
    Con Tryz.prog 149 [ipV a, lnkV e, bool s, cxts l, int now] [] (cpaV ⟨false, 0, 0, beN 8 (hiN a) ++ beN 8 (loN a)⟩) [] := by
  have cs := k_aSplit a
  have cw := k_within llP a (loN a) llP_v
  rw [show decide (llP.bits ≤ 64 ∧ ipN llP.ip (loN a) = a) = false from h1] at cw
  have cf := k_ForC l a now h hn hl
  rw [h2] at cf
  change Con _ _ _ _ (.tup [cxtV cxt0, bool false]) _ at cf
  have ch := k_high a
  have a1 := k_AppS (hiN a) 8 (by decide)
  have a2 := k_AppT (beN 8 (hiN a)) (loN a) 8 (by decide) (by rw [beN_len]; decide)
  have hne : s = true → a.1 ≠ List.replicate 16 0 := fun hs h => h0 ⟨hs, ip_ext h⟩
  cases s
  all_goals
    refine spec_of_run ttok mixed (T0 := 9709185632895178773623935) (ts := [.cell 10 249]) 91 rfl rfl rfl rfl (by simp) rfl ?_
    conv => whnf
    repeat' (first | with_reducible apply True.intro | ((apply Same.mk rfl); (conv => whnf)) | ((first | ((with_reducible apply Need.mk); focus kernel_rfl) | (apply CallN.mk (cs)) | (apply CallN.mk (cf)) | (apply CallN.mk (k_linkLocal)) | (apply CallN.mk (cw)) | (apply CallN.mk (ch)) | (apply CallN.mk (a1)) | (apply CallN.mk (a2)) | (with_reducible first | apply Bif.T | apply Bif.F) | ((with_reducible apply Bif.beq) <;> intro h <;> (try simp only [lns, beN_len, ipB_len] at h) <;> (try (exact absurd h (hne rfl)))) | (with_reducible apply Bif.not) | (with_reducible apply Frz.l)) <;> conv => whnf) | fail)
theorem k_uni3 (a : IP) (e : Nat) (s : Bool) (l : List Cxt) (now : Int) (c : Cxt) (h : VCx l) (hn : isTm now) (hl : l.length ≤ 1000) (he : e ≤ 18446744073709551615) (h0 : ¬ (s = true ∧ a = ip0)) (h1 : localI a = false) (h2 : forC l a now = some c)
    (h3 : c.pfx.bits ≤ 64 ∧ ipN c.pfx.ip (loN a) = a) (h4 : iidL e = loN a) :
    Con Tryz.prog 149 [ipV a, lnkV e, bool s, cxts l, int now] [] (cpaV ⟨true, c.id, 3, []⟩) [] := by
  have cs := k_aSplit a
  have cw := k_within llP a (loN a) llP_v
  rw [show decide (llP.bits ≤ 64 ∧ ipN llP.ip (loN a) = a) = false from h1] at cw
  have cf := k_ForC l a now h hn hl
  rw [h2] at cf
  change Con _ _ _ _ (.tup [cxtV c, bool true]) _ at cf
  have cw2 := k_within c.pfx a (loN a) (h.mem (forC_some h2).1).1
  rw [decide_eq_true h3] at cw2
  have ci := k_aIID e he
  rw [h4] at ci
  have cc := k_choose false c 3 []
  have hne : s = true → a.1 ≠ List.replicate 16 0 := fun hs h => h0 ⟨hs, ip_ext h⟩
  cases s
  all_goals
    refine spec_of_run ttok mixed (T0 := 9709185632895178773623935) (ts := [.cell 10 249]) 91 rfl rfl rfl rfl (by simp) rfl ?_
    conv => whnf
    repeat' (first | with_reducible apply True.intro | ((apply Same.mk rfl); (conv => whnf)) | ((first | (apply CallN.mk (cs)) | (apply CallN.mk (cf)) | (apply CallN.mk (k_linkLocal)) | (apply CallN.mk (cw)) | (apply CallN.mk (cw2)) | (apply CallN.mk (ci)) | (apply CallN.le (cc); focus ((repeat' (first | (with_reducible apply ArgLe.nil) | (exact ArgLe.nil) | (exact ArgLe.rfl) | (exact ArgLe.fs) | (exact True.intro) | (apply And.intro) | (apply Wk.arg; repeat' (first | (exact Wk.rfl) | (exact Wk.nilS) | (exact Wk.tag) | (apply Wk.cons) | (apply Wk.lits) | (exact WkL.nil) | (apply WkL.cons) | fail)) | fail)); done)) | (with_reducible first | apply Bif.T | apply Bif.F) | ((with_reducible apply Bif.beq) <;> intro h <;> (try simp only [lns, beN_len, ipB_len] at h) <;> (try first | (exfalso; omega) | (exact absurd h (hne rfl)))) | (with_reducible apply Bif.not) | (with_reducible apply Frz.l)) <;> conv => whnf) | fail)
end Go.Fw

/- IPHC: the compressed header. -/
namespace Go.Fw
open Go.Proofs
set_option maxHeartbeats 8000000
set_option maxRecDepth 8000
theorem k_icheck (e0 e1 : Nat) (l : List Cxt) (now : Int) (h : VCx l) (hn : isTm now) (hl : l.length ≤ 1000) : Con Tryz.prog 147 [lnkV e0, lnkV e1, cxts l, int now] [] (int 0) [] := by
  have c0 := k_lnkValid e0
  have c1 := k_lnkValid e1
  have cv := k_cValid l h hl
  unfold isTm at hn
  refine spec_of_run ttok mixed (T0 := 136315199) (ts := [.tmp 8]) 28 rfl rfl rfl rfl (by simp) rfl ?_
  conv => whnf
  repeat' (first | with_reducible apply True.intro | ((first | (apply CallN.mk (c0)) | (apply CallN.mk (c1)) | (apply CallN.mk (cv)) | (with_reducible first | apply Bif.T | apply Bif.F) | ((with_reducible apply Bif.dec) <;> intro h <;> (try simp only [lns, beN_len, ipB_len] at h) <;> (try (exfalso; omega))) | (with_reducible apply Bif.not) | (apply Same.int; focus rfl) | (with_reducible apply Frz.l)) <;> conv => whnf) | fail)
/-- The second byte. -/
def idsF (f g : Cpa) : Int := 16 * f.id + g.id
def secF (mc : Bool) (f g : Cpa) : Int := ((if (16 * f.id + g.id != 0) = true then 128 else 0) + if f.ctx = true then 64 else 0) + 16 * f.mode + (((if mc = true then 8 else 0) + if g.ctx = true then 4 else 0) + g.mode)
def idsB (f g : Cpa) : List UInt8 := if idsF f g ≠ 0 then [UInt8.ofNat (idsF f g).toNat] else []
def iphcM (first : Int) (mc : Bool) (f g : Cpa) (inl : List UInt8) : List UInt8 :=
  [UInt8.ofNat first.toNat, UInt8.ofNat (secF mc f g).toNat] ++ idsB f g ++ inl ++ f.bytes ++ g.bytes
theorem k_iEncF (p : Pkt) (e0 e1 : Nat) (l : List Cxt) (now : Int) (h : VCx l) (hn : isTm now) (hl : l.length ≤ 1000) (hv : VP p) (hm : gt p.dst.1 0 ≠ 255) (first : Int) (inl : List UInt8) (f g : Cpa)
    (h1 : 0 ≤ first ∧ first ≤ 255) (h2 : 0 ≤ f.id ∧ f.id ≤ 15) (h3 : 0 ≤ g.id ∧ g.id ≤ 15) (h4 : 0 ≤ f.mode ∧ f.mode ≤ 3) (h5 : 0 ≤ g.mode ∧ g.mode ≤ 3) (h6 : inl.length ≤ 100) (h7 : f.bytes.length ≤ 16) (h8 : g.bytes.length ≤ 16)
    (cf : Con Tryz.prog 148 [pktV p] [] (.tup [int first, bys inl]) [])
    (u0 : Con Tryz.prog 149 [ipV p.src, lnkV e0, bool true, cxts l, int now] [] (cpaV f) [])
    (u1 : Con Tryz.prog 149 [ipV p.dst, lnkV e1, bool false, cxts l, int now] [] (cpaV g) []) :
    Con Tryz.prog 81 [pktV p, lnkV e0, lnkV e1, cxts l, int now] [] (.tup [.ov 1 0 0 (iphcM first false f g inl).length, int 0]) [.arr none 1 (lst b8 (iphcM first false f g inl))] := by
  have cv := k_pValid p hv
  have cc := k_icheck e0 e1 l now h hn hl
  have cm := k_aMulti p.dst
  rw [decide_eq_false hm] at cm
  have i8 := k_iflag false 8
  have hsec : 0 ≤ secF false f g ∧ secF false f g ≤ 255 := by unfold secF; split <;> split <;> split <;> split <;> omega
  have hids : 0 ≤ idsF f g ∧ idsF f g ≤ 255 := by unfold idsF; omega
  have e1 : SV.v (.int .u8 first) = b8 (UInt8.ofNat first.toNat) := u8_nat h1
  have e2 : SV.v (.int .u8 (secF false f g)) = b8 (UInt8.ofNat (secF false f g).toNat) := u8_nat hsec
  have e3 : SV.v (.int .u8 (idsF f g)) = b8 (UInt8.ofNat (idsF f g).toNat) := u8_nat hids
  have nA : [SV.v (.int .u8 first), SV.v (.int .u8 (secF false f g))] ++ [SV.v (.int .u8 (idsF f g))] = lst b8 ([UInt8.ofNat first.toNat, UInt8.ofNat (secF false f g).toNat] ++ [UInt8.ofNat (idsF f g).toNat]) := by rw [e1, e2, e3]; rfl
  have nB : [SV.v (.int .u8 first), SV.v (.int .u8 (secF false f g))] ++ lst b8 inl = lst b8 ([UInt8.ofNat first.toNat, UInt8.ofNat (secF false f g).toNat] ++ inl) := by rw [e1, e2]; rfl
  unfold iphcM idsB
  by_cases hi : idsF f g ≠ 0
  · rw [if_pos hi]
    refine spec_of_run ttok mixed (T0 := 1237940039285450644727528703) (ts := [.tmp 10, .tmp 11]) 107 rfl rfl rfl rfl (by simp) rfl ?_
    conv => whnf
    repeat' (first | with_reducible apply True.intro | ((apply Nm.mk nA); (conv => whnf)) | ((with_reducible apply Nm.mk (lst_app _ _)); (conv => whnf)) | ((apply Same.mk rfl); (conv => whnf)) | ((apply Same.mk); (focus (simp only [List.length_append, List.length_cons, List.length_nil]; done)); (conv => whnf)) | ((first | ((with_reducible apply Nm.mk); focus ((try simp only [lns, beN_len, ipB_len]); exact rfl)) | ((with_reducible first | apply Wr.i64 | apply Wr.u8); focus omega) | ((with_reducible apply Need.mk); focus first | (simp only [lns, beN_len, ipB_len]; omega) | kernel_rfl | (unfold roomOK; simp only [lns, beN_len, ipB_len]; omega)) | (apply CallN.mk (cv)) | (apply CallN.mk (cc)) | (apply CallN.mk (cf)) | (apply CallN.mk (u0)) | (apply CallN.mk (u1)) | (apply CallN.mk (cm)) | (apply CallN.mk (i8)) | (apply CallN.mk (k_iflag _ _)) | (with_reducible first | apply Bif.T | apply Bif.F) | ((with_reducible apply Bif.bne) <;> intro h <;> (try simp only [lns, beN_len, ipB_len] at h) <;> (try first | (exfalso; omega) | (exact absurd h hi))) | (with_reducible apply Bif.not) | (with_reducible first | apply Alt.l | apply Cut.l) | (with_reducible apply Frz.l)) <;> conv => whnf) | fail)
  · rw [if_neg hi, List.append_nil]
    refine spec_of_run ttok mixed (T0 := 1237940039285450644727528703) (ts := [.tmp 10, .tmp 11]) 107 rfl rfl rfl rfl (by simp) rfl ?_
    conv => whnf
    repeat' (first | with_reducible apply True.intro | ((apply Nm.mk nB); (conv => whnf)) | ((with_reducible apply Nm.mk (lst_app _ _)); (conv => whnf)) | ((apply Same.mk rfl); (conv => whnf)) | ((apply Same.mk); (focus (simp only [List.length_append, List.length_cons, List.length_nil]; done)); (conv => whnf)) | ((first | ((with_reducible apply Nm.mk); focus ((try simp only [lns, beN_len, ipB_len]); exact rfl)) | ((with_reducible first | apply Wr.i64 | apply Wr.u8); focus omega) | ((with_reducible apply Need.mk); focus first | kernel_rfl | (unfold roomOK; simp only [lns, beN_len, ipB_len]; omega)) | (apply CallN.mk (cv)) | (apply CallN.mk (cc)) | (apply CallN.mk (cf)) | (apply CallN.mk (u0)) | (apply CallN.mk (u1)) | (apply CallN.mk (cm)) | (apply CallN.mk (i8)) | (apply CallN.mk (k_iflag _ _)) | (with_reducible first | apply Bif.T | apply Bif.F) | ((with_reducible apply Bif.bne) <;> intro h <;> (try simp only [lns, beN_len, ipB_len] at h) <;> (try first | (exfalso; omega) | (exact absurd h hi))) | (with_reducible apply Bif.not) | (with_reducible first | apply Alt.l | apply Cut.l) | (with_reducible apply Frz.l)) <;> conv => whnf) | fail)
end Go.Fw

/- Compression: a packet of the law, compressed. -/
namespace Go.Fw
open Go.Proofs
set_option maxHeartbeats 8000000
set_option maxRecDepth 8000
/-- The law's packet. -/
def lawP (s d : IP) (b : List UInt8) : Pkt := ⟨0, 0, 17, 63, s, d, 7, 8, b⟩
theorem k_fieldsC (s d : IP) (b : List UInt8) : Con Tryz.prog 148 [pktV (lawP s d b)] [] (.tup [int 124, bys [63]]) [] := by
  refine Con.cl (r := .tup [int 124, .ov 1 0 0 1]) (hp' := [.arr none 1 [.v (.int .u8 63)]]) ?_ (.tup (.cons (.wk rfl .rfl) (.cons (.ov rfl (by simp) rfl Wk.tag) .nil))) rfl
  change Con _ _ [.agg [b8 0, .v (.int .u32 ((0 : Nat) : Int)), b8 17, b8 63, ipV s, ipV d, .v (.int .u16 ((7 : Nat) : Int)), .v (.int .u16 ((8 : Nat) : Int)), bys b]] _ _ _
  refine spec_of_run ttok mixed (T0 := 189293023505416447) (ts := [.tmp 2, .tmp 3]) 70 rfl rfl rfl rfl (by simp) rfl ?_
  conv => whnf
  repeat' (first | with_reducible apply True.intro | ((apply Same.mk rfl); (conv => whnf)) | ((first | ((with_reducible apply Nm.mk); focus ((try simp only [lns, beN_len, ipB_len]); exact rfl)) | ((with_reducible apply Wr.i64); focus omega) | ((with_reducible apply Need.mk); focus first | (simp only [lns, beN_len, ipB_len]; omega) | (unfold roomOK; simp only [lns, beN_len, ipB_len]; omega)) | (apply CallN.mk (k_iflag true 4)) | (with_reducible apply Bif.F) | ((with_reducible first | apply Bif.beq | apply Bif.bne) <;> intro h <;> (try simp only [lns, beN_len, ipB_len] at h) <;> (try first | (exfalso; omega) | (exact absurd (by decide) h) | (exact absurd h (by decide)))) | (with_reducible apply Cut.l) | (with_reducible apply Frz.l)) <;> conv => whnf) | fail)
theorem k_cEncF (p : Pkt) (e0 e1 : Nat) (l : List Cxt) (now : Int) (hd : List UInt8) (hv : VP p) (hn : p.next = 17) (hh : hd.length ≤ 1000) (hp : p.pay.length ≤ 1280)
    (ci : Con Tryz.prog 81 [pktV p, lnkV e0, lnkV e1, cxts l, int now] [] (.tup [.ov 1 0 0 hd.length, int 0]) [.arr none 1 (lst b8 hd)]) :
    Con Tryz.prog 35 [pktV p, lnkV e0, lnkV e1, cxts l, int now] [] (.tup [bys (hd ++ udpB p (sumP p) ++ p.pay), int 0]) [] := by
  refine Con.cl (r := .tup [.ov 1 0 0 (hd ++ udpB p (sumP p) ++ p.pay).length, int 0]) (hp' := [.arr none 1 (lst b8 (hd ++ udpB p (sumP p) ++ p.pay))]) ?_ (.tup (.cons (.all rfl rfl) (.cons (.wk rfl .rfl) .nil))) rfl
  obtain ⟨x, ca⟩ := k_appendUDP hd p .no hv hn hh
  have hl := udpB_len p (sumP p)
  have hu : (hd ++ udpB p (sumP p)).length ≤ 1007 := by simp; omega
  have h17 : (p.next.toNat : Int) = 17 := by rw [hn]; rfl
  generalize hd ++ udpB p (sumP p) = u at *
  refine spec_of_run ttok mixed (T0 := 285228287) (ts := [.tmp 10, .tmp 11]) 36 rfl rfl rfl rfl (by simp) rfl ?_
  conv => whnf
  repeat' (first | with_reducible apply True.intro | ((apply Nm.mk (nm_all (f := b8) (l := hd) rfl)); (conv => whnf)) | ((with_reducible apply Nm.mk (lst_app _ _)); (conv => whnf)) | ((apply Same.mk rfl); (conv => whnf)) | ((apply Same.mk); (focus (simp; done)); (conv => whnf)) | ((first | ((with_reducible apply Nm.mk); focus ((try simp only [lns, beN_len, ipB_len]); exact rfl)) | ((with_reducible apply Need.mk); focus first | (simp only [lns, beN_len, ipB_len]; omega) | exact CleanP.lst rfl (fun _ => rfl) | (unfold roomOK; simp only [lns, beN_len, ipB_len]; omega)) | (apply CallN.mk (ci)) | (apply CallN.mk (ca)) | ((with_reducible first | apply Bif.beq | apply Bif.bne) <;> intro h <;> (try simp only [lns, beN_len, ipB_len] at h) <;> (try (exfalso; omega))) | (with_reducible first | apply Alt.l | apply Cut.l | apply GiveN.lend) | (with_reducible apply Frz.l)) <;> conv => whnf) | fail)
theorem k_takeYes (n x : Int) (b : List UInt8) (at_ : Nat) (m : Nat) (hm : n = m) (h : 1 ≤ m ∧ m ≤ 8) (hb : b.length ≤ 10000) (ha : at_ + m ≤ b.length) : ConK Tryz.prog 200 [bool true, int n, q64 x, .pb 0 [], .pb 1 []] [.cells (int 0), .cells (.pb 2 []), .cells (rdV b at_)] (q64 (beV ((b.drop at_).take m) : Int)) [.cells (int 0), .cells (.pb 2 []), .cells (rdV b (at_ + m))] := by
  subst hm
  have c := k_rnum b at_ m h hb ha
  refine spec_of_runK ttok mixed (T0 := 67359) (ts := [.tmp 8]) 26 rfl rfl rfl rfl (by simp) rfl ?_
  conv => whnf
  repeat' (first | with_reducible apply True.intro | ((apply Same.mk rfl); (conv => whnf)) | ((first | (apply CallN.mk (c)) | (with_reducible first | apply Bif.T | apply Bif.F) | ((with_reducible apply Bif.bne) <;> intro h <;> (try simp only [lns, beN_len, ipB_len] at h) <;> (try (exfalso; omega))) | (with_reducible apply Bif.not) | (with_reducible apply Frz.l)) <;> conv => whnf) | fail)
end Go.Fw
