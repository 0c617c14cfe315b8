/- IPHC: the compressed header. -/
import Derived.Test.YtlkhjalnnciocaaGreatIphB

namespace Go.Fw
open Go.Proofs
set_option maxHeartbeats 8000000
set_option maxRecDepth 8000
theorem k_icheck (e0 e1 : Nat) (l : List Cxt) (now : Int) (h : VCx l) (hn : isTm now) (hl : l.length ≤ 1000) : Con Tryz.prog 147 [lnkV e0, lnkV e1, cxts l, int now] [] (int 0) [] := by
  have c0 := k_lnkValid e0
  have c1 := k_lnkValid e1
  have cv := k_cValid l h hl
  unfold isTm at hn
  refine spec_of_run ttok mixed (T0 := 136315199) (ts := [.tmp 8]) 28 rfl rfl rfl rfl (by simp) rfl ?_
  conv => whnf
  repeat' (first | with_reducible apply True.intro | ((first | (apply CallN.mk (c0)) | (apply CallN.mk (c1)) | (apply CallN.mk (cv)) | (with_reducible first | apply Bif.T | apply Bif.F) | ((with_reducible apply Bif.dec) <;> intro h <;> (try simp only [lns, beN_len, ipB_len] at h) <;> (try (exfalso; omega))) | (with_reducible apply Bif.not) | (apply Same.int; focus rfl) | (with_reducible apply Frz.l)) <;> conv => whnf) | fail)
/-- The second byte. -/
def idsF (f g : Cpa) : Int := 16 * f.id + g.id
def secF (mc : Bool) (f g : Cpa) : Int := ((if (16 * f.id + g.id != 0) = true then 128 else 0) + if f.ctx = true then 64 else 0) + 16 * f.mode + (((if mc = true then 8 else 0) + if g.ctx = true then 4 else 0) + g.mode)
def idsB (f g : Cpa) : List UInt8 := if idsF f g ≠ 0 then [UInt8.ofNat (idsF f g).toNat] else []
def iphcM (first : Int) (mc : Bool) (f g : Cpa) (inl : List UInt8) : List UInt8 :=
  [UInt8.ofNat first.toNat, UInt8.ofNat (secF mc f g).toNat] ++ idsB f g ++ inl ++ f.bytes ++ g.bytes
theorem k_iEncF (p : Pkt) (e0 e1 : Nat) (l : List Cxt) (now : Int) (h : VCx l) (hn : isTm now) (hl : l.length ≤ 1000) (hv : VP p) (hm : gt p.dst.1 0 ≠ 255) (first : Int) (inl : List UInt8) (f g : Cpa)
    (h1 : 0 ≤ first ∧ first ≤ 255) (h2 : 0 ≤ f.id ∧ f.id ≤ 15) (h3 : 0 ≤ g.id ∧ g.id ≤ 15) (h4 : 0 ≤ f.mode ∧ f.mode ≤ 3) (h5 : 0 ≤ g.mode ∧ g.mode ≤ 3) (h6 : inl.length ≤ 100) (h7 : f.bytes.length ≤ 16) (h8 : g.bytes.length ≤ 16)
    (cf : Con Tryz.prog 148 [pktV p] [] (.tup [int first, bys inl]) [])
    (u0 : Con Tryz.prog 149 [ipV p.src, lnkV e0, bool true, cxts l, int now] [] (cpaV f) [])
    (u1 : Con Tryz.prog 149 [ipV p.dst, lnkV e1, bool false, cxts l, int now] [] (cpaV g) []) :
    Con Tryz.prog 81 [pktV p, lnkV e0, lnkV e1, cxts l, int now] [] (.tup [.ov 1 0 0 (iphcM first false f g inl).length, int 0]) [.arr none 1 (lst b8 (iphcM first false f g inl))] := by
  have cv := k_pValid p hv
  have cc := k_icheck e0 e1 l now h hn hl
  have cm := k_aMulti p.dst
  rw [decide_eq_false hm] at cm
  have i8 := k_iflag false 8
  have hsec : 0 ≤ secF false f g ∧ secF false f g ≤ 255 := by unfold secF; split <;> split <;> split <;> split <;> omega
  have hids : 0 ≤ idsF f g ∧ idsF f g ≤ 255 := by unfold idsF; omega
  have e1 : SV.v (.int .u8 first) = b8 (UInt8.ofNat first.toNat) := u8_nat h1
  have e2 : SV.v (.int .u8 (secF false f g)) = b8 (UInt8.ofNat (secF false f g).toNat) := u8_nat hsec
  have e3 : SV.v (.int .u8 (idsF f g)) = b8 (UInt8.ofNat (idsF f g).toNat) := u8_nat hids
  have nA : [SV.v (.int .u8 first), SV.v (.int .u8 (secF false f g))] ++ [SV.v (.int .u8 (idsF f g))] = lst b8 ([UInt8.ofNat first.toNat, UInt8.ofNat (secF false f g).toNat] ++ [UInt8.ofNat (idsF f g).toNat]) := by rw [e1, e2, e3]; rfl
  have nB : [SV.v (.int .u8 first), SV.v (.int .u8 (secF false f g))] ++ lst b8 inl = lst b8 ([UInt8.ofNat first.toNat, UInt8.ofNat (secF false f g).toNat] ++ inl) := by rw [e1, e2]; rfl
  unfold iphcM idsB
  by_cases hi : idsF f g ≠ 0
  · rw [if_pos hi]
    refine spec_of_run ttok mixed (T0 := 1237940039285450644727528703) (ts := [.tmp 10, .tmp 11]) 107 rfl rfl rfl rfl (by simp) rfl ?_
    conv => whnf
    repeat' (first | with_reducible apply True.intro | ((apply Nm.mk nA); (conv => whnf)) | ((with_reducible apply Nm.mk (lst_app _ _)); (conv => whnf)) | ((apply Same.mk rfl); (conv => whnf)) | ((apply Same.mk); (focus (simp only [List.length_append, List.length_cons, List.length_nil]; done)); (conv => whnf)) | ((first | ((with_reducible apply Nm.mk); focus ((try simp only [lns, beN_len, ipB_len]); exact rfl)) | ((with_reducible first | apply Wr.i64 | apply Wr.u8); focus omega) | ((with_reducible apply Need.mk); focus first | (simp only [lns, beN_len, ipB_len]; omega) | kernel_rfl | (unfold roomOK; simp only [lns, beN_len, ipB_len]; omega)) | (apply CallN.mk (cv)) | (apply CallN.mk (cc)) | (apply CallN.mk (cf)) | (apply CallN.mk (u0)) | (apply CallN.mk (u1)) | (apply CallN.mk (cm)) | (apply CallN.mk (i8)) | (apply CallN.mk (k_iflag _ _)) | (with_reducible first | apply Bif.T | apply Bif.F) | ((with_reducible apply Bif.bne) <;> intro h <;> (try simp only [lns, beN_len, ipB_len] at h) <;> (try first | (exfalso; omega) | (exact absurd h hi))) | (with_reducible apply Bif.not) | (with_reducible first | apply Alt.l | apply Cut.l) | (with_reducible apply Frz.l)) <;> conv => whnf) | fail)
  · rw [if_neg hi, List.append_nil]
    refine spec_of_run ttok mixed (T0 := 1237940039285450644727528703) (ts := [.tmp 10, .tmp 11]) 107 rfl rfl rfl rfl (by simp) rfl ?_
    conv => whnf
    repeat' (first | with_reducible apply True.intro | ((apply Nm.mk nB); (conv => whnf)) | ((with_reducible apply Nm.mk (lst_app _ _)); (conv => whnf)) | ((apply Same.mk rfl); (conv => whnf)) | ((apply Same.mk); (focus (simp only [List.length_append, List.length_cons, List.length_nil]; done)); (conv => whnf)) | ((first | ((with_reducible apply Nm.mk); focus ((try simp only [lns, beN_len, ipB_len]); exact rfl)) | ((with_reducible first | apply Wr.i64 | apply Wr.u8); focus omega) | ((with_reducible apply Need.mk); focus first | kernel_rfl | (unfold roomOK; simp only [lns, beN_len, ipB_len]; omega)) | (apply CallN.mk (cv)) | (apply CallN.mk (cc)) | (apply CallN.mk (cf)) | (apply CallN.mk (u0)) | (apply CallN.mk (u1)) | (apply CallN.mk (cm)) | (apply CallN.mk (i8)) | (apply CallN.mk (k_iflag _ _)) | (with_reducible first | apply Bif.T | apply Bif.F) | ((with_reducible apply Bif.bne) <;> intro h <;> (try simp only [lns, beN_len, ipB_len] at h) <;> (try first | (exfalso; omega) | (exact absurd h hi))) | (with_reducible apply Bif.not) | (with_reducible first | apply Alt.l | apply Cut.l) | (with_reducible apply Frz.l)) <;> conv => whnf) | fail)
end Go.Fw

/- Compression of packets with UDP. -/
namespace Go.Fw
open Go.Proofs
set_option maxHeartbeats 8000000
set_option maxRecDepth 8000
theorem k_cEncF (p : Pkt) (e0 e1 : Nat) (l : List Cxt) (now : Int) (hd : List UInt8) (hv : VP p) (hn : p.next = 17) (hh : hd.length ≤ 1000) (hp : p.pay.length ≤ 1280)
    (ci : Con Tryz.prog 81 [pktV p, lnkV e0, lnkV e1, cxts l, int now] [] (.tup [.ov 1 0 0 hd.length, int 0]) [.arr none 1 (lst b8 hd)]) :
    Con Tryz.prog 35 [pktV p, lnkV e0, lnkV e1, cxts l, int now] [] (.tup [bys (hd ++ udpB p (sumP p) ++ p.pay), int 0]) [] := by
  refine Con.cl (r := .tup [.ov 1 0 0 (hd ++ udpB p (sumP p) ++ p.pay).length, int 0]) (hp' := [.arr none 1 (lst b8 (hd ++ udpB p (sumP p) ++ p.pay))]) ?_ (.tup (.cons (.all rfl rfl) (.cons (.wk rfl .rfl) .nil))) rfl
  obtain ⟨x, ca⟩ := k_appendUDP hd p .no hv hn hh
  have hl := udpB_len p (sumP p)
  have hu : (hd ++ udpB p (sumP p)).length ≤ 1007 := by simp; omega
  have h17 : (p.next.toNat : Int) = 17 := by rw [hn]; rfl
  generalize hd ++ udpB p (sumP p) = u at *
  refine spec_of_run ttok mixed (T0 := 285228287) (ts := [.tmp 10, .tmp 11]) 36 rfl rfl rfl rfl (by simp) rfl ?_
  conv => whnf
  repeat' (first | with_reducible apply True.intro | ((apply Nm.mk (nm_all (f := b8) (l := hd) rfl)); (conv => whnf)) | ((with_reducible apply Nm.mk (lst_app _ _)); (conv => whnf)) | ((apply Same.mk rfl); (conv => whnf)) | ((apply Same.mk); (focus (simp; done)); (conv => whnf)) | ((first | ((with_reducible apply Nm.mk); focus ((try simp only [lns, beN_len, ipB_len]); exact rfl)) | ((with_reducible apply Need.mk); focus first | (simp only [lns, beN_len, ipB_len]; omega) | exact CleanP.lst rfl (fun _ => rfl) | (unfold roomOK; simp only [lns, beN_len, ipB_len]; omega)) | (apply CallN.mk (ci)) | (apply CallN.mk (ca)) | ((with_reducible first | apply Bif.beq | apply Bif.bne) <;> intro h <;> (try simp only [lns, beN_len, ipB_len] at h) <;> (try (exfalso; omega))) | (with_reducible first | apply Alt.l | apply Cut.l | apply GiveN.lend) | (with_reducible apply Frz.l)) <;> conv => whnf) | fail)
theorem k_takeYes (n x : Int) (b : List UInt8) (at_ : Nat) (m : Nat) (hm : n = m) (h : 1 ≤ m ∧ m ≤ 8) (hb : b.length ≤ 10000) (ha : at_ + m ≤ b.length) : ConK Tryz.prog 200 [bool true, int n, q64 x, .pb 0 [], .pb 1 []] [.cells (int 0), .cells (.pb 2 []), .cells (rdV b at_)] (q64 (beV ((b.drop at_).take m) : Int)) [.cells (int 0), .cells (.pb 2 []), .cells (rdV b (at_ + m))] := by
  subst hm
  have c := k_rnum b at_ m h hb ha
  refine spec_of_runK ttok mixed (T0 := 67359) (ts := [.tmp 8]) 26 rfl rfl rfl rfl (by simp) rfl ?_
  conv => whnf
  repeat' (first | with_reducible apply True.intro | ((apply Same.mk rfl); (conv => whnf)) | ((first | (apply CallN.mk (c)) | (with_reducible first | apply Bif.T | apply Bif.F) | ((with_reducible apply Bif.bne) <;> intro h <;> (try simp only [lns, beN_len, ipB_len] at h) <;> (try (exfalso; omega))) | (with_reducible apply Bif.not) | (with_reducible apply Frz.l)) <;> conv => whnf) | fail)
end Go.Fw

/- The finder of a context. -/
namespace Go.Fw
open Go.Proofs
set_option maxHeartbeats 8000000
set_option maxRecDepth 8000
theorem k_findC (l : List Cxt) (id now : Int) (k : Nat) (h : VCx l) (hn : isTm now) (hl : l.length ≤ 1000) (hk : k < l.length) (h1 : ∀ j, j < k → okD id now (gt l j) = false) (h2 : okD id now (gt l k) = true) :
    Con Tryz.prog 160 [.pb 0 [], .pb 1 [], .pb 2 []] [.cells (cxts l), .cells (int id), .cells (int now)] (.tup [cxtV (gt l k), bool true]) [.cells (cxts l), .cells (int id), .cells (int now)] := by
  have c := k_ForD l id now k h hn hl hk h1 h2
  refine spec_of_run ttok mixed (T0 := 31) (ts := [.cell 3 101, .tmp 4]) 11 rfl rfl rfl rfl (by simp) rfl ?_
  conv => whnf
  repeat' (first | with_reducible apply True.intro | ((apply Same.mk rfl); (conv => whnf)) | ((first | (apply CallN.mk (c)) | (with_reducible apply Frz.l)) <;> conv => whnf) | fail)
theorem k_findM (l : List Cxt) (id : Int) (now : Int) : Con Tryz.prog 159 [int id, .pb 0 [], .pb 1 []] [.cells (cxts l), .cells (int now)] (.clo 160 [.pb 0 [], .pb 2 [], .pb 1 []]) [.cells (cxts l), .cells (int now), .cells (int id)] := by
  refine spec_of_run ttok mixed (T0 := 31) (ts := [.tmp 4]) 6 rfl rfl rfl rfl (by simp) rfl ?_
  conv => whnf
  repeat' (first | with_reducible apply True.intro | ((apply Same.mk rfl); (conv => whnf)) | ((with_reducible apply Frz.l) <;> conv => whnf) | fail)
  done
end Go.Fw

/- The compressed header and the UDP header, read again. -/
namespace Go.Fw
open Go.Proofs
set_option maxHeartbeats 8000000
set_option maxRecDepth 8000
def pktH (p : Pkt) : SV := .agg [b8 p.cls, .v (.int .u32 (p.flow : Int)), b8 p.next, b8 p.hops, ipV p.src, ipV p.dst, .v (.int .u16 0), .v (.int .u16 0), nilV]
theorem k_readUDP_D (p : Pkt) (s : Nat) (r : List UInt8) (hA : ¬ (half p.sp ∧ half p.dp)) (hB : ¬ byt p.dp) (hC : ¬ byt p.sp) (hsp : p.sp ≤ 65535) (hdp : p.dp ≤ 65535) (hs : s ≤ 65535) (hr : r.length ≤ 5000) :
    Con Tryz.prog 85 [bys (udpB p s ++ r)] [] (.tup [.v (.int .u16 (p.sp : Int)), .v (.int .u16 (p.dp : Int)), .v (.int .u16 (s : Int)), int ((udpB p s).length : Int), int 0]) [] := by
  unfold udpB
  rw [if_neg hA, if_neg hB, if_neg hC]
  have hl : ([] ++ beN 1 240 ++ beN 2 p.sp ++ beN 2 p.dp ++ beN 2 s).length = 7 := by simp [beN_len]
  rw [hl]
  have hb : [] ++ beN 1 240 ++ beN 2 p.sp ++ beN 2 p.dp ++ beN 2 s ++ r = 240 :: (beN 2 p.sp ++ (beN 2 p.dp ++ (beN 2 s ++ r))) := by simp [beN1_eq]
  rw [hb]
  have e0 : gt (240 :: (beN 2 p.sp ++ (beN 2 p.dp ++ (beN 2 s ++ r)))) 0 = 240 := rfl
  have d1 : (240 :: (beN 2 p.sp ++ (beN 2 p.dp ++ (beN 2 s ++ r)))).drop 1 = beN 2 p.sp ++ (beN 2 p.dp ++ (beN 2 s ++ r)) := rfl
  have d3 : (240 :: (beN 2 p.sp ++ (beN 2 p.dp ++ (beN 2 s ++ r)))).drop 3 = beN 2 p.dp ++ (beN 2 s ++ r) := by
    rw [show (3 : Nat) = 1 + 2 from rfl, ← List.drop_drop, d1]; exact List.drop_left' (beN_len 2 _)
  have d5 : (240 :: (beN 2 p.sp ++ (beN 2 p.dp ++ (beN 2 s ++ r)))).drop 5 = beN 2 s ++ r := by
    rw [show (5 : Nat) = 3 + 2 from rfl, ← List.drop_drop, d3]; exact List.drop_left' (beN_len 2 _)
  have e1 := (congrArg (List.take 2) d1).trans (List.take_left' (beN_len 2 p.sp))
  have e3 := (congrArg (List.take 2) d3).trans (List.take_left' (beN_len 2 p.dp))
  have e5 := (congrArg (List.take 2) d5).trans (List.take_left' (beN_len 2 s))
  have hbl : (240 :: (beN 2 p.sp ++ (beN 2 p.dp ++ (beN 2 s ++ r)))).length = 7 + r.length := by simp [beN_len]; omega
  generalize 240 :: (beN 2 p.sp ++ (beN 2 p.dp ++ (beN 2 s ++ r))) = b at *
  have t1 := k_takeU b 1 2 (by decide) (by omega) (by omega)
  have t3 := k_takeU b 3 2 (by decide) (by omega) (by omega)
  have t5 := k_takeU b 5 2 (by decide) (by omega) (by omega)
  rw [e1, beV_2 _ hsp] at t1
  rw [e3, beV_2 _ hdp] at t3
  rw [e5, beV_2 _ hs] at t5
  refine spec_of_run ttok mixed (T0 := 75557863725948716752895) (ts := [.tmp 2, .tmp 3, .tmp 4, .tmp 5, .cell 6 55]) 82 rfl rfl rfl rfl (by simp) rfl ?_
  conv => whnf
  repeat' (first | with_reducible apply True.intro | ((apply Wr.eq (y := 0) (by rw [e0]; rfl)); (conv => whnf)) | ((apply Elem.mk _ rfl); (conv => whnf)) | ((apply Same.int (by omega)); (conv => whnf)) | ((first | ((with_reducible apply Nm.mk); focus ((try simp only [lns, beN_len, ipB_len, hbl, e0]); exact rfl)) | ((with_reducible first | apply Wr.u16 | apply Wr.u64); focus omega) | ((with_reducible apply Need.mk); focus first | omega | (simp only [lns, beN_len, ipB_len, hbl, e0]; omega) | kernel_rfl) | ((with_reducible apply Elem.lst); focus omega) | (apply CallN.mk (t1)) | (apply CallN.mk (t3)) | (apply CallN.mk (t5)) | (with_reducible apply Bif.F) | ((with_reducible first | apply Bif.dec | apply Bif.beq | apply Bif.bne) <;> intro h <;> (try simp only [lns, beN_len, ipB_len, hbl, e0] at h) <;> (try first | (exfalso; omega) | (exact absurd h (by decide)))) | (with_reducible apply Frz.l)) <;> conv => whnf) | fail)
end Go.Fw

/- The compressed packet, read again. -/
namespace Go.Fw
open Go.Proofs
set_option maxHeartbeats 8000000
set_option maxRecDepth 8000
theorem k_cDecF (p : Pkt) (e0 e1 : Nat) (l : List Cxt) (now : Int) (C : List UInt8) (hd n m : Nat) (hv : VP p) (h17 : p.next = 17) (h0 : gt C 0 ≠ 65) (hC : C.drop n = udpB p (sumP p) ++ p.pay) (hn : n ≤ C.length) (hl : C.length ≤ 1400) (h1 : 1 ≤ C.length) (hm : m = (udpB p (sumP p)).length)
    (ci : Con Tryz.prog 84 [bys C, lnkV e0, lnkV e1, cxts l, int now] [] (.tup [pktH p, int (n : Int), int 0]) [])
    (cr : Con Tryz.prog 85 [bys (udpB p (sumP p) ++ p.pay)] [] (.tup [.v (.int .u16 (p.sp : Int)), .v (.int .u16 (p.dp : Int)), .v (.int .u16 (sumP p : Int)), int ((udpB p (sumP p)).length : Int), int 0]) []) :
    Con Tryz.prog 36 [bys C, lnkV e0, lnkV e1, cxts l, int now] [] (.tup [pktV p, int 0]) [] := by
  obtain ⟨hs, cs⟩ := k_pSum p hv h17
  have cz := k_pSize p (bys p.pay) rfl (by have := hv.size; unfold sizeP at this; split at this <;> omega)
  have hsz := hv.size
  have hlU : (udpB p (sumP p) ++ p.pay).length = C.length - n := by rw [← hC, List.length_drop]
  have e3 : (udpB p (sumP p) ++ p.pay).drop m = p.pay := by rw [hm]; simp
  have hmU : m ≤ (udpB p (sumP p) ++ p.pay).length := by rw [hm]; simp
  have h8 : (gt C 0).toNat ≠ 65 := fun h => h0 (UInt8.toNat_inj.1 h)
  have hpl : p.pay.length = C.length - n - m := by have := congrArg List.length e3; simp at this; simp at hlU; omega
  have h17 : (p.next.toNat : Int) = 17 := by rw [h17]; rfl
  rw [← hm] at cr
  refine Con.cl (r := .tup [pktS p (.ov 1 0 0 p.pay.length), int 0]) (hp' := [.arr (some p.pay.length) 1 (lst b8 p.pay)]) ?_
    (.tup (.cons (.aggC (.wk rfl .rfl) (.aggC (.wk rfl .rfl) (.aggC (.wk rfl .rfl) (.aggC (.wk rfl .rfl) (.aggC (.wk rfl .rfl) (.aggC (.wk rfl .rfl) (.aggC (.wk rfl .rfl) (.aggC (.wk rfl .rfl) (.aggC (.all rfl rfl) .aggN))))))))) (.cons (.wk rfl .rfl) .nil))) rfl
  generalize udpB p (sumP p) ++ p.pay = U at *
  refine spec_of_run ttok mixed (T0 := 4840430257757702759644383) (ts := [.cell 10 107, .tmp 11]) 93 rfl rfl rfl rfl (by simp) rfl ?_
  conv => whnf
  repeat' (first | with_reducible apply True.intro | ((apply Nm.mk (show List.take ((lst b8 C).length - n) (List.drop n (lst b8 C)) = lst b8 U by rw [nm_tailN, hC])); (conv => whnf)) | ((apply Nm.mk (show List.take ((lst b8 U).length - m) (List.drop m (lst b8 U)) = lst b8 p.pay by rw [nm_tailN, e3])); (conv => whnf)) | ((apply Same.mk rfl); (conv => whnf)) | ((apply Same.mk); (focus (simp [lst]; done)); (conv => whnf)) | ((first | (with_reducible apply Nm.rep _ (rfl)) | ((with_reducible apply Nm.mk); focus ((try simp only [lns, beN_len, ipB_len, hlU]); exact rfl)) | ((with_reducible apply Need.mk); focus first | (simp only [lns, beN_len, ipB_len, hlU]; omega) | (unfold roomOK; simp only [lns, beN_len, ipB_len, hlU]; omega)) | ((with_reducible apply Elem.lst); focus omega) | (apply CallN.mk (ci)) | (apply CallN.mk (cr)) | (apply CallN.mk (cz)) | (apply CallN.mk (cs)) | (with_reducible apply Bif.T) | ((with_reducible first | apply Bif.dec | apply Bif.beq | apply Bif.bne) <;> intro h <;> (try simp only [lns, beN_len, ipB_len, hlU] at h) <;> (try (exfalso; omega))) | (with_reducible apply Frz.l)) <;> conv => whnf) | fail)
end Go.Fw

/- The law's first bits and bytes. -/
namespace Go.Fw
open Go.Proofs
set_option maxHeartbeats 8000000
set_option maxRecDepth 8000
theorem u8any (x : Int) : IntKind.wrap .u8 x = ((UInt8.ofNat (IntKind.wrap .u8 x).toNat).toNat : Int) := wrapB x
theorem k_BytesO (l : List Int) (k n : Int) (hk : 0 ≤ k) (hl : l.length ≤ 400) (hn : 0 ≤ n ∧ n ≤ 1000) :
    ∃ r hp', (∃ (b : List UInt8) (k' : Int), r = .ov 1 1 0 b.length ∧ hp' = [.cells (tape l k'), .arr (some b.length) 1 (lst b8 b)] ∧ b.length ≤ n ∧ 0 ≤ k') ∧ Con Tryz.prog 11 [.pb 0 [], int n] [.cells (tape l k)] r hp' := by
  refine spec_of_runR ttok mixed (T0 := 32883) (ts := [.tmp 4]) 25 rfl rfl rfl rfl (by simp) rfl ?_
  conv => whnf
  repeat' (first | ((first | (with_reducible apply Nm.rep _ (b8_zero0)) | ((with_reducible apply Nm.mk); focus ((try simp only [lns, beN_len, ipB_len]); exact rfl)) | ((with_reducible apply Wr.i64); focus omega) | ((with_reducible apply Need.mk); focus (refine ⟨?_, ?_, ?_⟩ <;> first | omega | (unfold roomOK; omega) | fail)) | (refine CallN.ex (k_tape_Next l _ (n + 1) hk hl (by omega)) ?_; rintro _ _ ⟨x, k1, rfl, rfl, h1, h2, h3⟩) | (with_reducible apply Frz.l)) <;> conv => whnf) | fail)
  obtain ⟨m, rfl⟩ : ∃ m : Nat, x = (m : Int) := ⟨x.toNat, by omega⟩
  refine loop_keep ttok mixed (T0 := 32883) [] (ι := {p : Nat × List UInt8 × Int // p.1 ≤ m ∧ p.2.1.length = m ∧ 0 ≤ p.2.2})
    (fun p => [(0, .pb 0 []), (5, .ov 1 1 0 m), (6, int (p.1.1 : Int))]) (fun p => [.cells (tape l p.1.2.2), .arr (some m) 1 (lst b8 p.1.2.1)]) (fun p => m - p.1.1) ⟨(0, List.replicate m 0, k1), by simp, by simp, h3⟩ ?_
  conv => whnf
  repeat' (first | ((apply Same.mk rfl); (conv => whnf)) | ((with_reducible apply Frz.l) <;> conv => whnf) | fail)
  rintro ⟨⟨i, b, k2⟩, hi, hb, hk2⟩
  dsimp only at hi hb hk2 ⊢
  conv => whnf
  by_cases him : i < m
  · repeat' (first | ((apply Wr.eq (u8any _)); (conv => whnf)) | ((first | ((with_reducible apply Nm.mk); focus ((try simp only [lns, beN_len, ipB_len, hb]); exact rfl)) | ((with_reducible apply Wr.i64); focus omega) | ((with_reducible apply Need.mk); focus omega) | ((with_reducible apply Elem.lst); focus omega) | (refine CallN.ex (k_tape_Next l _ 256 (by assumption) hl (by omega)) ?_; rintro _ _ ⟨y, k3, rfl, rfl, g1, g2, g3⟩) | ((with_reducible apply Bif.dec) <;> intro h <;> (try simp only [lns, beN_len, ipB_len, hb] at h) <;> (try (exfalso; omega))) | (with_reducible apply Frz.l)) <;> conv => whnf) | fail)
    (refine ⟨⟨(i + 1, b.set i (UInt8.ofNat (IntKind.wrap .u8 y).toNat), k3), him, by simpa using hb, g3⟩, ?_⟩; (try dsimp only); conv => whnf); repeat' (first | with_reducible apply True.intro | ((apply Same.mk (by rw [← lst_set]; rfl)); (conv => whnf)) | ((first | ((with_reducible apply Need.mk); focus omega) | (with_reducible apply Same.rfl) | (apply Same.int; focus rfl) | (with_reducible apply Turn.l) | (with_reducible apply Frz.l)) <;> conv => whnf) | fail)
  · obtain rfl : i = m := by omega
    repeat' (first | ((first | ((with_reducible apply Bif.dec) <;> intro h <;> (try simp only [lns, beN_len, ipB_len] at h) <;> (try (exfalso; omega))) | (with_reducible apply Frz.l)) <;> conv => whnf) | fail)
    subst hb
    (refine ⟨_, _, ⟨b, k2, rfl, rfl, by omega, hk2⟩, ?_⟩; conv => whnf); repeat' (first | with_reducible apply True.intro | ((first | (with_reducible apply Same.rfl) | (with_reducible apply Frz.l)) <;> conv => whnf) | fail)
theorem k_Bytes (l : List Int) (k n : Int) (hk : 0 ≤ k) (hl : l.length ≤ 400) (hn : 0 ≤ n ∧ n ≤ 1000) :
    ∃ r hp', (∃ (b : List UInt8) (k' : Int), r = bys b ∧ hp' = [.cells (tape l k')] ∧ b.length ≤ n ∧ 0 ≤ k') ∧ Con Tryz.prog 11 [.pb 0 [], int n] [.cells (tape l k)] r hp' := by
  obtain ⟨r, hp', ⟨b, k', rfl, rfl, hb, hk'⟩, hc⟩ := k_BytesO l k n hk hl hn
  refine ⟨_, _, ⟨b, k', rfl, rfl, hb, hk'⟩, (hc.fz 1 (Nat.le_refl _) (.one (.wholeC (Nat.le_refl 1) rfl) (fun l h => by cases h)) rfl ?_ rfl rfl).wk (.one .tag (fun l h => by cases h))⟩
  intro k ob h1 h2
  match k, h1, h2 with
  | 1, _, h2 => cases h2; exact ⟨_, _, _, rfl⟩
theorem k_rMulti (a : IP) : Con Tryz.prog 28 [ipV a] [] (bool (decide (gt a.1 0 = 255))) [] := by
  have := a.2.1
  refine spec_of_run ttok mixed (T0 := 7) (ts := [.tmp 2]) 6 rfl rfl rfl rfl (by simp) rfl ?_
  conv => whnf
  repeat' (first | with_reducible apply True.intro | ((apply Same.bool (by rw [Bool.eq_iff_iff, beq_iff_eq, decide_eq_true_eq]; exact Iff.rfl)); (conv => whnf)) | ((first | ((with_reducible apply Nm.mk); focus ((try simp only [lns, beN_len, ipB_len]); exact rfl)) | ((with_reducible apply Need.mk); focus omega) | (with_reducible apply Frz.l)) <;> conv => whnf) | fail)
def ofX (x y : Int) : IP := ⟨be8 x 8 ++ be8 y 8, by simp [be8_len], fun z hz => by
  rcases List.mem_append.1 hz with h | h
  · exact be8_byt x 8 z h
  · exact be8_byt y 8 z h⟩
theorem k_OfX (x y : Int) : Con Tryz.prog 29 [.v (.int .u64 x), .v (.int .u64 y)] [] (ipV (ofX x y)) [] := k_Of x y
def preX : List Int := [2306139568115548160, 2306139568115613696, 18338657682652659712, 18230571291595767808, 0]
def preB : List Int := [0, 10, 16, 32, 48, 64, 64, 64, 65, 128]
def prefL (i : Nat) (j : Int) (m : Nat) : Pfx := maskP (ofX (gt preX i) j) (gt preB m)
def u64S (x : Int) : SV := .v (.int .u64 x)
theorem preX_get {i : Nat} (h : i < 5) : (lst u64S preX)[i]? = some (.v (.int .u64 (gt preX i))) := by
  match i, h with
  | 0, _ | 1, _ | 2, _ | 3, _ | 4, _ => rfl
theorem preB_get {i : Nat} (h : i < 10) : (lst int preB)[i]? = some (.v (.int .i64 (gt preB i))) := by
  match i, h with
  | 0, _ | 1, _ | 2, _ | 3, _ | 4, _ | 5, _ | 6, _ | 7, _ | 8, _ | 9, _ => rfl
theorem k_Prefix (l : List Int) (k : Int) (hk : 0 ≤ k) (hl : l.length ≤ 400) :
    ∃ r hp', (∃ (i : Nat) (j : Int) (m : Nat) (k' : Int), i < 5 ∧ (0 ≤ j ∧ j < 2) ∧ m < 10 ∧ r = pfxV (prefL i j m) ∧ hp' = [.cells (tape l k')] ∧ 0 ≤ k') ∧ Con Tryz.prog 27 [.pb 0 []] [.cells (tape l k)] r hp' := by
  refine spec_of_runR ttok mixed (T0 := 13) (ts := [.cell 2 70]) 20 rfl rfl rfl rfl (by simp) rfl ?_
  conv => whnf
  repeat' (first | ((apply Elem.mk _ (show (lst u64S preX)[x.toNat]? = _ from preX_get (by omega))); (conv => whnf)) | ((apply Elem.mk _ (show (lst int preB)[z.toNat]? = _ from preB_get (by omega))); (conv => whnf)) | ((first | ((with_reducible apply Nm.mk); focus ((try simp only [lns, beN_len, ipB_len]); exact rfl)) | ((with_reducible apply Wr.u64); focus omega) | ((with_reducible apply Need.mk); focus omega) | (refine CallN.ex (k_tape_Next l _ 5 hk hl (by decide)) ?_; rintro _ _ ⟨x, k1, rfl, rfl, h1, h2, h3⟩) | (refine CallN.ex (k_tape_Next l _ 2 h3 hl (by decide)) ?_; rintro _ _ ⟨y, k2, rfl, rfl, g1, g2, g3⟩) | (refine CallN.ex (k_tape_Next l _ 10 g3 hl (by decide)) ?_; rintro _ _ ⟨z, k3, rfl, rfl, j1, j2, j3⟩) | (apply CallN.mk (k_OfX _ _)) | (apply CallN.mk (k_ref04_Mask _ _)) | (with_reducible apply Frz.l)) <;> conv => whnf) | fail)
  (refine ⟨_, _, ⟨x.toNat, y, z.toNat, k3, by omega, ⟨g1, g2⟩, by omega, rfl, rfl, j3⟩, ?_⟩; conv => whnf); repeat' (first | with_reducible apply True.intro | ((first | (with_reducible apply Same.rfl) | (apply Same.int; focus rfl) | (apply Same.rfl) | (with_reducible apply Frz.l)) <;> conv => whnf) | fail)
end Go.Fw

/- Prefixes of at most 64 bits and identifiers. -/
namespace Go.Fw
open Go.Proofs
set_option maxHeartbeats 8000000
set_option maxRecDepth 8000
theorem cutB_idem_all : ∀ (x : Fin 256) (k : Fin 9), cutB (cutB (x.1 : Int) (k.1 : Int)) (k.1 : Int) = cutB (x.1 : Int) (k.1 : Int) := by decide +kernel
theorem cutB_idem {x k : Int} (hx : 0 ≤ x ∧ x ≤ 255) (hk : 0 ≤ k ∧ k ≤ 8) : cutB (cutB x k) k = cutB x k := by
  obtain ⟨y, rfl⟩ := fin_ex (n := 256) (x := x) (by omega)
  obtain ⟨z, rfl⟩ := fin_ex (n := 9) (x := k) (by omega)
  exact cutB_idem_all y z
theorem vPfx_mask (a : IP) (b : Int) : vPfx (maskP a b) = true := by
  rw [vPfx, decide_eq_true_eq]
  refine ⟨by show 0 ≤ min (max b 0) 128; omega, by show min (max b 0) 128 ≤ 128; omega, ip_ext ?_⟩
  show maskL (maskL a.1 (min (max b 0) 128)) (min (max b 0) 128) = maskL a.1 (min (max b 0) 128)
  apply ext_gt (by simp [maskL_len])
  intro i hi
  rw [maskL_len] at hi
  rw [gt_maskL hi, gt_maskL hi, cutB_idem (byte_gt hi) (keepN_range _ _)]
theorem ipN_lst (a : IP) (v : Nat) : (ipN a v).1 = a.1.take 8 ++ be8 (v : Int) 8 := by rw [← ipJ_N]; rfl
theorem gt_ipN {a : IP} {v i : Nat} (hi : i < 8) : gt (ipN a v).1 i = gt a.1 i := by
  have h := a.2.1
  rw [ipN_lst, gt_eq (by simp [be8_len]; omega), gt_eq (by omega), List.getElem_append_left (by simp; omega)]
  simp
theorem k_PrefixV (l : List Int) (k : Int) (hk : 0 ≤ k) (hl : l.length ≤ 400) :
    ∃ r hp', (∃ (p : Pfx) (k' : Int), r = pfxV p ∧ hp' = [.cells (tape l k')] ∧ vPfx p = true ∧ 0 ≤ k') ∧ Con Tryz.prog 27 [.pb 0 []] [.cells (tape l k)] r hp' := by
  obtain ⟨r, hp', ⟨i, j, m, k', _, _, _, rfl, rfl, h⟩, c⟩ := k_Prefix l k hk hl
  exact ⟨_, _, ⟨_, _, rfl, rfl, vPfx_mask _ _, h⟩, c⟩
end Go.Fw

/- IPHC: the form of any address that is not a multicast address. -/
namespace Go.Fw
open Go.Proofs
set_option maxHeartbeats 8000000
set_option maxRecDepth 8000
/-- The form with the prefix: by the identifier. -/
def iidF (loc : Bool) (c : Cxt) (e v : Nat) : Cpa :=
  if iidL e = v then chF loc c 3 [] else if shortI v = true then chF loc c 2 (beN 2 v) else chF loc c 1 (beN 8 v)
theorem k_uniP (a : IP) (e : Nat) (s : Bool) (l : List Cxt) (now : Int) (he : e ≤ 18446744073709551615) (h0 : ¬ (s = true ∧ a = ip0)) (loc kn w : Bool) (c : Cxt) (hy : loc = true ∨ (kn = true ∧ w = true))
    (cf : Con Tryz.prog 193 [cxts l, ipV a, int now] [] (.tup [cxtV c, bool kn]) [])
    (cw : Con Tryz.prog 190 [pfxV llP, .pb 0 [], .pb 1 []] [.cells (q64 (loN a : Int)), .cells (ipV a)] (bool loc) [.cells (q64 (loN a : Int)), .cells (ipV a)])
    (cw2 : kn = true → Con Tryz.prog 190 [pfxV c.pfx, .pb 0 [], .pb 1 []] [.cells (q64 (loN a : Int)), .cells (ipV a)] (bool w) [.cells (q64 (loN a : Int)), .cells (ipV a)]) :
    Con Tryz.prog 149 [ipV a, lnkV e, bool s, cxts l, int now] [] (cpaV (iidF loc c e (loN a))) [] := by
  have cs := k_aSplit a
  have ci := k_aIID e he
  have csh := k_short (loN a) (loN_le a)
  have a1 := k_AppS (loN a) 8 (by decide)
  have cc := fun m b => k_choose loc c m b
  have hne : s = true → a.1 ≠ List.replicate 16 0 := fun hs h => h0 ⟨hs, ip_ext h⟩
  have h3 : (kn = false ∧ loc = true) ∨ (kn = true ∧ loc = true) ∨ (kn = true ∧ loc = false ∧ w = true) := by
    cases kn <;> cases loc <;> cases w <;> simp_all
  clear hy
  unfold iidF
  by_cases hi : iidL e = loN a
  · rw [if_pos hi]
    rw [hi] at ci
    rcases h3 with ⟨rfl, rfl⟩ | ⟨rfl, rfl⟩ | ⟨rfl, rfl, rfl⟩
    all_goals
      try have cw3 := cw2 rfl
      cases s
      all_goals
        refine spec_of_run ttok mixed (T0 := 9709185632895178773623935) (ts := [.cell 10 249]) 91 rfl rfl rfl rfl (by simp) rfl ?_
        conv => whnf
        repeat' (first | with_reducible apply True.intro | ((apply Same.mk rfl); (conv => whnf)) | ((first | (apply CallN.mk (cs)) | (apply CallN.mk (cf)) | (apply CallN.mk (k_linkLocal)) | (apply CallN.mk (cw)) | (apply CallN.mk (cw3)) | (apply CallN.mk (ci)) | (apply CallN.le (cc 3 []); focus ((repeat' (first | (with_reducible apply ArgLe.nil) | (exact ArgLe.nil) | (exact ArgLe.rfl) | (exact ArgLe.fs) | (exact True.intro) | (apply And.intro) | (apply Wk.arg; repeat' (first | (exact Wk.rfl) | (exact Wk.nilS) | (exact Wk.tag) | (apply Wk.cons) | (apply Wk.lits) | (exact WkL.nil) | (apply WkL.cons) | fail)) | fail)); done)) | (with_reducible first | apply Bif.T | apply Bif.F) | ((with_reducible apply Bif.beq) <;> intro h <;> (try simp only [lns, beN_len, ipB_len] at h) <;> (try first | (exfalso; omega) | (exact absurd h (hne rfl)))) | (with_reducible apply Bif.not) | (with_reducible apply Frz.l)) <;> conv => whnf) | fail)
  · rw [if_neg hi]
    have hi2 : (iidL e : Int) ≠ (loN a : Int) := by omega
    cases hs : shortI (loN a)
    · rw [if_neg (by decide)]
      rw [shortV, hs] at csh
      rcases h3 with ⟨rfl, rfl⟩ | ⟨rfl, rfl⟩ | ⟨rfl, rfl, rfl⟩
      all_goals
        try have cw3 := cw2 rfl
        cases s
        all_goals
          refine spec_of_run ttok mixed (T0 := 9709185632895178773623935) (ts := [.cell 10 249]) 91 rfl rfl rfl rfl (by simp) rfl ?_
          conv => whnf
          repeat' (first | with_reducible apply True.intro | ((apply Same.mk rfl); (conv => whnf)) | ((first | (apply CallN.mk (cs)) | (apply CallN.mk (cf)) | (apply CallN.mk (k_linkLocal)) | (apply CallN.mk (cw)) | (apply CallN.mk (cw3)) | (apply CallN.mk (ci)) | (apply CallN.mk (csh)) | (apply CallN.mk (a1)) | (apply CallN.mk (cc _ _)) | (with_reducible first | apply Bif.T | apply Bif.F) | ((with_reducible apply Bif.beq) <;> intro h <;> (try simp only [lns, beN_len, ipB_len] at h) <;> (try first | (exfalso; omega) | (exact absurd h (hne rfl)))) | (with_reducible apply Bif.not) | (with_reducible apply Frz.l)) <;> conv => whnf) | fail)
    · rw [if_pos rfl]
      rw [shortV, hs] at csh
      rcases h3 with ⟨rfl, rfl⟩ | ⟨rfl, rfl⟩ | ⟨rfl, rfl, rfl⟩
      all_goals
        try have cw3 := cw2 rfl
        cases s
        all_goals
          refine spec_of_run ttok mixed (T0 := 9709185632895178773623935) (ts := [.cell 10 249]) 91 rfl rfl rfl rfl (by simp) rfl ?_
          conv => whnf
          repeat' (first | with_reducible apply True.intro | ((apply Same.mk rfl); (conv => whnf)) | ((first | (apply CallN.mk (cs)) | (apply CallN.mk (cf)) | (apply CallN.mk (k_linkLocal)) | (apply CallN.mk (cw)) | (apply CallN.mk (cw3)) | (apply CallN.mk (ci)) | (apply CallN.mk (csh)) | (apply CallN.mk (cc _ _)) | (with_reducible first | apply Bif.T | apply Bif.F) | ((with_reducible apply Bif.beq) <;> intro h <;> (try simp only [lns, beN_len, ipB_len] at h) <;> (try first | (exfalso; omega) | (exact absurd h (hne rfl)))) | (with_reducible apply Bif.not) | (with_reducible apply Frz.l)) <;> conv => whnf) | fail)
end Go.Fw
