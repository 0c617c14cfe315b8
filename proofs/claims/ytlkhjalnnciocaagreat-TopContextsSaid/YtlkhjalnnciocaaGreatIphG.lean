/- The compressed header of the law's packet, read again. -/
import Derived.Test.YtlkhjalnnciocaaGreatIphD

namespace Go.Fw
open Go.Proofs
set_option maxHeartbeats 8000000
set_option maxRecDepth 8000
theorem k_startC (r : List UInt8) (hr : r.length ≤ 5000) : Con Tryz.prog 157 [.pb 0 []] [.cells (rdV (124 :: 247 :: 51 :: r) 0)] (.tup [int 124, int 247, int 51, int 0]) [.cells (rdV (124 :: 247 :: 51 :: r) 3)] := by
  have c1 := k_rnum (124 :: 247 :: 51 :: r) 0 1 (by decide) (by simp; omega) (by simp)
  have c2 := k_rnum (124 :: 247 :: 51 :: r) 1 1 (by decide) (by simp; omega) (by simp)
  have c3 := k_rnum (124 :: 247 :: 51 :: r) 2 1 (by decide) (by simp; omega) (by simp)
  refine spec_of_run ttok mixed (T0 := 2326109211865449469) (ts := [.tmp 2, .tmp 3, .tmp 4, .tmp 5]) 68 rfl rfl rfl rfl (by simp) rfl ?_
  conv => whnf
  repeat' (first | with_reducible apply True.intro | ((apply Wr.eq (y := 124) rfl); (conv => whnf)) | ((apply Wr.eq (y := 247) rfl); (conv => whnf)) | ((apply Wr.eq (y := 51) rfl); (conv => whnf)) | ((apply Same.mk rfl); (conv => whnf)) | ((first | (apply CallN.mk (c1)) | (apply CallN.mk (c2)) | (apply CallN.mk (c3)) | (with_reducible first | apply Bif.T | apply Bif.F) | ((with_reducible first | apply Bif.dec | apply Bif.beq | apply Bif.bne) <;> intro h <;> (try simp only [lns, beN_len, ipB_len] at h) <;> (try first | (exfalso; omega) | (exact absurd (by decide) h) | (exact absurd h (by decide)))) | (with_reducible apply Frz.l)) <;> conv => whnf) | fail)
def q2V : SV := .agg [.v (.int .u8 0), .v (.int .u32 0), .v (.int .u8 17), .v (.int .u8 63), ipV ip0, ipV ip0, .v (.int .u16 0), .v (.int .u16 0), nilV]
theorem k_rfieldsC (b : List UInt8) (at_ : Nat) (hb : b.length ≤ 10000) (ha : at_ + 1 ≤ b.length) (hv : beV ((b.drop at_).take 1) = 63) : Con Tryz.prog 158 [.pb 0 [], int 124] [.cells (rdV b at_)] (.tup [q2V, int 0]) [.cells (rdV b (at_ + 1))] := by
  have c := fun n x => k_takeNo n x b at_
  have c1 := fun x => k_takeYes 1 x b at_ 1 rfl (by decide) hb ha
  rw [hv] at c1
  refine spec_of_run ttok mixed (T0 := 37788155270178388582391) (ts := [.cell 4 107, .tmp 5]) 79 rfl rfl rfl rfl (by simp) rfl ?_
  conv => whnf
  repeat' (first | with_reducible apply True.intro | ((with_reducible apply GiveN.keep []); (conv => whnf)) | ((apply Elem.mk _ rfl); (conv => whnf)) | ((apply Need.mk (by decide)); (conv => whnf)) | ((apply Same.mk rfl); (conv => whnf)) | ((first | ((with_reducible apply Nm.mk); focus ((try simp only [lns, beN_len, ipB_len]); exact rfl)) | ((with_reducible first | apply Wr.u8 | apply Wr.u32); focus omega) | (apply CallKN.mk (c _ _)) | (apply CallKN.mk (c1 _)) | (with_reducible first | apply Bif.T | apply Bif.F) | ((with_reducible first | apply Bif.dec | apply Bif.beq | apply Bif.bne) <;> intro h <;> (try simp only [lns, beN_len, ipB_len] at h) <;> (try first | (exfalso; omega) | (exact absurd h (by decide)))) | (with_reducible apply Frz.l)) <;> conv => whnf) | fail)
theorem k_findC (l : List Cxt) (id now : Int) (k : Nat) (h : VCx l) (hn : isTm now) (hl : l.length ≤ 1000) (hk : k < l.length) (h1 : ∀ j, j < k → okD id now (gt l j) = false) (h2 : okD id now (gt l k) = true) :
    Con Tryz.prog 160 [.pb 0 [], .pb 1 [], .pb 2 []] [.cells (cxts l), .cells (int id), .cells (int now)] (.tup [cxtV (gt l k), bool true]) [.cells (cxts l), .cells (int id), .cells (int now)] := by
  have c := k_ForD l id now k h hn hl hk h1 h2
  refine spec_of_run ttok mixed (T0 := 31) (ts := [.cell 3 101, .tmp 4]) 11 rfl rfl rfl rfl (by simp) rfl ?_
  conv => whnf
  repeat' (first | with_reducible apply True.intro | ((apply Same.mk rfl); (conv => whnf)) | ((first | (apply CallN.mk (c)) | (with_reducible apply Frz.l)) <;> conv => whnf) | fail)
theorem k_findM (l : List Cxt) (id : Int) (now : Int) : Con Tryz.prog 159 [int id, .pb 0 [], .pb 1 []] [.cells (cxts l), .cells (int now)] (.clo 160 [.pb 0 [], .pb 2 [], .pb 1 []]) [.cells (cxts l), .cells (int now), .cells (int id)] := by
  refine spec_of_run ttok mixed (T0 := 31) (ts := [.tmp 4]) 6 rfl rfl rfl rfl (by simp) rfl ?_
  conv => whnf
  repeat' (first | with_reducible apply True.intro | ((apply Same.mk rfl); (conv => whnf)) | ((with_reducible apply Frz.l) <;> conv => whnf) | fail)
  done
theorem k_rUniC (e : Nat) (he : e ≤ 18446744073709551615) (b : List UInt8) (at_ : Nat) (l : List Cxt) (id now : Int) (k : Nat) (h : VCx l) (hn : isTm now) (hl : l.length ≤ 1000) (hk : k < l.length) (h1 : ∀ j, j < k → okD id now (gt l j) = false) (h2 : okD id now (gt l k) = true)
    (hb : (gt l k).pfx.bits ≤ 64) (hm : gt (ipN (gt l k).pfx.ip (iidL e)).1 0 ≠ 255) : Con Tryz.prog 162 [.pb 0 [], bool true, int 3, lnkV e, .clo 160 [.pb 1 [], .pb 2 [], .pb 3 []]]
    [.cells (rdV b at_), .cells (cxts l), .cells (int id), .cells (int now)] (.tup [ipV (ipN (gt l k).pfx.ip (iidL e)), int 0]) [.cells (rdV b at_), .cells (cxts l), .cells (int id), .cells (int now)] := by
  have ci := k_aIID e he
  have cf := k_findC l id now k h hn hl hk h1 h2
  have cj := k_aJoin (gt l k).pfx (iidL e) (h.pfx k hk)
  rw [if_pos hb] at cj
  have cm := k_aMulti (ipN (gt l k).pfx.ip (iidL e))
  rw [decide_eq_false hm] at cm
  refine spec_of_run ttok mixed (T0 := 38846195984377904124919071) (ts := [.cell 10 67, .tmp 11]) 88 rfl rfl rfl rfl (by simp) rfl ?_
  conv => whnf
  repeat' (first | with_reducible apply True.intro | ((apply Same.mk rfl); (conv => whnf)) | ((first | (apply CallN.mk (ci)) | (apply CallN.mk (cf)) | (apply CallN.mk (cj)) | (apply CallN.mk (cm)) | (apply CallN.mk (k_linkLocal)) | (with_reducible first | apply Bif.T | apply Bif.F) | ((with_reducible first | apply Bif.dec | apply Bif.beq | apply Bif.bne) <;> intro h <;> (try simp only [lns, beN_len, ipB_len] at h) <;> (try (exfalso; omega))) | (with_reducible apply Bif.not) | (with_reducible apply Frz.l)) <;> conv => whnf) | fail)
end Go.Fw

/- The compressed header and the UDP header, read again. -/
namespace Go.Fw
open Go.Proofs
set_option maxHeartbeats 8000000
set_option maxRecDepth 8000
def pktH (p : Pkt) : SV := .agg [b8 p.cls, .v (.int .u32 (p.flow : Int)), b8 p.next, b8 p.hops, ipV p.src, ipV p.dst, .v (.int .u16 0), .v (.int .u16 0), nilV]
theorem k_iDecC (e0 e1 : Nat) (he0 : e0 ≤ 18446744073709551615) (he1 : e1 ≤ 18446744073709551615) (r b : List UInt8) (hr : r.length ≤ 4000) (l : List Cxt) (now : Int) (k : Nat) (h : VCx l) (hn : isTm now) (hl : l.length ≤ 1000) (hk : k < l.length) (h1 : ∀ j, j < k → okD 3 now (gt l j) = false) (h2 : okD 3 now (gt l k) = true)
    (hb : (gt l k).pfx.bits ≤ 64) (hm0 : gt (ipN (gt l k).pfx.ip (iidL e0)).1 0 ≠ 255) (hm1 : gt (ipN (gt l k).pfx.ip (iidL e1)).1 0 ≠ 255) :
    Con Tryz.prog 84 [bys (124 :: 247 :: 51 :: 63 :: r), lnkV e0, lnkV e1, cxts l, int now] [] (.tup [pktH (lawP (ipN (gt l k).pfx.ip (iidL e0)) (ipN (gt l k).pfx.ip (iidL e1)) b), int 4, int 0]) [] := by
  have cc := k_icheck e0 e1 l now h hn hl
  have cs := k_startC (63 :: r) (by simp; omega)
  have cf := k_rfieldsC (124 :: 247 :: 51 :: 63 :: r) 3 (by simp; omega) (by simp) rfl
  have u0 := k_rUniC e0 he0 (124 :: 247 :: 51 :: 63 :: r) 4 l 3 now k h hn hl hk h1 h2 hb hm0
  have u1 := k_rUniC e1 he1 (124 :: 247 :: 51 :: 63 :: r) 4 l 3 now k h hn hl hk h1 h2 hb hm1
  have fi := fun id => k_findM l id now
  refine spec_of_run ttok mixed (T0 := 20769187753296022049305262685159391) (ts := [.cell 10 107, .tmp 11, .tmp 12]) 122 rfl rfl rfl rfl (by simp) rfl ?_
  conv => whnf
  repeat' (first | with_reducible apply True.intro | ((apply Same.mk rfl); (conv => whnf)) | ((first | ((with_reducible apply Need.mk); focus first | omega | kernel_rfl) | (apply CallN.mk (cc)) | (apply CallN.mk (cs)) | (apply CallN.mk (cf)) | (apply CallN.mk (fi _)) | (apply CallN.mk (u0)) | (apply CallN.mk (u1)) | (with_reducible apply Bif.F) | ((with_reducible apply Bif.bne) <;> intro h <;> (try simp only [lns, beN_len, ipB_len] at h) <;> (try first | (exfalso; omega) | (exact absurd (by decide) h) | (exact absurd h (by decide)))) | (with_reducible apply Bif.not) | (with_reducible apply Frz.l)) <;> conv => whnf) | fail)
theorem k_readUDP_D (p : Pkt) (s : Nat) (r : List UInt8) (hA : ¬ (half p.sp ∧ half p.dp)) (hB : ¬ byt p.dp) (hC : ¬ byt p.sp) (hsp : p.sp ≤ 65535) (hdp : p.dp ≤ 65535) (hs : s ≤ 65535) (hr : r.length ≤ 5000) :
    Con Tryz.prog 85 [bys (udpB p s ++ r)] [] (.tup [.v (.int .u16 (p.sp : Int)), .v (.int .u16 (p.dp : Int)), .v (.int .u16 (s : Int)), int ((udpB p s).length : Int), int 0]) [] := by
  unfold udpB
  rw [if_neg hA, if_neg hB, if_neg hC]
  have hl : ([] ++ beN 1 240 ++ beN 2 p.sp ++ beN 2 p.dp ++ beN 2 s).length = 7 := by simp [beN_len]
  rw [hl]
  have hb : [] ++ beN 1 240 ++ beN 2 p.sp ++ beN 2 p.dp ++ beN 2 s ++ r = 240 :: (beN 2 p.sp ++ (beN 2 p.dp ++ (beN 2 s ++ r))) := by simp [beN1_eq]
  rw [hb]
  have e0 : gt (240 :: (beN 2 p.sp ++ (beN 2 p.dp ++ (beN 2 s ++ r)))) 0 = 240 := rfl
  have d1 : (240 :: (beN 2 p.sp ++ (beN 2 p.dp ++ (beN 2 s ++ r)))).drop 1 = beN 2 p.sp ++ (beN 2 p.dp ++ (beN 2 s ++ r)) := rfl
  have d3 : (240 :: (beN 2 p.sp ++ (beN 2 p.dp ++ (beN 2 s ++ r)))).drop 3 = beN 2 p.dp ++ (beN 2 s ++ r) := by
    rw [show (3 : Nat) = 1 + 2 from rfl, ← List.drop_drop, d1]; exact List.drop_left' (beN_len 2 _)
  have d5 : (240 :: (beN 2 p.sp ++ (beN 2 p.dp ++ (beN 2 s ++ r)))).drop 5 = beN 2 s ++ r := by
    rw [show (5 : Nat) = 3 + 2 from rfl, ← List.drop_drop, d3]; exact List.drop_left' (beN_len 2 _)
  have e1 := (congrArg (List.take 2) d1).trans (List.take_left' (beN_len 2 p.sp))
  have e3 := (congrArg (List.take 2) d3).trans (List.take_left' (beN_len 2 p.dp))
  have e5 := (congrArg (List.take 2) d5).trans (List.take_left' (beN_len 2 s))
  have hbl : (240 :: (beN 2 p.sp ++ (beN 2 p.dp ++ (beN 2 s ++ r)))).length = 7 + r.length := by simp [beN_len]; omega
  generalize 240 :: (beN 2 p.sp ++ (beN 2 p.dp ++ (beN 2 s ++ r))) = b at *
  have t1 := k_takeU b 1 2 (by decide) (by omega) (by omega)
  have t3 := k_takeU b 3 2 (by decide) (by omega) (by omega)
  have t5 := k_takeU b 5 2 (by decide) (by omega) (by omega)
  rw [e1, beV_2 _ hsp] at t1
  rw [e3, beV_2 _ hdp] at t3
  rw [e5, beV_2 _ hs] at t5
  refine spec_of_run ttok mixed (T0 := 75557863725948716752895) (ts := [.tmp 2, .tmp 3, .tmp 4, .tmp 5, .cell 6 55]) 82 rfl rfl rfl rfl (by simp) rfl ?_
  conv => whnf
  repeat' (first | with_reducible apply True.intro | ((apply Wr.eq (y := 0) (by rw [e0]; rfl)); (conv => whnf)) | ((apply Elem.mk _ rfl); (conv => whnf)) | ((apply Same.int (by omega)); (conv => whnf)) | ((first | ((with_reducible apply Nm.mk); focus ((try simp only [lns, beN_len, ipB_len, hbl, e0]); exact rfl)) | ((with_reducible first | apply Wr.u16 | apply Wr.u64); focus omega) | ((with_reducible apply Need.mk); focus first | omega | (simp only [lns, beN_len, ipB_len, hbl, e0]; omega) | kernel_rfl) | ((with_reducible apply Elem.lst); focus omega) | (apply CallN.mk (t1)) | (apply CallN.mk (t3)) | (apply CallN.mk (t5)) | (with_reducible apply Bif.F) | ((with_reducible first | apply Bif.dec | apply Bif.beq | apply Bif.bne) <;> intro h <;> (try simp only [lns, beN_len, ipB_len, hbl, e0] at h) <;> (try first | (exfalso; omega) | (exact absurd h (by decide)))) | (with_reducible apply Frz.l)) <;> conv => whnf) | fail)
end Go.Fw

/- The compressed packet, read again. -/
namespace Go.Fw
open Go.Proofs
set_option maxHeartbeats 8000000
set_option maxRecDepth 8000
theorem k_cDecF (p : Pkt) (e0 e1 : Nat) (l : List Cxt) (now : Int) (C : List UInt8) (hd n m : Nat) (hv : VP p) (h17 : p.next = 17) (h0 : gt C 0 ≠ 65) (hC : C.drop n = udpB p (sumP p) ++ p.pay) (hn : n ≤ C.length) (hl : C.length ≤ 1400) (h1 : 1 ≤ C.length) (hm : m = (udpB p (sumP p)).length)
    (ci : Con Tryz.prog 84 [bys C, lnkV e0, lnkV e1, cxts l, int now] [] (.tup [pktH p, int (n : Int), int 0]) [])
    (cr : Con Tryz.prog 85 [bys (udpB p (sumP p) ++ p.pay)] [] (.tup [.v (.int .u16 (p.sp : Int)), .v (.int .u16 (p.dp : Int)), .v (.int .u16 (sumP p : Int)), int ((udpB p (sumP p)).length : Int), int 0]) []) :
    Con Tryz.prog 36 [bys C, lnkV e0, lnkV e1, cxts l, int now] [] (.tup [pktV p, int 0]) [] := by
  obtain ⟨hs, cs⟩ := k_pSum p hv h17
  have cz := k_pSize p (bys p.pay) rfl (by have := hv.size; unfold sizeP at this; split at this <;> omega)
  have hsz := hv.size
  have hlU : (udpB p (sumP p) ++ p.pay).length = C.length - n := by rw [← hC, List.length_drop]
  have e3 : (udpB p (sumP p) ++ p.pay).drop m = p.pay := by rw [hm]; simp
  have hmU : m ≤ (udpB p (sumP p) ++ p.pay).length := by rw [hm]; simp
  have h8 : (gt C 0).toNat ≠ 65 := fun h => h0 (UInt8.toNat_inj.1 h)
  have hpl : p.pay.length = C.length - n - m := by have := congrArg List.length e3; simp at this; simp at hlU; omega
  have h17 : (p.next.toNat : Int) = 17 := by rw [h17]; rfl
  rw [← hm] at cr
  refine Con.cl (r := .tup [pktS p (.ov 1 0 0 p.pay.length), int 0]) (hp' := [.arr (some p.pay.length) 1 (lst b8 p.pay)]) ?_
    (.tup (.cons (.aggC (.wk rfl .rfl) (.aggC (.wk rfl .rfl) (.aggC (.wk rfl .rfl) (.aggC (.wk rfl .rfl) (.aggC (.wk rfl .rfl) (.aggC (.wk rfl .rfl) (.aggC (.wk rfl .rfl) (.aggC (.wk rfl .rfl) (.aggC (.all rfl rfl) .aggN))))))))) (.cons (.wk rfl .rfl) .nil))) rfl
  generalize udpB p (sumP p) ++ p.pay = U at *
  refine spec_of_run ttok mixed (T0 := 4840430257757702759644383) (ts := [.cell 10 107, .tmp 11]) 93 rfl rfl rfl rfl (by simp) rfl ?_
  conv => whnf
  repeat' (first | with_reducible apply True.intro | ((apply Nm.mk (show List.take ((lst b8 C).length - n) (List.drop n (lst b8 C)) = lst b8 U by rw [nm_tailN, hC])); (conv => whnf)) | ((apply Nm.mk (show List.take ((lst b8 U).length - m) (List.drop m (lst b8 U)) = lst b8 p.pay by rw [nm_tailN, e3])); (conv => whnf)) | ((apply Same.mk rfl); (conv => whnf)) | ((apply Same.mk); (focus (simp [lst]; done)); (conv => whnf)) | ((first | (with_reducible apply Nm.rep _ (rfl)) | ((with_reducible apply Nm.mk); focus ((try simp only [lns, beN_len, ipB_len, hlU]); exact rfl)) | ((with_reducible apply Need.mk); focus first | (simp only [lns, beN_len, ipB_len, hlU]; omega) | (unfold roomOK; simp only [lns, beN_len, ipB_len, hlU]; omega)) | ((with_reducible apply Elem.lst); focus omega) | (apply CallN.mk (ci)) | (apply CallN.mk (cr)) | (apply CallN.mk (cz)) | (apply CallN.mk (cs)) | (with_reducible apply Bif.T) | ((with_reducible first | apply Bif.dec | apply Bif.beq | apply Bif.bne) <;> intro h <;> (try simp only [lns, beN_len, ipB_len, hlU] at h) <;> (try (exfalso; omega))) | (with_reducible apply Frz.l)) <;> conv => whnf) | fail)
end Go.Fw
