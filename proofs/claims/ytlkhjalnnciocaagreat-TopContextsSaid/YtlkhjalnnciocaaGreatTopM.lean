/- Guards: Open, Challenge, Respond, Restart. -/
import Derived.Test.YtlkhjalnnciocaaGreatTopL
namespace Go.Fw
open Go.Proofs
set_option maxHeartbeats 8000000
set_option maxRecDepth 8000
def grd0V : SV := .agg [nilV, .v (.int .u32 0), .v (.int .u32 0), .v (.int .u32 0), nilV]
def msgM (x : UInt8) (n : Nat) : List UInt8 := [x] ++ beN 4 n
theorem k_messageO (x : UInt8) (n : Nat) (hn : n ≤ 4294967295) : Con Tryz.prog 50 [b8 x, .v (.int .u32 (n : Int))] [] (.ov 1 0 0 5) [.arr (some 5) 1 (lst b8 (msgM x n))] := by
  have c := fun t => k_Append [x] n 4 t (by decide) (by simp)
  refine spec_of_run ttok mixed (T0 := 19) (ts := [.tmp 4]) 10 rfl rfl rfl rfl (by simp) rfl ?_
  conv => whnf
  repeat' (first | with_reducible apply True.intro | ((apply Nm.mk (show [b8 x] = lst b8 [x] from rfl)); (conv => whnf)) | ((apply Same.mk rfl); (conv => whnf)) | ((first | ((with_reducible apply Wr.u64); focus omega) | ((with_reducible apply Need.mk); focus first | (simp only [lns]; omega) | exact CleanP.lst rfl (fun _ => rfl)) | (apply CallN.mk (c _)) | (with_reducible apply GiveN.lend) | (with_reducible apply Frz.l)) <;> conv => whnf) | fail)
theorem k_message (x : UInt8) (n : Nat) (hn : n ≤ 4294967295) : Con Tryz.prog 50 [b8 x, .v (.int .u32 (n : Int))] [] (bys (msgM x n)) [] :=
  (k_messageO x n hn).cl (.one (.all rfl (by simp [msgM, beN_len])) (fun l h => by cases h)) rfl
theorem k_ChallengeO (g : Grd) (h : VG g) : Con Tryz.prog 17 [grdV g] [] (.ov 1 0 0 5) [.arr (some 5) 1 (lst b8 (msgM 1 g.nonce))] := by
  have c := k_messageO 1 g.nonce h.non
  have cv := k_gValid g h
  refine spec_of_run ttok mixed (T0 := 39) (ts := [.tmp 2]) 9 rfl rfl rfl rfl (by simp) rfl ?_
  conv => whnf
  repeat' (first | with_reducible apply True.intro | ((first | (apply CallN.mk (cv)) | (apply CallN.mk (c)) | (with_reducible apply Bif.T) | (with_reducible apply Bif.not) | (with_reducible apply Same.rfl) | (with_reducible apply Frz.l)) <;> conv => whnf) | fail)
theorem k_Challenge (g : Grd) (h : VG g) : Con Tryz.prog 17 [grdV g] [] (bys (msgM 1 g.nonce)) [] :=
  (k_ChallengeO g h).cl (.one (.all rfl (by simp [msgM, beN_len])) (fun l h => by cases h)) rfl
theorem k_RespondO (n : Nat) : Con Tryz.prog 16 [bys (msgM 1 n)] [] (.tup [.ov 1 0 0 5, bool true]) [.arr none 1 (lst b8 (msgM 2 n))] := by
  have hl : (msgM 1 n).length = 5 := by simp [msgM, beN_len]
  have e0 : gt (msgM 1 n) 0 = 1 := rfl
  have e1 : (msgM 1 n).drop 1 = beN 4 n := rfl
  generalize hm : msgM 1 n = m at *
  refine spec_of_run ttok mixed (T0 := 4109) (ts := [.tmp 2, .tmp 3]) 17 rfl rfl rfl rfl (by simp) rfl ?_
  conv => whnf
  repeat' (first | with_reducible apply True.intro | ((apply Nm.mk (nm_tail (n := 1) (by decide))); (conv => whnf)) | ((apply Same.mk (show [SV.v (.int .u8 2)] ++ lst b8 (List.drop 1 m) = lst b8 (msgM 2 n) by rw [e1]; rfl)); (conv => whnf)) | ((first | ((with_reducible apply Nm.mk); focus ((try simp only [lns, hl]); exact rfl)) | ((with_reducible apply Need.mk); focus first | (simp only [lns, hl]; omega) | (unfold roomOK; simp only [lns, hl]; omega)) | ((with_reducible apply Elem.lst); focus omega) | (with_reducible apply Bif.F) | ((with_reducible apply Bif.bne) <;> intro h <;> (try simp only [lns, hl] at h) <;> (try first | (exfalso; omega) | (exact absurd (by rw [e0]; rfl) h))) | (with_reducible apply Same.rfl) | (apply Same.bool; focus (with_reducible rfl)) | (with_reducible first | apply Alt.l | apply Cut.l) | (with_reducible apply Frz.l)) <;> conv => whnf) | fail)
  done
theorem k_Respond (n : Nat) : Con Tryz.prog 16 [bys (msgM 1 n)] [] (.tup [bys (msgM 2 n), bool true]) [] :=
  (k_RespondO n).cl (.tup (.cons (.all rfl (by simp [msgM, beN_len])) (.cons (.wk rfl .rfl) .nil))) rfl
theorem k_Restart (g : Grd) (n : Nat) (h : VG g) : Con Tryz.prog 15 [grdV g, .v (.int .u32 (n : Int))] [] (grdV ⟨g.res, g.res, n, []⟩) [] := by
  have cv := k_gValid g h
  refine Con.cl (r := grdS ⟨g.res, g.res, n, []⟩ (.ov 17 0 0 1) nilV) (hp' := [.arr none 17 [lk1V]]) ?_
    (.one (.aggC (.ov rfl (by decide) rfl .rfl) (.aggC (.wk rfl .rfl) (.aggC (.wk rfl .rfl) (.aggC (.wk rfl .rfl) (.aggC (.wk rfl .nilS) .aggN))))) (fun l h => by cases h)) rfl
  refine spec_of_run ttok mixed (T0 := 151) (ts := [.cell 4 28]) 18 rfl rfl rfl rfl (by simp) rfl ?_
  conv => whnf
  repeat' (first | with_reducible apply True.intro | ((apply Same.mk rfl); (conv => whnf)) | ((first | ((with_reducible apply Need.mk); focus kernel_rfl) | (apply CallN.mk (cv)) | (apply CallN.mk (k_cloneK)) | (with_reducible apply Bif.T) | (with_reducible apply Bif.not) | (with_reducible apply Cut.l) | (with_reducible apply Frz.l)) <;> conv => whnf) | fail)
  done
/-- A frame from the one peer. -/
theorem k_Open1 (g : Grd) (p : Pr) (f : Frm) (h : VG g) (hp : g.ps = [p]) (hf : SF f) :
    Con Tryz.prog 20 [grdV g, frmV f] [] (if seenP p f.ctr = true then .tup [grd0V, int 13] else .tup [grdV { g with ps := [accM p f.ctr] }, int 0]) [] := by
  have cv := k_gValid g h
  have cf := k_frValid f (by have := hf.pay; omega) (by rw [hf.mlen]; decide)
  rw [vF_sealed hf.sec hf.pay hf.mlen] at cf
  have ck := k_keyOf g
  have ch := k_Header f hf.sec hf.pay (.inr hf.mlen) hf.ok
  have ct := fun t1 t2 => k_Verify K1 (hdrM f) f.mic t1 t2 K1_len (by rw [hdrM_len]; have := hf.pay; omega) hf.mlen
  rw [decide_eq_true hf.mic.symm] at ct
  have co := k_own g h
  have hw := (h.odd p (by rw [hp]; simp)).2
  have ca := k_accept p f.ctr hw hf.ok.ctr
  have cc := fun q => k_pCmp p q
  have hfs := hf.src
  have hfk := hf.key
  have hfc := hf.sec
  obtain ⟨gc, gr, gn, gp⟩ := g
  dsimp only at hp
  subst hp
  obtain ⟨c, sec, seq, pan, dst, src, ctr, key, pay, mic⟩ := f
  dsimp only at hfs hfk hfc ca
  subst hfs hfk hfc
  by_cases hs : seenP p ctr = true
  · rw [if_pos hs] at ca ⊢
    refine spec_of_run ttok mixed (T0 := 44917273731796548135974670973929898647551) (ts := [.cell 4 28, .tmp 5]) 154 rfl rfl rfl rfl (by simp) rfl ?_
    conv => whnf
    repeat' (first | ((first | ((with_reducible apply Need.mk); focus kernel_rfl) | (apply CallN.mk (cv)) | (apply CallN.mk (cf)) | (apply CallN.mk (ck)) | (apply CallN.mk (ch)) | (apply CallN.mk (ct _ _)) | (with_reducible first | apply Bif.T | apply Bif.F) | (with_reducible apply Bif.not) | (with_reducible apply Frz.l)) <;> conv => whnf) | fail)
    refine LoopN.unr 2 ttok mixed (T0 := 44917273731796548135974670973929898647551) ?_
    conv => whnf
    repeat' (first | with_reducible apply True.intro | ((apply Elem.mk _ rfl); (conv => whnf)) | ((apply Same.mk rfl); (conv => whnf)) | ((first | ((with_reducible apply Nm.mk); focus ((try simp only [lns]); exact rfl)) | ((with_reducible apply Need.mk); focus first | (simp only [lns]; omega) | kernel_rfl) | (apply CallN.mk (cc ⟨ctr, 4294967295⟩)) | (apply CallN.mk (co)) | (apply CallN.mk (ca)) | (with_reducible apply Bif.T) | ((with_reducible first | apply Bif.dec | apply Bif.beq | apply Bif.bne) <;> intro h <;> (try simp only [lns] at h) <;> (try first | (exfalso; omega) | (exact absurd rfl h))) | (with_reducible apply Bif.and) | (with_reducible apply Frz.l)) <;> conv => whnf) | fail)
  · rw [if_neg hs] at ca ⊢
    refine Con.cl (r := .tup [grdS ⟨gc, gr, gn, [accM p ctr]⟩ (.ov 17 0 0 1) (.ov 6 1 0 1), int 0]) (hp' := [.arr none 17 [lk1V], .arr none 6 (lst prV [accM p ctr])]) ?_
      (.tup (.cons (.aggC (.ov rfl (by decide) rfl .rfl) (.aggC (.wk rfl .rfl) (.aggC (.wk rfl .rfl) (.aggC (.wk rfl .rfl) (.aggC (.all rfl rfl) .aggN))))) (.cons (.wk rfl .rfl) .nil))) rfl
    refine spec_of_run ttok mixed (T0 := 44917273731796548135974670973929898647551) (ts := [.cell 4 28, .tmp 5]) 154 rfl rfl rfl rfl (by simp) rfl ?_
    conv => whnf
    repeat' (first | ((first | ((with_reducible apply Need.mk); focus kernel_rfl) | (apply CallN.mk (cv)) | (apply CallN.mk (cf)) | (apply CallN.mk (ck)) | (apply CallN.mk (ch)) | (apply CallN.mk (ct _ _)) | (with_reducible first | apply Bif.T | apply Bif.F) | (with_reducible apply Bif.not) | (with_reducible apply Frz.l)) <;> conv => whnf) | fail)
    refine LoopN.unr 2 ttok mixed (T0 := 44917273731796548135974670973929898647551) ?_
    conv => whnf
    repeat' (first | with_reducible apply True.intro | ((apply Elem.mk _ rfl); (conv => whnf)) | ((apply Same.mk rfl); (conv => whnf)) | ((first | ((with_reducible apply Nm.mk); focus ((try simp only [lns]); exact rfl)) | ((with_reducible apply Need.mk); focus first | (simp only [lns]; omega) | kernel_rfl) | (apply CallN.mk (cc ⟨ctr, 4294967295⟩)) | (apply CallN.mk (co)) | (apply CallN.mk (ca)) | (with_reducible apply Bif.T) | ((with_reducible first | apply Bif.dec | apply Bif.beq | apply Bif.bne) <;> intro h <;> (try simp only [lns] at h) <;> (try first | (exfalso; omega) | (exact absurd rfl h))) | (with_reducible apply Bif.and) | (with_reducible apply Cut.l) | (with_reducible apply Frz.l)) <;> conv => whnf) | fail)
    done
/-- A command from a peer that is not known yet. -/
theorem k_Open0O (g : Grd) (f : Frm) (h : VG g) (hp : g.ps = []) (hf : SF f) (hc : f.c = true) (hpay : f.pay = msgM 2 g.nonce) :
    Con Tryz.prog 20 [grdV g, frmV f] [] (.tup [grdS { g with ps := [⟨f.ctr, 4294967295⟩] } (.ov 17 0 0 1) (.ov 6 1 0 1), int 0]) [.arr none 17 [lk1V], .arr none 6 (lst prV [⟨f.ctr, 4294967295⟩])] := by
  have cv := k_gValid g h
  have cf := k_frValid f (by have := hf.pay; omega) (by rw [hf.mlen]; decide)
  rw [vF_sealed hf.sec hf.pay hf.mlen] at cf
  have ck := k_keyOf g
  have ch := k_Header f hf.sec hf.pay (.inr hf.mlen) hf.ok
  have ct := fun t1 t2 => k_Verify K1 (hdrM f) f.mic t1 t2 K1_len (by rw [hdrM_len]; have := hf.pay; omega) hf.mlen
  rw [decide_eq_true hf.mic.symm] at ct
  have co := k_own g h
  have cm := k_message 2 g.nonce h.non
  have ce := fun t1 t2 => k_bytesEqual f.pay (msgM 2 g.nonce) t1 t2
  rw [decide_eq_true hpay] at ce
  have hfs := hf.src
  have hfk := hf.key
  have hfc := hf.sec
  obtain ⟨gc, gr, gn, gp⟩ := g
  dsimp only at hp
  subst hp
  obtain ⟨c, sec, seq, pan, dst, src, ctr, key, pay, mic⟩ := f
  dsimp only at hfs hfk hfc hc
  subst hfs hfk hfc hc
  refine spec_of_run ttok mixed (T0 := 44917273731796548135974670973929898647551) (ts := [.cell 4 28, .tmp 5]) 154 rfl rfl rfl rfl (by simp) rfl ?_
  conv => whnf
  repeat' (first | ((first | ((with_reducible apply Need.mk); focus kernel_rfl) | (apply CallN.mk (cv)) | (apply CallN.mk (cf)) | (apply CallN.mk (ck)) | (apply CallN.mk (ch)) | (apply CallN.mk (ct _ _)) | (with_reducible first | apply Bif.T | apply Bif.F) | (with_reducible apply Bif.not) | (with_reducible apply Frz.l)) <;> conv => whnf) | fail)
  refine LoopN.unr 2 ttok mixed (T0 := 44917273731796548135974670973929898647551) ?_
  conv => whnf
  repeat' (first | with_reducible apply True.intro | ((apply Same.mk rfl); (conv => whnf)) | ((first | ((with_reducible apply Nm.mk); focus ((try simp only [lns]); exact rfl)) | ((with_reducible apply Need.mk); focus first | omega | (simp only [lns]; omega) | kernel_rfl | (unfold roomOK; simp only [lns]; omega)) | (apply CallN.mk (co)) | (apply CallN.mk (cm)) | (apply CallN.mk (ce _ _)) | (with_reducible first | apply Bif.T | apply Bif.F) | ((with_reducible first | apply Bif.dec | apply Bif.beq | apply Bif.bne) <;> intro h <;> (try simp only [lns] at h) <;> (try first | (exfalso; omega) | (exact absurd rfl h))) | (with_reducible apply Bif.not) | (with_reducible first | apply Alt.l | apply Cut.l) | (with_reducible apply Frz.l)) <;> conv => whnf) | fail)
  done
theorem k_Open0 (g : Grd) (f : Frm) (h : VG g) (hp : g.ps = []) (hf : SF f) (hc : f.c = true) (hpay : f.pay = msgM 2 g.nonce) :
    Con Tryz.prog 20 [grdV g, frmV f] [] (.tup [grdV { g with ps := [⟨f.ctr, 4294967295⟩] }, int 0]) [] :=
  (k_Open0O g f h hp hf hc hpay).cl (.tup (.cons (.aggC (.ov rfl (by decide) rfl .rfl) (.aggC (.wk rfl .rfl) (.aggC (.wk rfl .rfl) (.aggC (.wk rfl .rfl) (.aggC (.all rfl rfl) .aggN))))) (.cons (.wk rfl .rfl) .nil))) rfl
end Go.Fw
