/- Guards: Seal, Open, Challenge, Respond, Restart. -/
import Derived.Test.YtlkhjalnnciocaaGreatTopJ
namespace Go.Fw
open Go.Proofs
set_option maxHeartbeats 8000000
set_option maxRecDepth 8000
theorem k_cloneK : Con Tryz.prog 49 [keysV] [] (.ov 17 0 0 1) [.arr none 17 [lk1V]] := by
  refine spec_of_run ttok mixed (T0 := 5) (ts := [.tmp 2]) 5 rfl rfl rfl rfl (by simp) rfl ?_
  conv => whnf
  repeat' (first | with_reducible apply True.intro | ((apply Need.mk (by constructor <;> decide)); (conv => whnf)) | ((first | ((with_reducible apply Nm.mk); focus ((try simp only [lns]); exact rfl)) | (with_reducible apply Same.rfl) | (with_reducible apply Cut.l) | (with_reducible apply Frz.l)) <;> conv => whnf) | fail)
theorem k_cloneP (l : List Pr) (t : Tg) (h : l.length ≤ 1) : Con Tryz.prog 120 [.fs t 6 (lst prV l)] [] (.ov 6 0 0 l.length) [.arr none 6 (lst prV l)] := by
  refine spec_of_run ttok mixed (T0 := 5) (ts := [.tmp 2]) 5 rfl rfl rfl rfl (by simp) rfl ?_
  conv => whnf
  repeat' (first | with_reducible apply True.intro | ((first | ((with_reducible apply Nm.mk); focus ((try simp only [lns]); exact rfl)) | ((with_reducible apply Need.mk); focus (unfold roomOK; simp only [lns]; omega)) | (with_reducible apply Same.rfl) | (with_reducible apply Cut.l) | (with_reducible apply Frz.l)) <;> conv => whnf) | fail)
theorem k_cloneB (b : List UInt8) (t : Tg) (h : b.length ≤ 100000) : Con Tryz.prog 55 [.fs t 1 (lst b8 b)] [] (.ov 1 0 0 b.length) [.arr none 1 (lst b8 b)] := by
  refine spec_of_run ttok mixed (T0 := 5) (ts := [.tmp 2]) 5 rfl rfl rfl rfl (by simp) rfl ?_
  conv => whnf
  repeat' (first | with_reducible apply True.intro | ((first | ((with_reducible apply Nm.mk); focus ((try simp only [lns]); exact rfl)) | ((with_reducible apply Need.mk); focus (unfold roomOK; simp only [lns]; omega)) | (with_reducible apply Same.rfl) | (with_reducible apply Cut.l) | (with_reducible apply Frz.l)) <;> conv => whnf) | fail)
theorem k_own (g : Grd) (h : VG g) : Con Tryz.prog 56 [grdV g] [] (grdS g (.ov 17 0 0 1) (.ov 6 1 0 g.ps.length)) [.arr none 17 [lk1V], .arr none 6 (lst prV g.ps)] := by
  have c := fun t => k_cloneP g.ps t h.one
  refine spec_of_run ttok mixed (T0 := 7) (ts := [.cell 2 28]) 12 rfl rfl rfl rfl (by simp) rfl ?_
  conv => whnf
  repeat' (first | with_reducible apply True.intro | ((apply Same.mk rfl); (conv => whnf)) | ((first | (apply CallN.mk (k_cloneK)) | (apply CallN.mk (c _)) | (with_reducible apply Cut.l) | (with_reducible apply Frz.l)) <;> conv => whnf) | fail)
/-- The frame that a guard makes of another one. -/
def sealM (g : Grd) (f : Frm) : Frm := { f with sec := true, ctr := g.ctr, key := 1, mic := tagM K1 (hdrM { f with sec := true, ctr := g.ctr, key := 1, mic := [] }) }
/-- A sealed frame. -/
structure SF (f : Frm) : Prop where
  sec : f.sec = true
  key : f.key = 1
  pay : f.pay.length ≤ 95
  mic : f.mic = tagM K1 (hdrM f)
  ok : OkN f
  src : f.src = D0
theorem SF.seal {g : Grd} {f : Frm} (hg : VG g) (ok : OkN f) (hp : f.pay.length ≤ 95) (hs : f.src = D0) : SF (sealM g f) :=
  ⟨rfl, rfl, hp, rfl, ⟨ok.pan, ok.dst, ok.src, by have := hg.le; have := hg.res; show g.ctr ≤ _; omega⟩, hs⟩
theorem SF.mlen {f : Frm} (h : SF f) : f.mic.length = 4 := by rw [h.mic, tagM_len]
theorem vF_plain {f : Frm} (hs : f.sec = false) (hc : f.ctr = 0) (hk : f.key = 0) (hm : f.mic = []) (hp : f.pay.length ≤ 95) : vF f = true := by
  simp [vF, lenF, hs, hc, hk, hm]; omega
def grd1 (g : Grd) : Grd := { g with ctr := g.ctr + 1 }
theorem VG.grd1 {g : Grd} (h : VG g) (hr : g.ctr < g.res) : VG (grd1 g) := ⟨hr, h.res, h.non, h.one, h.odd⟩
theorem k_SealO (g : Grd) (f : Frm) (h : VG g) (hr : g.ctr < g.res) (hs : f.sec = false) (hc : f.ctr = 0) (hk : f.key = 0) (hm : f.mic = []) (hp : f.pay.length ≤ 95) (ok : OkN f) :
    Con Tryz.prog 18 [grdV g, frmV f, .v (.int .u8 1)] [] (.tup [grdS (grd1 g) (.ov 17 2 0 1) (.ov 6 3 0 g.ps.length), frmS (sealM g f) (.ov 1 1 0 f.pay.length) (.ov 1 0 0 4), int 0])
      [.arr (some 4) 1 (lst b8 (sealM g f).mic), .arr none 1 (lst b8 f.pay), .arr none 17 [lk1V], .arr none 6 (lst prV g.ps)] := by
  have cv := k_gValid g h
  have cf := k_frValid f (by omega) (by simp [hm])
  rw [vF_plain hs hc hk hm hp] at cf
  have ck := k_keyOf g
  have hres := h.res
  obtain ⟨c, sec, seq, pan, dst, src, ctr, key, pay, mic⟩ := f
  obtain ⟨o1, o2, o3, o4⟩ := ok
  dsimp only at hs hc hk hm hp o1 o2 o3 o4
  subst hs hc hk hm
  have ch := k_Header ⟨c, true, seq, pan, dst, src, g.ctr, 1, pay, []⟩ rfl hp (.inl rfl) ⟨o1, o2, o3, by show g.ctr ≤ _; omega⟩
  have ct := fun t => k_Tag K1 (hdrM ⟨c, true, seq, pan, dst, src, g.ctr, 1, pay, []⟩) t K1_len (by rw [hdrM_len]; dsimp only; omega)
  have cf2 := k_frValid (sealM g ⟨c, false, seq, pan, dst, src, 0, 0, pay, []⟩) (by show pay.length ≤ _; omega) (by show (tagM _ _).length ≤ _; rw [tagM_len]; decide)
  rw [vF_sealed (by rfl) hp (by show (tagM _ _).length = _; rw [tagM_len])] at cf2
  have cb := fun t => k_cloneB pay t (by omega)
  have co := k_own g h
  have hmm := tagM_len K1 (hdrM ⟨c, true, seq, pan, dst, src, g.ctr, 1, pay, []⟩)
  have hk2 : kindF c ≠ 2 := by cases c <;> decide
  have es : sealM g ⟨c, false, seq, pan, dst, src, 0, 0, pay, []⟩ = ⟨c, true, seq, pan, dst, src, g.ctr, 1, pay, tagM K1 (hdrM ⟨c, true, seq, pan, dst, src, g.ctr, 1, pay, []⟩)⟩ := rfl
  rw [es] at cf2 ⊢
  clear es
  generalize tagM K1 (hdrM ⟨c, true, seq, pan, dst, src, g.ctr, 1, pay, []⟩) = mm at *
  refine spec_of_run ttok mixed (T0 := 18446779533227986911) (ts := [.cell 6 28, .cell 7 54, .tmp 8]) 79 rfl rfl rfl rfl (by simp) rfl ?_
  conv => whnf
  repeat' (first | with_reducible apply True.intro | ((apply Nm.mk (nm_all hmm.symm)); (conv => whnf)) | ((apply Same.mk rfl); (conv => whnf)) | ((first | ((with_reducible apply Wr.u32); focus omega) | ((with_reducible apply Need.mk); focus first | (simp only [lns, hmm]; omega) | exact CleanP.nil rfl | kernel_rfl) | (apply CallN.mk (cv)) | (apply CallN.mk (cf)) | (apply CallN.mk (ck)) | (apply CallN.mk (ch)) | (apply CallN.mk (ct _)) | (apply CallN.mk (cf2)) | (apply CallN.mk (cb _)) | (apply CallN.mk (co)) | (with_reducible first | apply Bif.T | apply Bif.F) | ((with_reducible apply Bif.beq) <;> intro h <;> (try simp only [lns, hmm] at h) <;> (try (exfalso; omega))) | (with_reducible apply Bif.not) | (with_reducible first | apply Cut.l | apply GiveN.lend) | (with_reducible apply Frz.l)) <;> conv => whnf) | fail)
  done
theorem k_Seal (g : Grd) (f : Frm) (h : VG g) (hr : g.ctr < g.res) (hs : f.sec = false) (hc : f.ctr = 0) (hk : f.key = 0) (hm : f.mic = []) (hp : f.pay.length ≤ 95) (ok : OkN f) :
    Con Tryz.prog 18 [grdV g, frmV f, .v (.int .u8 1)] [] (.tup [grdV (grd1 g), frmV (sealM g f), int 0]) [] :=
  (k_SealO g f h hr hs hc hk hm hp ok).cl (.tup (.cons (.aggC (.ov rfl (by decide) rfl .rfl) (.aggC (.wk rfl .rfl) (.aggC (.wk rfl .rfl) (.aggC (.wk rfl .rfl) (.aggC (.all rfl rfl) .aggN)))))
      (.cons (.aggC (.wk rfl .rfl) (.aggC (.wk rfl .rfl) (.aggC (.wk rfl .rfl) (.aggC (.wk rfl .rfl) (.aggC (.wk rfl .rfl) (.aggC (.wk rfl .rfl) (.aggC (.wk rfl .rfl) (.aggC (.wk rfl .rfl) (.aggC (.wk rfl .rfl) (.aggC (.wk rfl .rfl) (.aggC (.all rfl rfl) (.aggC (.all rfl (tagM_len _ _).symm) .aggN)))))))))))) (.cons (.wk rfl .rfl) .nil)))) rfl
end Go.Fw
