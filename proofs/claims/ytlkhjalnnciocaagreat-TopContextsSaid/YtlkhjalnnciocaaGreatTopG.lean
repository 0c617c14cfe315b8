/- Frames: Valid, Header. -/
import Derived.Test.YtlkhjalnnciocaaGreatTopF
namespace Go.Fw
open Go.Proofs
set_option maxHeartbeats 8000000
set_option maxRecDepth 8000
theorem k_frValid (f : Frm) (hp : f.pay.length ≤ 100000) (hm : f.mic.length ≤ 100000) : Con Tryz.prog 51 [frmV f] [] (bool (vF f)) [] := by
  have cl := k_vData f hp hm
  obtain ⟨c, sec, seq, pan, dst, src, ctr, key, pay, mic⟩ := f
  generalize hv : vF _ = vv at cl ⊢
  cases c <;> simp only [frmV, frmS, kindF, Bool.not_true, Bool.not_false, if_true, if_false, Bool.false_eq_true] at cl ⊢
  all_goals
    refine spec_of_run ttok mixed (T0 := 567) (ts := [.tmp 2]) 14 rfl rfl rfl rfl (by simp) rfl ?_
    conv => whnf
    repeat' (first | with_reducible apply True.intro | ((first | (apply CallN.mk (cl)) | ((with_reducible apply Bif.beq) <;> intro h <;> (try simp only [lns] at h) <;> (try (exfalso; omega))) | (with_reducible apply Same.rfl) | (with_reducible apply Frz.l)) <;> conv => whnf) | fail)
theorem k_fflag (b : Bool) (x : Int) : Con Tryz.prog 118 [bool b, .v (.int .u8 x)] [] (.v (.int .u8 (if b = true then x else 0))) [] := by
  cases b
  all_goals
    refine spec_of_run ttok mixed (T0 := 51) (ts := [.tmp 4]) 7 rfl rfl rfl rfl (by simp) rfl ?_
    conv => whnf
    repeat' (first | with_reducible apply True.intro | ((first | (with_reducible first | apply Bif.T | apply Bif.F) | (apply Same.int; focus rfl) | (with_reducible apply Frz.l)) <;> conv => whnf) | fail)
theorem k_apAddr (b : List UInt8) (e : Nat) (t : Tg) (hb : b.length ≤ 1000) : Con Tryz.prog 119 [.fs t 1 (lst b8 b), lnkV e] [] (.ov 1 0 0 (b.length + 8)) [.arr (some (b.length + 8)) 1 (lst b8 (b ++ beN 8 e))] := by
  refine spec_of_run ttok mixed (T0 := 155) (ts := [.tmp 4]) 17 rfl rfl rfl rfl (by simp) rfl ?_
  conv => whnf
  repeat' (first | with_reducible apply True.intro | ((first | (apply CallN.mk (k_Append b e 8 _ (by omega) (by omega))) | ((with_reducible apply Bif.beq) <;> intro h <;> (try simp only [lns] at h) <;> (try (exfalso; omega))) | (with_reducible apply Same.rfl) | (with_reducible apply Frz.l)) <;> conv => whnf) | fail)
/-- The bytes of a sealed frame ahead of MIC and the CRC. -/
def firstF (c : Bool) : UInt8 := if c then 200 else 104
def hdrM (f : Frm) : List UInt8 := [firstF f.c, 240, f.seq] ++ beN 2 f.pan ++ beN 8 f.dst ++ beN 8 f.src ++ beN 4 f.ctr ++ [f.key] ++ f.pay
theorem hdrM_len (f : Frm) : (hdrM f).length = 26 + f.pay.length := by simp [hdrM, beN_len]; omega
theorem vF_sealed {f : Frm} (hs : f.sec = true) (hp : f.pay.length ≤ 95) (hm : f.mic.length = 4) : vF f = true := by
  simp [vF, lenF, hs, hm]; omega
theorem vF_nomic {f : Frm} (hs : f.sec = true) (hm : f.mic = []) : vF f = false := by
  simp [vF, hs, hm]
/-- The numbers are in range. -/
structure OkN (f : Frm) : Prop where
  pan : f.pan ≤ 65535
  dst : f.dst ≤ 18446744073709551615
  src : f.src ≤ 18446744073709551615
  ctr : f.ctr ≤ 4294967295
theorem first0 {x : Int} {q : UInt8} (h : x = 104) : [SV.v (.int .u8 x), SV.v (.int .u8 240), b8 q] = lst b8 [firstF false, 240, q] := by subst h; rfl
theorem first1 {x : Int} {q : UInt8} (h : x = 200) : [SV.v (.int .u8 x), SV.v (.int .u8 240), b8 q] = lst b8 [firstF true, 240, q] := by subst h; rfl
theorem nm_app {α : Type} {f : α → SV} {a b : List α} : Fw.lst f a ++ Fw.lst f b = Fw.lst f (a ++ b) := lst_app a b
/-- Header of a frame that has its MIC, or will have it. -/
theorem k_HeaderO (f : Frm) (hs : f.sec = true) (hp : f.pay.length ≤ 95) (hm : f.mic = [] ∨ f.mic.length = 4) (ok : OkN f) : Con Tryz.prog 54 [frmV f] [] (.ov 1 0 0 (26 + f.pay.length)) [.arr none 1 (lst b8 (hdrM f))] := by
  have hm1 : f.mic.length ≤ 4 := by rcases hm with h | h <;> simp [h]
  have cv := k_frValid f (by omega) (by omega)
  have cv2 := k_frValid { f with mic := List.replicate 4 0 } (by show f.pay.length ≤ _; omega) (by simp)
  rw [vF_sealed (f := { f with mic := List.replicate 4 0 }) hs hp rfl] at cv2
  obtain ⟨c, sec, seq, pan, dst, src, ctr, key, pay, mic⟩ := f
  obtain ⟨o1, o2, o3, o4⟩ := ok
  dsimp only at hs hp hm hm1 cv2 o1 o2 o3 o4
  subst hs
  have ca := k_fflag
  have b1 := fun t => k_Append [firstF c, 240, seq] pan 2 t (by decide) (by simp)
  have b2 := fun t => k_apAddr ([firstF c, 240, seq] ++ beN 2 pan) dst t (by simp [beN_len])
  have b3 := fun t => k_apAddr ([firstF c, 240, seq] ++ beN 2 pan ++ beN 8 dst) src t (by simp [beN_len])
  have b4 := fun t => k_Append ([firstF c, 240, seq] ++ beN 2 pan ++ beN 8 dst ++ beN 8 src) ctr 4 t (by decide) (by simp [beN_len])
  rcases hm with rfl | hm
  · rw [vF_nomic rfl rfl] at cv
    cases c <;> simp only [frmV, frmS, kindF, Bool.not_true, Bool.not_false, if_true, if_false, Bool.false_eq_true] at cv cv2 ⊢
    all_goals
      refine spec_of_run ttok mixed (T0 := 2305913377957875871) (ts := [.tmp 2]) 76 rfl rfl rfl rfl (by simp) rfl ?_
      conv => whnf
      repeat' (first | with_reducible apply True.intro | ((with_reducible apply Wr.u64); (focus omega); (conv => whnf)) | ((apply Wr.mk); (conv => whnf)) | ((apply Nm.mk (first0 (by decide))); (conv => whnf)) | ((apply Nm.mk (first1 (by decide))); (conv => whnf)) | ((apply Nm.mk (nm_all (by simp [beN_len]))); (conv => whnf)) | ((with_reducible apply Nm.mk nm_app); (conv => whnf)) | ((first | (with_reducible first | apply Nm.snoc _ (rfl) | apply Nm.rep _ (rfl)) | ((with_reducible apply Nm.mk); focus ((try simp only [lns, beN_len]); exact rfl)) | ((with_reducible apply Need.mk); focus first | omega | (simp only [lns, beN_len]; omega) | exact CleanP.nil rfl | exact CleanP.lst rfl (fun _ => rfl) | kernel_rfl | (unfold roomOK; simp only [lns, beN_len]; omega) | (refine ⟨?_, ?_, ?_⟩ <;> first | omega | (unfold roomOK; omega) | fail)) | (apply CallN.mk (cv)) | (apply CallN.mk (cv2)) | (apply CallN.mk (ca _ _)) | (apply CallN.mk (b1 _)) | (apply CallN.mk (b2 _)) | (apply CallN.mk (b3 _)) | (apply CallN.mk (b4 _)) | (with_reducible first | apply Bif.T | apply Bif.F) | ((with_reducible apply Bif.bne) <;> intro h <;> (try simp only [lns, beN_len] at h) <;> (try (exfalso; omega))) | (with_reducible apply Bif.not) | (with_reducible apply Same.rfl) | (apply Same.rfl) | (with_reducible first | apply Alt.l | apply Cut.l | apply GiveN.lend) | (with_reducible apply Frz.l)) <;> conv => whnf) | fail)
  · rw [vF_sealed rfl hp hm] at cv
    cases c <;> simp only [frmV, frmS, kindF, Bool.not_true, Bool.not_false, if_true, if_false, Bool.false_eq_true] at cv cv2 ⊢
    all_goals
      refine spec_of_run ttok mixed (T0 := 2305913377957875871) (ts := [.tmp 2]) 76 rfl rfl rfl rfl (by simp) rfl ?_
      conv => whnf
      repeat' (first | with_reducible apply True.intro | ((with_reducible apply Wr.u64); (focus omega); (conv => whnf)) | ((apply Wr.mk); (conv => whnf)) | ((apply Nm.mk (first0 (by decide))); (conv => whnf)) | ((apply Nm.mk (first1 (by decide))); (conv => whnf)) | ((apply Nm.mk (nm_all (by simp [beN_len]))); (conv => whnf)) | ((with_reducible apply Nm.mk nm_app); (conv => whnf)) | ((first | (with_reducible apply Nm.snoc _ (rfl)) | ((with_reducible apply Nm.mk); focus ((try simp only [lns, beN_len]); exact rfl)) | ((with_reducible apply Need.mk); focus first | omega | (simp only [lns, beN_len]; omega) | exact CleanP.lst rfl (fun _ => rfl) | kernel_rfl | (unfold roomOK; simp only [lns, beN_len]; omega)) | (apply CallN.mk (cv)) | (apply CallN.mk (ca _ _)) | (apply CallN.mk (b1 _)) | (apply CallN.mk (b2 _)) | (apply CallN.mk (b3 _)) | (apply CallN.mk (b4 _)) | (with_reducible apply Bif.T) | ((with_reducible apply Bif.bne) <;> intro h <;> (try simp only [lns, beN_len] at h) <;> (try (exfalso; omega))) | (with_reducible apply Bif.not) | (with_reducible apply Same.rfl) | (apply Same.rfl) | (with_reducible first | apply Alt.l | apply Cut.l | apply GiveN.lend) | (with_reducible apply Frz.l)) <;> conv => whnf) | fail)
theorem k_Header (f : Frm) (hs : f.sec = true) (hp : f.pay.length ≤ 95) (hm : f.mic = [] ∨ f.mic.length = 4) (ok : OkN f) : Con Tryz.prog 54 [frmV f] [] (bys (hdrM f)) [] :=
  (k_HeaderO f hs hp hm ok).cl (.one (.all rfl (hdrM_len f).symm) (fun l h => by cases h)) rfl
end Go.Fw
