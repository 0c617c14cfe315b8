/- Frames: Decode. -/
import Derived.Test.YtlkhjalnnciocaaGreatTopH
namespace Go.Fw
open Go.Proofs
set_option maxHeartbeats 8000000
set_option maxRecDepth 8000
def nilV : SV := .v (.slice none 0 0)
def frm0V : SV := .agg [int 0, bool false, bool false, bool false, .v (.int .u8 0), .v (.int .u16 0), adrV adr0, adrV adr0, .v (.int .u32 0), .v (.int .u8 0), nilV, nilV]
theorem k_decBad (b : List UInt8) (h1 : 5 ≤ b.length) (h2 : b.length ≤ 127) (hc : crcOK b = false) : Con Tryz.prog 46 [bys b] [] (.tup [frm0V, int 6]) [] := by
  have c := fun t => k_Check b t (by omega)
  rw [hc] at c
  refine spec_of_run ttok mixed (T0 := 140746078560765) (ts := [.cell 2 54, .tmp 3]) 50 rfl rfl rfl rfl (by simp) rfl ?_
  conv => whnf
  repeat' (first | with_reducible apply True.intro | ((apply Same.mk rfl); (conv => whnf)) | ((first | (with_reducible first | apply Nm.set _ (int_mk _) | apply Nm.snoc _ (int_mk _) | apply Nm.rep _ (int_mk _) | apply Nm.set _ (bool_mk _) | apply Nm.snoc _ (bool_mk _) | apply Nm.rep _ (bool_mk _) | apply Nm.set _ (rfl) | apply Nm.snoc _ (rfl) | apply Nm.rep _ (rfl)) | ((with_reducible apply Nm.mk); focus ((try simp only [lns]); exact rfl)) | ((with_reducible first | apply Wr.i64 | apply Wr.u8 | apply Wr.u16 | apply Wr.u32 | apply Wr.u64); focus omega) | ((with_reducible apply Need.mk); focus first | omega | (simp only [lns]; omega) | exact List.cons_ne_nil _ _ | exact CleanP.nil rfl | exact CleanP.cell rfl rfl | exact CleanP.lst rfl (fun _ => rfl) | exact CleanP.lst2 rfl (fun _ => rfl) (fun _ => rfl) | kernel_rfl | (dsimp only; omega) | (unfold roomOK; simp only [lns]; omega) | (refine ⟨?_, ?_, ?_⟩ <;> first | omega | (unfold roomOK; omega) | fail)) | ((with_reducible apply Elem.lst); focus first | omega | (simp only [lns]; omega)) | (apply CallN.mk (c _)) | (with_reducible first | apply Bif.T | apply Bif.F) | ((with_reducible first | apply Bif.dec | apply Bif.beq | apply Bif.bne) <;> intro h <;> (try simp only [lns] at h) <;> (try first | (exfalso; omega) | (exact absurd True.intro h))) | (with_reducible first | apply Bif.not | apply Bif.and | apply Bif.or) | ((with_reducible apply Bif.mk) <;> intro h <;> (try first | (exfalso; omega) | (exact absurd True.intro h))) | (with_reducible apply Same.rfl) | (apply Same.int; focus first | rfl | omega | (dsimp only; omega) | (simp only [lns]; omega)) | (apply Same.bool; focus (with_reducible rfl)) | (apply Same.ov; (focus first | rfl | omega | (simp only [lns]; omega)); focus first | rfl | omega | (simp only [lns]; first | done | omega)) | ((with_reducible apply Same.mk); focus first | omega | (simp only [lns]; omega)) | (apply Same.rfl) | (with_reducible first | apply Alt.l | apply Sl3.l | apply Cut.l | apply Turn.l | apply GiveN.lend) | (with_reducible apply Frz.l)) <;> conv => whnf) | fail)
theorem k_frDecode (f : Frm) (hs : f.sec = true) (hp : f.pay.length ≤ 95) (hm : f.mic.length = 4) (ok : OkN f) : Con Tryz.prog 46 [bys (encM f)] [] (.tup [frmV f, int 0]) [] := by
  have hl := encM_len hm
  have c := fun t => k_Check (encM f) t (by omega)
  have hc : crcOK (encM f) = true := crcOK_A _
  rw [hc] at c
  have cp := k_parse f hs hp hm ok
  have ce := k_frEncode f hs hp hm ok
  have cb := fun t1 t2 => k_bytesEqual (encM f) (encM f) t1 t2
  rw [decide_eq_true rfl] at cb
  have et : (encM f).take ((encM f).length - 2) = hdrM f ++ f.mic := by
    rw [encM, crcA_len, Nat.add_sub_cancel]; unfold crcA; rw [List.take_left' rfl]
  have hE : f.pay.length ≤ 95 := hp
  generalize encM f = E at *
  generalize hdrM f ++ f.mic = H at *
  have en : List.take ((E.length : Int) - 2).toNat (List.drop 0 (lst b8 E)) = lst b8 H := by
    rw [List.drop_zero, lst_take, ← et]; congr 2; omega
  refine spec_of_run ttok mixed (T0 := 140746078560765) (ts := [.cell 2 54, .tmp 3]) 50 rfl rfl rfl rfl (by simp) rfl ?_
  conv => whnf
  repeat' (first | with_reducible apply True.intro | ((apply Nm.mk en); (conv => whnf)) | ((apply Same.mk rfl); (conv => whnf)) | ((apply Nm.mk (show lst b8 (List.take (((E).length : Int) - 2).toNat (E)) = lst b8 (H) by rw [← et]; congr 2; omega)); (conv => whnf)) | ((first | (with_reducible first | apply Nm.set _ (int_mk _) | apply Nm.snoc _ (int_mk _) | apply Nm.rep _ (int_mk _) | apply Nm.set _ (bool_mk _) | apply Nm.snoc _ (bool_mk _) | apply Nm.rep _ (bool_mk _) | apply Nm.set _ (rfl) | apply Nm.snoc _ (rfl) | apply Nm.rep _ (rfl)) | ((with_reducible apply Nm.mk); focus ((try simp only [lns]); exact rfl)) | ((with_reducible first | apply Wr.i64 | apply Wr.u8 | apply Wr.u16 | apply Wr.u32 | apply Wr.u64); focus omega) | ((with_reducible apply Need.mk); focus first | omega | (simp only [lns]; omega) | exact List.cons_ne_nil _ _ | exact CleanP.nil rfl | exact CleanP.cell rfl rfl | exact CleanP.lst rfl (fun _ => rfl) | exact CleanP.lst2 rfl (fun _ => rfl) (fun _ => rfl) | kernel_rfl | (dsimp only; omega) | (unfold roomOK; simp only [lns]; omega) | (refine ⟨?_, ?_, ?_⟩ <;> first | omega | (unfold roomOK; omega) | fail)) | ((with_reducible apply Elem.lst); focus first | omega | (simp only [lns]; omega)) | (apply CallN.mk (c _)) | (apply CallN.mk (cp)) | (apply CallN.mk (ce)) | (apply CallN.mk (cb _ _)) | (with_reducible first | apply Bif.T | apply Bif.F) | ((with_reducible first | apply Bif.dec | apply Bif.beq | apply Bif.bne) <;> intro h <;> (try simp only [lns] at h) <;> (try first | (exfalso; omega) | (exact absurd True.intro h))) | (with_reducible first | apply Bif.not | apply Bif.and | apply Bif.or) | ((with_reducible apply Bif.mk) <;> intro h <;> (try first | (exfalso; omega) | (exact absurd True.intro h))) | (with_reducible apply Same.rfl) | (apply Same.int; focus first | rfl | omega | (dsimp only; omega) | (simp only [lns]; omega)) | (apply Same.bool; focus (with_reducible rfl)) | (apply Same.ov; (focus first | rfl | omega | (simp only [lns]; omega)); focus first | rfl | omega | (simp only [lns]; first | done | omega)) | ((with_reducible apply Same.mk); focus first | omega | (simp only [lns]; omega)) | (apply Same.rfl) | (with_reducible first | apply Alt.l | apply Sl3.l | apply Cut.l | apply Turn.l | apply GiveN.lend) | (with_reducible apply Frz.l)) <;> conv => whnf) | fail)
end Go.Fw
