/- The sanity check's packet: local, compress.Encode. -/
import Derived.Test.YtlkhjalnnciocaaGreatSanC
namespace Go.Fw
open Go.Proofs
set_option maxHeartbeats 8000000
set_option maxRecDepth 8000
theorem iid0 : iidL (144115188075855873 + 0) = 1 := by decide
theorem iid1 : iidL (144115188075855873 + 1) = 2 := by decide
theorem k_local : Con Tryz.prog 47 [int 0, int 1, .ov 1 0 0 3] [.arr (some 3) 1 (lst b8 [1, 2, 3])] (pktS P0 (.ov 1 0 0 3)) [.arr (some 3) 1 (lst b8 [1, 2, 3])] := by
  have c0 := k_device 0 (by decide)
  have c1 := k_device 1 (by decide)
  have l0 := k_LinkLocal (144115188075855873 + 0) (by decide)
  have l1 := k_LinkLocal (144115188075855873 + 1) (by decide)
  refine spec_of_run ttok mixed (T0 := 711) (ts := [.cell 6 107]) 27 rfl rfl rfl rfl (by simp) rfl ?_
  conv => whnf
  repeat' (first | with_reducible apply True.intro | ((apply Same.mk rfl); (conv => whnf)) | ((first | (with_reducible first | apply Nm.set _ (int_mk _) | apply Nm.snoc _ (int_mk _) | apply Nm.rep _ (int_mk _) | apply Nm.set _ (bool_mk _) | apply Nm.snoc _ (bool_mk _) | apply Nm.rep _ (bool_mk _) | apply Nm.set _ (rfl) | apply Nm.snoc _ (rfl) | apply Nm.rep _ (rfl)) | ((with_reducible apply Nm.mk); focus ((try simp only [lns]); exact rfl)) | ((with_reducible first | apply Wr.i64 | apply Wr.u8 | apply Wr.u16 | apply Wr.u32 | apply Wr.u64); focus omega) | ((with_reducible apply Need.mk); focus first | omega | (simp only [lns]; omega) | exact List.cons_ne_nil _ _ | exact CleanP.nil rfl | exact CleanP.cell rfl rfl | exact CleanP.lst rfl (fun _ => rfl) | exact CleanP.lst2 rfl (fun _ => rfl) (fun _ => rfl) | kernel_rfl | (dsimp only; omega) | (unfold roomOK; simp only [lns]; omega) | (refine ⟨?_, ?_, ?_⟩ <;> first | omega | (unfold roomOK; omega) | fail)) | ((with_reducible apply Elem.lst); focus first | omega | (simp only [lns]; omega)) | (apply CallN.mk (c0)) | (apply CallN.mk (c1)) | (apply CallN.mk (l0)) | (apply CallN.mk (l1)) | (with_reducible first | apply Bif.T | apply Bif.F) | ((with_reducible first | apply Bif.dec | apply Bif.beq | apply Bif.bne) <;> intro h <;> (try simp only [lns] at h) <;> (try first | (exfalso; omega) | (exact absurd True.intro h))) | (with_reducible first | apply Bif.not | apply Bif.and | apply Bif.or) | ((with_reducible apply Bif.mk) <;> intro h <;> (try first | (exfalso; omega) | (exact absurd True.intro h))) | (with_reducible apply Same.rfl) | (apply Same.int; focus first | rfl | omega | (dsimp only; omega) | (simp only [lns]; omega)) | (apply Same.bool; focus (with_reducible rfl)) | (apply Same.ov; (focus first | rfl | omega | (simp only [lns]; omega)); focus first | rfl | omega | (simp only [lns]; first | done | omega)) | ((with_reducible apply Same.mk); focus first | omega | (simp only [lns]; omega)) | (apply Same.rfl) | (with_reducible first | apply Alt.l | apply OwnN.l | apply Sl3.l | apply Cut.l | apply Turn.l | apply GiveN.lend) | (with_reducible apply Frz.l)) <;> conv => whnf) | fail)
  done
noncomputable def cmp0 : List UInt8 := [126, 51] ++ udpB P0 (sumP P0) ++ [1, 2, 3]
theorem k_cEnc0O : Con Tryz.prog 35 [pktV P0, lnkV D0, lnkV D1, nilV, int 0] [] (.tup [.ov 1 0 0 cmp0.length, int 0]) [.arr none 1 (lst b8 cmp0)] := by
  obtain ⟨x, ca⟩ := k_appendUDP [126, 51] P0 .no vp_P0 rfl (by decide)
  have hl := udpB_len P0 (sumP P0)
  have e : cmp0 = ([126, 51] ++ udpB P0 (sumP P0)) ++ [1, 2, 3] := rfl
  rw [e]
  have hu : ([126, 51] ++ udpB P0 (sumP P0)).length ≤ 9 := by simp; omega
  have hpl : P0.pay.length = 3 := rfl
  generalize [126, 51] ++ udpB P0 (sumP P0) = u at *
  refine spec_of_run ttok mixed (T0 := 285228287) (ts := [.tmp 10, .tmp 11]) 36 rfl rfl rfl rfl (by simp) rfl ?_
  conv => whnf
  repeat' (first | with_reducible apply True.intro | ((apply Nm.mk (nm_all (f := b8) (l := [126, 51]) rfl)); (conv => whnf)) | ((with_reducible apply Nm.mk (lst_app _ _)); (conv => whnf)) | ((apply Same.mk rfl); (conv => whnf)) | ((apply Same.mk); (focus (simp; done)); (conv => whnf)) | ((first | (with_reducible first | apply Nm.set _ (int_mk _) | apply Nm.snoc _ (int_mk _) | apply Nm.rep _ (int_mk _) | apply Nm.set _ (bool_mk _) | apply Nm.snoc _ (bool_mk _) | apply Nm.rep _ (bool_mk _) | apply Nm.set _ (rfl) | apply Nm.snoc _ (rfl) | apply Nm.rep _ (rfl)) | ((with_reducible apply Nm.mk); focus ((try simp only [lns, hpl]); exact rfl)) | ((with_reducible first | apply Wr.i64 | apply Wr.u8 | apply Wr.u16 | apply Wr.u32 | apply Wr.u64); focus omega) | ((with_reducible apply Need.mk); focus first | omega | (simp only [lns, hpl]; omega) | exact List.cons_ne_nil _ _ | exact CleanP.nil rfl | exact CleanP.cell rfl rfl | exact CleanP.lst rfl (fun _ => rfl) | exact CleanP.lst2 rfl (fun _ => rfl) (fun _ => rfl) | kernel_rfl | (dsimp only; omega) | (unfold roomOK; simp only [lns, hpl]; omega) | (refine ⟨?_, ?_, ?_⟩ <;> first | omega | (unfold roomOK; omega) | fail)) | ((with_reducible apply Elem.lst); focus first | omega | (simp only [lns, hpl]; omega)) | (apply CallN.mk (k_iEnc0)) | (apply CallN.mk (ca)) | (with_reducible first | apply Bif.T | apply Bif.F) | ((with_reducible first | apply Bif.dec | apply Bif.beq | apply Bif.bne) <;> intro h <;> (try simp only [lns, hpl] at h) <;> (try first | (exfalso; omega) | (exact absurd True.intro h) | (exact absurd rfl h))) | (with_reducible first | apply Bif.not | apply Bif.and | apply Bif.or) | ((with_reducible apply Bif.mk) <;> intro h <;> (try first | (exfalso; omega) | (exact absurd True.intro h) | (exact absurd rfl h))) | (with_reducible apply Same.rfl) | (apply Same.int; focus first | rfl | omega | (dsimp only; omega) | (simp only [lns, hpl]; omega)) | (apply Same.bool; focus (with_reducible rfl)) | (apply Same.ov; (focus first | rfl | omega | (simp only [lns, hpl]; omega)); focus first | rfl | omega | (simp only [lns, hpl]; first | done | omega)) | ((with_reducible apply Same.mk); focus first | omega | (simp only [lns, hpl]; omega)) | (apply Same.rfl) | (with_reducible first | apply Alt.l | apply OwnN.l | apply Sl3.l | apply Cut.l | apply Turn.l | apply GiveN.lend) | (with_reducible apply Frz.l)) <;> conv => whnf) | fail)
  done
theorem k_cEnc0 : Con Tryz.prog 35 [pktV P0, lnkV D0, lnkV D1, nilV, int 0] [] (.tup [bys cmp0, int 0]) [] :=
  k_cEnc0O.cl (.tup (.cons (.all rfl rfl) (.cons (.wk rfl .rfl) .nil))) rfl
end Go.Fw
