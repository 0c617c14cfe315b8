/- The sanity check: compress.Decode, Same, sane. -/
import Derived.Test.YtlkhjalnnciocaaGreatSanG
namespace Go.Fw
open Go.Proofs
set_option maxHeartbeats 8000000
set_option maxRecDepth 8000
theorem cmp0_len : cmp0.length = 9 := by
  have : half P0.sp ∧ half P0.dp := by decide
  unfold cmp0 udpB
  rw [if_pos this]
  simp [beN_len]
theorem k_cDec0 : Con Tryz.prog 36 [bys cmp0, lnkV D0, lnkV D1, nilV, int 0] [] (.tup [pktV P0, int 0]) [] := by
  obtain ⟨hs, cs⟩ := k_pSum P0 vp_P0 rfl
  have cr := k_readUDP_A P0 (sumP P0) [1, 2, 3] (by decide) (by decide) (by decide) hs (by decide)
  have hu : (udpB P0 (sumP P0)).length = 4 := by
    have := cmp0_len
    simp [cmp0] at this; omega
  have ci := k_iDec0 (udpB P0 (sumP P0) ++ [1, 2, 3]) (by simp; omega)
  have cz := k_pSize P0 (bys [1, 2, 3]) rfl (by decide)
  have ec : cmp0 = 126 :: 51 :: (udpB P0 (sumP P0) ++ [1, 2, 3]) := rfl
  have hl := cmp0_len
  have e0 : gt cmp0 0 = 126 := rfl
  have e2 : cmp0.drop 2 = udpB P0 (sumP P0) ++ [1, 2, 3] := rfl
  have e3 : (udpB P0 (sumP P0) ++ [1, 2, 3]).drop 4 = [1, 2, 3] := by rw [← hu]; simp
  rw [hu] at cr
  rw [← ec] at ci
  refine Con.cl (r := .tup [pktS P0 (.ov 1 0 0 3), int 0]) (hp' := [.arr (some 3) 1 (lst b8 [1, 2, 3])]) ?_
    (.tup (.cons (.aggC (.wk rfl .rfl) (.aggC (.wk rfl .rfl) (.aggC (.wk rfl .rfl) (.aggC (.wk rfl .rfl) (.aggC (.wk rfl .rfl) (.aggC (.wk rfl .rfl) (.aggC (.wk rfl .rfl) (.aggC (.wk rfl .rfl) (.aggC (.all rfl rfl) .aggN))))))))) (.cons (.wk rfl .rfl) .nil))) rfl
  generalize udpB P0 (sumP P0) ++ [1, 2, 3] = U at *
  generalize cmp0 = C at *
  have hU : U.length = 7 := by rw [← e2]; simp [hl]
  refine spec_of_run ttok mixed (T0 := 4840430257757702759644383) (ts := [.cell 10 107, .tmp 11]) 93 rfl rfl rfl rfl (by simp) rfl ?_
  conv => whnf
  repeat' (first | with_reducible apply True.intro | ((apply Nm.mk (show List.take ((lst b8 C).length - 2) (List.drop 2 (lst b8 C)) = lst b8 U by rw [nm_tailN, e2])); (conv => whnf)) | ((apply Nm.mk (show List.take ((lst b8 U).length - 4) (List.drop 4 (lst b8 U)) = lst b8 [1, 2, 3] by rw [nm_tailN, e3])); (conv => whnf)) | ((apply Same.mk rfl); (conv => whnf)) | ((first | (with_reducible first | apply Nm.set _ (int_mk _) | apply Nm.snoc _ (int_mk _) | apply Nm.rep _ (int_mk _) | apply Nm.set _ (bool_mk _) | apply Nm.snoc _ (bool_mk _) | apply Nm.rep _ (bool_mk _) | apply Nm.set _ (rfl) | apply Nm.snoc _ (rfl) | apply Nm.rep _ (rfl)) | ((with_reducible apply Nm.mk); focus ((try simp only [lns, hl, e0, hU]); exact rfl)) | ((with_reducible first | apply Wr.i64 | apply Wr.u8 | apply Wr.u16 | apply Wr.u32 | apply Wr.u64); focus omega) | ((with_reducible apply Need.mk); focus first | omega | (simp only [lns, hl, e0, hU]; omega) | exact List.cons_ne_nil _ _ | exact CleanP.nil rfl | exact CleanP.cell rfl rfl | exact CleanP.lst rfl (fun _ => rfl) | exact CleanP.lst2 rfl (fun _ => rfl) (fun _ => rfl) | kernel_rfl | (dsimp only; omega) | (unfold roomOK; simp only [lns, hl, e0, hU]; omega) | (refine ⟨?_, ?_, ?_⟩ <;> first | omega | (unfold roomOK; omega) | fail)) | ((with_reducible apply Elem.lst); focus first | omega | (simp only [lns, hl, e0, hU]; omega)) | (apply CallN.mk (ci)) | (apply CallN.mk (cr)) | (apply CallN.mk (cz)) | (apply CallN.mk (cs)) | (with_reducible first | apply Bif.T | apply Bif.F) | ((with_reducible first | apply Bif.dec | apply Bif.beq | apply Bif.bne) <;> intro h <;> (try simp only [lns, hl, e0, hU] at h) <;> (try first | (exfalso; omega) | (exact absurd True.intro h) | (exact absurd (by decide) h) | (exact absurd h (by decide)) | (exact absurd rfl h))) | (with_reducible first | apply Bif.not | apply Bif.and | apply Bif.or) | ((with_reducible apply Bif.mk) <;> intro h <;> (try first | (exfalso; omega) | (exact absurd True.intro h) | (exact absurd (by decide) h) | (exact absurd h (by decide)) | (exact absurd rfl h))) | (with_reducible apply Same.rfl) | (apply Same.int; focus first | rfl | omega | (dsimp only; omega) | (simp only [lns, hl, e0, hU]; omega)) | (apply Same.bool; focus (with_reducible rfl)) | (apply Same.ov; (focus first | rfl | omega | (simp only [lns, hl, e0, hU]; omega)); focus first | rfl | omega | (simp only [lns, hl, e0, hU]; first | done | omega)) | ((with_reducible apply Same.mk); focus first | omega | (simp only [lns, hl, e0, hU]; omega)) | (apply Same.rfl) | (with_reducible first | apply Alt.l | apply OwnN.l | apply Sl3.l | apply Cut.l | apply Turn.l | apply GiveN.lend) | (with_reducible apply Frz.l)) <;> conv => whnf) | fail)
  done
end Go.Fw
