/- The sanity check. -/
import Derived.Test.YtlkhjalnnciocaaGreatSanF
namespace Go.Fw
open Go.Proofs
set_option maxHeartbeats 8000000
set_option maxRecDepth 8000
def q1V : SV := .agg [.v (.int .u8 0), .v (.int .u32 0), .v (.int .u8 17), .v (.int .u8 64), ipV (llA D0), ipV (llA D1), .v (.int .u16 0), .v (.int .u16 0), nilV]
theorem k_iDec0 (r : List UInt8) (hr : r.length ≤ 5000) : Con Tryz.prog 84 [bys (126 :: 51 :: r), lnkV D0, lnkV D1, nilV, int 0] [] (.tup [q1V, int 2, int 0]) [] := by
  have cs := k_start0 r hr
  have cf := k_rfields0 (126 :: 51 :: r) 2
  have u0 := fun id => k_rUni3 D0 (by decide) (126 :: 51 :: r) 2 id
  have u1 := fun id => k_rUni3 D1 (by decide) (126 :: 51 :: r) 2 id
  have fi := fun id => k_find0 id 0
  refine spec_of_run ttok mixed (T0 := 20769187753296022049305262685159391) (ts := [.cell 10 107, .tmp 11, .tmp 12]) 122 rfl rfl rfl rfl (by simp) rfl ?_
  conv => whnf
  repeat' (first | with_reducible apply True.intro | ((apply Same.mk rfl); (conv => whnf)) | ((first | (with_reducible first | apply Nm.set _ (int_mk _) | apply Nm.snoc _ (int_mk _) | apply Nm.rep _ (int_mk _) | apply Nm.set _ (bool_mk _) | apply Nm.snoc _ (bool_mk _) | apply Nm.rep _ (bool_mk _) | apply Nm.set _ (rfl) | apply Nm.snoc _ (rfl) | apply Nm.rep _ (rfl)) | ((with_reducible apply Nm.mk); focus ((try simp only [lns]); exact rfl)) | ((with_reducible first | apply Wr.i64 | apply Wr.u8 | apply Wr.u16 | apply Wr.u32 | apply Wr.u64); focus omega) | ((with_reducible apply Need.mk); focus first | omega | (simp only [lns]; omega) | exact List.cons_ne_nil _ _ | exact CleanP.nil rfl | exact CleanP.cell rfl rfl | exact CleanP.lst rfl (fun _ => rfl) | exact CleanP.lst2 rfl (fun _ => rfl) (fun _ => rfl) | kernel_rfl | (dsimp only; omega) | (unfold roomOK; simp only [lns]; omega) | (refine ⟨?_, ?_, ?_⟩ <;> first | omega | (unfold roomOK; omega) | fail)) | ((with_reducible apply Elem.lst); focus first | omega | (simp only [lns]; omega)) | (apply CallN.mk (k_icheck0)) | (apply CallN.mk (cs)) | (apply CallN.mk (cf)) | (apply CallN.mk (fi _)) | (apply CallN.mk (u0 _)) | (apply CallN.mk (u1 _)) | (with_reducible first | apply Bif.T | apply Bif.F) | ((with_reducible first | apply Bif.dec | apply Bif.beq | apply Bif.bne) <;> intro h <;> (try simp only [lns] at h) <;> (try first | (exfalso; omega) | (exact absurd True.intro h) | (exact absurd (by decide) h) | (exact absurd h (by decide)))) | (with_reducible first | apply Bif.not | apply Bif.and | apply Bif.or) | ((with_reducible apply Bif.mk) <;> intro h <;> (try first | (exfalso; omega) | (exact absurd True.intro h) | (exact absurd (by decide) h) | (exact absurd h (by decide)))) | (with_reducible apply Same.rfl) | (apply Same.int; focus first | rfl | omega | (dsimp only; omega) | (simp only [lns]; omega)) | (apply Same.bool; focus (with_reducible rfl)) | (apply Same.ov; (focus first | rfl | omega | (simp only [lns]; omega)); focus first | rfl | omega | (simp only [lns]; first | done | omega)) | ((with_reducible apply Same.mk); focus first | omega | (simp only [lns]; omega)) | (apply Same.rfl) | (with_reducible first | apply Alt.l | apply Sl3.l | apply Cut.l | apply Turn.l | apply GiveN.lend) | (with_reducible apply Frz.l)) <;> conv => whnf) | fail)
  done
end Go.Fw
