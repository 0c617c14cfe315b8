/- Registration: what the laws compare and know. -/
import Derived.Test.YtlddbblbjddckaaDoorRegS
namespace Go.Fw
open Go.Proofs
set_option maxHeartbeats 8000000
set_option maxRecDepth 4000
theorem k_alike (l : List Reg) (g : Tg) (a : IP) (o : Own) (k : Adr) (now : Int) (hl : l.length ≤ 9223372036854775807) (hq : seqR l) (ho : OwnOK o) :
    Con Tryd.prog 33 [.fs g 23 (lst regV l), ipV a, ownV o, adrV k, int now] [] (bool true) [] := by
  have c1 := k_Register l g a o k now hl hq ho
  have c2 := k_refRegister l g a o k now hl hq ho
  have n1 : (regM l a o k now).1.length ≤ 1000000 := regM_len
  generalize regM l a o k now = q at *
  obtain ⟨x, s, e⟩ := q
  dsimp only at c1 c2 n1
  have c3 := k_Confirm l g a o.eui o.status now hl
  have c4 := k_refConfirm l g a o.eui o.status now hl
  have n2 : (conM l a o.eui o.status now).1.length ≤ 1000000 := conM_len
  generalize conM l a o.eui o.status now = q at *
  obtain ⟨u, ok, e2⟩ := q
  dsimp only at c3 c4 n2
  have c5 := k_rExpire l g now (by omega)
  have c6 := k_refrExpire l g now (by omega)
  have n3 : (expM l now).1.length ≤ 1000000 := expM_len
  generalize expM l now = q at *
  obtain ⟨p, e3⟩ := q
  dsimp only at c5 c6 n3
  have c7 := k_Lookup l g a now hl
  have c8 := k_refLookup l g a now hl
  generalize lukM l a now = q at *
  obtain ⟨d, okay⟩ := q
  dsimp only at c7 c8
  refine spec_of_run ttok mixed (T0 := 2147483103) (ts := [.tmp 10]) 156 rfl rfl rfl rfl (by simp) rfl ?_
  conv => whnf
  repeat' (first | with_reducible apply True.intro | ((apply Bif.of (reg_eq _ _)); (conv => whnf)) | ((refine Same.bool (decide_eq_true rfl) ?_); (conv => whnf)) | ((refine Same.bool ((reg_eq _ _).trans (decide_eq_true rfl)) ?_); (conv => whnf)) | ((first | (with_reducible first | apply Nm.set _ (int_mk _) | apply Nm.snoc _ (int_mk _) | apply Nm.rep _ (int_mk _) | apply Nm.set _ (bool_mk _) | apply Nm.snoc _ (bool_mk _) | apply Nm.rep _ (bool_mk _) | apply Nm.set _ (rfl) | apply Nm.snoc _ (rfl) | apply Nm.rep _ (rfl)) | ((with_reducible apply Nm.mk); focus ((try simp only [lns, ipRows_take]); exact rfl)) | ((with_reducible first | apply Wr.i64 | apply Wr.u8 | apply Wr.u16 | apply Wr.u32 | apply Wr.u64); focus omega) | ((with_reducible apply Need.mk); focus first | omega | (simp only [lns, ipRows_take]; omega) | exact List.cons_ne_nil _ _ | exact CleanP.nil rfl | exact CleanP.cell rfl rfl | exact CleanP.lst rfl (fun _ => rfl) | exact CleanP.lst2 rfl (fun _ => rfl) (fun _ => rfl) | kernel_rfl | (dsimp only; omega) | (unfold roomOK; simp only [lns, ipRows_take]; omega)) | ((with_reducible apply Elem.lst); focus first | omega | (simp only [lns, ipRows_take]; omega)) | (apply CallN.mk (c1)) | (apply CallN.mk (c2)) | (apply CallN.mk (c3)) | (apply CallN.mk (c4)) | (apply CallN.mk (c5)) | (apply CallN.mk (c6)) | (apply CallN.mk (c7)) | (apply CallN.mk (c8)) | (apply CallN.mk (k_rValid l g (by omega))) | (apply CallN.mk (k_refrValid l g (by omega))) | (apply CallN.mk (k_rSame x x _ _ n1)) | (apply CallN.mk (k_rSame u u _ _ n2)) | (apply CallN.mk (k_rSame p p _ _ n3)) | (with_reducible first | apply Bif.T | apply Bif.F) | ((with_reducible first | apply Bif.dec | apply Bif.beq | apply Bif.bne) <;> intro h <;> (try simp only [lns, ipRows_take] at h) <;> (try first | (exfalso; omega) | (exact absurd True.intro h) | (exact absurd rfl h) | (simp at h; done))) | (with_reducible first | apply Bif.not | apply Bif.and | apply Bif.or) | ((with_reducible apply Bif.mk) <;> intro h <;> (try first | (exfalso; omega) | (exact absurd True.intro h) | (exact absurd rfl h) | (simp at h; done))) | (with_reducible apply Same.rfl) | (apply Same.int; focus first | rfl | omega | (dsimp only; omega) | (simp only [lns, ipRows_take]; omega)) | (apply Same.bool; focus (with_reducible rfl)) | (apply Same.ov; (focus first | rfl | omega | (simp only [lns, ipRows_take]; omega)); focus first | rfl | omega | (simp only [lns, ipRows_take]; first | done | omega)) | ((with_reducible apply Same.mk); focus first | omega | (simp only [lns, ipRows_take]; omega)) | (apply Same.rfl) | (with_reducible first | apply Alt.l | apply Sl3.l | apply Cut.l | apply Turn.l | apply GiveN.lend)) <;> conv => whnf) | fail)
def lnk : Adr := ⟨2, 1, 0⟩
def kr1 : List Reg := [⟨ip0, 1, 0, lnk, 1, 10⟩]
def kr2 : List Reg := [⟨ip0, 2, 0, lnk, 1, 20⟩]
theorem kn1 : regM [] ip0 ⟨1, 0, 0, 10⟩ lnk 0 = (kr1, 0, 0) := by decide +kernel
theorem kn2 : regM kr1 ip0 ⟨2, 0, 0, 10⟩ lnk 5 = (kr1, 1, 0) := by decide +kernel
theorem kn3 : regM kr1 ip0 ⟨2, 0, 0, 10⟩ lnk 10 = (kr2, 0, 0) := by decide +kernel
theorem seqR_nil : seqR [] := fun r h => by cases h
theorem kr1_seq : seqR kr1 := fun r h => by rw [List.mem_singleton.1 h]; decide
theorem k_known : Con Tryd.prog 18 [] [] (bool true) [] := by
  have c1 := k_Register [] .no ip0 ⟨1, 0, 0, 10⟩ lnk 0 (by simp) seqR_nil ⟨by decide, by decide⟩
  rw [kn1] at c1
  have c2 := k_Register kr1 .no ip0 ⟨2, 0, 0, 10⟩ lnk 5 (by simp [kr1]) kr1_seq ⟨by decide, by decide⟩
  rw [kn2] at c2
  have c3 := k_Register kr1 .no ip0 ⟨2, 0, 0, 10⟩ lnk 10 (by simp [kr1]) kr1_seq ⟨by decide, by decide⟩
  rw [kn3] at c3
  have c4 := k_rNewer 3 255 (by omega) (by omega)
  rw [show newerC 3 255 = true by decide] at c4
  dsimp only at c1 c2 c3
  refine spec_of_run ttok mixed (T0 := 1759) (ts := [.tmp 0]) 62 rfl rfl rfl rfl (by simp) rfl ?_
  conv => whnf
  repeat' (first | with_reducible apply True.intro | ((apply Elem.mk (adrV lnk) rfl); (conv => whnf)) | ((first | (with_reducible first | apply Nm.set _ (int_mk _) | apply Nm.snoc _ (int_mk _) | apply Nm.rep _ (int_mk _) | apply Nm.set _ (bool_mk _) | apply Nm.snoc _ (bool_mk _) | apply Nm.rep _ (bool_mk _) | apply Nm.set _ (rfl) | apply Nm.snoc _ (rfl) | apply Nm.rep _ (rfl)) | ((with_reducible apply Nm.mk); focus ((try simp only [lns, ipRows_take]); exact rfl)) | ((with_reducible first | apply Wr.i64 | apply Wr.u8 | apply Wr.u16 | apply Wr.u32 | apply Wr.u64); focus omega) | ((with_reducible apply Need.mk); focus first | omega | (simp only [lns, ipRows_take]; omega) | exact List.cons_ne_nil _ _ | exact CleanP.nil rfl | exact CleanP.cell rfl rfl | exact CleanP.lst rfl (fun _ => rfl) | exact CleanP.lst2 rfl (fun _ => rfl) (fun _ => rfl) | kernel_rfl | (dsimp only; omega) | (unfold roomOK; simp only [lns, ipRows_take]; omega)) | ((with_reducible apply Elem.lst); focus first | omega | (simp only [lns, ipRows_take]; omega)) | (apply CallN.le (c1); focus ((repeat' (first | (with_reducible apply ArgLe.nil) | (exact ArgLe.nil) | (exact ArgLe.rfl) | (exact ArgLe.fs) | (exact True.intro) | (apply And.intro) | fail)); done)) | (apply CallN.mk (c2)) | (apply CallN.mk (c3)) | (apply CallN.mk (c4)) | (with_reducible first | apply Bif.T | apply Bif.F) | ((with_reducible first | apply Bif.dec | apply Bif.beq | apply Bif.bne) <;> intro h <;> (try simp only [lns, ipRows_take] at h) <;> (try first | (exfalso; omega) | (exact absurd True.intro h))) | (with_reducible first | apply Bif.not | apply Bif.and | apply Bif.or) | ((with_reducible apply Bif.mk) <;> intro h <;> (try first | (exfalso; omega) | (exact absurd True.intro h))) | (with_reducible apply Same.rfl) | (apply Same.int; focus first | rfl | omega | (dsimp only; omega) | (simp only [lns, ipRows_take]; omega)) | (apply Same.bool; focus (with_reducible rfl)) | (apply Same.ov; (focus first | rfl | omega | (simp only [lns, ipRows_take]; omega)); focus first | rfl | omega | (simp only [lns, ipRows_take]; first | done | omega)) | ((with_reducible apply Same.mk); focus first | omega | (simp only [lns, ipRows_take]; omega)) | (apply Same.rfl) | (with_reducible first | apply Alt.l | apply Sl3.l | apply Cut.l | apply Turn.l | apply GiveN.lend)) <;> conv => whnf) | fail)
end Go.Fw
