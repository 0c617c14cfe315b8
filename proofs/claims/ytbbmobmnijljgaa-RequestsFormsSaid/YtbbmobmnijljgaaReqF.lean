/- Requests: what the laws make and know. -/
import Derived.Test.YtbbmobmnijljgaaReqE
namespace Go.Fw
open Go.Proofs
set_option maxHeartbeats 4000000
set_option maxRecDepth 4000
theorem toIP_ok (n : Int) : ((n % 256) :: List.replicate 15 0).length = 16 ∧ ∀ x ∈ (n % 256) :: List.replicate 15 0, 0 ≤ x ∧ x ≤ 255 := by
  refine ⟨by simp, fun x hx => ?_⟩
  rcases List.mem_cons.1 hx with h | h
  · omega
  · have := List.eq_of_mem_replicate h; omega
def toIP (n : Int) : IP := ⟨(n % 256) :: List.replicate 15 0, toIP_ok n⟩
def toD (n : Int) : Dst := ⟨⟨toIP n, 64⟩, pfx0, 3⟩
theorem k_to (n : Int) (h : 0 ≤ n ∧ n ≤ 255) : Con Try.prog 11 [int n] [] (dstV (toD n)) [] := by
  have e : n % 256 = n := by omega
  have hok := toIP_ok n
  rw [e] at hok
  have e2 : toIP n = ⟨n :: List.replicate 15 0, hok⟩ := Subtype.ext (congrArg (· :: List.replicate 15 0) e)
  unfold toD
  rw [e2]
  refine spec_of_run ttok mixed (T0 := 5) (ts := [.cell 2 36]) 8 rfl rfl rfl rfl (by simp) rfl ?_
  conv => whnf
  repeat' (first | with_reducible apply True.intro | ((first | (with_reducible first | apply Nm.set _ (int_mk _) | apply Nm.snoc _ (int_mk _) | apply Nm.rep _ (int_mk _) | apply Nm.set _ (bool_mk _) | apply Nm.snoc _ (bool_mk _) | apply Nm.rep _ (bool_mk _) | apply Nm.set _ (rfl) | apply Nm.snoc _ (rfl) | apply Nm.rep _ (rfl)) | ((with_reducible apply Nm.mk); focus ((try simp only [lns, ipRows_take]); exact rfl)) | ((with_reducible first | apply Wr.i64 | apply Wr.u8 | apply Wr.u16 | apply Wr.u32 | apply Wr.u64); focus omega) | ((with_reducible apply Need.mk); focus first | omega | (simp only [lns, ipRows_take]; omega) | exact List.cons_ne_nil _ _ | exact CleanP.nil rfl | exact CleanP.cell rfl rfl | exact CleanP.lst rfl (fun _ => rfl) | exact CleanP.lst2 rfl (fun _ => rfl) (fun _ => rfl) | kernel_rfl | (dsimp only; omega) | (unfold roomOK; simp only [lns, ipRows_take]; omega)) | ((with_reducible apply Elem.lst); focus first | omega | (simp only [lns, ipRows_take]; omega)) | (with_reducible first | apply Bif.T | apply Bif.F) | ((with_reducible first | apply Bif.dec | apply Bif.beq | apply Bif.bne) <;> intro h <;> (try simp only [lns, ipRows_take] at h) <;> (try first | (exfalso; omega) | (exact absurd True.intro h))) | (with_reducible first | apply Bif.not | apply Bif.and | apply Bif.or) | ((with_reducible apply Bif.mk) <;> intro h <;> (try first | (exfalso; omega) | (exact absurd True.intro h))) | (with_reducible apply Same.rfl) | (apply Same.int; focus first | rfl | omega | (dsimp only; omega) | (simp only [lns, ipRows_take]; omega)) | (apply Same.bool; focus (with_reducible rfl)) | (apply Same.ov; (focus first | rfl | omega | (simp only [lns, ipRows_take]; omega)); focus first | rfl | omega | (simp only [lns, ipRows_take]; first | done | omega)) | ((with_reducible apply Same.mk); focus first | omega | (simp only [lns, ipRows_take]; omega)) | (apply Same.rfl) | (with_reducible first | apply Alt.l | apply Sl3.l | apply Cut.l | apply Turn.l | apply GiveN.lend)) <;> conv => whnf) | fail)
def kn1 : List Req := [⟨toD 1, 7, 4, 2, 8, 3⟩]
def kn2 : List Req := [⟨toD 1, 7, 4, 2, 11, 2⟩]
theorem known1 : addM [] 5 (toD 1) 7 4 2 = (kn1, true, 0) := by decide +kernel
theorem known2 : addM kn1 6 (toD 1) 6 4 0 = (kn1, false, 0) := by decide +kernel
theorem known3 : dueM kn1 8 = (kn1, kn2, 0) := by decide +kernel
theorem known4 : metM kn1 (toD 1) ⟨7, 5⟩ = [] := by decide +kernel
theorem seqs_nil : seqs [] := fun r h => by cases h
theorem kn1_seqs : seqs kn1 := fun r h => by rw [List.mem_singleton.1 h]; decide
theorem k_known : Con Try.prog 13 [] [] (bool true) [] := by
  have c1 := k_Add [] .no 5 (toD 1) 7 4 2 (by simp) seqs_nil (by omega)
  rw [known1] at c1
  dsimp only at c1
  have c2 := k_Add kn1 .no 6 (toD 1) 6 4 0 (by simp [kn1]) kn1_seqs (by omega)
  rw [known2] at c2
  dsimp only at c2
  have c3 := k_Due kn1 .no 8 (by simp [kn1])
  rw [known3] at c3
  dsimp only at c3
  have c4 := k_Met kn1 .no (toD 1) ⟨7, 5⟩ (by simp [kn1])
  rw [known4] at c4
  have c0 := k_to 1 (by omega)
  have e1 : kn1.length = 1 := rfl
  have e2 : kn2.length = 1 := rfl
  have e3 : (gt kn2 0).left = 2 := rfl
  refine spec_of_run ttok mixed (T0 := 1007) (ts := [.tmp 0]) 71 rfl rfl rfl rfl (by simp) rfl ?_
  conv => whnf
  repeat' (first | with_reducible apply True.intro | ((first | (with_reducible first | apply Nm.set _ (int_mk _) | apply Nm.snoc _ (int_mk _) | apply Nm.rep _ (int_mk _) | apply Nm.set _ (bool_mk _) | apply Nm.snoc _ (bool_mk _) | apply Nm.rep _ (bool_mk _) | apply Nm.set _ (rfl) | apply Nm.snoc _ (rfl) | apply Nm.rep _ (rfl)) | ((with_reducible apply Nm.mk); focus ((try simp only [lns, ipRows_take]); exact rfl)) | ((with_reducible first | apply Wr.i64 | apply Wr.u8 | apply Wr.u16 | apply Wr.u32 | apply Wr.u64); focus omega) | ((with_reducible apply Need.mk); focus first | omega | (simp only [lns, ipRows_take]; omega) | exact List.cons_ne_nil _ _ | exact CleanP.nil rfl | exact CleanP.cell rfl rfl | exact CleanP.lst rfl (fun _ => rfl) | exact CleanP.lst2 rfl (fun _ => rfl) (fun _ => rfl) | kernel_rfl | (dsimp only; omega) | (unfold roomOK; simp only [lns, ipRows_take]; omega)) | ((with_reducible apply Elem.lst); focus first | omega | (simp only [lns, ipRows_take]; omega)) | (apply CallN.mk (c0)) | (apply CallN.le (c1); focus ((repeat' (first | (with_reducible apply ArgLe.nil) | (exact ArgLe.nil) | (exact ArgLe.rfl) | (exact ArgLe.fs) | (exact True.intro) | (apply And.intro) | fail)); done)) | (apply CallN.mk (c2)) | (apply CallN.mk (c3)) | (apply CallN.mk (c4)) | (with_reducible first | apply Bif.T | apply Bif.F) | ((with_reducible first | apply Bif.dec | apply Bif.beq | apply Bif.bne) <;> intro h <;> (try simp only [lns, ipRows_take] at h) <;> (try first | (exfalso; omega) | (exact absurd True.intro h))) | (with_reducible first | apply Bif.not | apply Bif.and | apply Bif.or) | ((with_reducible apply Bif.mk) <;> intro h <;> (try first | (exfalso; omega) | (exact absurd True.intro h))) | (with_reducible apply Same.rfl) | (apply Same.int; focus first | rfl | omega | (dsimp only; omega) | (simp only [lns, ipRows_take]; omega)) | (apply Same.bool; focus (with_reducible rfl)) | (apply Same.ov; (focus first | rfl | omega | (simp only [lns, ipRows_take]; omega)); focus first | rfl | omega | (simp only [lns, ipRows_take]; first | done | omega)) | ((with_reducible apply Same.mk); focus first | omega | (simp only [lns, ipRows_take]; omega)) | (apply Same.rfl) | (with_reducible first | apply Alt.l | apply Sl3.l | apply Cut.l | apply Turn.l | apply GiveN.lend)) <;> conv => whnf) | fail)
theorem k_alike (l : List Req) (g : Tg) (now : Int) (t : Dst) (seq hops who : Int) (d : Dis) (hl : l.length ≤ 100000) (hq : seqs l) (hs : 0 ≤ seq ∧ seq ≤ 65535) :
    Con Try.prog 20 [.fs g 40 (lst reqV l), int now, dstV t, .v (.int .u16 seq), int hops, .v (.int .u64 who), disV d] [] (bool true) [] := by
  have c1 := k_Add l g now t seq hops who hl hq hs
  have c2 := k_refAdd l g now t seq hops who hl
  have hv := addM_valid (l := l) (now := now) (t := t) (seq := seq) (hops := hops) (who := who)
  have hL := addM_len (l := l) (now := now) (t := t) (seq := seq) (hops := hops) (who := who)
  generalize addM l now t seq hops who = q at *
  obtain ⟨a, b, e⟩ := q
  dsimp only at c1 c2 hv hL
  have c3 := k_Due l g now (by omega)
  have c4 := k_refDue l g now (by omega)
  have hv2 := dueM_valid (l := l) (now := now)
  have hD := dueM_len (l := l) (now := now)
  generalize dueM l now = q at *
  obtain ⟨x, y, e2⟩ := q
  dsimp only at c3 c4 hv2 hD
  have c5 := k_Met l g t d (by omega)
  have c6 := k_refMet l g t d (by omega)
  have hM := metM_len (l := l) (t := t) (d := d)
  generalize metM l t d = z at *
  refine spec_of_run ttok mixed (T0 := 4951760157141521099730707071) (ts := [.tmp 14]) 125 rfl rfl rfl rfl (by simp) rfl ?_
  conv => whnf
  repeat' (first | with_reducible apply True.intro | ((with_reducible apply Bif.tt (hv (by omega))); (conv => whnf)) | ((with_reducible apply Bif.tt (hv2 (by omega))); (conv => whnf)) | ((refine Same.bool (decide_eq_true rfl) ?_); (conv => whnf)) | ((first | (with_reducible first | apply Nm.set _ (int_mk _) | apply Nm.snoc _ (int_mk _) | apply Nm.rep _ (int_mk _) | apply Nm.set _ (bool_mk _) | apply Nm.snoc _ (bool_mk _) | apply Nm.rep _ (bool_mk _) | apply Nm.set _ (rfl) | apply Nm.snoc _ (rfl) | apply Nm.rep _ (rfl)) | ((with_reducible apply Nm.mk); focus ((try simp only [lns, ipRows_take]); exact rfl)) | ((with_reducible first | apply Wr.i64 | apply Wr.u8 | apply Wr.u16 | apply Wr.u32 | apply Wr.u64); focus omega) | ((with_reducible apply Need.mk); focus first | omega | (simp only [lns, ipRows_take]; omega) | exact List.cons_ne_nil _ _ | exact CleanP.nil rfl | exact CleanP.cell rfl rfl | exact CleanP.lst rfl (fun _ => rfl) | exact CleanP.lst2 rfl (fun _ => rfl) (fun _ => rfl) | kernel_rfl | (dsimp only; omega) | (unfold roomOK; simp only [lns, ipRows_take]; omega)) | ((with_reducible apply Elem.lst); focus first | omega | (simp only [lns, ipRows_take]; omega)) | (apply CallN.mk (c1)) | (apply CallN.mk (c2)) | (apply CallN.mk (c3)) | (apply CallN.mk (c4)) | (apply CallN.mk (c5)) | (apply CallN.mk (c6)) | (apply CallN.mk (k_qValid l g (by omega))) | (apply CallN.mk (k_refqValid l g (by omega))) | (apply CallN.mk (k_Equal_Req a a _ _ (by omega))) | (apply CallN.mk (k_Equal_Req x x _ _ (by omega))) | (apply CallN.mk (k_Equal_Req y y _ _ (by omega))) | (apply CallN.mk (k_Equal_Req z z _ _ (by omega))) | (apply CallN.mk (k_qValid a _ (by omega))) | (apply CallN.mk (k_qValid y _ (by omega))) | (with_reducible first | apply Bif.T | apply Bif.F) | ((with_reducible first | apply Bif.dec | apply Bif.beq | apply Bif.bne) <;> intro h <;> (try simp only [lns, ipRows_take] at h) <;> (try first | (exfalso; omega) | (exact absurd True.intro h) | (exact absurd rfl h) | (simp at h; done))) | (with_reducible first | apply Bif.not | apply Bif.and | apply Bif.or) | ((with_reducible apply Bif.mk) <;> intro h <;> (try first | (exfalso; omega) | (exact absurd True.intro h) | (exact absurd rfl h) | (simp at h; done))) | (with_reducible apply Same.rfl) | (apply Same.int; focus first | rfl | omega | (dsimp only; omega) | (simp only [lns, ipRows_take]; omega)) | (apply Same.bool; focus (with_reducible rfl)) | (apply Same.ov; (focus first | rfl | omega | (simp only [lns, ipRows_take]; omega)); focus first | rfl | omega | (simp only [lns, ipRows_take]; first | done | omega)) | ((with_reducible apply Same.mk); focus first | omega | (simp only [lns, ipRows_take]; omega)) | (apply Same.rfl) | (with_reducible first | apply Alt.l | apply Sl3.l | apply Cut.l | apply Turn.l | apply GiveN.lend)) <;> conv => whnf) | fail)
end Go.Fw
