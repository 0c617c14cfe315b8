/- PartitionJoins: the walk. -/
import Derived.Test.YtpmiaggdjgfjgaaParI
namespace Go.Fw
open Go.Proofs
set_option maxHeartbeats 8000000
set_option maxRecDepth 4000
theorem foundM_len (now ep rt : Int) : (foundM now ep rt).1.mem.length ≤ 1 ∧ (foundM now ep rt).1.cl.length ≤ 0 := by
  unfold foundM
  split
  · simp [net0]
  · split <;> simp [net0]
theorem k_PartitionJoins (p q : Net) (t : List Int) (now epoch root : Int) (hp : ∀ x ∈ p.mem, 0 ≤ x) (hq : ∀ x ∈ q.mem, 0 ≤ x) (lp : p.mem.length ≤ 9223372036854775807 ∧ p.cl.length ≤ 9223372036854775807) (lq : q.mem.length ≤ 9223372036854775807 ∧ q.cl.length ≤ 9223372036854775807) :
    Con Try.prog 3 [netF p, netF q, .fs .no 1 (ints t), int now, int epoch, .v (.int .u64 root)] [] (bool true) [] := by
  have sp := k_small37 p lp.1 lp.2
  have sq := k_small37 q lq.1 lq.2
  by_cases hs : (p.mem.length ≤ 20 ∧ p.cl.length ≤ 70) ∧ (q.mem.length ≤ 20 ∧ q.cl.length ≤ 70)
  case neg =>
    refine spec_of_run ttok mixed (T0 := 340282366920938463463374607466396381439) (ts := [.tmp 12]) 178 rfl rfl rfl rfl (by simp) rfl ?_
    conv => whnf
    repeat' (first | with_reducible apply True.intro | ((first | (apply CallN.mk (sp)) | (apply CallN.mk (sq)) | (apply CallN.mk (k_known37)) | (with_reducible first | apply Bif.T | apply Bif.F) | ((with_reducible apply Bif.dec) <;> intro h <;> (try simp only [lns] at h) <;> (try (exfalso; omega))) | (with_reducible apply Bif.not) | (with_reducible apply Same.rfl)) <;> conv => whnf) | fail)
  obtain ⟨⟨p1, p2⟩, q1, q2⟩ := hs
  rw [decide_eq_true ⟨p1, p2⟩] at sp
  rw [decide_eq_true ⟨q1, q2⟩] at sq
  have rp : NetR p := ⟨hp, lp.1, by omega⟩
  have rq : NetR q := ⟨hq, lq.1, by omega⟩
  have jpq := k_joins p q now rp rq (by omega) (by omega) (by omega) (by omega)
  have vp := k_nValid p rp
  have wp := k_yValid p rp
  have sf := fun a b => foundM_len a b root
  have r1 := sf now epoch
  have ht : (t.take 400).length ≤ 400 := by simp; omega
  generalize hT : t.take 400 = l at ht
  have hN := k_made_New t
  rw [hT] at hN
  refine spec_of_run ttok mixed (T0 := 340282366920938463463374607466396381439) (ts := [.tmp 12]) 178 rfl rfl rfl rfl (by simp) rfl ?_
  conv => whnf
  repeat' (first | ((first | (apply CallN.mk (sp)) | (apply CallN.mk (sq)) | (apply CallN.mk (hN)) | (refine CallN.ex (k_world_Base l _ (by omega) ht) ?_; rintro _ _ ⟨b, k1, rfl, rfl, b1, b2, b3⟩) | (refine CallN.ex (k_world_Net l _ b (by omega) ht (by omega)) ?_; rintro _ _ ⟨B, k2, rfl, rfl, c1, c2⟩) | (refine CallN.ex (k_world_Time l _ b (by omega) ht (by omega)) ?_; rintro _ _ ⟨tm, k3, rfl, rfl, d1, d2, d3⟩) | (with_reducible first | apply Bif.T | apply Bif.F) | (with_reducible apply Bif.not)) <;> conv => whnf) | fail)
  rename_i A ka a1 a2
  have u1 := a1.X
  have u2 := c1.X
  repeat' (first | ((first | ((with_reducible apply Nm.mk); focus ((try simp only [lns]); exact rfl)) | ((with_reducible apply Need.mk); focus first | omega | (simp only [lns]; omega)) | (refine CallN.ex (k_spoiled l _ A (by omega) ht a1) ?_; rintro _ _ ⟨S, k4, rfl, rfl, e1, e2⟩) | (apply CallN.mk (k_xFound _ _ _)) | (apply CallN.mk (k_yFound _ _ _)) | (refine CallN.ex (k_tape_Next l _ 5 (by omega) ht (by omega)) ?_; rintro _ _ ⟨sm, k5, rfl, rfl, f1, f2, f3⟩) | (with_reducible apply Bif.F) | ((with_reducible apply Bif.bne) <;> intro h <;> (try simp only [lns] at h) <;> (try (exfalso; omega))) | (with_reducible apply GiveN.lend)) <;> conv => whnf) | fail)
  have r2 := sf b sm
  have v2 := k_nValid A u1.R
  rw [a1.v] at v2
  have v3 := k_nValid S e1.R
  have w3 := k_yValid S e1.R
  have j1 := k_joins A B tm u1.R u2.R (by have := u1.lm; omega) (by have := u2.lm; omega) (by have := u1.lc; omega) (by have := u2.lc; omega)
  have j2 := k_joins A B now u1.R u2.R (by have := u1.lm; omega) (by have := u2.lm; omega) (by have := u1.lc; omega) (by have := u2.lc; omega)
  have j3 := k_joins S B tm e1.R u2.R (by have := e1.lm; omega) (by have := u2.lm; omega) (by have := e1.lc; omega) (by have := u2.lc; omega)
  have j4 := k_joins A q tm u1.R rq (by have := u1.lm; omega) (by omega) (by have := u1.lc; omega) (by omega)
  repeat' (first | with_reducible apply True.intro | ((first | ((with_reducible apply Nm.mk); focus ((try simp only [lns]); exact rfl)) | ((with_reducible apply Need.mk); focus first | omega | (simp only [lns]; omega) | exact CleanP.nil rfl | kernel_rfl) | (apply CallN.mk (k_SameN (foundM now epoch root).1 _ _ _ _ (by omega) (by omega))) | (apply CallN.mk (k_SameN (foundM b sm root).1 _ _ _ _ (by omega) (by omega))) | (apply CallN.mk (k_xBetter p q)) | (apply CallN.mk (k_yBetter p q)) | (apply CallN.mk (k_xBetter A B)) | (apply CallN.mk (k_yBetter A B)) | (apply CallN.mk (vp)) | (apply CallN.mk (wp)) | (apply CallN.mk (v2)) | (apply CallN.mk (v3)) | (apply CallN.mk (w3)) | (apply CallN.mk (jpq)) | (apply CallN.mk (j1)) | (apply CallN.mk (j2)) | (apply CallN.mk (j3)) | (apply CallN.mk (j4)) | (apply CallN.mk (k_known37)) | (with_reducible first | apply Bif.T | apply Bif.F) | ((with_reducible first | apply Bif.beq | apply Bif.bne) <;> intro h <;> (try simp only [lns] at h) <;> (try first | (exfalso; omega) | (exact absurd rfl h))) | (with_reducible apply Bif.not) | (with_reducible apply Same.rfl) | (with_reducible apply GiveN.lend)) <;> conv => whnf) | fail)
end Go.Fw
