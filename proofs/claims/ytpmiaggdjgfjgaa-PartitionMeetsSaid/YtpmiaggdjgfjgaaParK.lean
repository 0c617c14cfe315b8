/- PartitionLeaves: the walk. -/
import Derived.Test.YtpmiaggdjgfjgaaParJ
namespace Go.Fw
open Go.Proofs
set_option maxHeartbeats 8000000
set_option maxRecDepth 4000
structure LvI where
  k : Int
  a : Int
  L : List Int
  ha : 0 ≤ a
  hk : 0 ≤ k
  hl : (L.length : Int) + k ≤ 5
theorem k_leavesT (n : Net) (p : List Int) (t1 t2 t3 : Tg) (hn : NetR n) (hp : p.length ≤ 1000) (lm : n.mem.length ≤ 1000) (lc : n.cl.length ≤ 1000) : Con Try.prog 29 [.agg [idV n.ep n.rt, .fs t1 1 (lst u64 n.mem), .fs t2 20 (lst clmV n.cl)], .fs t3 1 (lst u64 p)] [] (bool true) [] :=
  (k_leaves n p hn hp lm lc).le ⟨ArgLe.net, ArgLe.fs, True.intro⟩
theorem k_PartitionLeaves (p : Net) (present : List Int) (t : List Int) (hp : ∀ x ∈ p.mem, 0 ≤ x) (lp : p.mem.length ≤ 9223372036854775807 ∧ p.cl.length ≤ 9223372036854775807) (lq : present.length ≤ 9223372036854775807) :
    Con Try.prog 5 [netF p, .fs .no 1 (lst u64 present), .fs .no 1 (ints t)] [] (bool true) [] := by
  have sp := k_small37 p lp.1 lp.2
  by_cases hs : (p.mem.length ≤ 20 ∧ p.cl.length ≤ 70) ∧ present.length ≤ 40
  case neg =>
    refine spec_of_run ttok mixed (T0 := 268963791) (ts := [.tmp 6]) 67 rfl rfl rfl rfl (by simp) rfl ?_
    conv => whnf
    repeat' (first | with_reducible apply True.intro | ((first | ((with_reducible apply Nm.mk); focus ((try simp only [lns]); exact rfl)) | (apply CallN.mk (sp)) | (apply CallN.mk (k_known37)) | (with_reducible first | apply Bif.T | apply Bif.F) | ((with_reducible apply Bif.dec) <;> intro h <;> (try simp only [lns] at h) <;> (try (exfalso; omega))) | (with_reducible apply Bif.not) | (with_reducible apply Same.rfl)) <;> conv => whnf) | fail)
  obtain ⟨⟨p1, p2⟩, q1⟩ := hs
  rw [decide_eq_true ⟨p1, p2⟩] at sp
  have rp : NetR p := ⟨hp, lp.1, by omega⟩
  have j0 := k_leaves p present rp (by omega) (by omega) (by omega)
  have ht : (t.take 400).length ≤ 400 := by simp; omega
  generalize hT : t.take 400 = l at ht
  have hN := k_made_New t
  rw [hT] at hN
  refine spec_of_run ttok mixed (T0 := 268963791) (ts := [.tmp 6]) 67 rfl rfl rfl rfl (by simp) rfl ?_
  conv => whnf
  repeat' (first | ((first | ((with_reducible apply Nm.mk); focus ((try simp only [lns]); exact rfl)) | (apply CallN.mk (sp)) | (apply CallN.mk (hN)) | (refine CallN.ex (k_world_Net l _ 100 (by omega) ht (by omega)) ?_; rintro _ _ ⟨A, k2, rfl, rfl, c1, c2⟩) | (refine CallN.ex (k_tape_Next l _ 5 (by omega) ht (by omega)) ?_; rintro _ _ ⟨sm, k5, rfl, rfl, f1, f2, f3⟩) | (with_reducible first | apply Bif.T | apply Bif.F) | ((with_reducible apply Bif.dec) <;> intro h <;> (try simp only [lns] at h) <;> (try (exfalso; omega))) | (with_reducible apply Bif.not)) <;> conv => whnf) | fail)
  refine LoopN.adopt 9 1 rfl (by simp) ?_
  refine loop_keep ttok mixed (T0 := 268963791) [1] (ι := LvI)
    (fun p => [(3, .pb 0 []), (7, .pb 1 []), (8, .pb 2 []), (9, .ov 1 3 0 p.L.length), (10, int p.k)]) (fun i => [.cells (netF p), .cells (tape l i.a), .cells (netF A), .arr none 1 (lst u64 i.L)]) (fun p => p.k.toNat) ⟨sm, k5, [], f3, f1, by simp; omega⟩ ?_
  conv => whnf
  repeat' (first | ((apply Same.mk rfl); conv => whnf) | fail)
  rintro ⟨k, a, L, ha, hk, hl⟩
  dsimp only
  conv => whnf
  by_cases hk1 : k > 0
  · repeat' (first | ((first | (with_reducible apply Nm.snoc _ (rfl)) | ((with_reducible apply Nm.mk); focus ((try simp only [lns]); exact rfl)) | ((with_reducible apply Wr.i64); focus omega) | ((with_reducible apply Need.mk); focus first | (simp only [lns]; omega) | (unfold roomOK; simp only [lns]; omega)) | (refine CallN.ex (k_world_EUI l _ (by omega) ht) ?_; rintro _ _ ⟨eu, k6, rfl, rfl, e1, e2, e3⟩) | ((with_reducible apply Bif.dec) <;> intro h <;> (try simp only [lns] at h) <;> (try (exfalso; omega))) | (with_reducible apply Alt.l)) <;> conv => whnf) | fail)
    (refine ⟨⟨k - 1, k6, L ++ [eu], e3, by omega, by simp; omega⟩, ?_⟩; (try dsimp only); conv => whnf); repeat' (first | with_reducible apply True.intro | ((with_reducible apply Turn.r); (conv => whnf)) | ((apply Same.mk (snocU L eu)); (conv => whnf)) | ((first | ((with_reducible apply Need.mk); focus omega) | (with_reducible apply Same.rfl) | (apply Same.int; focus rfl) | (with_reducible apply Cut.l)) <;> conv => whnf) | fail)
  · have u := c1.X
    have v1 := fun t => k_leavesT A L .no .no t u.R (by omega) (by have := u.lm; omega) (by have := u.lc; omega)
    have v2 := k_leaves A present u.R (by omega) (by have := u.lm; omega) (by have := u.lc; omega)
    have v3 := fun t => k_leavesT ⟨1073741824, A.rt, A.mem, A.cl⟩ L .no .no t ⟨u.R.p, u.R.lm, u.R.lc⟩ (by omega) (by have := u.lm; show A.mem.length ≤ 1000; omega) (by have := u.lc; show A.cl.length ≤ 1000; omega)
    repeat' (first | ((first | ((with_reducible apply Nm.mk); focus ((try simp only [lns]); exact rfl)) | ((with_reducible apply Need.mk); focus first | (simp only [lns]; omega) | exact CleanP.nil rfl) | (apply CallN.mk (j0)) | (apply CallN.mk (v1 _)) | (apply CallN.mk (v2)) | (apply CallN.mk (v3 _)) | (refine CallN.ex (k_spoiled l _ A (by omega) ht c1) ?_; rintro _ _ ⟨S, k7, rfl, rfl, g1, g2⟩) | (with_reducible apply Bif.T) | ((with_reducible apply Bif.dec) <;> intro h <;> (try simp only [lns] at h) <;> (try (exfalso; omega))) | (with_reducible apply GiveN.lend)) <;> conv => whnf) | fail)
    have v4 := fun t => k_leavesT S L .no .no t g1.R (by omega) (by have := g1.lm; omega) (by have := g1.lc; omega)
    repeat' (first | with_reducible apply True.intro | ((first | ((with_reducible apply Need.mk); focus exact CleanP.nil rfl) | (apply CallN.mk (v4 _)) | (apply CallN.mk (k_known37)) | (with_reducible apply Bif.T) | (with_reducible apply Same.rfl)) <;> conv => whnf) | fail)
end Go.Fw
