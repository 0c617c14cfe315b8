/- Networks: Leave on both sides. -/
import Derived.Test.YtpmiaggdjgfjgaaParD
namespace Go.Fw
open Go.Proofs
set_option maxHeartbeats 8000000
set_option maxRecDepth 4000
def hereT (n : Net) (p : List Int) (j : Nat) : List Int := (n.mem.take j).filter fun x => decide (x ∈ p)
theorem hereT_all (n : Net) (p : List Int) {j : Nat} (h : n.mem.length ≤ j) : hereT n p j = hereM n p := by rw [hereT, hereM, List.take_of_length_le h]
theorem hereT_step (n : Net) (p : List Int) {j : Nat} (h : j < n.mem.length) : hereT n p (j + 1) = hereT n p j ++ (if gt n.mem j ∈ p then [gt n.mem j] else []) := by
  rw [hereT, hereT, take_gt h, List.filter_append]
  by_cases hx : gt n.mem j ∈ p
  · simp [hx]
  · simp [hx]
theorem hereT_len (n : Net) (p : List Int) (j : Nat) : (hereT n p j).length ≤ n.mem.length := by
  unfold hereT
  refine Nat.le_trans (List.length_filter_le _ _) ?_
  simp; omega
theorem k_xLeave (n : Net) (p : List Int) (hn : NetR n) (hp : p.length ≤ 9223372036854775807) : Con Try.prog 31 [netF n, .fs .no 1 (lst u64 p)] [] (.tup [netO (leaveM n p).1 0 1, int (leaveM n p).2]) (netH (leaveM n p).1) := by
  have cA := k_nValid n hn
  by_cases hv : validN n = true
  case neg =>
    rw [leaveM, if_neg hv]
    rw [show validN n = false by simpa using hv] at cA
    refine spec_of_run ttok mixed (T0 := 604759215203637717532535) (ts := [.cell 4 29, .tmp 5]) 87 rfl rfl rfl rfl (by simp) rfl ?_
    conv => whnf
    repeat' (first | with_reducible apply True.intro | ((first | (apply CallN.mk (cA)) | (with_reducible apply Bif.F) | (with_reducible apply Bif.not) | (with_reducible apply Same.rfl) | (apply Same.int; focus rfl) | (apply Same.rfl)) <;> conv => whnf) | fail)
  rw [hv] at cA
  obtain ⟨⟨e1, e2⟩, ⟨a1, a2, a3, a4⟩, hrt, a5⟩ := validN_iff.1 hv
  have hcl := validR_len a5
  rw [leaveM, if_pos hv]
  have cE := k_validEpoch (n.ep + 1)
  refine spec_of_run ttok mixed (T0 := 604759215203637717532535) (ts := [.cell 4 29, .tmp 5]) 87 rfl rfl rfl rfl (by simp) rfl ?_
  conv => whnf
  repeat' (first | ((first | (with_reducible apply Nm.rep _ (bool_mk _)) | ((with_reducible apply Nm.mk); focus ((try simp only [lns]); exact rfl)) | ((with_reducible apply Need.mk); focus (unfold roomOK; simp only [lns]; omega)) | (apply CallN.mk (cA)) | (with_reducible apply Bif.T) | (with_reducible apply Bif.not)) <;> conv => whnf) | fail)
  refine loop_keep ttok mixed (T0 := 604759215203637717532535) [23, 24] (ι := {q : Nat × List Bool // q.1 ≤ p.length ∧ q.2.length = n.mem.length ∧ ∀ i, i < n.mem.length → gt q.2 i = decide (gt n.mem i ∈ p.take q.1)})
    (fun q => [(25, int (q.1.1 : Int)), (2, .pb 0 []), (4, .pb 1 []), (6, .ov 1 2 0 n.mem.length)]) (fun q => [.cells (netF n), .cells (tt 29).zero, .arr (some n.mem.length) 1 (lst bool q.1.2)]) (fun q => p.length - q.1.1) ⟨(0, List.replicate n.mem.length false), by simp, by simp, fun i hi => by rw [gt_rep hi]; simp⟩ ?_
  conv => whnf
  repeat' (first | ((first | (with_reducible apply Same.rfl) | (apply Same.int; focus rfl)) <;> conv => whnf) | fail)
  rintro ⟨⟨j, H⟩, hj, hH, hg⟩
  dsimp only at hj hH hg ⊢
  conv => whnf
  have take1 : j < p.length → ∀ z, z ∈ p.take (j + 1) ↔ z ∈ p.take j ∨ z = gt p j := fun h z => take_mem h
  repeat' (first | ((first | (with_reducible first | apply Nm.set _ (bool_mk _) | apply Nm.set _ (bool_mk _)) | ((with_reducible apply Nm.mk); focus ((try simp only [lns]); exact rfl)) | ((with_reducible apply Wr.i64); focus omega) | ((with_reducible apply Need.mk); focus first | omega | (simp only [lns]; omega)) | ((with_reducible apply Elem.lst); focus omega) | (refine CallN.ex (k_BSearch n.mem _ .no a4 (by omega)) ?_; rintro _ _ ⟨i, b, rfl, rfl, ⟨rfl, hb⟩ | ⟨rfl, hb1, hb2⟩⟩) | (with_reducible first | apply Bif.T | apply Bif.F) | ((with_reducible apply Bif.dec) <;> intro h <;> (try simp only [lns] at h))) <;> conv => whnf) | fail)
  · (refine ⟨⟨(j + 1, H), by dsimp only; omega, hH, fun i hi => by
      dsimp only
      rw [hg i hi, decide_eq_decide, take1 (by omega)]
      exact ⟨.inl, fun g => g.elim id fun g => absurd (by rw [← g]; exact gt_mem hi) hb⟩⟩, ?_⟩; (try dsimp only); conv => whnf); repeat' (first | with_reducible apply True.intro | ((first | ((with_reducible apply Need.mk); focus omega) | (with_reducible apply Same.rfl) | (apply Same.int; focus rfl) | (with_reducible apply Turn.l)) <;> conv => whnf) | fail)
  · (refine ⟨⟨(j + 1, H.set i true), by dsimp only; omega, by dsimp only; rw [List.length_set, hH], fun k hk => by
      dsimp only
      rw [gt_set (by omega)]
      by_cases hki : k = i
      · subst hki
        rw [if_pos rfl]
        symm
        rw [decide_eq_true_eq, take1 (by omega)]
        exact .inr hb2
      · rw [if_neg hki, hg k hk, decide_eq_decide, take1 (by omega)]
        refine ⟨.inl, fun g => g.elim id fun g => ?_⟩
        exfalso
        rw [← hb2] at g
        rcases Nat.lt_or_ge k i with h1 | h1
        · have := pw_asc a4 h1 hb1; omega
        · have := pw_asc a4 (show i < k by omega) hk; omega⟩, ?_⟩; (try dsimp only); conv => whnf); repeat' (first | with_reducible apply True.intro | ((first | ((with_reducible apply Need.mk); focus omega) | (with_reducible apply Same.rfl) | (apply Same.int; focus rfl) | (with_reducible apply Turn.l)) <;> conv => whnf) | fail)
  have hpj : p.take j = p := List.take_of_length_le (by omega)
  rw [hpj] at hg
  refine LoopN.adopt 11 1 rfl (by simp) ?_
  refine loop_keep ttok mixed (T0 := 604759215203637717532535) [42, 43] (ι := {k : Nat // k ≤ n.mem.length})
    (fun k => [(44, int ((k.1 : Nat) : Int)), (11, .ov 1 3 0 (hereT n p k.1).length), (2, .pb 0 []), (4, .pb 1 []), (6, .ov 1 2 0 n.mem.length)]) (fun k => [.cells (netF n), .cells (tt 29).zero, .arr (some n.mem.length) 1 (lst bool H), .arr none 1 (lst u64 (hereT n p k.1))]) (fun k => n.mem.length - k.1) ⟨0, by omega⟩ ?_
  conv => whnf
  repeat' (first | ((apply Same.mk rfl); conv => whnf) | fail)
  rintro ⟨k, hk⟩
  dsimp only
  have hTl := hereT_len n p k
  conv => whnf
  by_cases hk2 : k < n.mem.length
  · have hgk := hg k hk2
    have hst := hereT_step n p hk2
    by_cases hx : gt n.mem k ∈ p
    · rw [if_pos hx] at hst
      rw [decide_eq_true hx] at hgk
      have hsl : (hereT n p (k + 1)).length = (hereT n p k).length + 1 := by rw [hst]; simp
      repeat' (first | ((first | (with_reducible apply Nm.snoc _ (rfl)) | ((with_reducible apply Nm.mk); focus ((try simp only [lns]); exact rfl)) | ((with_reducible apply Wr.i64); focus omega) | ((with_reducible apply Need.mk); focus first | omega | (simp only [lns]; omega) | (unfold roomOK; simp only [lns]; omega)) | ((with_reducible apply Elem.lst); focus omega) | ((with_reducible apply Bif.dec) <;> intro h <;> (try simp only [lns] at h) <;> (try (exfalso; omega))) | ((with_reducible apply Bif.mk) <;> intro h <;> (try (rw [hgk] at h; cases h))) | (with_reducible apply Alt.l)) <;> conv => whnf) | fail)
      (refine ⟨⟨k + 1, by omega⟩, ?_⟩; (try dsimp only); conv => whnf); repeat' (first | with_reducible apply True.intro | ((with_reducible apply Same.mk); (focus (first | (rw [hst]; done) | (rw [hst]; rfl) | fail)); (conv => whnf)) | ((first | ((with_reducible apply Need.mk); focus omega) | (with_reducible apply Same.rfl) | (apply Same.int; focus rfl) | (apply Same.ov; (focus rfl); focus omega) | (with_reducible apply Turn.l)) <;> conv => whnf) | fail)
    · rw [if_neg hx, List.append_nil] at hst
      rw [decide_eq_false hx] at hgk
      repeat' (first | ((first | ((with_reducible apply Nm.mk); focus ((try simp only [lns]); exact rfl)) | ((with_reducible apply Wr.i64); focus omega) | ((with_reducible apply Need.mk); focus first | omega | (simp only [lns]; omega)) | ((with_reducible apply Elem.lst); focus omega) | ((with_reducible apply Bif.dec) <;> intro h <;> (try simp only [lns] at h) <;> (try (exfalso; omega))) | ((with_reducible apply Bif.mk) <;> intro h <;> (try (rw [hgk] at h; cases h)))) <;> conv => whnf) | fail)
      (refine ⟨⟨k + 1, by omega⟩, ?_⟩; (try dsimp only); conv => whnf); repeat' (first | with_reducible apply True.intro | ((with_reducible apply Same.mk); (focus (first | (rw [hst]; done) | (rw [hst]; rfl) | fail)); (conv => whnf)) | ((first | ((with_reducible apply Need.mk); focus omega) | (with_reducible apply Same.rfl) | (apply Same.int; focus rfl) | (with_reducible apply Turn.l)) <;> conv => whnf) | fail)
  · have hT := hereT_all n p (j := k) (by omega)
    rw [hT] at hTl ⊢
    have cC := k_Contains (hereM n p) n.rt .no (by omega)
    generalize hereM n p = M at *
    by_cases h0 : M = []
    · rw [if_pos h0]
      subst h0
      repeat' (first | with_reducible apply True.intro | ((first | ((with_reducible first | apply Bif.dec | apply Bif.beq) <;> intro h <;> (try simp only [lns] at h) <;> (try (exfalso; omega))) | (with_reducible apply Same.rfl) | (apply Same.int; focus rfl) | (apply Same.rfl)) <;> conv => whnf) | fail)
    have hM0 : 0 < M.length := List.length_pos_iff.2 h0
    rw [if_neg h0]
    by_cases hr : n.rt ∈ M
    · rw [if_pos hr]
      rw [decide_eq_true hr] at cC
      repeat' (first | with_reducible apply True.intro | ((first | ((with_reducible apply Nm.mk); focus ((try simp only [lns]); exact rfl)) | ((with_reducible apply Need.mk); focus first | (simp only [lns]; omega) | exact CleanP.nil rfl | kernel_rfl | (unfold roomOK; simp only [lns]; omega)) | (apply CallN.mk (cC)) | (with_reducible apply Bif.T) | ((with_reducible first | apply Bif.dec | apply Bif.beq) <;> intro h <;> (try simp only [lns] at h) <;> (try (exfalso; omega))) | (with_reducible apply Bif.not) | (with_reducible apply Same.rfl) | (apply Same.int; focus rfl) | (with_reducible first | apply Cut.l | apply GiveN.lend)) <;> conv => whnf) | fail)
    rw [if_neg hr]
    rw [decide_eq_false hr] at cC
    by_cases h9 : n.ep + 1 > 1073741824
    · rw [if_pos h9]
      rw [decide_eq_false (by omega)] at cE
      repeat' (first | with_reducible apply True.intro | ((first | ((with_reducible apply Nm.mk); focus ((try simp only [lns]); exact rfl)) | ((with_reducible apply Wr.i64); focus omega) | ((with_reducible apply Need.mk); focus first | omega | (simp only [lns]; omega) | exact CleanP.nil rfl | kernel_rfl) | ((with_reducible apply Elem.lst); focus omega) | (apply CallN.mk (cC)) | (apply CallN.mk (cE)) | (with_reducible apply Bif.F) | ((with_reducible first | apply Bif.dec | apply Bif.beq) <;> intro h <;> (try simp only [lns] at h) <;> (try (exfalso; omega))) | (with_reducible apply Bif.not) | (with_reducible apply Same.rfl) | (apply Same.int; focus rfl) | (apply Same.rfl) | (with_reducible apply GiveN.lend)) <;> conv => whnf) | fail)
    · rw [if_neg h9]
      rw [decide_eq_true (by omega)] at cE
      repeat' (first | with_reducible apply True.intro | ((first | ((with_reducible apply Nm.mk); focus ((try simp only [lns]); exact rfl)) | ((with_reducible apply Wr.i64); focus omega) | ((with_reducible apply Need.mk); focus first | omega | (simp only [lns]; omega) | exact CleanP.nil rfl | kernel_rfl | (unfold roomOK; simp only [lns]; omega)) | ((with_reducible apply Elem.lst); focus omega) | (apply CallN.mk (cC)) | (apply CallN.mk (cE)) | (with_reducible first | apply Bif.T | apply Bif.F) | ((with_reducible first | apply Bif.dec | apply Bif.beq) <;> intro h <;> (try simp only [lns] at h) <;> (try (exfalso; omega))) | (with_reducible apply Bif.not) | (with_reducible apply Same.rfl) | (apply Same.int; focus rfl) | (with_reducible first | apply Cut.l | apply GiveN.lend)) <;> conv => whnf) | fail)
theorem k_yLeave (n : Net) (p : List Int) (hn : NetR n) (hp : p.length ≤ 9223372036854775807) : Con Try.prog 47 [netF n, .fs .no 1 (lst u64 p)] [] (.tup [netO (leaveM n p).1 0 1, int (leaveM n p).2]) (netH (leaveM n p).1) := by
  have cA := k_yValid n hn
  by_cases hv : validN n = true
  case neg =>
    rw [leaveM, if_neg hv]
    rw [show validN n = false by simpa using hv] at cA
    refine spec_of_run ttok mixed (T0 := 2305984296742029687) (ts := [.cell 4 29, .tmp 5]) 64 rfl rfl rfl rfl (by simp) rfl ?_
    conv => whnf
    repeat' (first | with_reducible apply True.intro | ((first | (apply CallN.mk (cA)) | (with_reducible apply Bif.F) | (with_reducible apply Bif.not) | (with_reducible apply Same.rfl) | (apply Same.int; focus rfl) | (apply Same.rfl)) <;> conv => whnf) | fail)
  rw [hv] at cA
  obtain ⟨⟨e1, e2⟩, ⟨a1, a2, a3, a4⟩, hrt, a5⟩ := validN_iff.1 hv
  have hcl := validR_len a5
  rw [leaveM, if_pos hv]
  refine spec_of_run ttok mixed (T0 := 2305984296742029687) (ts := [.cell 4 29, .tmp 5]) 64 rfl rfl rfl rfl (by simp) rfl ?_
  conv => whnf
  repeat' (first | ((first | ((with_reducible apply Nm.mk); focus ((try simp only [lns]); exact rfl)) | ((with_reducible apply Need.mk); focus first | kernel_rfl | (unfold roomOK; simp only [lns]; omega)) | (apply CallN.mk (cA)) | (with_reducible apply Bif.T) | (with_reducible apply Bif.not)) <;> conv => whnf) | fail)
  refine LoopN.adoptF 3 1 (.agg [idV n.ep n.rt, .ov 1 4 0 0, .ov 20 2 0 n.cl.length]) rfl (by simp) (.cons .rfl (.cons .nil .rfl)) ?_
  refine loop_keep ttok mixed (T0 := 2305984296742029687) [1, 20, 21] (ι := {k : Nat // k ≤ n.mem.length})
    (fun k => [(22, int ((k.1 : Nat) : Int)), (2, .pb 0 []), (4, .pb 1 []), (6, .pb 3 [])]) (fun k => [.cells (netF n), .cells (tt 29).zero, .arr none 20 (lst clmV n.cl), .cells (.agg [idV n.ep n.rt, .ov 1 4 0 (hereT n p k.1).length, .ov 20 2 0 n.cl.length]), .arr none 1 (lst u64 (hereT n p k.1))]) (fun k => n.mem.length - k.1) ⟨0, by omega⟩ ?_
  conv => whnf
  repeat' (first | ((apply Same.mk rfl); conv => whnf) | fail)
  rintro ⟨k, hk⟩
  dsimp only
  have hTl := hereT_len n p k
  conv => whnf
  by_cases hk2 : k < n.mem.length
  · have hst := hereT_step n p hk2
    have cH := k_Has p (gt n.mem k) .no hp
    by_cases hx : gt n.mem k ∈ p
    · rw [if_pos hx] at hst
      rw [decide_eq_true hx] at cH
      have hsl : (hereT n p (k + 1)).length = (hereT n p k).length + 1 := by rw [hst]; simp
      repeat' (first | ((first | (with_reducible apply Nm.snoc _ (rfl)) | ((with_reducible apply Nm.mk); focus ((try simp only [lns]); exact rfl)) | ((with_reducible apply Wr.i64); focus omega) | ((with_reducible apply Need.mk); focus first | (simp only [lns]; omega) | (unfold roomOK; simp only [lns]; omega)) | ((with_reducible apply Elem.lst); focus omega) | (apply CallN.mk (cH)) | (with_reducible apply Bif.T) | ((with_reducible apply Bif.dec) <;> intro h <;> (try simp only [lns] at h) <;> (try (exfalso; omega))) | (with_reducible apply Alt.l)) <;> conv => whnf) | fail)
      (refine ⟨⟨k + 1, by omega⟩, ?_⟩; (try dsimp only); conv => whnf); repeat' (first | with_reducible apply True.intro | ((with_reducible apply Same.mk); (focus (first | (rw [hst]; done) | (rw [hst]; rfl) | (rw [hsl]; rfl) | fail)); (conv => whnf)) | ((first | ((with_reducible apply Need.mk); focus omega) | (with_reducible apply Same.rfl) | (apply Same.int; focus rfl) | (with_reducible apply Turn.l)) <;> conv => whnf) | fail)
    · rw [if_neg hx, List.append_nil] at hst
      rw [decide_eq_false hx] at cH
      repeat' (first | ((first | ((with_reducible apply Nm.mk); focus ((try simp only [lns]); exact rfl)) | ((with_reducible apply Wr.i64); focus omega) | ((with_reducible apply Need.mk); focus (simp only [lns]; omega)) | ((with_reducible apply Elem.lst); focus omega) | (apply CallN.mk (cH)) | (with_reducible apply Bif.F) | ((with_reducible apply Bif.dec) <;> intro h <;> (try simp only [lns] at h) <;> (try (exfalso; omega)))) <;> conv => whnf) | fail)
      (refine ⟨⟨k + 1, by omega⟩, ?_⟩; (try dsimp only); conv => whnf); repeat' (first | with_reducible apply True.intro | ((with_reducible apply Same.mk); (focus (first | (rw [hst]; done) | (rw [hst]; rfl) | fail)); (conv => whnf)) | ((first | ((with_reducible apply Need.mk); focus omega) | (with_reducible apply Same.rfl) | (apply Same.int; focus rfl) | (with_reducible apply Turn.l)) <;> conv => whnf) | fail)
  · have hT := hereT_all n p (j := k) (by omega)
    rw [hT] at hTl ⊢
    have cC := k_Has (hereM n p) n.rt .no (by omega)
    generalize hereM n p = M at *
    by_cases h0 : M = []
    · rw [if_pos h0]
      subst h0
      repeat' (first | with_reducible apply True.intro | ((first | ((with_reducible first | apply Bif.dec | apply Bif.beq) <;> intro h <;> (try simp only [lns] at h) <;> (try (exfalso; omega))) | (with_reducible apply Same.rfl) | (apply Same.int; focus rfl) | (apply Same.rfl)) <;> conv => whnf) | fail)
    have hM0 : 0 < M.length := List.length_pos_iff.2 h0
    rw [if_neg h0]
    by_cases hr : n.rt ∈ M
    · rw [if_pos hr]
      rw [decide_eq_true hr] at cC
      repeat' (first | with_reducible apply True.intro | ((first | ((with_reducible apply Nm.mk); focus ((try simp only [lns]); exact rfl)) | ((with_reducible apply Need.mk); focus first | (simp only [lns]; omega) | exact CleanP.nil rfl) | (apply CallN.mk (cC)) | (with_reducible apply Bif.T) | ((with_reducible first | apply Bif.dec | apply Bif.beq) <;> intro h <;> (try simp only [lns] at h) <;> (try (exfalso; omega))) | (with_reducible apply Bif.not) | (with_reducible apply Same.rfl) | (apply Same.int; focus rfl) | (with_reducible first | apply Cut.l | apply GiveN.lend)) <;> conv => whnf) | fail)
    rw [if_neg hr]
    rw [decide_eq_false hr] at cC
    by_cases h9 : n.ep + 1 > 1073741824
    · rw [if_pos h9]
      repeat' (first | with_reducible apply True.intro | ((first | ((with_reducible apply Nm.mk); focus ((try simp only [lns]); exact rfl)) | ((with_reducible apply Wr.i64); focus omega) | ((with_reducible apply Need.mk); focus first | omega | (simp only [lns]; omega) | exact CleanP.nil rfl | kernel_rfl) | ((with_reducible apply Elem.lst); focus omega) | (apply CallN.mk (cC)) | (with_reducible apply Bif.F) | ((with_reducible first | apply Bif.dec | apply Bif.beq) <;> intro h <;> (try simp only [lns] at h) <;> (try (exfalso; omega))) | (with_reducible apply Bif.not) | (with_reducible apply Same.rfl) | (apply Same.int; focus rfl) | (apply Same.rfl) | (with_reducible apply GiveN.lend)) <;> conv => whnf) | fail)
    · rw [if_neg h9]
      repeat' (first | with_reducible apply True.intro | ((first | ((with_reducible apply Nm.mk); focus ((try simp only [lns]); exact rfl)) | ((with_reducible apply Wr.i64); focus omega) | ((with_reducible apply Need.mk); focus first | omega | (simp only [lns]; omega) | exact CleanP.nil rfl | kernel_rfl) | ((with_reducible apply Elem.lst); focus omega) | (apply CallN.mk (cC)) | (with_reducible apply Bif.F) | ((with_reducible first | apply Bif.dec | apply Bif.beq) <;> intro h <;> (try simp only [lns] at h) <;> (try (exfalso; omega))) | (with_reducible apply Bif.not) | (with_reducible apply Same.rfl) | (apply Same.int; focus rfl) | (with_reducible first | apply Cut.l | apply GiveN.lend)) <;> conv => whnf) | fail)
end Go.Fw
