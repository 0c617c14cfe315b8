/- Networks: Join on both sides. -/
import Derived.Test.YtpmiaggdjgfjgaaGreatParC

namespace Go.Fw
open Go.Proofs
set_option maxHeartbeats 8000000
set_option maxRecDepth 4000
theorem mergeM_err {a b : List Clm} {now : Int} (hv : validR a = true ∧ validR b = true) (hn : isTm now) : (mergeM a b now).2.2 = 0 ∨ (mergeM a b now).2.2 = 10 := by
  unfold mergeM mrgE
  rw [if_pos hv, if_pos hn]
  split
  · exact .inr rfl
  · exact .inl rfl
theorem uni_of {a b w : List Int} (h : Rng (a ++ b) w 0 (a ++ b).length) : srtU w = uniU a b := srtU_congr h.mem
theorem k_xJoin (a b : Net) (now : Int) (ha : NetR a) (hb : NetR b) : Con Tryz.prog 17 [netF a, netF b, int now] [] (.tup [netO (joinM a b now).1 0 1, .ov 20 2 0 (joinM a b now).2.1.length, int (joinM a b now).2.2]) (netH (joinM a b now).1 ++ [.arr none 20 (lst clmV (joinM a b now).2.1)]) := by
  have cA := k_nValid a ha
  have cB := k_nValid b hb
  have cT := k_pisTime now
  by_cases hv : validN a = true ∧ validN b = true
  case neg =>
    rw [joinM, if_neg hv]
    generalize validN a = va at *
    generalize validN b = vb at *
    refine spec_of_run ttok mixed (T0 := 4620694317229424607) (ts := [.cell 6 29, .tmp 7, .tmp 8]) 70 rfl rfl rfl rfl (by simp) rfl ?_
    conv => whnf
    repeat' (first | with_reducible apply True.intro | ((first | (apply CallN.mk (cA)) | (apply CallN.mk (cB)) | (with_reducible first | apply Bif.T | apply Bif.F) | (with_reducible apply Bif.not) | ((with_reducible apply Bif.mk) <;> intro h <;> (try (exact absurd ⟨by assumption, by assumption⟩ hv))) | (with_reducible apply Same.rfl) | (apply Same.int; focus rfl) | (apply Same.rfl) | (with_reducible apply Frz.l)) <;> conv => whnf) | fail)
  rw [hv.1] at cA
  rw [hv.2] at cB
  by_cases hn : isTm now
  case neg =>
    rw [joinM, if_pos hv, if_neg hn]
    rw [decide_eq_false hn] at cT
    refine spec_of_run ttok mixed (T0 := 4620694317229424607) (ts := [.cell 6 29, .tmp 7, .tmp 8]) 70 rfl rfl rfl rfl (by simp) rfl ?_
    conv => whnf
    repeat' (first | with_reducible apply True.intro | ((first | (apply CallN.mk (cA)) | (apply CallN.mk (cB)) | (apply CallN.mk (cT)) | (with_reducible first | apply Bif.T | apply Bif.F) | (with_reducible apply Bif.not) | (with_reducible apply Same.rfl) | (apply Same.int; focus rfl) | (apply Same.rfl) | (with_reducible apply Frz.l)) <;> conv => whnf) | fail)
  rw [decide_eq_true hn] at cT
  obtain ⟨_, ⟨a1, a2, a3, a4⟩, _, a5⟩ := validN_iff.1 hv.1
  obtain ⟨_, ⟨b1, b2, b3, b4⟩, _, b5⟩ := validN_iff.1 hv.2
  have hE := mergeM_err ⟨a5, b5⟩ hn
  have cM := k_Merge a.cl b.cl .no .no now ha.lc hb.lc
  rw [joinM, if_pos hv, if_pos hn]
  generalize mergeM a.cl b.cl now = q at *
  obtain ⟨C, L, e⟩ := q
  dsimp only at cM hE ⊢
  have cS := k_Sort (a.mem ++ b.mem) (by simp; omega)
  have cC : ∀ w, Rng (a.mem ++ b.mem) w 0 (a.mem ++ b.mem).length ∧ Srt cI w 0 (a.mem ++ b.mem).length → Con Tryz.prog 34 [.ov 1 0 0 (a.mem ++ b.mem).length] [.arr none 1 (lst u64 w)] (.ov 1 0 0 (uniU a.mem b.mem).length) [.arr none 1 (lst u64 (uniU a.mem b.mem))] := fun w hw => by
    have hl := hw.1.len
    have := k_Compact w (by rw [hl]; exact hw.2) (by rw [hl]; simp; omega)
    rwa [hl, uni_of hw.1] at this
  simp only [List.length_append] at cS cC
  generalize uniU a.mem b.mem = U at *
  have cI1 := k_xBetter b a
  by_cases hf : U.length > 12 ∨ e ≠ 0
  · rw [if_pos hf]
    refine spec_of_run ttok mixed (T0 := 4620694317229424607) (ts := [.cell 6 29, .tmp 7, .tmp 8]) 70 rfl rfl rfl rfl (by simp) rfl ?_
    conv => whnf
    repeat' (first | with_reducible apply True.intro | ((with_reducible apply GiveN.keep [0]); (conv => whnf); (refine CallKN.ex cS ?_); (rintro _ _ ⟨w, hw, rfl, rfl⟩); (conv => whnf)) | ((with_reducible apply GiveN.mk [0]); (conv => whnf); (refine CallN.mk (cC _ hw) ?_); (conv => whnf)) | ((first | ((with_reducible apply Nm.mk); focus ((try simp only [lns]); exact rfl)) | ((with_reducible apply Need.mk); focus (unfold roomOK; simp only [lns]; omega)) | (apply CallN.mk (cA)) | (apply CallN.mk (cB)) | (apply CallN.mk (cT)) | (apply CallN.mk (cM)) | (with_reducible first | apply Bif.T | apply Bif.F) | ((with_reducible first | apply Bif.dec | apply Bif.bne) <;> intro h <;> (try simp only [lns] at h) <;> (try (exfalso; omega))) | (with_reducible apply Bif.not) | (with_reducible apply Same.rfl) | (apply Same.int; focus first | rfl | (dsimp only; omega)) | (apply Same.rfl) | (with_reducible apply Alt.l) | (with_reducible apply Frz.l)) <;> conv => whnf) | fail)
  · rw [if_neg hf]
    have he : e = 0 := by omega
    subst he
    cases hbt : betI b a
    · rw [hbt] at cI1
      rw [if_neg (by simp)]
      refine spec_of_run ttok mixed (T0 := 4620694317229424607) (ts := [.cell 6 29, .tmp 7, .tmp 8]) 70 rfl rfl rfl rfl (by simp) rfl ?_
      conv => whnf
      repeat' (first | with_reducible apply True.intro | ((with_reducible apply GiveN.keep [0]); (conv => whnf); (refine CallKN.ex cS ?_); (rintro _ _ ⟨w, hw, rfl, rfl⟩); (conv => whnf)) | ((with_reducible apply GiveN.mk [0]); (conv => whnf); (refine CallN.mk (cC _ hw) ?_); (conv => whnf)) | ((first | ((with_reducible apply Nm.mk); focus ((try simp only [lns]); exact rfl)) | ((with_reducible apply Need.mk); focus (unfold roomOK; simp only [lns]; omega)) | (apply CallN.mk (cA)) | (apply CallN.mk (cB)) | (apply CallN.mk (cT)) | (apply CallN.mk (cM)) | (apply CallN.mk (cI1)) | (with_reducible first | apply Bif.T | apply Bif.F) | ((with_reducible first | apply Bif.dec | apply Bif.bne) <;> intro h <;> (try simp only [lns] at h) <;> (try (exfalso; omega))) | (with_reducible apply Bif.not) | (with_reducible apply Same.rfl) | (apply Same.int; focus rfl) | (with_reducible first | apply Alt.l | apply Cut.l) | (with_reducible apply Frz.l)) <;> conv => whnf) | fail)
    · rw [hbt] at cI1
      rw [if_pos rfl]
      refine spec_of_run ttok mixed (T0 := 4620694317229424607) (ts := [.cell 6 29, .tmp 7, .tmp 8]) 70 rfl rfl rfl rfl (by simp) rfl ?_
      conv => whnf
      repeat' (first | with_reducible apply True.intro | ((with_reducible apply GiveN.keep [0]); (conv => whnf); (refine CallKN.ex cS ?_); (rintro _ _ ⟨w, hw, rfl, rfl⟩); (conv => whnf)) | ((with_reducible apply GiveN.mk [0]); (conv => whnf); (refine CallN.mk (cC _ hw) ?_); (conv => whnf)) | ((first | ((with_reducible apply Nm.mk); focus ((try simp only [lns]); exact rfl)) | ((with_reducible apply Need.mk); focus (unfold roomOK; simp only [lns]; omega)) | (apply CallN.mk (cA)) | (apply CallN.mk (cB)) | (apply CallN.mk (cT)) | (apply CallN.mk (cM)) | (apply CallN.mk (cI1)) | (with_reducible first | apply Bif.T | apply Bif.F) | ((with_reducible first | apply Bif.dec | apply Bif.bne) <;> intro h <;> (try simp only [lns] at h) <;> (try (exfalso; omega))) | (with_reducible apply Bif.not) | (with_reducible apply Same.rfl) | (apply Same.int; focus rfl) | (with_reducible first | apply Alt.l | apply Cut.l) | (with_reducible apply Frz.l)) <;> conv => whnf) | fail)
theorem betI_tri (a b : Net) : (betI b a = true ∧ betI a b = false) ∨ (betI b a = false ∧ betI a b = true) ∨ (betI b a = false ∧ betI a b = false ∧ a.ep = b.ep ∧ a.rt = b.rt) := by
  simp only [betI, Bool.or_eq_true, Bool.and_eq_true, Bool.or_eq_false_iff, Bool.and_eq_false_iff, decide_eq_true_eq, decide_eq_false_iff_not]
  omega
end Go.Fw

/- Networks: Leave on both sides. -/
namespace Go.Fw
open Go.Proofs
set_option maxHeartbeats 8000000
set_option maxRecDepth 4000
def hereT (n : Net) (p : List Int) (j : Nat) : List Int := (n.mem.take j).filter fun x => decide (x ∈ p)
theorem hereT_all (n : Net) (p : List Int) {j : Nat} (h : n.mem.length ≤ j) : hereT n p j = hereM n p := by rw [hereT, hereM, List.take_of_length_le h]
theorem hereT_step (n : Net) (p : List Int) {j : Nat} (h : j < n.mem.length) : hereT n p (j + 1) = hereT n p j ++ (if gt n.mem j ∈ p then [gt n.mem j] else []) := by
  rw [hereT, hereT, take_gt h, List.filter_append]
  by_cases hx : gt n.mem j ∈ p
  · simp [hx]
  · simp [hx]
theorem hereT_len (n : Net) (p : List Int) (j : Nat) : (hereT n p j).length ≤ n.mem.length := by
  unfold hereT
  refine Nat.le_trans (List.length_filter_le _ _) ?_
  simp; omega
theorem k_xLeave (n : Net) (p : List Int) (hn : NetR n) (hp : p.length ≤ 9223372036854775807) : Con Tryz.prog 18 [netF n, .fs .no 1 (lst u64 p)] [] (.tup [netO (leaveM n p).1 0 1, int (leaveM n p).2]) (netH (leaveM n p).1) := by
  have cA := k_nValid n hn
  by_cases hv : validN n = true
  case neg =>
    rw [leaveM, if_neg hv]
    rw [show validN n = false by simpa using hv] at cA
    refine spec_of_run ttok mixed (T0 := 604759215203637717532535) (ts := [.cell 4 29, .tmp 5]) 87 rfl rfl rfl rfl (by simp) rfl ?_
    conv => whnf
    repeat' (first | with_reducible apply True.intro | ((first | (apply CallN.mk (cA)) | (with_reducible apply Bif.F) | (with_reducible apply Bif.not) | (with_reducible apply Same.rfl) | (apply Same.int; focus rfl) | (apply Same.rfl) | (with_reducible apply Frz.l)) <;> conv => whnf) | fail)
  rw [hv] at cA
  obtain ⟨⟨e1, e2⟩, ⟨a1, a2, a3, a4⟩, hrt, a5⟩ := validN_iff.1 hv
  have hcl := validR_len a5
  rw [leaveM, if_pos hv]
  have cE := k_validEpoch (n.ep + 1)
  refine spec_of_run ttok mixed (T0 := 604759215203637717532535) (ts := [.cell 4 29, .tmp 5]) 87 rfl rfl rfl rfl (by simp) rfl ?_
  conv => whnf
  repeat' (first | ((first | (with_reducible apply Nm.rep _ (bool_mk _)) | ((with_reducible apply Nm.mk); focus ((try simp only [lns]); exact rfl)) | ((with_reducible apply Need.mk); focus (unfold roomOK; simp only [lns]; omega)) | (apply CallN.mk (cA)) | (with_reducible apply Bif.T) | (with_reducible apply Bif.not) | (with_reducible apply Frz.l)) <;> conv => whnf) | fail)
  refine loop_keep ttok mixed (T0 := 604759215203637717532535) [23, 24] (ι := {q : Nat × List Bool // q.1 ≤ p.length ∧ q.2.length = n.mem.length ∧ ∀ i, i < n.mem.length → gt q.2 i = decide (gt n.mem i ∈ p.take q.1)})
    (fun q => [(25, int (q.1.1 : Int)), (2, .pb 0 []), (4, .pb 1 []), (6, .ov 1 2 0 n.mem.length)]) (fun q => [.cells (netF n), .cells (tt 29).zero, .arr (some n.mem.length) 1 (lst bool q.1.2)]) (fun q => p.length - q.1.1) ⟨(0, List.replicate n.mem.length false), by simp, by simp, fun i hi => by rw [gt_rep hi]; simp⟩ ?_
  conv => whnf
  repeat' (first | ((first | (with_reducible apply Same.rfl) | (apply Same.int; focus rfl) | (with_reducible apply Frz.l)) <;> conv => whnf) | fail)
  rintro ⟨⟨j, H⟩, hj, hH, hg⟩
  dsimp only at hj hH hg ⊢
  conv => whnf
  have take1 : j < p.length → ∀ z, z ∈ p.take (j + 1) ↔ z ∈ p.take j ∨ z = gt p j := fun h z => take_mem h
  repeat' (first | ((first | (with_reducible first | apply Nm.set _ (bool_mk _) | apply Nm.set _ (bool_mk _)) | ((with_reducible apply Nm.mk); focus ((try simp only [lns]); exact rfl)) | ((with_reducible apply Wr.i64); focus omega) | ((with_reducible apply Need.mk); focus first | omega | (simp only [lns]; omega)) | ((with_reducible apply Elem.lst); focus omega) | (refine CallN.ex (k_BSearch n.mem _ .no a4 (by omega)) ?_; rintro _ _ ⟨i, b, rfl, rfl, ⟨rfl, hb⟩ | ⟨rfl, hb1, hb2⟩⟩) | (with_reducible first | apply Bif.T | apply Bif.F) | ((with_reducible apply Bif.dec) <;> intro h <;> (try simp only [lns] at h)) | (with_reducible apply Frz.l)) <;> conv => whnf) | fail)
  · (refine ⟨⟨(j + 1, H), by dsimp only; omega, hH, fun i hi => by
      dsimp only
      rw [hg i hi, decide_eq_decide, take1 (by omega)]
      exact ⟨.inl, fun g => g.elim id fun g => absurd (by rw [← g]; exact gt_mem hi) hb⟩⟩, ?_⟩; (try dsimp only); conv => whnf); repeat' (first | with_reducible apply True.intro | ((first | ((with_reducible apply Need.mk); focus omega) | (with_reducible apply Same.rfl) | (apply Same.int; focus rfl) | (with_reducible apply Turn.l) | (with_reducible apply Frz.l)) <;> conv => whnf) | fail)
  · (refine ⟨⟨(j + 1, H.set i true), by dsimp only; omega, by dsimp only; rw [List.length_set, hH], fun k hk => by
      dsimp only
      rw [gt_set (by omega)]
      by_cases hki : k = i
      · subst hki
        rw [if_pos rfl]
        symm
        rw [decide_eq_true_eq, take1 (by omega)]
        exact .inr hb2
      · rw [if_neg hki, hg k hk, decide_eq_decide, take1 (by omega)]
        refine ⟨.inl, fun g => g.elim id fun g => ?_⟩
        exfalso
        rw [← hb2] at g
        rcases Nat.lt_or_ge k i with h1 | h1
        · have := pw_asc a4 h1 hb1; omega
        · have := pw_asc a4 (show i < k by omega) hk; omega⟩, ?_⟩; (try dsimp only); conv => whnf); repeat' (first | with_reducible apply True.intro | ((first | ((with_reducible apply Need.mk); focus omega) | (with_reducible apply Same.rfl) | (apply Same.int; focus rfl) | (with_reducible apply Turn.l) | (with_reducible apply Frz.l)) <;> conv => whnf) | fail)
  have hpj : p.take j = p := List.take_of_length_le (by omega)
  rw [hpj] at hg
  refine LoopN.adopt 11 1 rfl (by simp) ?_
  refine loop_keep ttok mixed (T0 := 604759215203637717532535) [42, 43] (ι := {k : Nat // k ≤ n.mem.length})
    (fun k => [(44, int ((k.1 : Nat) : Int)), (11, .ov 1 3 0 (hereT n p k.1).length), (2, .pb 0 []), (4, .pb 1 []), (6, .ov 1 2 0 n.mem.length)]) (fun k => [.cells (netF n), .cells (tt 29).zero, .arr (some n.mem.length) 1 (lst bool H), .arr none 1 (lst u64 (hereT n p k.1))]) (fun k => n.mem.length - k.1) ⟨0, by omega⟩ ?_
  conv => whnf
  repeat' (first | ((apply Same.mk rfl); conv => whnf) | ((with_reducible apply Frz.l) <;> conv => whnf) | fail)
  rintro ⟨k, hk⟩
  dsimp only
  have hTl := hereT_len n p k
  conv => whnf
  by_cases hk2 : k < n.mem.length
  · have hgk := hg k hk2
    have hst := hereT_step n p hk2
    by_cases hx : gt n.mem k ∈ p
    · rw [if_pos hx] at hst
      rw [decide_eq_true hx] at hgk
      have hsl : (hereT n p (k + 1)).length = (hereT n p k).length + 1 := by rw [hst]; simp
      repeat' (first | ((first | (with_reducible apply Nm.snoc _ (rfl)) | ((with_reducible apply Nm.mk); focus ((try simp only [lns]); exact rfl)) | ((with_reducible apply Wr.i64); focus omega) | ((with_reducible apply Need.mk); focus first | omega | (simp only [lns]; omega) | (unfold roomOK; simp only [lns]; omega)) | ((with_reducible apply Elem.lst); focus omega) | ((with_reducible apply Bif.dec) <;> intro h <;> (try simp only [lns] at h) <;> (try (exfalso; omega))) | ((with_reducible apply Bif.mk) <;> intro h <;> (try (rw [hgk] at h; cases h))) | (with_reducible apply Alt.l) | (with_reducible apply Frz.l)) <;> conv => whnf) | fail)
      (refine ⟨⟨k + 1, by omega⟩, ?_⟩; (try dsimp only); conv => whnf); repeat' (first | with_reducible apply True.intro | ((with_reducible apply Same.mk); (focus (first | (rw [hst]; done) | (rw [hst]; rfl) | fail)); (conv => whnf)) | ((first | ((with_reducible apply Need.mk); focus omega) | (with_reducible apply Same.rfl) | (apply Same.int; focus rfl) | (apply Same.ov; (focus rfl); focus omega) | (with_reducible apply Turn.l) | (with_reducible apply Frz.l)) <;> conv => whnf) | fail)
    · rw [if_neg hx, List.append_nil] at hst
      rw [decide_eq_false hx] at hgk
      repeat' (first | ((first | ((with_reducible apply Nm.mk); focus ((try simp only [lns]); exact rfl)) | ((with_reducible apply Wr.i64); focus omega) | ((with_reducible apply Need.mk); focus first | omega | (simp only [lns]; omega)) | ((with_reducible apply Elem.lst); focus omega) | ((with_reducible apply Bif.dec) <;> intro h <;> (try simp only [lns] at h) <;> (try (exfalso; omega))) | ((with_reducible apply Bif.mk) <;> intro h <;> (try (rw [hgk] at h; cases h))) | (with_reducible apply Frz.l)) <;> conv => whnf) | fail)
      (refine ⟨⟨k + 1, by omega⟩, ?_⟩; (try dsimp only); conv => whnf); repeat' (first | with_reducible apply True.intro | ((with_reducible apply Same.mk); (focus (first | (rw [hst]; done) | (rw [hst]; rfl) | fail)); (conv => whnf)) | ((first | ((with_reducible apply Need.mk); focus omega) | (with_reducible apply Same.rfl) | (apply Same.int; focus rfl) | (with_reducible apply Turn.l) | (with_reducible apply Frz.l)) <;> conv => whnf) | fail)
  · have hT := hereT_all n p (j := k) (by omega)
    rw [hT] at hTl ⊢
    have cC := k_Contains (hereM n p) n.rt .no (by omega)
    generalize hereM n p = M at *
    by_cases h0 : M = []
    · rw [if_pos h0]
      subst h0
      repeat' (first | with_reducible apply True.intro | ((first | ((with_reducible first | apply Bif.dec | apply Bif.beq) <;> intro h <;> (try simp only [lns] at h) <;> (try (exfalso; omega))) | (with_reducible apply Same.rfl) | (apply Same.int; focus rfl) | (apply Same.rfl) | (with_reducible apply Frz.l)) <;> conv => whnf) | fail)
    have hM0 : 0 < M.length := List.length_pos_iff.2 h0
    rw [if_neg h0]
    by_cases hr : n.rt ∈ M
    · rw [if_pos hr]
      rw [decide_eq_true hr] at cC
      repeat' (first | with_reducible apply True.intro | ((first | ((with_reducible apply Nm.mk); focus ((try simp only [lns]); exact rfl)) | ((with_reducible apply Need.mk); focus first | (simp only [lns]; omega) | exact CleanP.nil rfl | kernel_rfl | (unfold roomOK; simp only [lns]; omega)) | (apply CallN.mk (cC)) | (with_reducible apply Bif.T) | ((with_reducible first | apply Bif.dec | apply Bif.beq) <;> intro h <;> (try simp only [lns] at h) <;> (try (exfalso; omega))) | (with_reducible apply Bif.not) | (with_reducible apply Same.rfl) | (apply Same.int; focus rfl) | (with_reducible first | apply Cut.l | apply GiveN.lend) | (with_reducible apply Frz.l)) <;> conv => whnf) | fail)
    rw [if_neg hr]
    rw [decide_eq_false hr] at cC
    by_cases h9 : n.ep + 1 > 1073741824
    · rw [if_pos h9]
      rw [decide_eq_false (by omega)] at cE
      repeat' (first | with_reducible apply True.intro | ((first | ((with_reducible apply Nm.mk); focus ((try simp only [lns]); exact rfl)) | ((with_reducible apply Wr.i64); focus omega) | ((with_reducible apply Need.mk); focus first | omega | (simp only [lns]; omega) | exact CleanP.nil rfl | kernel_rfl) | ((with_reducible apply Elem.lst); focus omega) | (apply CallN.mk (cC)) | (apply CallN.mk (cE)) | (with_reducible apply Bif.F) | ((with_reducible first | apply Bif.dec | apply Bif.beq) <;> intro h <;> (try simp only [lns] at h) <;> (try (exfalso; omega))) | (with_reducible apply Bif.not) | (with_reducible apply Same.rfl) | (apply Same.int; focus rfl) | (apply Same.rfl) | (with_reducible apply GiveN.lend) | (with_reducible apply Frz.l)) <;> conv => whnf) | fail)
    · rw [if_neg h9]
      rw [decide_eq_true (by omega)] at cE
      repeat' (first | with_reducible apply True.intro | ((first | ((with_reducible apply Nm.mk); focus ((try simp only [lns]); exact rfl)) | ((with_reducible apply Wr.i64); focus omega) | ((with_reducible apply Need.mk); focus first | omega | (simp only [lns]; omega) | exact CleanP.nil rfl | kernel_rfl | (unfold roomOK; simp only [lns]; omega)) | ((with_reducible apply Elem.lst); focus omega) | (apply CallN.mk (cC)) | (apply CallN.mk (cE)) | (with_reducible first | apply Bif.T | apply Bif.F) | ((with_reducible first | apply Bif.dec | apply Bif.beq) <;> intro h <;> (try simp only [lns] at h) <;> (try (exfalso; omega))) | (with_reducible apply Bif.not) | (with_reducible apply Same.rfl) | (apply Same.int; focus rfl) | (with_reducible first | apply Cut.l | apply GiveN.lend) | (with_reducible apply Frz.l)) <;> conv => whnf) | fail)
end Go.Fw

/- Networks that are the same; Join and Leave against the reference's. -/
namespace Go.Fw
open Go.Proofs
set_option maxHeartbeats 4000000
set_option maxRecDepth 4000
theorem k_EqualU (a : List Int) (t1 t2 : Tg) (hl : a.length ≤ 1000000) : Con Tryz.prog 19 [.fs t1 1 (lst u64 a), .fs t2 1 (lst u64 a)] [] (bool true) [] := by
  refine spec_of_run ttok mixed (T0 := 16806963) (ts := [.tmp 4]) 26 rfl rfl rfl rfl (by simp) rfl ?_
  conv => whnf
  repeat' (first | ((first | ((with_reducible apply Nm.mk); focus ((try simp only [lns]); exact rfl)) | ((with_reducible apply Bif.bne) <;> intro h <;> (try simp only [lns] at h) <;> (try (exfalso; omega))) | (with_reducible apply Frz.l)) <;> conv => whnf) | fail)
  refine loop_keep ttok mixed (T0 := 16806963) [0, 1, 12] (ι := {k : Nat // k ≤ a.length})
    (fun k => [(13, int (k.1 : Int))]) (fun _ => []) (fun k => a.length - k.1) ⟨0, by omega⟩ ?_
  conv => whnf
  repeat' (first | ((first | (with_reducible apply Same.rfl) | (apply Same.int; focus rfl) | (with_reducible apply Frz.l)) <;> conv => whnf) | fail)
  rintro ⟨k, hk⟩
  dsimp only
  conv => whnf
  repeat' (first | with_reducible apply True.intro | ((first | ((with_reducible apply Nm.mk); focus ((try simp only [lns]); exact rfl)) | ((with_reducible apply Wr.i64); focus omega) | ((with_reducible apply Need.mk); focus first | (simp only [lns]; omega) | kernel_rfl) | ((with_reducible apply Elem.lst); focus omega) | ((with_reducible first | apply Bif.dec | apply Bif.bne) <;> intro h <;> (try simp only [lns] at h) <;> (try (exfalso; omega))) | (apply Same.bool; focus (with_reducible rfl)) | (with_reducible apply Frz.l)) <;> conv => whnf) | fail)
  (refine ⟨⟨k + 1, by omega⟩, ?_⟩; (try dsimp only); conv => whnf); repeat' (first | with_reducible apply True.intro | ((first | ((with_reducible apply Need.mk); focus omega) | (with_reducible apply Same.rfl) | (apply Same.int; focus rfl) | (with_reducible apply Turn.l) | (with_reducible apply Frz.l)) <;> conv => whnf) | fail)
theorem k_SameN (x : Net) (t1 t2 t3 t4 : Tg) (hm : x.mem.length ≤ 1000000) (hc : x.cl.length ≤ 1000000) : Con Tryz.prog 26 [.agg [idV x.ep x.rt, .fs t1 1 (lst u64 x.mem), .fs t2 20 (lst clmV x.cl)], .agg [idV x.ep x.rt, .fs t3 1 (lst u64 x.mem), .fs t4 20 (lst clmV x.cl)]] [] (bool true) [] := by
  refine spec_of_run ttok mixed (T0 := 31) (ts := [.tmp 4]) 24 rfl rfl rfl rfl (by simp) rfl ?_
  conv => whnf
  repeat' (first | with_reducible apply True.intro | ((apply Same.bool (decide_eq_true rfl)); (conv => whnf)) | ((first | (apply CallN.mk (k_EqualU x.mem _ _ hm)) | (apply CallN.mk (k_Equal_Clm x.cl x.cl _ _ hc)) | (with_reducible apply Bif.T) | ((with_reducible apply Bif.beq) <;> intro h <;> (try simp only [lns] at h) <;> (try (exfalso; omega))) | (with_reducible apply Bif.and) | (with_reducible apply Frz.l)) <;> conv => whnf) | fail)
theorem uniU_len (a b : List Int) : (uniU a b).length ≤ a.length + b.length := by
  have := srtU_len (a ++ b)
  rw [List.length_append] at this
  exact this
theorem joinM_len (a b : Net) (now : Int) : (joinM a b now).1.mem.length ≤ a.mem.length + b.mem.length ∧ (joinM a b now).1.cl.length ≤ a.cl.length + b.cl.length ∧ (joinM a b now).2.1.length ≤ a.cl.length + b.cl.length := by
  have h1 := uniU_len a.mem b.mem
  have h2 := mergeM_len a.cl b.cl now
  unfold joinM
  split
  · split
    · split
      · simp [net0]
      · split <;> exact ⟨h1, h2.1, h2.2⟩
    · simp [net0]
  · simp [net0]
theorem joinM_valid {a b : Net} {now : Int} (h0 : (joinM a b now).2.2 = 0) : validN (joinM a b now).1 = true := by
  by_cases hv : validN a = true ∧ validN b = true
  · by_cases hn : isTm now
    · by_cases hu : (uniU a.mem b.mem).length > 12 ∨ (mergeM a.cl b.cl now).2.2 ≠ 0
      · rw [joinM, if_pos hv, if_pos hn, if_pos hu] at h0
        exact absurd h0 (by decide)
      · have va := validN_iff.1 hv.1
        have vb := validN_iff.1 hv.2
        have hm := mergeM_valid a.cl b.cl now (by omega)
        have hmem : ∀ z, z ∈ uniU a.mem b.mem ↔ z ∈ a.mem ∨ z ∈ b.mem := fun z => by rw [uniU, srtU_mem, List.mem_append]
        have hl : 1 ≤ (uniU a.mem b.mem).length := List.length_pos_of_mem ((hmem a.rt).2 (.inl va.2.2.1))
        have hp : ∀ x ∈ uniU a.mem b.mem, 0 < x := fun x hx => ((hmem x).1 hx).elim (va.2.1.2.2.1 x) (vb.2.1.2.2.1 x)
        rw [joinM, if_pos hv, if_pos hn, if_neg hu]
        dsimp only
        split
        · exact validN_iff.2 ⟨vb.1, ⟨hl, (show (uniU a.mem b.mem).length ≤ 12 by omega), hp, srtU_pw _⟩, (hmem _).2 (.inr vb.2.2.1), hm⟩
        · exact validN_iff.2 ⟨va.1, ⟨hl, (show (uniU a.mem b.mem).length ≤ 12 by omega), hp, srtU_pw _⟩, (hmem _).2 (.inl va.2.2.1), hm⟩
    · rw [joinM, if_pos hv, if_neg hn] at h0
      exact absurd h0 (by decide)
  · rw [joinM, if_neg hv] at h0
    exact absurd h0 (by decide)
theorem here_len (n : Net) (p : List Int) : (hereM n p).length ≤ n.mem.length := List.length_filter_le _ _
theorem leaveM_len (n : Net) (p : List Int) : (leaveM n p).1.mem.length ≤ n.mem.length ∧ (leaveM n p).1.cl.length ≤ n.cl.length := by
  have h := here_len n p
  unfold leaveM
  split
  · split
    · simp [net0]
    · split
      · exact ⟨h, Nat.le_refl _⟩
      · split
        · simp [net0]
        · exact ⟨h, Nat.le_refl _⟩
  · simp [net0]
theorem leaveM_valid {n : Net} {p : List Int} (h0 : (leaveM n p).2 = 0) : validN (leaveM n p).1 = true := by
  by_cases hv : validN n = true
  · by_cases he : hereM n p = []
    · rw [leaveM, if_pos hv, if_pos he] at h0
      exact absurd h0 (by decide)
    · have v := validN_iff.1 hv
      have hl : 1 ≤ (hereM n p).length := List.length_pos_iff.2 he
      have hs : (hereM n p).Sublist n.mem := List.filter_sublist
      have hk : 1 ≤ (hereM n p).length ∧ (hereM n p).length ≤ 12 ∧ (∀ x ∈ hereM n p, 0 < x) ∧ (hereM n p).Pairwise (· < ·) :=
        ⟨hl, Nat.le_trans (here_len n p) v.2.1.2.1, fun x hx => v.2.1.2.2.1 x (hs.subset hx), v.2.1.2.2.2.sublist hs⟩
      by_cases hr : n.rt ∈ hereM n p
      · rw [leaveM, if_pos hv, if_neg he, if_pos hr]
        exact validN_iff.2 ⟨v.1, hk, hr, v.2.2.2⟩
      · by_cases hx : n.ep + 1 > 1073741824
        · rw [leaveM, if_pos hv, if_neg he, if_neg hr, if_pos hx] at h0
          exact absurd h0 (by decide)
        · rw [leaveM, if_pos hv, if_neg he, if_neg hr, if_neg hx]
          exact validN_iff.2 ⟨⟨(show 0 ≤ n.ep + 1 by have := v.1; omega), (show n.ep + 1 ≤ 1073741824 by omega)⟩, hk, gt_mem (show 0 < (hereM n p).length by omega), v.2.2.2⟩
  · rw [leaveM, if_neg hv] at h0
    exact absurd h0 (by decide)
theorem net0_R : NetR net0 := ⟨by simp [net0], by simp [net0], by simp [net0]⟩
theorem RelC.fsno {cx : Cx} {w : World} {t : Tg} {E : Nat} {rows : List SV} {vs : List Value} (h : RelC cx w (.fs t E rows) vs) : RelC cx w (.fs .no E rows) vs := by
  cases h with
  | fs0 _ => exact RelC.fs0 Tg.ok_no
  | fs f a1 a2 a3 a4 a5 a6 a7 => exact RelC.fs f a1 a2 a3 Tg.ok_no a5 a6 a7
/-- A network of any kind is one that comes in. -/
theorem ArgLe.net {e r : Int} {t1 t2 : Tg} {m : List Int} {c : List Clm} : ArgLe (.agg [idV e r, .fs t1 1 (lst u64 m), .fs t2 20 (lst clmV c)]) (netF ⟨e, r, m, c⟩) := fun cx w v h => by
  obtain ⟨vs, e1, h⟩ := h
  refine ⟨vs, e1, ?_⟩
  cases h with
  | cons g1 g2 =>
    refine .cons g1 ?_
    cases g2 with
    | cons g3 g4 =>
      refine .cons g3.fsno ?_
      cases g4 with
      | cons g5 g6 => exact .cons g5.fsno g6
theorem k_nValidT (n : Net) (t1 t2 : Tg) (hn : NetR n) : Con Tryz.prog 28 [.agg [idV n.ep n.rt, .fs t1 1 (lst u64 n.mem), .fs t2 20 (lst clmV n.cl)]] [] (bool (validN n)) [] :=
  (k_nValid n hn).le ⟨ArgLe.net, True.intro⟩
theorem k_xJoinT (a b : Net) (t1 t2 t3 t4 : Tg) (now : Int) (ha : NetR a) (hb : NetR b) : Con Tryz.prog 17 [.agg [idV a.ep a.rt, .fs t1 1 (lst u64 a.mem), .fs t2 20 (lst clmV a.cl)], .agg [idV b.ep b.rt, .fs t3 1 (lst u64 b.mem), .fs t4 20 (lst clmV b.cl)], int now] [] (.tup [netO (joinM a b now).1 0 1, .ov 20 2 0 (joinM a b now).2.1.length, int (joinM a b now).2.2]) (netH (joinM a b now).1 ++ [.arr none 20 (lst clmV (joinM a b now).2.1)]) :=
  (k_xJoin a b now ha hb).le ⟨ArgLe.net, ArgLe.net, ArgLe.rfl, True.intro⟩
theorem k_xLeaveT (n : Net) (p : List Int) (t1 t2 t3 : Tg) (hn : NetR n) (hp : p.length ≤ 9223372036854775807) : Con Tryz.prog 18 [.agg [idV n.ep n.rt, .fs t1 1 (lst u64 n.mem), .fs t2 20 (lst clmV n.cl)], .fs t3 1 (lst u64 p)] [] (.tup [netO (leaveM n p).1 0 1, int (leaveM n p).2]) (netH (leaveM n p).1) :=
  (k_xLeave n p hn hp).le ⟨ArgLe.net, ArgLe.fs, True.intro⟩
theorem joinM_R {a b : Net} {now : Int} (ha : NetR a) (hb : NetR b) (lma : a.mem.length ≤ 1000) (lmb : b.mem.length ≤ 1000) (lca : a.cl.length ≤ 1000) (lcb : b.cl.length ≤ 1000) : NetR (joinM a b now).1 := by
  obtain ⟨l1, l2, l3⟩ := joinM_len a b now
  refine ⟨?_, by omega, by omega⟩
  have h1 : ∀ x ∈ uniU a.mem b.mem, 0 ≤ x := fun x hx => by
    rw [uniU, srtU_mem, List.mem_append] at hx
    exact hx.elim (ha.p x) (hb.p x)
  unfold joinM
  split
  · split
    · split
      · simp [net0]
      · split <;> exact h1
    · simp [net0]
  · simp [net0]
theorem leaveM_R {n : Net} {p : List Int} (hn : NetR n) : NetR (leaveM n p).1 := by
  obtain ⟨l1, l2⟩ := leaveM_len n p
  have lm := hn.lm
  have lc := hn.lc
  refine ⟨?_, by omega, by omega⟩
  have h1 : ∀ x ∈ hereM n p, 0 ≤ x := fun x hx => hn.p x (List.filter_sublist.subset hx)
  unfold leaveM
  split
  · split
    · simp [net0]
    · split
      · exact h1
      · split
        · simp [net0]
        · exact h1
  · simp [net0]
end Go.Fw
