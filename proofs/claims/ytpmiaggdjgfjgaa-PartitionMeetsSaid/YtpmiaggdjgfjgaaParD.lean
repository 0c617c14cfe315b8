/- Networks: Join on both sides. -/
import Derived.Test.YtpmiaggdjgfjgaaParC
namespace Go.Fw
open Go.Proofs
set_option maxHeartbeats 8000000
set_option maxRecDepth 4000
theorem mergeM_err {a b : List Clm} {now : Int} (hv : validR a = true ∧ validR b = true) (hn : isTm now) : (mergeM a b now).2.2 = 0 ∨ (mergeM a b now).2.2 = 10 := by
  unfold mergeM mrgE
  rw [if_pos hv, if_pos hn]
  split
  · exact .inr rfl
  · exact .inl rfl
theorem uni_of {a b w : List Int} (h : Rng (a ++ b) w 0 (a ++ b).length) : srtU w = uniU a b := srtU_congr h.mem
theorem k_xJoin (a b : Net) (now : Int) (ha : NetR a) (hb : NetR b) : Con Try.prog 24 [netF a, netF b, int now] [] (.tup [netO (joinM a b now).1 0 1, .ov 20 2 0 (joinM a b now).2.1.length, int (joinM a b now).2.2]) (netH (joinM a b now).1 ++ [.arr none 20 (lst clmV (joinM a b now).2.1)]) := by
  have cA := k_nValid a ha
  have cB := k_nValid b hb
  have cT := k_pisTime now
  by_cases hv : validN a = true ∧ validN b = true
  case neg =>
    rw [joinM, if_neg hv]
    generalize validN a = va at *
    generalize validN b = vb at *
    refine spec_of_run ttok mixed (T0 := 4620694317229424607) (ts := [.cell 6 29, .tmp 7, .tmp 8]) 70 rfl rfl rfl rfl (by simp) rfl ?_
    conv => whnf
    repeat' (first | with_reducible apply True.intro | ((first | (apply CallN.mk (cA)) | (apply CallN.mk (cB)) | (with_reducible first | apply Bif.T | apply Bif.F) | (with_reducible apply Bif.not) | ((with_reducible apply Bif.mk) <;> intro h <;> (try (exact absurd ⟨by assumption, by assumption⟩ hv))) | (with_reducible apply Same.rfl) | (apply Same.int; focus rfl) | (apply Same.rfl)) <;> conv => whnf) | fail)
  rw [hv.1] at cA
  rw [hv.2] at cB
  by_cases hn : isTm now
  case neg =>
    rw [joinM, if_pos hv, if_neg hn]
    rw [decide_eq_false hn] at cT
    refine spec_of_run ttok mixed (T0 := 4620694317229424607) (ts := [.cell 6 29, .tmp 7, .tmp 8]) 70 rfl rfl rfl rfl (by simp) rfl ?_
    conv => whnf
    repeat' (first | with_reducible apply True.intro | ((first | (apply CallN.mk (cA)) | (apply CallN.mk (cB)) | (apply CallN.mk (cT)) | (with_reducible first | apply Bif.T | apply Bif.F) | (with_reducible apply Bif.not) | (with_reducible apply Same.rfl) | (apply Same.int; focus rfl) | (apply Same.rfl)) <;> conv => whnf) | fail)
  rw [decide_eq_true hn] at cT
  obtain ⟨_, ⟨a1, a2, a3, a4⟩, _, a5⟩ := validN_iff.1 hv.1
  obtain ⟨_, ⟨b1, b2, b3, b4⟩, _, b5⟩ := validN_iff.1 hv.2
  have hE := mergeM_err ⟨a5, b5⟩ hn
  have cM := k_Merge a.cl b.cl .no .no now ha.lc hb.lc
  rw [joinM, if_pos hv, if_pos hn]
  generalize mergeM a.cl b.cl now = q at *
  obtain ⟨C, L, e⟩ := q
  dsimp only at cM hE ⊢
  have cS := k_Sort (a.mem ++ b.mem) (by simp; omega)
  have cC : ∀ w, Rng (a.mem ++ b.mem) w 0 (a.mem ++ b.mem).length ∧ Srt cI w 0 (a.mem ++ b.mem).length → Con Try.prog 45 [.ov 1 0 0 (a.mem ++ b.mem).length] [.arr none 1 (lst u64 w)] (.ov 1 0 0 (uniU a.mem b.mem).length) [.arr none 1 (lst u64 (uniU a.mem b.mem))] := fun w hw => by
    have hl := hw.1.len
    have := k_Compact w (by rw [hl]; exact hw.2) (by rw [hl]; simp; omega)
    rwa [hl, uni_of hw.1] at this
  simp only [List.length_append] at cS cC
  generalize uniU a.mem b.mem = U at *
  have cI1 := k_xBetter b a
  by_cases hf : U.length > 12 ∨ e ≠ 0
  · rw [if_pos hf]
    refine spec_of_run ttok mixed (T0 := 4620694317229424607) (ts := [.cell 6 29, .tmp 7, .tmp 8]) 70 rfl rfl rfl rfl (by simp) rfl ?_
    conv => whnf
    repeat' (first | with_reducible apply True.intro | ((with_reducible apply GiveN.keep [0]); (conv => whnf); (refine CallKN.ex cS ?_); (rintro _ _ ⟨w, hw, rfl, rfl⟩); (conv => whnf)) | ((with_reducible apply GiveN.mk [0]); (conv => whnf); (refine CallN.mk (cC _ hw) ?_); (conv => whnf)) | ((first | ((with_reducible apply Nm.mk); focus ((try simp only [lns]); exact rfl)) | ((with_reducible apply Need.mk); focus (unfold roomOK; simp only [lns]; omega)) | (apply CallN.mk (cA)) | (apply CallN.mk (cB)) | (apply CallN.mk (cT)) | (apply CallN.mk (cM)) | (with_reducible first | apply Bif.T | apply Bif.F) | ((with_reducible first | apply Bif.dec | apply Bif.bne) <;> intro h <;> (try simp only [lns] at h) <;> (try (exfalso; omega))) | (with_reducible apply Bif.not) | (with_reducible apply Same.rfl) | (apply Same.int; focus first | rfl | (dsimp only; omega)) | (apply Same.rfl) | (with_reducible apply Alt.l)) <;> conv => whnf) | fail)
  · rw [if_neg hf]
    have he : e = 0 := by omega
    subst he
    cases hbt : betI b a
    · rw [hbt] at cI1
      rw [if_neg (by simp)]
      refine spec_of_run ttok mixed (T0 := 4620694317229424607) (ts := [.cell 6 29, .tmp 7, .tmp 8]) 70 rfl rfl rfl rfl (by simp) rfl ?_
      conv => whnf
      repeat' (first | with_reducible apply True.intro | ((with_reducible apply GiveN.keep [0]); (conv => whnf); (refine CallKN.ex cS ?_); (rintro _ _ ⟨w, hw, rfl, rfl⟩); (conv => whnf)) | ((with_reducible apply GiveN.mk [0]); (conv => whnf); (refine CallN.mk (cC _ hw) ?_); (conv => whnf)) | ((first | ((with_reducible apply Nm.mk); focus ((try simp only [lns]); exact rfl)) | ((with_reducible apply Need.mk); focus (unfold roomOK; simp only [lns]; omega)) | (apply CallN.mk (cA)) | (apply CallN.mk (cB)) | (apply CallN.mk (cT)) | (apply CallN.mk (cM)) | (apply CallN.mk (cI1)) | (with_reducible first | apply Bif.T | apply Bif.F) | ((with_reducible first | apply Bif.dec | apply Bif.bne) <;> intro h <;> (try simp only [lns] at h) <;> (try (exfalso; omega))) | (with_reducible apply Bif.not) | (with_reducible apply Same.rfl) | (apply Same.int; focus rfl) | (with_reducible first | apply Alt.l | apply Cut.l)) <;> conv => whnf) | fail)
    · rw [hbt] at cI1
      rw [if_pos rfl]
      refine spec_of_run ttok mixed (T0 := 4620694317229424607) (ts := [.cell 6 29, .tmp 7, .tmp 8]) 70 rfl rfl rfl rfl (by simp) rfl ?_
      conv => whnf
      repeat' (first | with_reducible apply True.intro | ((with_reducible apply GiveN.keep [0]); (conv => whnf); (refine CallKN.ex cS ?_); (rintro _ _ ⟨w, hw, rfl, rfl⟩); (conv => whnf)) | ((with_reducible apply GiveN.mk [0]); (conv => whnf); (refine CallN.mk (cC _ hw) ?_); (conv => whnf)) | ((first | ((with_reducible apply Nm.mk); focus ((try simp only [lns]); exact rfl)) | ((with_reducible apply Need.mk); focus (unfold roomOK; simp only [lns]; omega)) | (apply CallN.mk (cA)) | (apply CallN.mk (cB)) | (apply CallN.mk (cT)) | (apply CallN.mk (cM)) | (apply CallN.mk (cI1)) | (with_reducible first | apply Bif.T | apply Bif.F) | ((with_reducible first | apply Bif.dec | apply Bif.bne) <;> intro h <;> (try simp only [lns] at h) <;> (try (exfalso; omega))) | (with_reducible apply Bif.not) | (with_reducible apply Same.rfl) | (apply Same.int; focus rfl) | (with_reducible first | apply Alt.l | apply Cut.l)) <;> conv => whnf) | fail)
theorem betI_tri (a b : Net) : (betI b a = true ∧ betI a b = false) ∨ (betI b a = false ∧ betI a b = true) ∨ (betI b a = false ∧ betI a b = false ∧ a.ep = b.ep ∧ a.rt = b.rt) := by
  simp only [betI, Bool.or_eq_true, Bool.and_eq_true, Bool.or_eq_false_iff, Bool.and_eq_false_iff, decide_eq_true_eq, decide_eq_false_iff_not]
  omega
theorem k_yJoin (a b : Net) (now : Int) (ha : NetR a) (hb : NetR b) (hla : a.cl.length ≤ 1000) (hlb : b.cl.length ≤ 1000) : Con Try.prog 43 [netF a, netF b, int now] [] (.tup [netO (joinM a b now).1 0 1, .ov 20 2 0 (joinM a b now).2.1.length, int (joinM a b now).2.2]) (netH (joinM a b now).1 ++ [.arr none 20 (lst clmV (joinM a b now).2.1)]) := by
  have cA := k_yValid a ha
  have cB := k_yValid b hb
  have cT := k_IsTime now
  by_cases hv : validN a = true ∧ validN b = true
  case neg =>
    rw [joinM, if_neg hv]
    generalize validN a = va at *
    generalize validN b = vb at *
    refine spec_of_run ttok mixed (T0 := 576461027199164383) (ts := [.cell 6 29, .tmp 7, .tmp 8]) 65 rfl rfl rfl rfl (by simp) rfl ?_
    conv => whnf
    repeat' (first | with_reducible apply True.intro | ((first | (apply CallN.mk (cA)) | (apply CallN.mk (cB)) | (with_reducible first | apply Bif.T | apply Bif.F) | (with_reducible apply Bif.not) | ((with_reducible apply Bif.mk) <;> intro h <;> (try (exact absurd ⟨by assumption, by assumption⟩ hv))) | (with_reducible apply Same.rfl) | (apply Same.int; focus rfl) | (apply Same.rfl)) <;> conv => whnf) | fail)
  rw [hv.1] at cA
  rw [hv.2] at cB
  by_cases hn : isTm now
  case neg =>
    rw [joinM, if_pos hv, if_neg hn]
    rw [decide_eq_false hn] at cT
    refine spec_of_run ttok mixed (T0 := 576461027199164383) (ts := [.cell 6 29, .tmp 7, .tmp 8]) 65 rfl rfl rfl rfl (by simp) rfl ?_
    conv => whnf
    repeat' (first | with_reducible apply True.intro | ((first | (apply CallN.mk (cA)) | (apply CallN.mk (cB)) | (apply CallN.mk (cT)) | (with_reducible first | apply Bif.T | apply Bif.F) | (with_reducible apply Bif.not) | (with_reducible apply Same.rfl) | (apply Same.int; focus rfl) | (apply Same.rfl)) <;> conv => whnf) | fail)
  rw [decide_eq_true hn] at cT
  obtain ⟨_, ⟨a1, a2, a3, a4⟩, _, a5⟩ := validN_iff.1 hv.1
  obtain ⟨_, ⟨b1, b2, b3, b4⟩, _, b5⟩ := validN_iff.1 hv.2
  have hE := mergeM_err ⟨a5, b5⟩ hn
  have cM := k_refMerge a.cl b.cl .no .no now hla hlb
  have cU := k_union a.mem b.mem .no .no a4 b4 (by omega) (by omega)
  rw [joinM, if_pos hv, if_pos hn]
  generalize mergeM a.cl b.cl now = q at *
  obtain ⟨C, L, e⟩ := q
  dsimp only at cM hE ⊢
  generalize uniU a.mem b.mem = U at *
  have cI1 := k_yBetter a b
  have ht := betI_tri a b
  by_cases hf : U.length > 12 ∨ e ≠ 0
  · rw [if_pos hf]
    generalize betI a b = x at *
    refine spec_of_run ttok mixed (T0 := 576461027199164383) (ts := [.cell 6 29, .tmp 7, .tmp 8]) 65 rfl rfl rfl rfl (by simp) rfl ?_
    conv => whnf
    repeat' (first | with_reducible apply True.intro | ((first | ((with_reducible apply Need.mk); focus kernel_rfl) | (apply CallN.mk (cA)) | (apply CallN.mk (cB)) | (apply CallN.mk (cT)) | (apply CallN.mk (cM)) | (apply CallN.mk (cU)) | (apply CallN.mk (cI1)) | (with_reducible first | apply Bif.T | apply Bif.F) | ((with_reducible first | apply Bif.dec | apply Bif.bne) <;> intro h <;> (try simp only [lns] at h) <;> (try (exfalso; omega))) | (with_reducible apply Bif.not) | ((with_reducible apply Bif.mk) <;> intro h) | (with_reducible apply Same.rfl) | (apply Same.int; focus rfl) | (apply Same.rfl)) <;> conv => whnf) | fail)
  · rw [if_neg hf]
    have he : e = 0 := by omega
    subst he
    rcases ht with ⟨t1, t2⟩ | ⟨t1, t2⟩ | ⟨t1, t2, t3, t4⟩
    · rw [t2] at cI1
      rw [t1, if_pos rfl]
      refine spec_of_run ttok mixed (T0 := 576461027199164383) (ts := [.cell 6 29, .tmp 7, .tmp 8]) 65 rfl rfl rfl rfl (by simp) rfl ?_
      conv => whnf
      repeat' (first | with_reducible apply True.intro | ((first | ((with_reducible apply Need.mk); focus kernel_rfl) | (apply CallN.mk (cA)) | (apply CallN.mk (cB)) | (apply CallN.mk (cT)) | (apply CallN.mk (cM)) | (apply CallN.mk (cU)) | (apply CallN.mk (cI1)) | (with_reducible first | apply Bif.T | apply Bif.F) | ((with_reducible first | apply Bif.dec | apply Bif.bne) <;> intro h <;> (try simp only [lns] at h) <;> (try (exfalso; omega))) | (with_reducible apply Bif.not) | (with_reducible apply Same.rfl) | (apply Same.int; focus rfl) | (with_reducible apply Cut.l)) <;> conv => whnf) | fail)
    · rw [t2] at cI1
      rw [t1, if_neg (by simp)]
      refine spec_of_run ttok mixed (T0 := 576461027199164383) (ts := [.cell 6 29, .tmp 7, .tmp 8]) 65 rfl rfl rfl rfl (by simp) rfl ?_
      conv => whnf
      repeat' (first | with_reducible apply True.intro | ((first | ((with_reducible apply Need.mk); focus kernel_rfl) | (apply CallN.mk (cA)) | (apply CallN.mk (cB)) | (apply CallN.mk (cT)) | (apply CallN.mk (cM)) | (apply CallN.mk (cU)) | (apply CallN.mk (cI1)) | (with_reducible first | apply Bif.T | apply Bif.F) | ((with_reducible first | apply Bif.dec | apply Bif.bne) <;> intro h <;> (try simp only [lns] at h) <;> (try (exfalso; omega))) | (with_reducible apply Bif.not) | (with_reducible apply Same.rfl) | (apply Same.int; focus rfl) | (with_reducible apply Cut.l)) <;> conv => whnf) | fail)
    · rw [t2] at cI1
      rw [t1, if_neg (by simp), t3, t4]
      refine spec_of_run ttok mixed (T0 := 576461027199164383) (ts := [.cell 6 29, .tmp 7, .tmp 8]) 65 rfl rfl rfl rfl (by simp) rfl ?_
      conv => whnf
      repeat' (first | with_reducible apply True.intro | ((first | ((with_reducible apply Need.mk); focus kernel_rfl) | (apply CallN.mk (cA)) | (apply CallN.mk (cB)) | (apply CallN.mk (cT)) | (apply CallN.mk (cM)) | (apply CallN.mk (cU)) | (apply CallN.mk (cI1)) | (with_reducible first | apply Bif.T | apply Bif.F) | ((with_reducible first | apply Bif.dec | apply Bif.bne) <;> intro h <;> (try simp only [lns] at h) <;> (try (exfalso; omega))) | (with_reducible apply Bif.not) | (with_reducible apply Same.rfl) | (apply Same.int; focus rfl) | (with_reducible apply Cut.l)) <;> conv => whnf) | fail)
end Go.Fw
