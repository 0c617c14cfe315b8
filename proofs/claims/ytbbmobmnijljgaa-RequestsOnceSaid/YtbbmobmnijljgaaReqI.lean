/- RequestsOnce, RequestsMet: the walks. -/
import Derived.Test.YtbbmobmnijljgaaReqH
namespace Go.Fw
open Go.Proofs
set_option maxHeartbeats 8000000
set_option maxRecDepth 4000
/-! ### An addition, and what is asked after it -/
/-- The list with one more request. -/
def insQ (L : List Req) (X : Req) : List Req := L.take (atQ L X.to) ++ [X] ++ L.drop (atQ L X.to)
theorem insQ_len (L : List Req) (X : Req) : (insQ L X).length = L.length + 1 := by
  have : atQ L X.to ≤ L.length := atK_le L X.to
  simp [insQ]; omega
theorem addM_new {L : List Req} {now : Int} {t : Dst} {seq hops who : Int} (hg : addGood L t) (hr : addRng now hops) (hf : fndQ L t = false) (hl : L.length < 64) :
    addM L now t seq hops who = (insQ L (addX now t seq hops who), true, 0) := by
  rw [addM, if_pos hg, if_pos hr, hf, if_neg (by simp), if_neg (by omega)]; rfl
theorem insQ_at {L : List Req} {X : Req} (hv : validQ (insQ L X) = true) : fndQ (insQ L X) X.to = true ∧ atQ (insQ L X) X.to = atQ L X.to ∧ gt (insQ L X) (atQ (insQ L X) X.to) = X := by
  have hle : atQ L X.to ≤ L.length := atK_le L X.to
  have hlt : atQ L X.to < (insQ L X).length := by rw [insQ_len]; omega
  have hg : gt (insQ L X) (atQ L X.to) = X := by
    rw [gt_eq hlt]
    have := ins_get (l := L) (a := atQ L X.to) (z := X) hle
    exact (List.getElem?_eq_some_iff.1 this).2
  have ha : atQ L X.to = atQ (insQ L X) X.to := key_other cmpT_ok hv hlt (by rw [hg])
  refine ⟨(fndK_iff cmpT_ok).2 ⟨?_, ?_⟩, ha.symm, by rw [← ha]; exact hg⟩
  · show atQ (insQ L X) X.to < _
    rw [← ha]; exact hlt
  · show (gt (insQ L X) (atQ (insQ L X) X.to)).to = X.to
    rw [← ha, hg]
theorem addM_old {L : List Req} {X : Req} {now s hops who : Int} (hv : validQ (insQ L X) = true) (ht : vDst X.to = true) (hr : addRng now hops) (hn : newer s X.seq = false) :
    addM (insQ L X) now X.to s hops who = (insQ L X, false, 0) := by
  obtain ⟨h1, _, h3⟩ := insQ_at hv
  rw [addM, if_pos ⟨hv, ht⟩, if_pos hr, if_pos h1, h3, hn, if_neg (by simp)]
theorem addM_newer {L : List Req} {X : Req} {now s hops who : Int} (hv : validQ (insQ L X) = true) (ht : vDst X.to = true) (hr : addRng now hops) (hn : newer s X.seq = true) :
    ∃ m, addM (insQ L X) now X.to s hops who = (m, true, 0) ∧ m.length = L.length + 1 := by
  obtain ⟨h1, _, h3⟩ := insQ_at hv
  rw [addM, if_pos ⟨hv, ht⟩, if_pos hr, if_pos h1, h3, hn, if_pos rfl]
  exact ⟨_, rfl, by rw [List.length_set, insQ_len]⟩
theorem metM_hit {L : List Req} {X : Req} {d : Dis} (hv : validQ (insQ L X) = true) (ht : vDst X.to = true) (hd : okM d.metric = true ∧ d.metric ≠ 65535) (hn : newer X.seq d.seq = false) : metM (insQ L X) X.to d = L := by
  obtain ⟨h1, h2, h3⟩ := insQ_at hv
  have hle : atQ L X.to ≤ L.length := atK_le L X.to
  rw [metM, if_pos ⟨hv, ht, hd.1⟩, if_pos ⟨hd.2, h1, by rw [h3]; exact hn⟩, h2]
  have e1 : (L.take (atQ L X.to)).length = atQ L X.to := by simp; omega
  unfold insQ
  generalize atQ L X.to = a at *
  rw [List.append_assoc, List.take_append_of_le_length (by omega), List.take_of_length_le (by omega), List.drop_append, List.drop_of_length_le (by omega), e1]
  simp [List.take_append_drop]
theorem metM_miss {L : List Req} {X : Req} {d : Dis} (hv : validQ (insQ L X) = true) (h : d.metric = 65535 ∨ newer X.seq d.seq = true) : metM (insQ L X) X.to d = insQ L X := by
  obtain ⟨h1, h2, h3⟩ := insQ_at hv
  unfold metM
  split
  · rw [if_neg]
    rintro ⟨g1, g2, g3⟩
    rw [h3] at g3
    rcases h with h | h
    · exact g1 h
    · rw [g3] at h; cases h
  · rfl
theorem toD_far : ¬ far (toD 200) := by
  rintro (h | h)
  · exact h rfl
  · exact h (by decide)
theorem fnd_far {L : List Req} (h : ∀ s ∈ L, far s.to) : fndQ L (toD 200) = false := by
  cases hf : fndQ L (toD 200)
  · rfl
  · obtain ⟨h1, h2⟩ : atQ L (toD 200) < L.length ∧ (gt L (atQ L (toD 200))).to = toD 200 := (fndK_iff cmpT_ok).1 hf
    have := h _ (gt_mem h1)
    rw [h2] at this
    exact absurd this toD_far
theorem vDst_200 : vDst (toD 200) = true := by decide +kernel
theorem older_no {q m : Int} (hq : 0 ≤ q ∧ q ≤ 65535) (hm : 0 ≤ m ∧ m < 30000) : newer (IntKind.wrap .u16 (IntKind.wrap .u16 (q - 1) - m)) q = false := by
  rw [wrap16, wrap16]
  cases h : newer _ q
  · rfl
  · rw [newer_iff] at h; omega
theorem newer_yes {q m : Int} (hq : 0 ≤ q ∧ q ≤ 65535) (hm : 0 ≤ m ∧ m < 30000) : newer (IntKind.wrap .u16 (IntKind.wrap .u16 (q + 1) + m)) q = true := by
  rw [wrap16, wrap16, newer_iff]; omega
theorem older_yes {q m : Int} (hq : 0 ≤ q ∧ q ≤ 65535) (hm : 0 ≤ m ∧ m < 30000) : newer q (IntKind.wrap .u16 (IntKind.wrap .u16 (q - 1) - m)) = true := by
  rw [wrap16, wrap16, newer_iff]; omega
theorem newer_no {q m : Int} (hq : 0 ≤ q ∧ q ≤ 65535) (hm : 0 ≤ m ∧ m < 30000) : newer q (IntKind.wrap .u16 (q + m)) = false := by
  rw [wrap16]
  cases h : newer q _
  · rfl
  · rw [newer_iff] at h; omega
theorem wrap16_range (x : Int) : 0 ≤ IntKind.wrap .u16 x ∧ IntKind.wrap .u16 x ≤ 65535 := by rw [wrap16]; omega
theorem k_RequestsOnce (t : List Int) (now seq n : Int) (hs : 0 ≤ seq ∧ seq ≤ 65535) (hn : 0 ≤ n ∧ n ≤ 65535) :
    Con Try.prog 3 [.fs .no 1 (ints t), int now, .v (.int .u16 seq), .v (.int .u16 n)] [] (bool true) [] := by
  have ht : (t.take 400).length ≤ 400 := by simp; omega
  generalize hT : t.take 400 = l at ht
  have hN := k_made_New t
  rw [hT] at hN
  have m1 := modV_range (v := now) (n := 1048576) (by omega)
  have cM := k_made_Mod now 1048576 (by omega)
  have c0 := k_to 200 (by omega)
  have hm : 0 ≤ n.tmod 30000 ∧ n.tmod 30000 < 30000 := ⟨Int.tmod_nonneg _ hn.1, Int.tmod_lt_of_pos _ (by omega)⟩
  generalize modV now 1048576 = nw at *
  refine spec_of_run ttok mixed (T0 := 16482063) (ts := [.tmp 8]) 122 rfl rfl rfl rfl (by simp) rfl ?_
  conv => whnf
  repeat' (first | with_reducible apply True.intro | ((first | (with_reducible first | apply Nm.set _ (int_mk _) | apply Nm.snoc _ (int_mk _) | apply Nm.rep _ (int_mk _) | apply Nm.set _ (bool_mk _) | apply Nm.snoc _ (bool_mk _) | apply Nm.rep _ (bool_mk _) | apply Nm.set _ (rfl) | apply Nm.snoc _ (rfl) | apply Nm.rep _ (rfl)) | ((with_reducible apply Nm.mk); focus ((try simp only [lns, ipRows_take]); exact rfl)) | ((with_reducible first | apply Wr.i64 | apply Wr.u8 | apply Wr.u16 | apply Wr.u32 | apply Wr.u64); focus omega) | ((with_reducible apply Need.mk); focus first | omega | (simp only [lns, ipRows_take]; omega) | exact List.cons_ne_nil _ _ | exact CleanP.nil rfl | exact CleanP.cell rfl rfl | exact CleanP.lst rfl (fun _ => rfl) | exact CleanP.lst2 rfl (fun _ => rfl) (fun _ => rfl) | kernel_rfl | (dsimp only; omega) | (unfold roomOK; simp only [lns, ipRows_take]; omega)) | ((with_reducible apply Elem.lst); focus first | omega | (simp only [lns, ipRows_take]; omega)) | (apply CallN.mk (hN)) | (apply CallN.mk (cM)) | (apply CallN.mk (c0)) | (refine CallN.ex (k_world_Requests l _ nw (by omega) ht (by omega)) ?_; rintro _ _ ⟨L, k2, rfl, rfl, c1, c2, c3, c4, c5⟩) | (with_reducible first | apply Bif.T | apply Bif.F) | ((with_reducible first | apply Bif.dec | apply Bif.beq | apply Bif.bne) <;> intro h <;> (try simp only [lns, ipRows_take] at h) <;> (try first | (exfalso; omega) | (exact absurd True.intro h))) | (with_reducible first | apply Bif.not | apply Bif.and | apply Bif.or) | ((with_reducible apply Bif.mk) <;> intro h <;> (try first | (exfalso; omega) | (exact absurd True.intro h))) | (with_reducible apply Same.rfl) | (apply Same.int; focus first | rfl | omega | (dsimp only; omega) | (simp only [lns, ipRows_take]; omega)) | (apply Same.bool; focus (with_reducible rfl)) | (apply Same.ov; (focus first | rfl | omega | (simp only [lns, ipRows_take]; omega)); focus first | rfl | omega | (simp only [lns, ipRows_take]; first | done | omega)) | ((with_reducible apply Same.mk); focus first | omega | (simp only [lns, ipRows_take]; omega)) | (apply Same.rfl) | (with_reducible first | apply Alt.l | apply Sl3.l | apply Cut.l | apply Turn.l | apply GiveN.lend)) <;> conv => whnf) | fail)
  have hf := fnd_far c5
  have hr : ∀ h : Int, 1 ≤ h → h ≤ 32 → addRng nw h := fun h h1 h2 => ⟨by omega, h1, h2⟩
  have a1 := addM_new (L := L) (now := nw) (t := toD 200) (seq := seq) (hops := 5) (who := 2) ⟨c1, vDst_200⟩ (hr 5 (by omega) (by omega)) hf (by omega)
  have hv : validQ (insQ L (addX nw (toD 200) seq 5 2)) = true := by
    have := addM_valid (l := L) (now := nw) (t := toD 200) (seq := seq) (hops := 5) (who := 2) (by rw [a1])
    rw [a1] at this; exact this
  have hsq : seqs (insQ L (addX nw (toD 200) seq 5 2)) := by
    have := addM_seqs (l := L) (now := nw) (t := toD 200) (seq := seq) (hops := 5) (who := 2) (near_seqs c4) hs
    rw [a1] at this; exact this
  have hL := insQ_len L (addX nw (toD 200) seq 5 2)
  have b1 := k_Add L .no nw (toD 200) seq 5 2 (by omega) (near_seqs c4) hs
  rw [a1] at b1
  obtain ⟨X, hX⟩ : ∃ X, X = addX nw (toD 200) seq 5 2 := ⟨_, rfl⟩
  have x1 : X.to = toD 200 := by rw [hX]; rfl
  have x2 : X.seq = seq := by rw [hX]; rfl
  rw [← hX] at hv hsq hL b1
  have hvt : vDst X.to = true := by rw [x1]; exact vDst_200
  have b2 := k_Add (insQ L X) .no nw X.to seq 9 3 (by omega) hsq hs
  rw [addM_old hv hvt (hr 9 (by omega) (by omega)) (by rw [x2, newer_self]), x1] at b2
  have b3 := k_Add (insQ L X) .no nw X.to (IntKind.wrap .u16 (IntKind.wrap .u16 (seq - 1) - n.tmod 30000)) 5 0 (by omega) hsq (wrap16_range _)
  rw [addM_old hv hvt (hr 5 (by omega) (by omega)) (by rw [x2, older_no hs hm]), x1] at b3
  have b4 := k_Add (insQ L X) .no nw X.to (IntKind.wrap .u16 (IntKind.wrap .u16 (seq + 1) + n.tmod 30000)) 5 0 (by omega) hsq (wrap16_range _)
  obtain ⟨m, e4, l4⟩ := addM_newer (s := IntKind.wrap .u16 (IntKind.wrap .u16 (seq + 1) + n.tmod 30000)) (who := 0) hv hvt (hr 5 (by omega) (by omega)) (by rw [x2, newer_yes hs hm])
  rw [e4, x1] at b4
  dsimp only at b1 b2 b3 b4
  generalize insQ L X = M at *
  repeat' (first | with_reducible apply True.intro | ((with_reducible apply Wr.any16); (conv => whnf)) | ((first | (with_reducible first | apply Nm.set _ (int_mk _) | apply Nm.snoc _ (int_mk _) | apply Nm.rep _ (int_mk _) | apply Nm.set _ (bool_mk _) | apply Nm.snoc _ (bool_mk _) | apply Nm.rep _ (bool_mk _) | apply Nm.set _ (rfl) | apply Nm.snoc _ (rfl) | apply Nm.rep _ (rfl)) | ((with_reducible apply Nm.mk); focus ((try simp only [lns, ipRows_take]); exact rfl)) | ((with_reducible first | apply Wr.i64 | apply Wr.u8 | apply Wr.u16 | apply Wr.u32 | apply Wr.u64); focus omega) | ((with_reducible apply Need.mk); focus first | omega | (simp only [lns, ipRows_take]; omega) | exact List.cons_ne_nil _ _ | exact CleanP.nil rfl | exact CleanP.cell rfl rfl | exact CleanP.lst rfl (fun _ => rfl) | exact CleanP.lst2 rfl (fun _ => rfl) (fun _ => rfl) | kernel_rfl | (dsimp only; omega) | (unfold roomOK; simp only [lns, ipRows_take]; omega)) | ((with_reducible apply Elem.lst); focus first | omega | (simp only [lns, ipRows_take]; omega)) | (apply CallN.mk (k_known)) | (apply CallN.mk (b1)) | (apply CallN.mk (b2)) | (apply CallN.mk (b3)) | (apply CallN.mk (b4)) | (with_reducible first | apply Bif.T | apply Bif.F) | ((with_reducible first | apply Bif.dec | apply Bif.beq | apply Bif.bne) <;> intro h <;> (try simp only [lns, ipRows_take] at h) <;> (try first | (exfalso; omega) | (exact absurd True.intro h))) | (with_reducible first | apply Bif.not | apply Bif.and | apply Bif.or) | ((with_reducible apply Bif.mk) <;> intro h <;> (try first | (exfalso; omega) | (exact absurd True.intro h))) | (with_reducible apply Same.rfl) | (apply Same.int; focus first | rfl | omega | (dsimp only; omega) | (simp only [lns, ipRows_take]; omega)) | (apply Same.bool; focus (with_reducible rfl)) | (apply Same.ov; (focus first | rfl | omega | (simp only [lns, ipRows_take]; omega)); focus first | rfl | omega | (simp only [lns, ipRows_take]; first | done | omega)) | ((with_reducible apply Same.mk); focus first | omega | (simp only [lns, ipRows_take]; omega)) | (apply Same.rfl) | (with_reducible first | apply Alt.l | apply Sl3.l | apply Cut.l | apply Turn.l | apply GiveN.lend)) <;> conv => whnf) | fail)
theorem k_RequestsMet (t : List Int) (now seq n metric : Int) (hs : 0 ≤ seq ∧ seq ≤ 65535) (hn : 0 ≤ n ∧ n ≤ 65535) :
    Con Try.prog 7 [.fs .no 1 (ints t), int now, .v (.int .u16 seq), .v (.int .u16 n), int metric] [] (bool true) [] := by
  have ht : (t.take 400).length ≤ 400 := by simp; omega
  generalize hT : t.take 400 = l at ht
  have hN := k_made_New t
  rw [hT] at hN
  have m1 := modV_range (v := now) (n := 1048576) (by omega)
  have cM := k_made_Mod now 1048576 (by omega)
  have m2 := modV_range (v := metric) (n := 65535) (by omega)
  have cK := k_made_Mod metric 65535 (by omega)
  have c0 := k_to 200 (by omega)
  have hm : 0 ≤ n.tmod 30000 ∧ n.tmod 30000 < 30000 := ⟨Int.tmod_nonneg _ hn.1, Int.tmod_lt_of_pos _ (by omega)⟩
  generalize modV now 1048576 = nw at *
  generalize modV metric 65535 = me at *
  refine spec_of_run ttok mixed (T0 := 490527) (ts := [.tmp 10]) 80 rfl rfl rfl rfl (by simp) rfl ?_
  conv => whnf
  repeat' (first | with_reducible apply True.intro | ((first | (with_reducible first | apply Nm.set _ (int_mk _) | apply Nm.snoc _ (int_mk _) | apply Nm.rep _ (int_mk _) | apply Nm.set _ (bool_mk _) | apply Nm.snoc _ (bool_mk _) | apply Nm.rep _ (bool_mk _) | apply Nm.set _ (rfl) | apply Nm.snoc _ (rfl) | apply Nm.rep _ (rfl)) | ((with_reducible apply Nm.mk); focus ((try simp only [lns, ipRows_take]); exact rfl)) | ((with_reducible first | apply Wr.i64 | apply Wr.u8 | apply Wr.u16 | apply Wr.u32 | apply Wr.u64); focus omega) | ((with_reducible apply Need.mk); focus first | omega | (simp only [lns, ipRows_take]; omega) | exact List.cons_ne_nil _ _ | exact CleanP.nil rfl | exact CleanP.cell rfl rfl | exact CleanP.lst rfl (fun _ => rfl) | exact CleanP.lst2 rfl (fun _ => rfl) (fun _ => rfl) | kernel_rfl | (dsimp only; omega) | (unfold roomOK; simp only [lns, ipRows_take]; omega)) | ((with_reducible apply Elem.lst); focus first | omega | (simp only [lns, ipRows_take]; omega)) | (apply CallN.mk (hN)) | (apply CallN.mk (cM)) | (apply CallN.mk (c0)) | (refine CallN.ex (k_world_Requests l _ nw (by omega) ht (by omega)) ?_; rintro _ _ ⟨L, k2, rfl, rfl, c1, c2, c3, c4, c5⟩) | (with_reducible first | apply Bif.T | apply Bif.F) | ((with_reducible first | apply Bif.dec | apply Bif.beq | apply Bif.bne) <;> intro h <;> (try simp only [lns, ipRows_take] at h) <;> (try first | (exfalso; omega) | (exact absurd True.intro h))) | (with_reducible first | apply Bif.not | apply Bif.and | apply Bif.or) | ((with_reducible apply Bif.mk) <;> intro h <;> (try first | (exfalso; omega) | (exact absurd True.intro h))) | (with_reducible apply Same.rfl) | (apply Same.int; focus first | rfl | omega | (dsimp only; omega) | (simp only [lns, ipRows_take]; omega)) | (apply Same.bool; focus (with_reducible rfl)) | (apply Same.ov; (focus first | rfl | omega | (simp only [lns, ipRows_take]; omega)); focus first | rfl | omega | (simp only [lns, ipRows_take]; first | done | omega)) | ((with_reducible apply Same.mk); focus first | omega | (simp only [lns, ipRows_take]; omega)) | (apply Same.rfl) | (with_reducible first | apply Alt.l | apply Sl3.l | apply Cut.l | apply Turn.l | apply GiveN.lend)) <;> conv => whnf) | fail)
  have hf := fnd_far c5
  have hr : addRng nw 5 := ⟨by omega, by omega, by omega⟩
  have a1 := addM_new (L := L) (now := nw) (t := toD 200) (seq := seq) (hops := 5) (who := 2) ⟨c1, vDst_200⟩ hr hf (by omega)
  have hv : validQ (insQ L (addX nw (toD 200) seq 5 2)) = true := by
    have := addM_valid (l := L) (now := nw) (t := toD 200) (seq := seq) (hops := 5) (who := 2) (by rw [a1])
    rw [a1] at this; exact this
  have hL := insQ_len L (addX nw (toD 200) seq 5 2)
  have b1 := k_Add L .no nw (toD 200) seq 5 2 (by omega) (near_seqs c4) hs
  rw [a1] at b1
  obtain ⟨X, hX⟩ : ∃ X, X = addX nw (toD 200) seq 5 2 := ⟨_, rfl⟩
  have x1 : X.to = toD 200 := by rw [hX]; rfl
  have x2 : X.seq = seq := by rw [hX]; rfl
  rw [← hX] at hv hL b1
  have hvt : vDst X.to = true := by rw [x1]; exact vDst_200
  have hmo : okM me = true ∧ me ≠ 65535 := ⟨by rw [okM, decide_eq_true_eq]; omega, by omega⟩
  have b2 := k_Met (insQ L X) .no X.to ⟨IntKind.wrap .u16 (seq + n.tmod 30000), me⟩ (by omega)
  rw [metM_hit hv hvt hmo (by rw [x2, newer_no hs hm]), x1] at b2
  have b3 := k_Met (insQ L X) .no X.to ⟨IntKind.wrap .u16 (IntKind.wrap .u16 (seq - 1) - n.tmod 30000), 0⟩ (by omega)
  rw [metM_miss hv (.inr (by rw [x2, older_yes hs hm])), x1] at b3
  have b4 := k_Met (insQ L X) .no X.to ⟨IntKind.wrap .u16 (seq + n.tmod 30000), 65535⟩ (by omega)
  rw [metM_miss hv (.inl rfl), x1] at b4
  dsimp only at b1
  generalize insQ L X = M at *
  repeat' (first | with_reducible apply True.intro | ((with_reducible apply Wr.any16); (conv => whnf)) | ((refine Same.bool (decide_eq_true rfl) ?_); (conv => whnf)) | ((first | (with_reducible first | apply Nm.set _ (int_mk _) | apply Nm.snoc _ (int_mk _) | apply Nm.rep _ (int_mk _) | apply Nm.set _ (bool_mk _) | apply Nm.snoc _ (bool_mk _) | apply Nm.rep _ (bool_mk _) | apply Nm.set _ (rfl) | apply Nm.snoc _ (rfl) | apply Nm.rep _ (rfl)) | ((with_reducible apply Nm.mk); focus ((try simp only [lns, ipRows_take]); exact rfl)) | ((with_reducible first | apply Wr.i64 | apply Wr.u8 | apply Wr.u16 | apply Wr.u32 | apply Wr.u64); focus omega) | ((with_reducible apply Need.mk); focus first | omega | (simp only [lns, ipRows_take]; omega) | exact List.cons_ne_nil _ _ | exact CleanP.nil rfl | exact CleanP.cell rfl rfl | exact CleanP.lst rfl (fun _ => rfl) | exact CleanP.lst2 rfl (fun _ => rfl) (fun _ => rfl) | kernel_rfl | (dsimp only; omega) | (unfold roomOK; simp only [lns, ipRows_take]; omega)) | ((with_reducible apply Elem.lst); focus first | omega | (simp only [lns, ipRows_take]; omega)) | (apply CallN.mk (k_known)) | (apply CallN.mk (cK)) | (apply CallN.mk (b1)) | (apply CallN.mk (b2)) | (apply CallN.mk (b3)) | (apply CallN.mk (b4)) | (apply CallN.mk (k_Equal_Req L L _ _ (by omega))) | (apply CallN.mk (k_Equal_Req M M _ _ (by omega))) | (with_reducible first | apply Bif.T | apply Bif.F) | ((with_reducible first | apply Bif.dec | apply Bif.beq | apply Bif.bne) <;> intro h <;> (try simp only [lns, ipRows_take] at h) <;> (try first | (exfalso; omega) | (exact absurd True.intro h) | (exact absurd rfl h) | (simp at h; done))) | (with_reducible first | apply Bif.not | apply Bif.and | apply Bif.or) | ((with_reducible apply Bif.mk) <;> intro h <;> (try first | (exfalso; omega) | (exact absurd True.intro h) | (exact absurd rfl h) | (simp at h; done))) | (with_reducible apply Same.rfl) | (apply Same.int; focus first | rfl | omega | (dsimp only; omega) | (simp only [lns, ipRows_take]; omega)) | (apply Same.bool; focus (with_reducible rfl)) | (apply Same.ov; (focus first | rfl | omega | (simp only [lns, ipRows_take]; omega)); focus first | rfl | omega | (simp only [lns, ipRows_take]; first | done | omega)) | ((with_reducible apply Same.mk); focus first | omega | (simp only [lns, ipRows_take]; omega)) | (apply Same.rfl) | (with_reducible first | apply Alt.l | apply Sl3.l | apply Cut.l | apply Turn.l | apply GiveN.lend)) <;> conv => whnf) | fail)
end Go.Fw
