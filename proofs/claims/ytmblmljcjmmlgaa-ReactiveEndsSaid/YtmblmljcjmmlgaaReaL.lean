/- Reactive, the reference: Next, Seek, Hear, Lost, Tick. -/
import Derived.Test.YtmblmljcjmmlgaaReaK
namespace Go.Fw
open Go.Proofs
set_option maxHeartbeats 8000000
set_option maxRecDepth 4000
theorem k_yNext (r : Rea) (now t : Int) (hr : ReaOK r) : Con Try.prog 60 [reaF r, int now, .v (.int .u64 t)] [] (.tup [.v (.int .u64 (nextM r now t).1), int (nextM r now t).2]) [] := by
  have c1 := k_yValid r hr
  by_cases h1 : validX r = true ∧ t ≠ 0 ∧ t ≠ r.self
  · obtain ⟨hv, ht, hs⟩ := id h1
    rw [hv] at c1
    have hV := ReaV.of hr hv
    have c2 := k_yusable r now t hV.sp hr
    by_cases h2 : isT now
    · cases hu : usbP r.paths now t
      · rw [nextM, if_pos h1, if_pos h2, hu, if_neg (by simp)]
        rw [hu] at c2
        generalize curV r.paths now t = cv at *
        refine spec_of_run ttok mixed (T0 := 17217618895) (ts := [.tmp 6, .tmp 7]) 37 rfl rfl rfl rfl (by simp) rfl ?_
        conv => whnf
        repeat' (first | with_reducible apply True.intro | ((first | (apply CallN.mk (c1)) | (apply CallN.mk (c2)) | (apply CallN.mk (k_xIsTime _)) | (with_reducible first | apply Bif.T | apply Bif.F) | ((with_reducible first | apply Bif.dec | apply Bif.beq) <;> intro h <;> (try simp only [lns] at h) <;> (try (exfalso; omega))) | (with_reducible apply Bif.not) | (with_reducible apply Same.rfl) | (apply Same.int; focus rfl)) <;> conv => whnf) | fail)
      · have hl := (fndP_iff.1 (usbP_iff.1 hu).1).1
        have hc : curP r.paths now t = true := curP_iff.2 ⟨(usbP_iff.1 hu).1, (usbP_iff.1 hu).2.1⟩
        rw [nextM, if_pos h1, if_pos h2, hu, if_pos rfl]
        rw [hu, curV, hc, if_pos rfl] at c2
        generalize atP r.paths t = a at *
        refine spec_of_run ttok mixed (T0 := 17217618895) (ts := [.tmp 6, .tmp 7]) 37 rfl rfl rfl rfl (by simp) rfl ?_
        conv => whnf
        repeat' (first | with_reducible apply True.intro | ((first | (apply CallN.mk (c1)) | (apply CallN.mk (c2)) | (apply CallN.mk (k_xIsTime _)) | (with_reducible first | apply Bif.T | apply Bif.F) | ((with_reducible first | apply Bif.dec | apply Bif.beq) <;> intro h <;> (try simp only [lns] at h) <;> (try (exfalso; omega))) | (with_reducible apply Bif.not) | (with_reducible apply Same.rfl) | (apply Same.int; focus rfl)) <;> conv => whnf) | fail)
    · rw [nextM, if_pos h1, if_neg h2]
      refine spec_of_run ttok mixed (T0 := 17217618895) (ts := [.tmp 6, .tmp 7]) 37 rfl rfl rfl rfl (by simp) rfl ?_
      conv => whnf
      repeat' (first | with_reducible apply True.intro | ((first | (apply CallN.mk (c1)) | (apply CallN.mk (k_xIsTime _)) | (with_reducible first | apply Bif.T | apply Bif.F) | ((with_reducible first | apply Bif.dec | apply Bif.beq) <;> intro h <;> (try simp only [lns] at h) <;> (try (exfalso; omega))) | (with_reducible apply Bif.not) | (with_reducible apply Same.rfl) | (apply Same.int; focus rfl)) <;> conv => whnf) | fail)
  · rw [nextM, if_neg h1]
    refine spec_of_run ttok mixed (T0 := 17217618895) (ts := [.tmp 6, .tmp 7]) 37 rfl rfl rfl rfl (by simp) rfl ?_
    conv => whnf
    cases hv : validX r
    · rw [hv] at c1
      repeat' (first | with_reducible apply True.intro | ((first | (apply CallN.mk (c1)) | (with_reducible first | apply Bif.T | apply Bif.F) | (with_reducible apply Bif.not) | (with_reducible apply Same.rfl) | (apply Same.int; focus rfl)) <;> conv => whnf) | fail)
    · rw [hv] at c1
      repeat' (first | with_reducible apply True.intro | ((first | (apply CallN.mk (c1)) | (with_reducible first | apply Bif.T | apply Bif.F) | ((with_reducible apply Bif.beq) <;> intro h <;> (try simp only [lns] at h) <;> (try ((refine absurd ⟨hv, ?_, ?_⟩ h1); (focus assumption); (focus assumption)))) | (with_reducible apply Bif.not) | (with_reducible apply Same.rfl) | (apply Same.int; focus rfl)) <;> conv => whnf) | fail)
theorem k_yHear (r : Rea) (now nb cost : Int) (m : Msg) (hr : ReaOK r) (hm : MsgOK m) : Con Try.prog 49 [reaF r, int now, .v (.int .u64 nb), int cost, msgV m] []
    (.tup [reaO (hearM r now nb cost m).1 0 1 2, .ov 9 3 0 (hearM r now nb cost m).2.1.length, int (hearM r now nb cost m).2.2]) (reaH (hearM r now nb cost m).1 ++ [.arr none 9 (lst sndV (hearM r now nb cost m).2.1)]) := by
  have c1 := k_yValid r hr
  have c2 := k_yValidMessage m
  have c3 := k_Copy r hr
  have c4 := k_refmAdd m.cost cost
  by_cases h1 : validX r = true ∧ vMsg m = true ∧ nb ≠ 0 ∧ nb ≠ r.self
  · obtain ⟨hv, hM, hb, hs⟩ := id h1
    rw [hv] at c1
    rw [hM] at c2
    have hV := ReaV.of hr hv
    obtain ⟨m1, m2, m3, m4, m5⟩ := vMsg_iff.1 hM
    by_cases h2 : isT now ∧ 1 ≤ cost ∧ cost ≤ 65535
    · obtain ⟨hn, hc1, hc2⟩ := id h2
      by_cases h3 : m.kind = 3
      · rw [hearM, if_pos h1, if_pos h2, if_pos h3]
        have c5 := k_broken r now nb m hV m3
        generalize hErr r now nb m = q at *
        obtain ⟨r1, l1⟩ := q
        generalize addC m.cost cost = sum at *
        dsimp only [reaO, reaH, List.cons_append, List.nil_append] at c5 ⊢
        refine spec_of_run ttok mixed (T0 := 1284502130102213688720959) (ts := [.cell 10 32, .tmp 11, .tmp 12]) 95 rfl rfl rfl rfl (by simp) rfl ?_
        conv => whnf
        repeat' (first | with_reducible apply True.intro | ((with_reducible apply GiveN.mk [0]); (conv => whnf); (apply CallN.mk c5); (conv => whnf)) | ((first | ((with_reducible apply Need.mk); focus kernel_rfl) | (apply CallN.mk (c1)) | (apply CallN.mk (c2)) | (apply CallN.mk (c3)) | (apply CallN.mk (c4)) | (apply CallN.mk (k_xIsTime _)) | (with_reducible first | apply Bif.T | apply Bif.F) | ((with_reducible first | apply Bif.dec | apply Bif.beq) <;> intro h <;> (try simp only [lns] at h) <;> (try (exfalso; omega))) | (with_reducible apply Bif.not) | (with_reducible apply Same.rfl) | (apply Same.int; focus rfl) | (with_reducible apply Cut.l)) <;> conv => whnf) | fail)
      · by_cases h4 : addC m.cost cost = 65535
        · rw [hearM, if_pos h1, if_pos h2, if_neg h3, if_pos h4]
          rw [h4] at c4
          dsimp only [reaO, reaH, List.cons_append, List.nil_append]
          refine spec_of_run ttok mixed (T0 := 1284502130102213688720959) (ts := [.cell 10 32, .tmp 11, .tmp 12]) 95 rfl rfl rfl rfl (by simp) rfl ?_
          conv => whnf
          repeat' (first | with_reducible apply True.intro | ((first | ((with_reducible apply Need.mk); focus kernel_rfl) | (apply CallN.mk (c1)) | (apply CallN.mk (c2)) | (apply CallN.mk (c3)) | (apply CallN.mk (c4)) | (apply CallN.mk (k_xIsTime _)) | (with_reducible first | apply Bif.T | apply Bif.F) | ((with_reducible first | apply Bif.dec | apply Bif.beq) <;> intro h <;> (try simp only [lns] at h) <;> (try (exfalso; omega))) | (with_reducible apply Bif.not) | (with_reducible apply Same.rfl) | (apply Same.int; focus rfl) | (apply Same.rfl) | (with_reducible apply Cut.l)) <;> conv => whnf) | fail)
        · have hR : ReqOK r now nb ⟨m.num, addC m.cost cost⟩ m := ⟨hV, hn, hb, addC_ok _ _, h4⟩
          by_cases h5 : m.kind = 1
          · rw [hearM, if_pos h1, if_pos h2, if_neg h3, if_neg h4, if_pos h5]
            have c5 := k_yrequest r now nb ⟨m.num, addC m.cost cost⟩ m hR (by omega) hm.1 m3
            generalize hReq r now nb ⟨m.num, addC m.cost cost⟩ m = q at *
            obtain ⟨r1, l1⟩ := q
            generalize addC m.cost cost = sum at *
            dsimp only [reaO, reaH, List.cons_append, List.nil_append] at c5 ⊢
            refine spec_of_run ttok mixed (T0 := 1284502130102213688720959) (ts := [.cell 10 32, .tmp 11, .tmp 12]) 95 rfl rfl rfl rfl (by simp) rfl ?_
            conv => whnf
            repeat' (first | with_reducible apply True.intro | ((with_reducible apply GiveN.mk [0]); (conv => whnf); (apply CallN.mk c5); (conv => whnf)) | ((first | ((with_reducible apply Need.mk); focus kernel_rfl) | (apply CallN.mk (c1)) | (apply CallN.mk (c2)) | (apply CallN.mk (c3)) | (apply CallN.mk (c4)) | (apply CallN.mk (k_xIsTime _)) | (with_reducible first | apply Bif.T | apply Bif.F) | ((with_reducible first | apply Bif.dec | apply Bif.beq) <;> intro h <;> (try simp only [lns] at h) <;> (try (exfalso; omega))) | (with_reducible apply Bif.not) | (with_reducible apply Same.rfl) | (apply Same.int; focus rfl) | (with_reducible apply Cut.l)) <;> conv => whnf) | fail)
          · rw [hearM, if_pos h1, if_pos h2, if_neg h3, if_neg h4, if_neg h5]
            have c5 := k_yreply r now nb ⟨m.num, addC m.cost cost⟩ m hR m1 hm.2 m3
            generalize hRep r now nb ⟨m.num, addC m.cost cost⟩ m = q at *
            obtain ⟨r1, l1⟩ := q
            generalize addC m.cost cost = sum at *
            dsimp only [reaO, reaH, List.cons_append, List.nil_append] at c5 ⊢
            refine spec_of_run ttok mixed (T0 := 1284502130102213688720959) (ts := [.cell 10 32, .tmp 11, .tmp 12]) 95 rfl rfl rfl rfl (by simp) rfl ?_
            conv => whnf
            repeat' (first | with_reducible apply True.intro | ((with_reducible apply GiveN.mk [0]); (conv => whnf); (apply CallN.mk c5); (conv => whnf)) | ((first | ((with_reducible apply Need.mk); focus kernel_rfl) | (apply CallN.mk (c1)) | (apply CallN.mk (c2)) | (apply CallN.mk (c3)) | (apply CallN.mk (c4)) | (apply CallN.mk (k_xIsTime _)) | (with_reducible first | apply Bif.T | apply Bif.F) | ((with_reducible first | apply Bif.dec | apply Bif.beq) <;> intro h <;> (try simp only [lns] at h) <;> (try (exfalso; omega))) | (with_reducible apply Bif.not) | (with_reducible apply Same.rfl) | (apply Same.int; focus rfl) | (with_reducible apply Cut.l)) <;> conv => whnf) | fail)
    · rw [hearM, if_pos h1, if_neg h2]
      dsimp only [reaO, reaH, List.cons_append, List.nil_append, rea0]
      refine spec_of_run ttok mixed (T0 := 1284502130102213688720959) (ts := [.cell 10 32, .tmp 11, .tmp 12]) 95 rfl rfl rfl rfl (by simp) rfl ?_
      conv => whnf
      repeat' (first | with_reducible apply True.intro | ((first | (apply CallN.mk (c1)) | (apply CallN.mk (c2)) | (apply CallN.mk (k_xIsTime _)) | (with_reducible first | apply Bif.T | apply Bif.F) | ((with_reducible first | apply Bif.dec | apply Bif.beq) <;> intro h <;> (try simp only [lns] at h) <;> (try (exfalso; omega))) | (with_reducible apply Bif.not) | (with_reducible apply Same.rfl) | (apply Same.int; focus rfl) | (apply Same.rfl)) <;> conv => whnf) | fail)
  · rw [hearM, if_neg h1]
    dsimp only [reaO, reaH, List.cons_append, List.nil_append, rea0]
    refine spec_of_run ttok mixed (T0 := 1284502130102213688720959) (ts := [.cell 10 32, .tmp 11, .tmp 12]) 95 rfl rfl rfl rfl (by simp) rfl ?_
    conv => whnf
    cases hv : validX r
    · rw [hv] at c1
      repeat' (first | with_reducible apply True.intro | ((first | (apply CallN.mk (c1)) | (with_reducible first | apply Bif.T | apply Bif.F) | (with_reducible apply Bif.not) | (with_reducible apply Same.rfl) | (apply Same.int; focus rfl) | (apply Same.rfl)) <;> conv => whnf) | fail)
    · rw [hv] at c1
      cases hM : vMsg m
      · rw [hM] at c2
        repeat' (first | with_reducible apply True.intro | ((first | (apply CallN.mk (c1)) | (apply CallN.mk (c2)) | (with_reducible first | apply Bif.T | apply Bif.F) | (with_reducible apply Bif.not) | (with_reducible apply Same.rfl) | (apply Same.int; focus rfl) | (apply Same.rfl)) <;> conv => whnf) | fail)
      · rw [hM] at c2
        repeat' (first | with_reducible apply True.intro | ((first | (apply CallN.mk (c1)) | (apply CallN.mk (c2)) | (with_reducible first | apply Bif.T | apply Bif.F) | ((with_reducible apply Bif.beq) <;> intro h <;> (try simp only [lns] at h) <;> (try ((refine absurd ⟨hv, hM, ?_, ?_⟩ h1); (focus assumption); (focus assumption)))) | (with_reducible apply Bif.not) | (with_reducible apply Same.rfl) | (apply Same.int; focus rfl) | (apply Same.rfl)) <;> conv => whnf) | fail)
theorem k_yLost (r : Rea) (now nb : Int) (hr : ReaOK r) : Con Try.prog 48 [reaF r, int now, .v (.int .u64 nb)] []
    (.tup [reaO (lostM r now nb).1 0 1 2, .ov 9 3 0 (lostM r now nb).2.1.length, int (lostM r now nb).2.2]) (reaH (lostM r now nb).1 ++ [.arr none 9 (lst sndV (lostM r now nb).2.1)]) := by
  have c1 := k_yValid r hr
  have c3 := k_Copy r hr
  by_cases h1 : validX r = true ∧ nb ≠ 0
  · obtain ⟨hv, hb⟩ := id h1
    rw [hv] at c1
    by_cases h2 : isT now
    · rw [lostM, if_pos h1, if_pos h2]
      have n1 := hr.lp
      dsimp only [reaO, reaH, List.cons_append, List.nil_append]
      refine spec_of_run ttok mixed (T0 := 36028798902472655) (ts := [.cell 6 32, .tmp 7, .tmp 8]) 85 rfl rfl rfl rfl (by simp) rfl ?_
      conv => whnf
      repeat' (first | ((first | (apply CallN.mk (c1)) | (apply CallN.mk (c3)) | (apply CallN.mk (k_xIsTime _)) | (with_reducible first | apply Bif.T | apply Bif.F) | ((with_reducible first | apply Bif.dec | apply Bif.beq) <;> intro h <;> (try simp only [lns] at h) <;> (try (exfalso; omega))) | (with_reducible apply Bif.not)) <;> conv => whnf) | fail)
      refine LoopN.adopt 9 9 rfl (by simp) ?_
      refine loop_keep ttok mixed (T0 := 36028798902472655) [1, 2, 3, 6, 28] (ι := {k : Nat // k ≤ r.paths.length})
        (fun k => [(9, .ov 9 5 0 (lostO r.paths now nb k.1).length), (29, int (k.1 : Int))])
        (fun k => [.cells (reaO r 2 3 4), .cells (.agg [.v (.int .u64 0), .v (.int .u16 0), .v (.slice none 0 0), .v (.slice none 0 0), .v (.slice none 0 0)]), .arr none 6 (lst pthV (lostL r.paths now nb k.1)), .arr none 3 (lst dscV r.srch), .arr none 6 (lst pthV r.seen), .arr none 9 (lst sndV (lostO r.paths now nb k.1))]) (fun k => r.paths.length - k.1) ⟨0, by omega⟩ ?_
      conv => whnf
      repeat' (first | ((first | (with_reducible apply Same.rfl) | (apply Same.int; focus rfl) | (apply Same.ov; (focus rfl); focus rfl) | (apply Same.rfl)) <;> conv => whnf) | fail)
      rintro ⟨k, hk⟩
      dsimp only
      have g1 := lostO_len r.paths now nb k
      have g2 := lostL_len r.paths now nb hk
      conv => whnf
      by_cases hkl : k < r.paths.length
      · have d1 := lostO_snoc (now := now) (nb := nb) hkl
        have d2 := lostL_gt (now := now) (nb := nb) hkl
        cases hh : hitP now nb (gt r.paths k)
        · have d3 := lostL_no hkl hh
          rw [hh, if_neg (by simp), List.append_nil] at d1
          have hno : ¬ (now < (gt r.paths k).upto ∧ (gt r.paths k).brk = false ∧ (gt r.paths k).nx = nb) := fun h => by rw [hitP_iff.2 h] at hh; cases hh
          have n1 := congrArg List.length d1
          repeat' (first | ((first | ((with_reducible apply Nm.mk); focus ((try simp only [lns]); exact rfl)) | ((with_reducible apply Wr.i64); focus omega) | ((with_reducible apply Need.mk); focus omega) | ((with_reducible apply Elem.lst); focus omega) | (with_reducible first | apply Bif.T | apply Bif.F) | ((with_reducible first | apply Bif.dec | apply Bif.bne) <;> intro h <;> (try simp only [lns] at h) <;> (try first | (exfalso; omega) | (rw [d2] at *; (refine absurd ⟨?_, ?_, ?_⟩ hno); (focus omega); (focus assumption); (focus assumption)))) | ((with_reducible apply Bif.mk) <;> intro h)) <;> conv => whnf) | fail)
          all_goals ((refine ⟨⟨k + 1, by omega⟩, ?_⟩; (try dsimp only); conv => whnf); repeat' (first | with_reducible apply True.intro | ((with_reducible apply Same.mk); (focus (first | omega | (rw [d1]; done) | (rw [d3]; done) | fail)); (conv => whnf)) | ((first | ((with_reducible apply Need.mk); focus omega) | (with_reducible apply Same.rfl) | (apply Same.int; focus rfl) | (with_reducible apply Turn.l)) <;> conv => whnf) | fail))
        · rw [hh, if_pos rfl] at d1
          have hy := hitP_iff.1 hh
          have d3 := lostL_set hkl (brk1 (gt r.paths k) (w16 ((gt r.paths k).own.seq + 1))) (by rw [lostP, hh, if_pos rfl])
          have n1 := congrArg List.length d1
          rw [List.length_append, List.length_singleton] at n1
          have hlk : k < (lostL r.paths now nb k).length := by omega
          repeat' (first | ((with_reducible apply Wr.w16); (conv => whnf)) | ((first | (with_reducible first | apply Nm.set _ (pth_mk _ _ _ _ _) | apply Nm.set _ (pth_mk2 _ _ _ _ _ _) | apply Nm.snoc _ (snd_mk2 _ _ _ _ _ _ _ _ _)) | ((with_reducible apply Nm.mk); focus ((try simp only [lns]); exact rfl)) | ((with_reducible apply Wr.i64); focus omega) | ((with_reducible apply Need.mk); focus first | omega | (simp only [lns]; omega) | kernel_rfl | (unfold roomOK; simp only [lns]; omega)) | ((with_reducible apply Elem.lst); focus first | omega | (simp only [lns]; omega)) | (with_reducible apply Bif.F) | ((with_reducible first | apply Bif.dec | apply Bif.bne) <;> intro h <;> (try simp only [lns] at h) <;> (try first | (exfalso; omega) | (rw [d2] at *; first | (exfalso; omega) | (simp_all; done)))) | ((with_reducible apply Bif.mk) <;> intro h <;> (try (rw [d2] at *; first | (exfalso; omega) | (simp_all; done)))) | (with_reducible apply Alt.l)) <;> conv => whnf) | fail)
          (refine ⟨⟨k + 1, by omega⟩, ?_⟩; (try dsimp only); conv => whnf); repeat' (first | with_reducible apply True.intro | ((with_reducible apply Same.mk); (focus (first | omega | (rw [d1]; simp only [List.set_set, gt_set hlk, if_true, d2, lostS]; done) | (rw [← d3]; simp only [List.set_set, gt_set hlk, if_true, d2, brk1]; done) | fail)); (conv => whnf)) | ((first | ((with_reducible apply Need.mk); focus omega) | (with_reducible apply Same.rfl) | (apply Same.int; focus rfl) | (apply Same.ov; (focus rfl); focus omega) | (with_reducible apply Turn.l)) <;> conv => whnf) | fail)
      · have hkE : k = r.paths.length := by omega
        subst hkE
        have e1 : lostL r.paths now nb r.paths.length = r.paths.map (lostP now nb) := by simp [lostL]
        have e2 : lostO r.paths now nb r.paths.length = (r.paths.filter (hitP now nb)).map lostS := by simp [lostO]
        rw [← e1, ← e2]
        repeat' (first | with_reducible apply True.intro | ((first | ((with_reducible apply Bif.dec) <;> intro h <;> (try simp only [lns] at h) <;> (try (exfalso; omega))) | (with_reducible apply Same.rfl) | (apply Same.int; focus rfl) | ((with_reducible apply Same.mk); focus omega) | (with_reducible apply Cut.l)) <;> conv => whnf) | fail)
    · rw [lostM, if_pos h1, if_neg h2]
      dsimp only [reaO, reaH, List.cons_append, List.nil_append, rea0]
      refine spec_of_run ttok mixed (T0 := 36028798902472655) (ts := [.cell 6 32, .tmp 7, .tmp 8]) 85 rfl rfl rfl rfl (by simp) rfl ?_
      conv => whnf
      repeat' (first | with_reducible apply True.intro | ((first | (apply CallN.mk (c1)) | (apply CallN.mk (k_xIsTime _)) | (with_reducible first | apply Bif.T | apply Bif.F) | ((with_reducible first | apply Bif.dec | apply Bif.beq) <;> intro h <;> (try simp only [lns] at h) <;> (try (exfalso; omega))) | (with_reducible apply Bif.not) | (with_reducible apply Same.rfl) | (apply Same.int; focus rfl) | (apply Same.rfl)) <;> conv => whnf) | fail)
  · rw [lostM, if_neg h1]
    dsimp only [reaO, reaH, List.cons_append, List.nil_append, rea0]
    refine spec_of_run ttok mixed (T0 := 36028798902472655) (ts := [.cell 6 32, .tmp 7, .tmp 8]) 85 rfl rfl rfl rfl (by simp) rfl ?_
    conv => whnf
    cases hv : validX r
    · rw [hv] at c1
      repeat' (first | with_reducible apply True.intro | ((first | (apply CallN.mk (c1)) | (with_reducible first | apply Bif.T | apply Bif.F) | (with_reducible apply Bif.not) | (with_reducible apply Same.rfl) | (apply Same.int; focus rfl) | (apply Same.rfl)) <;> conv => whnf) | fail)
    · rw [hv] at c1
      repeat' (first | with_reducible apply True.intro | ((first | (apply CallN.mk (c1)) | (with_reducible first | apply Bif.T | apply Bif.F) | ((with_reducible apply Bif.beq) <;> intro h <;> (try simp only [lns] at h) <;> (try ((refine absurd ⟨hv, ?_⟩ h1); (focus assumption)))) | (with_reducible apply Bif.not) | (with_reducible apply Same.rfl) | (apply Same.int; focus rfl) | (apply Same.rfl)) <;> conv => whnf) | fail)
theorem usbP_cur {l : List Pth} {now t : Int} (h : usbP l now t = true) : curP l now t = true := curP_iff.2 ⟨(usbP_iff.1 h).1, (usbP_iff.1 h).2.1⟩
theorem liveP_srt {l : List Pth} {now : Int} (h : srtP l) : srtP (liveP l now) := by
  have hp : l.Pairwise fun a b => a.to < b.to := by
    rw [List.pairwise_iff_getElem]
    intro i j hi hj hij
    rw [← gt_eq hi, ← gt_eq hj]
    exact h i j hij hj
  have h2 := hp.sublist (List.filter_sublist (p := fun p : Pth => decide (now < p.upto)))
  rw [List.pairwise_iff_getElem] at h2
  intro i j hij hj
  have hj' : j < (l.filter fun p => decide (now < p.upto)).length := hj
  have := h2 i j (by omega) hj' hij
  rw [← gt_eq (by omega), ← gt_eq hj'] at this
  exact this
theorem k_yTick (r : Rea) (now : Int) (hr : ReaOK r) : Con Try.prog 62 [reaF r, int now] []
    (.tup [reaO (tickM r now).1 0 1 2, .ov 9 3 0 (tickM r now).2.1.length, int (tickM r now).2.2]) (reaH (tickM r now).1 ++ [.arr none 9 (lst sndV (tickM r now).2.1)]) := by
  have c1 := k_yValid r hr
  by_cases h1 : validX r = true
  · have hv := h1
    rw [hv] at c1
    by_cases h2 : isT now
    · rw [tickM, if_pos h1, if_pos h2]
      have n1 := hr.ld
      have c2 := k_expire r.paths now hr.lp
      have c3 := k_expire r.seen now hr.ls
      have hV := ReaV.of hr hv
      have hok : ∀ n, ReaOK ⟨r.self, n, liveP r.paths now, r.srch, liveP r.seen now⟩ := fun n => ⟨fun x hx => hr.p x (List.mem_filter.1 hx).1, hr.d, fun x hx => hr.s x (List.mem_filter.1 hx).1, Nat.le_trans (liveP_len _ _) hr.lp, hr.ld, Nat.le_trans (liveP_len _ _) hr.ls⟩
      have hsr : srtP (liveP r.paths now) := liveP_srt hV.sp
      dsimp only [reaO, reaH, List.cons_append, List.nil_append]
      refine spec_of_run ttok mixed (T0 := 576463015751751159) (ts := [.cell 4 32, .tmp 5, .tmp 6]) 88 rfl rfl rfl rfl (by simp) rfl ?_
      conv => whnf
      repeat' (first | ((first | ((with_reducible apply Nm.mk); focus ((try simp only [lns]); exact rfl)) | (apply CallN.mk (c1)) | (apply CallN.mk (c2)) | (apply CallN.mk (c3)) | (apply CallN.mk (k_xIsTime _)) | (with_reducible apply Bif.T) | ((with_reducible apply Bif.dec) <;> intro h <;> (try simp only [lns] at h) <;> (try (exfalso; omega))) | (with_reducible apply Bif.not)) <;> conv => whnf) | fail)
      refine LoopN.adopt 7 3 rfl (by simp) ?_
      refine LoopN.adopt 8 9 rfl (by simp) ?_
      refine loop_keep ttok mixed (T0 := 576463015751751159) [1, 2, 4, 32, 33] (ι := {k : Nat // k ≤ r.srch.length})
        (fun k => [(7, .ov 3 4 0 (tickS r now k.1).srch.length), (8, .ov 9 5 0 (tickS r now k.1).out.length), (34, int (k.1 : Int))])
        (fun k => [.cells (.agg [.v (.int .u64 r.self), .v (.int .u16 (tickS r now k.1).num), .ov 6 2 0 (liveP r.paths now).length, .fs .no 3 (lst dscV r.srch), .ov 6 3 0 (liveP r.seen now).length]), .cells (.agg [.v (.int .u64 0), .v (.int .u16 0), .v (.slice none 0 0), .v (.slice none 0 0), .v (.slice none 0 0)]), .arr none 6 (lst pthV (liveP r.paths now)), .arr none 6 (lst pthV (liveP r.seen now)), .arr none 3 (lst dscV (tickS r now k.1).srch), .arr none 9 (lst sndV (tickS r now k.1).out)]) (fun k => r.srch.length - k.1) ⟨0, by omega⟩ ?_
      conv => whnf
      repeat' (first | ((first | (with_reducible apply Same.rfl) | (apply Same.int; focus rfl) | (apply Same.ov; (focus rfl); focus rfl) | (apply Same.rfl)) <;> conv => whnf) | fail)
      rintro ⟨k, hk⟩
      dsimp only
      have g1 := tickS_out r now k
      have g2 := (tickS_ok (now := now) hr k 0).ld
      have g2 : (tickS r now k).srch.length ≤ 1000000 := g2
      conv => whnf
      by_cases hkl : k < r.srch.length
      · have d1 := tickS_succ (now := now) hkl
        unfold tickStep at d1
        by_cases h3 : now < (gt r.srch k).again
        · rw [if_pos h3] at d1
          have e1 := congrArg TkS.num d1
          have e2 := congrArg TkS.srch d1
          have e3 := congrArg TkS.out d1
          dsimp only at e1 e2 e3
          have m2 := congrArg List.length e2
          rw [List.length_append, List.length_singleton] at m2
          have m3 := congrArg List.length e3
          repeat' (first | ((first | (with_reducible apply Nm.snoc _ (dsc_mk _ _ _)) | ((with_reducible apply Nm.mk); focus ((try simp only [lns]); exact rfl)) | ((with_reducible apply Wr.i64); focus omega) | ((with_reducible apply Need.mk); focus first | (simp only [lns]; omega) | (unfold roomOK; simp only [lns]; omega)) | ((with_reducible apply Elem.lst); focus omega) | ((with_reducible apply Bif.dec) <;> intro h <;> (try simp only [lns] at h) <;> (try (exfalso; omega))) | (with_reducible apply Alt.l)) <;> conv => whnf) | fail)
          (refine ⟨⟨k + 1, by omega⟩, ?_⟩; (try dsimp only); conv => whnf); repeat' (first | with_reducible apply True.intro | ((with_reducible apply Same.mk); (focus (first | omega | (rw [e1]; done) | (rw [e2]; done) | (rw [e3]; done) | (rw [e1]; rfl) | fail)); (conv => whnf)) | ((first | ((with_reducible apply Need.mk); focus omega) | (with_reducible apply Same.rfl) | (apply Same.int; focus rfl) | (apply Same.ov; (focus rfl); focus omega) | (with_reducible apply Turn.l)) <;> conv => whnf) | fail)
        · rw [if_neg h3] at d1
          have c4 := k_yusable _ now (gt r.srch k).to hsr (hok (tickS r now k).num)
          dsimp only [reaF] at c4
          by_cases h4 : (gt r.srch k).left = 1 ∨ usbP (liveP r.paths now) now (gt r.srch k).to = true
          · rw [if_pos h4] at d1
            have e1 := congrArg TkS.num d1
            have e2 := congrArg TkS.srch d1
            have e3 := congrArg TkS.out d1
            have m2 := congrArg List.length e2
            have m3 := congrArg List.length e3
            cases hu : usbP (liveP r.paths now) now (gt r.srch k).to
            · have h5 : (gt r.srch k).left = 1 := by simpa [hu] using h4
              rw [hu] at c4
              generalize curV (liveP r.paths now) now (gt r.srch k).to = cv at *
              repeat' (first | ((first | ((with_reducible apply Nm.mk); focus ((try simp only [lns]); exact rfl)) | ((with_reducible apply Wr.i64); focus omega) | ((with_reducible apply Need.mk); focus first | (simp only [lns]; omega) | exact CleanP.nil rfl) | ((with_reducible apply Elem.lst); focus omega) | (apply CallN.mk (c4)) | (with_reducible apply Bif.F) | ((with_reducible first | apply Bif.dec | apply Bif.beq) <;> intro h <;> (try simp only [lns] at h) <;> (try (exfalso; omega))) | (with_reducible apply GiveN.lend)) <;> conv => whnf) | fail)
              (refine ⟨⟨k + 1, by omega⟩, ?_⟩; (try dsimp only); conv => whnf); repeat' (first | with_reducible apply True.intro | ((with_reducible apply Same.mk); (focus (first | omega | (rw [e1]; done) | (rw [e2]; done) | (rw [e3]; done) | (rw [e1]; rfl) | fail)); (conv => whnf)) | ((first | ((with_reducible apply Need.mk); focus omega) | (with_reducible apply Same.rfl) | (apply Same.int; focus rfl) | (with_reducible apply Turn.l)) <;> conv => whnf) | fail)
            · rw [hu] at c4
              generalize curV (liveP r.paths now) now (gt r.srch k).to = cv at *
              repeat' (first | ((first | ((with_reducible apply Nm.mk); focus ((try simp only [lns]); exact rfl)) | ((with_reducible apply Wr.i64); focus omega) | ((with_reducible apply Need.mk); focus first | (simp only [lns]; omega) | exact CleanP.nil rfl) | ((with_reducible apply Elem.lst); focus omega) | (apply CallN.mk (c4)) | (with_reducible apply Bif.T) | ((with_reducible apply Bif.dec) <;> intro h <;> (try simp only [lns] at h) <;> (try (exfalso; omega))) | (with_reducible apply GiveN.lend)) <;> conv => whnf) | fail)
              (refine ⟨⟨k + 1, by omega⟩, ?_⟩; (try dsimp only); conv => whnf); repeat' (first | with_reducible apply True.intro | ((with_reducible apply Same.mk); (focus (first | omega | (rw [e1]; done) | (rw [e2]; done) | (rw [e3]; done) | (rw [e1]; rfl) | fail)); (conv => whnf)) | ((first | ((with_reducible apply Need.mk); focus omega) | (with_reducible apply Same.rfl) | (apply Same.int; focus rfl) | (with_reducible apply Turn.l)) <;> conv => whnf) | fail)
          · rw [if_neg h4] at d1
            have h5 : (gt r.srch k).left ≠ 1 := fun h => h4 (.inl h)
            have hu : usbP (liveP r.paths now) now (gt r.srch k).to = false := by
              cases hh : usbP (liveP r.paths now) now (gt r.srch k).to
              · rfl
              · exact absurd (.inr hh) h4
            rw [hu] at c4
            have c5 := k_search _ now (gt r.srch k).to hsr (hok (w16 ((tickS r now k).num + 1)))
            dsimp only [reaF] at c5
            have hD := (dscOK_iff.1 (okL_ok hV.iff.2.2.1 hkl)).2.1
            have e1 := congrArg TkS.num d1
            have e2 := congrArg TkS.srch d1
            have e3 := congrArg TkS.out d1
            dsimp only at e1 e2 e3
            have m2 := congrArg List.length e2
            rw [List.length_append, List.length_singleton] at m2
            have m3 := congrArg List.length e3
            rw [List.length_append, List.length_singleton] at m3
            generalize curV (liveP r.paths now) now (gt r.srch k).to = cv at *
            repeat' (first | ((with_reducible apply Wr.w16); (conv => whnf)) | ((first | (with_reducible first | apply Nm.snoc _ (dsc_mk2 _ _ _) | apply Nm.snoc _ (snd_mk _ _)) | ((with_reducible apply Nm.mk); focus ((try simp only [lns]); exact rfl)) | ((with_reducible apply Wr.i64); focus omega) | ((with_reducible apply Need.mk); focus first | (simp only [lns]; omega) | exact CleanP.nil rfl | (unfold roomOK; simp only [lns]; omega)) | ((with_reducible apply Elem.lst); focus omega) | (apply CallN.mk (c4)) | (apply CallN.mk (c5)) | (apply CallN.mk (k_After _ _ h2 (by omega))) | (with_reducible apply Bif.F) | ((with_reducible first | apply Bif.dec | apply Bif.beq) <;> intro h <;> (try simp only [lns] at h) <;> (try (exfalso; omega))) | (with_reducible first | apply Alt.l | apply GiveN.lend)) <;> conv => whnf) | fail)
            (refine ⟨⟨k + 1, by omega⟩, ?_⟩; (try dsimp only); conv => whnf); repeat' (first | with_reducible apply True.intro | ((with_reducible apply Same.mk); (focus (first | omega | (rw [e1]; done) | (rw [e2]; done) | (rw [e3]; done) | (rw [e1]; rfl) | fail)); (conv => whnf)) | ((first | ((with_reducible apply Need.mk); focus omega) | (with_reducible apply Same.rfl) | (apply Same.int; focus rfl) | (apply Same.ov; (focus rfl); focus omega) | (with_reducible apply Turn.l)) <;> conv => whnf) | fail)
      · have hkE : k = r.srch.length := by omega
        subst hkE
        repeat' (first | with_reducible apply True.intro | ((first | ((with_reducible apply Bif.dec) <;> intro h <;> (try simp only [lns] at h) <;> (try (exfalso; omega))) | (with_reducible apply Same.rfl) | (apply Same.int; focus rfl) | (with_reducible apply Cut.l)) <;> conv => whnf) | fail)
    · rw [tickM, if_pos h1, if_neg h2]
      dsimp only [reaO, reaH, List.cons_append, List.nil_append, rea0]
      refine spec_of_run ttok mixed (T0 := 576463015751751159) (ts := [.cell 4 32, .tmp 5, .tmp 6]) 88 rfl rfl rfl rfl (by simp) rfl ?_
      conv => whnf
      repeat' (first | with_reducible apply True.intro | ((first | (apply CallN.mk (c1)) | (apply CallN.mk (k_xIsTime _)) | (with_reducible apply Bif.T) | ((with_reducible apply Bif.dec) <;> intro h <;> (try simp only [lns] at h) <;> (try (exfalso; omega))) | (with_reducible apply Bif.not) | (with_reducible apply Same.rfl) | (apply Same.int; focus rfl) | (apply Same.rfl)) <;> conv => whnf) | fail)
  · rw [tickM, if_neg h1]
    dsimp only [reaO, reaH, List.cons_append, List.nil_append, rea0]
    refine spec_of_run ttok mixed (T0 := 576463015751751159) (ts := [.cell 4 32, .tmp 5, .tmp 6]) 88 rfl rfl rfl rfl (by simp) rfl ?_
    conv => whnf
    have hv : validX r = false := by simpa using h1
    rw [hv] at c1
    repeat' (first | with_reducible apply True.intro | ((first | (apply CallN.mk (c1)) | (with_reducible apply Bif.F) | (with_reducible apply Bif.not) | (with_reducible apply Same.rfl) | (apply Same.int; focus rfl) | (apply Same.rfl)) <;> conv => whnf) | fail)
end Go.Fw
