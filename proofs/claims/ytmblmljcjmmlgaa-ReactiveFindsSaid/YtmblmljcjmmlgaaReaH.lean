/- Reactive: Hear, Lost, Tick. -/
import Derived.Test.YtmblmljcjmmlgaaReaG
namespace Go.Fw
open Go.Proofs
set_option maxHeartbeats 8000000
set_option maxRecDepth 4000
theorem k_xHear (r : Rea) (now nb cost : Int) (m : Msg) (hr : ReaOK r) (hm : MsgOK m) : Con Try.prog 13 [reaF r, int now, .v (.int .u64 nb), int cost, msgV m] []
    (.tup [reaO (hearM r now nb cost m).1 0 1 2, .ov 9 3 0 (hearM r now nb cost m).2.1.length, int (hearM r now nb cost m).2.2]) (reaH (hearM r now nb cost m).1 ++ [.arr none 9 (lst sndV (hearM r now nb cost m).2.1)]) := by
  have c1 := k_xValid r hr
  have c2 := k_xValidMessage m
  have c3 := k_clone r hr
  have c4 := k_mAdd m.cost cost
  by_cases h1 : validX r = true ∧ vMsg m = true ∧ nb ≠ 0 ∧ nb ≠ r.self
  · obtain ⟨hv, hM, hb, hs⟩ := id h1
    rw [hv] at c1
    rw [hM] at c2
    have hV := ReaV.of hr hv
    obtain ⟨m1, m2, m3, m4, m5⟩ := vMsg_iff.1 hM
    by_cases h2 : isT now ∧ 1 ≤ cost ∧ cost ≤ 65535
    · obtain ⟨hn, hc1, hc2⟩ := id h2
      by_cases h3 : m.kind = 3
      · rw [hearM, if_pos h1, if_pos h2, if_pos h3]
        have c5 := k_hearError r now nb m hr m3
        generalize hErr r now nb m = q at *
        obtain ⟨r1, l1⟩ := q
        dsimp only [reaO, reaH, List.cons_append, List.nil_append] at c5 ⊢
        refine spec_of_run ttok mixed (T0 := 4740885354923316870719) (ts := [.cell 10 32, .tmp 11, .tmp 12]) 91 rfl rfl rfl rfl (by simp) rfl ?_
        conv => whnf
        repeat' (first | with_reducible apply True.intro | ((with_reducible apply GiveN.mk [0]); (conv => whnf); (apply CallN.mk c5); (conv => whnf)) | ((first | (apply CallN.mk (c1)) | (apply CallN.mk (c2)) | (apply CallN.mk (c3)) | (apply CallN.mk (c4)) | (apply CallN.mk (k_xisTime _)) | (with_reducible first | apply Bif.T | apply Bif.F) | ((with_reducible first | apply Bif.dec | apply Bif.beq) <;> intro h <;> (try simp only [lns] at h) <;> (try (exfalso; omega))) | (with_reducible apply Bif.not) | (with_reducible apply Same.rfl) | (apply Same.int; focus rfl) | (with_reducible apply Cut.l) | (with_reducible apply Frz.l)) <;> conv => whnf) | fail)
      · by_cases h4 : addC m.cost cost = 65535
        · rw [hearM, if_pos h1, if_pos h2, if_neg h3, if_pos h4]
          rw [h4] at c4
          dsimp only [reaO, reaH, List.cons_append, List.nil_append]
          refine spec_of_run ttok mixed (T0 := 4740885354923316870719) (ts := [.cell 10 32, .tmp 11, .tmp 12]) 91 rfl rfl rfl rfl (by simp) rfl ?_
          conv => whnf
          repeat' (first | with_reducible apply True.intro | ((first | (apply CallN.mk (c1)) | (apply CallN.mk (c2)) | (apply CallN.mk (c3)) | (apply CallN.mk (c4)) | (apply CallN.mk (k_xisTime _)) | (with_reducible first | apply Bif.T | apply Bif.F) | ((with_reducible first | apply Bif.dec | apply Bif.beq) <;> intro h <;> (try simp only [lns] at h) <;> (try (exfalso; omega))) | (with_reducible apply Bif.not) | (with_reducible apply Same.rfl) | (apply Same.int; focus rfl) | (apply Same.rfl) | (with_reducible apply Cut.l) | (with_reducible apply Frz.l)) <;> conv => whnf) | fail)
        · have hR : ReqOK r now nb ⟨m.num, addC m.cost cost⟩ m := ⟨hV, hn, hb, addC_ok _ _, h4⟩
          by_cases h5 : m.kind = 1
          · rw [hearM, if_pos h1, if_pos h2, if_neg h3, if_neg h4, if_pos h5]
            have c5 := k_hearRequest r now nb ⟨m.num, addC m.cost cost⟩ m hR (by omega) hm.1 m3
            generalize hReq r now nb ⟨m.num, addC m.cost cost⟩ m = q at *
            obtain ⟨r1, l1⟩ := q
            generalize addC m.cost cost = sum at *
            dsimp only [reaO, reaH, List.cons_append, List.nil_append] at c5 ⊢
            refine spec_of_run ttok mixed (T0 := 4740885354923316870719) (ts := [.cell 10 32, .tmp 11, .tmp 12]) 91 rfl rfl rfl rfl (by simp) rfl ?_
            conv => whnf
            repeat' (first | with_reducible apply True.intro | ((with_reducible apply GiveN.mk [0]); (conv => whnf); (apply CallN.mk c5); (conv => whnf)) | ((first | (apply CallN.mk (c1)) | (apply CallN.mk (c2)) | (apply CallN.mk (c3)) | (apply CallN.mk (c4)) | (apply CallN.mk (k_xisTime _)) | (with_reducible first | apply Bif.T | apply Bif.F) | ((with_reducible first | apply Bif.dec | apply Bif.beq) <;> intro h <;> (try simp only [lns] at h) <;> (try (exfalso; omega))) | (with_reducible apply Bif.not) | (with_reducible apply Same.rfl) | (with_reducible apply Cut.l) | (with_reducible apply Frz.l)) <;> conv => whnf) | fail)
          · rw [hearM, if_pos h1, if_pos h2, if_neg h3, if_neg h4, if_neg h5]
            have c5 := k_hearReply r now nb ⟨m.num, addC m.cost cost⟩ m hR m1 hm.2 m3
            generalize hRep r now nb ⟨m.num, addC m.cost cost⟩ m = q at *
            obtain ⟨r1, l1⟩ := q
            generalize addC m.cost cost = sum at *
            dsimp only [reaO, reaH, List.cons_append, List.nil_append] at c5 ⊢
            refine spec_of_run ttok mixed (T0 := 4740885354923316870719) (ts := [.cell 10 32, .tmp 11, .tmp 12]) 91 rfl rfl rfl rfl (by simp) rfl ?_
            conv => whnf
            repeat' (first | with_reducible apply True.intro | ((with_reducible apply GiveN.mk [0]); (conv => whnf); (apply CallN.mk c5); (conv => whnf)) | ((first | (apply CallN.mk (c1)) | (apply CallN.mk (c2)) | (apply CallN.mk (c3)) | (apply CallN.mk (c4)) | (apply CallN.mk (k_xisTime _)) | (with_reducible first | apply Bif.T | apply Bif.F) | ((with_reducible first | apply Bif.dec | apply Bif.beq) <;> intro h <;> (try simp only [lns] at h) <;> (try (exfalso; omega))) | (with_reducible apply Bif.not) | (with_reducible apply Same.rfl) | (with_reducible apply Cut.l) | (with_reducible apply Frz.l)) <;> conv => whnf) | fail)
    · rw [hearM, if_pos h1, if_neg h2]
      dsimp only [reaO, reaH, List.cons_append, List.nil_append, rea0]
      refine spec_of_run ttok mixed (T0 := 4740885354923316870719) (ts := [.cell 10 32, .tmp 11, .tmp 12]) 91 rfl rfl rfl rfl (by simp) rfl ?_
      conv => whnf
      repeat' (first | with_reducible apply True.intro | ((first | (apply CallN.mk (c1)) | (apply CallN.mk (c2)) | (apply CallN.mk (k_xisTime _)) | (with_reducible first | apply Bif.T | apply Bif.F) | ((with_reducible first | apply Bif.dec | apply Bif.beq) <;> intro h <;> (try simp only [lns] at h) <;> (try (exfalso; omega))) | (with_reducible apply Bif.not) | (with_reducible apply Same.rfl) | (apply Same.int; focus rfl) | (apply Same.rfl) | (with_reducible apply Frz.l)) <;> conv => whnf) | fail)
  · rw [hearM, if_neg h1]
    dsimp only [reaO, reaH, List.cons_append, List.nil_append, rea0]
    refine spec_of_run ttok mixed (T0 := 4740885354923316870719) (ts := [.cell 10 32, .tmp 11, .tmp 12]) 91 rfl rfl rfl rfl (by simp) rfl ?_
    conv => whnf
    cases hv : validX r
    · rw [hv] at c1
      repeat' (first | with_reducible apply True.intro | ((first | (apply CallN.mk (c1)) | (with_reducible first | apply Bif.T | apply Bif.F) | (with_reducible apply Bif.not) | (with_reducible apply Same.rfl) | (apply Same.int; focus rfl) | (apply Same.rfl) | (with_reducible apply Frz.l)) <;> conv => whnf) | fail)
    · rw [hv] at c1
      cases hM : vMsg m
      · rw [hM] at c2
        repeat' (first | with_reducible apply True.intro | ((first | (apply CallN.mk (c1)) | (apply CallN.mk (c2)) | (with_reducible first | apply Bif.T | apply Bif.F) | (with_reducible apply Bif.not) | (with_reducible apply Same.rfl) | (apply Same.int; focus rfl) | (apply Same.rfl) | (with_reducible apply Frz.l)) <;> conv => whnf) | fail)
      · rw [hM] at c2
        repeat' (first | with_reducible apply True.intro | ((first | (apply CallN.mk (c1)) | (apply CallN.mk (c2)) | (with_reducible first | apply Bif.T | apply Bif.F) | ((with_reducible apply Bif.beq) <;> intro h <;> (try simp only [lns] at h) <;> (try ((refine absurd ⟨hv, hM, ?_, ?_⟩ h1); (focus assumption); (focus assumption)))) | (with_reducible apply Bif.not) | (with_reducible apply Same.rfl) | (apply Same.int; focus rfl) | (apply Same.rfl) | (with_reducible apply Frz.l)) <;> conv => whnf) | fail)
theorem dsc_mk2 (a b c : Int) : SV.agg [.v (.int .u64 a), .v (.int .i64 b), int c] = dscV ⟨a, b, c⟩ := rfl
theorem liveP_snoc {l : List Pth} {now : Int} {k : Nat} (hk : k < l.length) : liveP (l.take (k + 1)) now = liveP (l.take k) now ++ if now < (gt l k).upto then [gt l k] else [] := by
  rw [liveP, filter_snoc hk]
  congr 1
  by_cases h : now < (gt l k).upto <;> simp [h]
theorem liveP_len (l : List Pth) (now : Int) : (liveP l now).length ≤ l.length := List.length_filter_le _ _
theorem k_currentOnly (l : List Pth) (now : Int) (hl : l.length ≤ 1000000) : Con Try.prog 59 [.fs .no 6 (lst pthV l), int now] [] (.ov 6 0 0 (liveP l now).length) [.arr none 6 (lst pthV (liveP l now))] := by
  refine spec_of_run ttok mixed (T0 := 135091) (ts := [.tmp 4]) 24 rfl rfl rfl rfl (by simp) rfl ?_
  conv => whnf
  repeat' (first | ((first | ((with_reducible apply Nm.mk); focus ((try simp only [lns]); exact rfl)) | (with_reducible apply Frz.l)) <;> conv => whnf) | fail)
  refine LoopN.adopt 5 6 rfl (by simp) ?_
  refine loop_keep ttok mixed (T0 := 135091) [0, 1, 8, 9] (ι := {k : Nat // k ≤ l.length})
    (fun k => [(5, .ov 6 0 0 (liveP (l.take k.1) now).length), (10, int (k.1 : Int))]) (fun k => [.arr none 6 (lst pthV (liveP (l.take k.1) now))]) (fun k => l.length - k.1) ⟨0, by omega⟩ ?_
  conv => whnf
  repeat' (first | ((first | (with_reducible apply Same.rfl) | (apply Same.int; focus rfl) | (apply Same.ov; (focus rfl); focus rfl) | (apply Same.rfl) | (with_reducible apply Frz.l)) <;> conv => whnf) | fail)
  rintro ⟨k, hk⟩
  dsimp only
  have h1 := liveP_len (l.take k) now
  rw [List.length_take] at h1
  conv => whnf
  by_cases hkl : k < l.length
  · have d1 := liveP_snoc (now := now) hkl
    by_cases hu : now < (gt l k).upto
    · rw [if_pos hu] at d1
      have n1 := congrArg List.length d1
      rw [List.length_append, List.length_singleton] at n1
      repeat' (first | ((first | (with_reducible apply Nm.snoc _ (pth_mk _ _ _ _ _)) | ((with_reducible apply Nm.mk); focus ((try simp only [lns]); exact rfl)) | ((with_reducible apply Wr.i64); focus omega) | ((with_reducible apply Need.mk); focus first | (simp only [lns]; omega) | (unfold roomOK; simp only [lns]; omega)) | ((with_reducible apply Elem.lst); focus omega) | ((with_reducible apply Bif.dec) <;> intro h <;> (try simp only [lns] at h) <;> (try (exfalso; omega))) | (with_reducible apply Alt.l) | (with_reducible apply Frz.l)) <;> conv => whnf) | fail)
      (refine ⟨⟨k + 1, by omega⟩, ?_⟩; (try dsimp only); conv => whnf); repeat' (first | with_reducible apply True.intro | ((with_reducible apply Same.mk); (focus (first | omega | (rw [d1]; done) | fail)); (conv => whnf)) | ((first | ((with_reducible apply Need.mk); focus omega) | (with_reducible apply Same.rfl) | (apply Same.int; focus rfl) | (apply Same.ov; (focus rfl); focus omega) | (with_reducible apply Turn.l) | (with_reducible apply Frz.l)) <;> conv => whnf) | fail)
    · rw [if_neg hu, List.append_nil] at d1
      have n1 := congrArg List.length d1
      repeat' (first | ((first | ((with_reducible apply Nm.mk); focus ((try simp only [lns]); exact rfl)) | ((with_reducible apply Wr.i64); focus omega) | ((with_reducible apply Need.mk); focus (simp only [lns]; omega)) | ((with_reducible apply Elem.lst); focus omega) | ((with_reducible apply Bif.dec) <;> intro h <;> (try simp only [lns] at h) <;> (try (exfalso; omega))) | (with_reducible apply Frz.l)) <;> conv => whnf) | fail)
      (refine ⟨⟨k + 1, by omega⟩, ?_⟩; (try dsimp only); conv => whnf); repeat' (first | with_reducible apply True.intro | ((with_reducible apply Same.mk); (focus (first | omega | (rw [d1]; done) | fail)); (conv => whnf)) | ((first | ((with_reducible apply Need.mk); focus omega) | (with_reducible apply Same.rfl) | (apply Same.int; focus rfl) | (with_reducible apply Turn.l) | (with_reducible apply Frz.l)) <;> conv => whnf) | fail)
  · have hkE : k = l.length := by omega
    subst hkE
    have e : l.take l.length = l := List.take_length
    rw [e]
    repeat' (first | with_reducible apply True.intro | ((first | ((with_reducible apply Bif.dec) <;> intro h <;> (try simp only [lns] at h) <;> (try (exfalso; omega))) | (with_reducible apply Same.rfl) | (with_reducible apply Cut.l) | (with_reducible apply Frz.l)) <;> conv => whnf) | fail)
/-- Where Lost is after k paths. -/
def lostL (l : List Pth) (now nb : Int) (k : Nat) : List Pth := (l.take k).map (lostP now nb) ++ l.drop k
def lostO (l : List Pth) (now nb : Int) (k : Nat) : List Snd := ((l.take k).filter (hitP now nb)).map lostS
theorem lostL_len (l : List Pth) (now nb : Int) {k : Nat} (h : k ≤ l.length) : (lostL l now nb k).length = l.length := by simp [lostL]; omega
theorem lostL_gt {l : List Pth} {now nb : Int} {k : Nat} (h : k < l.length) : gt (lostL l now nb k) k = gt l k := by
  have hl : ((l.take k).map (lostP now nb)).length = k := by simp; omega
  rw [lostL, gt_app, hl, if_neg (by omega), gt_drop]
  congr 1; omega
theorem lostL_set {l : List Pth} {now nb : Int} {k : Nat} (h : k < l.length) (x : Pth) (hx : lostP now nb (gt l k) = x) : (lostL l now nb k).set k x = lostL l now nb (k + 1) := by
  have hl : ((l.take k).map (lostP now nb)).length = k := by simp; omega
  rw [lostL, lostL, take_gt h, List.map_append, List.set_append_right _ _ (by omega), hl, Nat.sub_self, drop_gt h, List.map_cons, hx]
  simp
theorem lostL_no {l : List Pth} {now nb : Int} {k : Nat} (h : k < l.length) (hx : hitP now nb (gt l k) = false) : lostL l now nb (k + 1) = lostL l now nb k := by
  rw [lostL, lostL, take_gt h, List.map_append, drop_gt h]
  simp [lostP, hx]
theorem lostO_snoc {l : List Pth} {now nb : Int} {k : Nat} (h : k < l.length) : lostO l now nb (k + 1) = lostO l now nb k ++ if hitP now nb (gt l k) = true then [lostS (gt l k)] else [] := by
  rw [lostO, lostO, filter_snoc h, List.map_append]
  congr 1
  split <;> simp
theorem lostO_len (l : List Pth) (now nb : Int) (k : Nat) : (lostO l now nb k).length ≤ l.length := by
  rw [lostO, List.length_map]
  exact Nat.le_trans (List.length_filter_le _ _) (by simp; omega)
theorem hitP_iff {now nb : Int} {p : Pth} : hitP now nb p = true ↔ now < p.upto ∧ p.brk = false ∧ p.nx = nb := by simp [hitP]
theorem k_xLost (r : Rea) (now nb : Int) (hr : ReaOK r) : Con Try.prog 32 [reaF r, int now, .v (.int .u64 nb)] []
    (.tup [reaO (lostM r now nb).1 0 1 2, .ov 9 3 0 (lostM r now nb).2.1.length, int (lostM r now nb).2.2]) (reaH (lostM r now nb).1 ++ [.arr none 9 (lst sndV (lostM r now nb).2.1)]) := by
  have c1 := k_xValid r hr
  have c3 := k_clone r hr
  by_cases h1 : validX r = true ∧ nb ≠ 0
  · obtain ⟨hv, hb⟩ := id h1
    rw [hv] at c1
    by_cases h2 : isT now
    · rw [lostM, if_pos h1, if_pos h2]
      have n1 := hr.lp
      dsimp only [reaO, reaH, List.cons_append, List.nil_append]
      refine spec_of_run ttok mixed (T0 := 144115195609890767) (ts := [.cell 6 32, .tmp 7, .tmp 8]) 88 rfl rfl rfl rfl (by simp) rfl ?_
      conv => whnf
      repeat' (first | ((first | (apply CallN.mk (c1)) | (apply CallN.mk (c3)) | (apply CallN.mk (k_xisTime _)) | (with_reducible first | apply Bif.T | apply Bif.F) | ((with_reducible first | apply Bif.dec | apply Bif.beq) <;> intro h <;> (try simp only [lns] at h) <;> (try (exfalso; omega))) | (with_reducible apply Bif.not) | (with_reducible apply Frz.l)) <;> conv => whnf) | fail)
      refine LoopN.adopt 10 9 rfl (by simp) ?_
      refine loop_keep ttok mixed (T0 := 144115195609890767) [1, 2, 3, 6, 9, 30] (ι := {k : Nat // k ≤ r.paths.length})
        (fun k => [(10, .ov 9 6 0 (lostO r.paths now nb k.1).length), (31, int (k.1 : Int))])
        (fun k => [.cells (reaF r), .cells (.agg [.v (.int .u64 0), .v (.int .u16 0), .v (.slice none 0 0), .v (.slice none 0 0), .v (.slice none 0 0)]), .arr none 6 (lst pthV (lostL r.paths now nb k.1)), .arr none 3 (lst dscV r.srch), .arr none 6 (lst pthV r.seen), .cells (reaO r 2 3 4), .arr none 9 (lst sndV (lostO r.paths now nb k.1))]) (fun k => r.paths.length - k.1) ⟨0, by omega⟩ ?_
      conv => whnf
      repeat' (first | ((first | (with_reducible apply Same.rfl) | (apply Same.int; focus rfl) | (apply Same.ov; (focus rfl); focus rfl) | (apply Same.rfl) | (with_reducible apply Frz.l)) <;> conv => whnf) | fail)
      rintro ⟨k, hk⟩
      dsimp only
      have g1 := lostO_len r.paths now nb k
      have g2 := lostL_len r.paths now nb hk
      conv => whnf
      by_cases hkl : k < r.paths.length
      · have d1 := lostO_snoc (now := now) (nb := nb) hkl
        have d2 := lostL_gt (now := now) (nb := nb) hkl
        cases hh : hitP now nb (gt r.paths k)
        · have d3 := lostL_no hkl hh
          rw [hh, if_neg (by simp), List.append_nil] at d1
          have hno : ¬ (now < (gt r.paths k).upto ∧ (gt r.paths k).brk = false ∧ (gt r.paths k).nx = nb) := fun h => by rw [hitP_iff.2 h] at hh; cases hh
          have n1 := congrArg List.length d1
          repeat' (first | ((first | ((with_reducible apply Nm.mk); focus ((try simp only [lns]); exact rfl)) | ((with_reducible apply Wr.i64); focus omega) | ((with_reducible apply Need.mk); focus omega) | ((with_reducible apply Elem.lst); focus omega) | (with_reducible first | apply Bif.T | apply Bif.F) | ((with_reducible first | apply Bif.dec | apply Bif.bne) <;> intro h <;> (try simp only [lns] at h) <;> (try first | (exfalso; omega) | (rw [d2] at *; (refine absurd ⟨?_, ?_, ?_⟩ hno); (focus omega); (focus assumption); (focus assumption)))) | ((with_reducible apply Bif.mk) <;> intro h) | (with_reducible apply Frz.l)) <;> conv => whnf) | fail)
          all_goals ((refine ⟨⟨k + 1, by omega⟩, ?_⟩; (try dsimp only); conv => whnf); repeat' (first | with_reducible apply True.intro | ((with_reducible apply Same.mk); (focus (first | omega | (rw [d1]; done) | (rw [d3]; done) | fail)); (conv => whnf)) | ((first | ((with_reducible apply Need.mk); focus omega) | (with_reducible apply Same.rfl) | (apply Same.int; focus rfl) | (with_reducible apply Turn.l) | (with_reducible apply Frz.l)) <;> conv => whnf) | fail))
        · rw [hh, if_pos rfl] at d1
          have hy := hitP_iff.1 hh
          have d3 := lostL_set hkl (brk1 (gt r.paths k) (w16 ((gt r.paths k).own.seq + 1))) (by rw [lostP, hh, if_pos rfl])
          have n1 := congrArg List.length d1
          rw [List.length_append, List.length_singleton] at n1
          have hlk : k < (lostL r.paths now nb k).length := by omega
          repeat' (first | ((with_reducible apply Wr.w16); (conv => whnf)) | ((first | (with_reducible first | apply Nm.set _ (pth_mk _ _ _ _ _) | apply Nm.set _ (pth_mk2 _ _ _ _ _ _) | apply Nm.snoc _ (snd_mk2 _ _ _ _ _ _ _ _ _)) | ((with_reducible apply Nm.mk); focus ((try simp only [lns]); exact rfl)) | ((with_reducible apply Wr.i64); focus omega) | ((with_reducible apply Need.mk); focus first | omega | (simp only [lns]; omega) | kernel_rfl | (unfold roomOK; simp only [lns]; omega)) | ((with_reducible apply Elem.lst); focus first | omega | (simp only [lns]; omega)) | (with_reducible apply Bif.F) | ((with_reducible first | apply Bif.dec | apply Bif.bne) <;> intro h <;> (try simp only [lns] at h) <;> (try first | (exfalso; omega) | (rw [d2] at *; first | (exfalso; omega) | (simp_all; done)))) | ((with_reducible apply Bif.mk) <;> intro h <;> (try (rw [d2] at *; first | (exfalso; omega) | (simp_all; done)))) | (with_reducible apply Alt.l) | (with_reducible apply Frz.l)) <;> conv => whnf) | fail)
          (refine ⟨⟨k + 1, by omega⟩, ?_⟩; (try dsimp only); conv => whnf); repeat' (first | with_reducible apply True.intro | ((with_reducible apply Same.mk); (focus (first | omega | (rw [d1]; simp only [List.set_set, gt_set hlk, if_true, d2, lostS]; done) | (rw [← d3]; simp only [List.set_set, gt_set hlk, if_true, d2, brk1]; done) | fail)); (conv => whnf)) | ((first | ((with_reducible apply Need.mk); focus omega) | (with_reducible apply Same.rfl) | (apply Same.int; focus rfl) | (apply Same.ov; (focus rfl); focus omega) | (with_reducible apply Turn.l) | (with_reducible apply Frz.l)) <;> conv => whnf) | fail)
      · have hkE : k = r.paths.length := by omega
        subst hkE
        have e1 : lostL r.paths now nb r.paths.length = r.paths.map (lostP now nb) := by simp [lostL]
        have e2 : lostO r.paths now nb r.paths.length = (r.paths.filter (hitP now nb)).map lostS := by simp [lostO]
        rw [← e1, ← e2]
        repeat' (first | with_reducible apply True.intro | ((first | ((with_reducible apply Bif.dec) <;> intro h <;> (try simp only [lns] at h) <;> (try (exfalso; omega))) | (with_reducible apply Same.rfl) | (apply Same.int; focus rfl) | ((with_reducible apply Same.mk); focus omega) | (with_reducible apply Cut.l) | (with_reducible apply Frz.l)) <;> conv => whnf) | fail)
    · rw [lostM, if_pos h1, if_neg h2]
      dsimp only [reaO, reaH, List.cons_append, List.nil_append, rea0]
      refine spec_of_run ttok mixed (T0 := 144115195609890767) (ts := [.cell 6 32, .tmp 7, .tmp 8]) 88 rfl rfl rfl rfl (by simp) rfl ?_
      conv => whnf
      repeat' (first | with_reducible apply True.intro | ((first | (apply CallN.mk (c1)) | (apply CallN.mk (k_xisTime _)) | (with_reducible first | apply Bif.T | apply Bif.F) | ((with_reducible first | apply Bif.dec | apply Bif.beq) <;> intro h <;> (try simp only [lns] at h) <;> (try (exfalso; omega))) | (with_reducible apply Bif.not) | (with_reducible apply Same.rfl) | (apply Same.int; focus rfl) | (apply Same.rfl) | (with_reducible apply Frz.l)) <;> conv => whnf) | fail)
  · rw [lostM, if_neg h1]
    dsimp only [reaO, reaH, List.cons_append, List.nil_append, rea0]
    refine spec_of_run ttok mixed (T0 := 144115195609890767) (ts := [.cell 6 32, .tmp 7, .tmp 8]) 88 rfl rfl rfl rfl (by simp) rfl ?_
    conv => whnf
    cases hv : validX r
    · rw [hv] at c1
      repeat' (first | with_reducible apply True.intro | ((first | (apply CallN.mk (c1)) | (with_reducible first | apply Bif.T | apply Bif.F) | (with_reducible apply Bif.not) | (with_reducible apply Same.rfl) | (apply Same.int; focus rfl) | (apply Same.rfl) | (with_reducible apply Frz.l)) <;> conv => whnf) | fail)
    · rw [hv] at c1
      repeat' (first | with_reducible apply True.intro | ((first | (apply CallN.mk (c1)) | (with_reducible first | apply Bif.T | apply Bif.F) | ((with_reducible apply Bif.beq) <;> intro h <;> (try simp only [lns] at h) <;> (try ((refine absurd ⟨hv, ?_⟩ h1); (focus assumption)))) | (with_reducible apply Bif.not) | (with_reducible apply Same.rfl) | (apply Same.int; focus rfl) | (apply Same.rfl) | (with_reducible apply Frz.l)) <;> conv => whnf) | fail)
theorem tickS_succ {r : Rea} {now : Int} {k : Nat} (h : k < r.srch.length) : tickS r now (k + 1) = tickStep r.self (liveP r.paths now) now (tickS r now k) (gt r.srch k) := by
  rw [tickS, take_gt h, List.foldl_append]; rfl
theorem foldl_out {self now : Int} {l : List Pth} : ∀ (q : List Dsc) (s : TkS), (q.foldl (tickStep self l now) s).out.length ≤ s.out.length + q.length
  | [], s => by simp
  | x :: q, s => by
    rw [List.foldl_cons]
    refine Nat.le_trans (foldl_out q _) ?_
    unfold tickStep
    repeat' split
    all_goals simp
    all_goals omega
theorem tickS_out (r : Rea) (now : Int) (k : Nat) : (tickS r now k).out.length ≤ r.srch.length := by
  have := foldl_out (self := r.self) (now := now) (l := liveP r.paths now) (r.srch.take k) ⟨r.num, [], []⟩
  rw [tickS]
  refine Nat.le_trans this ?_
  simp; omega
theorem tickF_to {l : List Pth} {now : Int} {x y : Dsc} (e : tickF l now x = some y) : y.to = x.to := by
  unfold tickF at e
  split at e
  · cases e; rfl
  · split at e
    · cases e
    · cases e; rfl
theorem tickS_ok {r : Rea} {now : Int} (hr : ReaOK r) (k : Nat) (n : Int) : ReaOK ⟨r.self, n, liveP r.paths now, (tickS r now k).srch, liveP r.seen now⟩ := by
  refine ⟨fun x hx => hr.p x (List.mem_filter.1 hx).1, fun y hy => ?_, fun x hx => hr.s x (List.mem_filter.1 hx).1, Nat.le_trans (liveP_len _ _) hr.lp, ?_, Nat.le_trans (liveP_len _ _) hr.ls⟩
  · have hy : y ∈ (tickS r now k).srch := hy
    rw [tickS_srch] at hy
    obtain ⟨x, hx, e⟩ := List.mem_filterMap.1 hy
    rw [tickF_to e]
    exact hr.d x (List.mem_of_mem_take hx)
  · show (tickS r now k).srch.length ≤ _
    rw [tickS_srch]
    refine Nat.le_trans (List.length_filterMap_le _ _) (Nat.le_trans ?_ hr.ld)
    simp; omega
theorem k_xTick (r : Rea) (now : Int) (hr : ReaOK r) : Con Try.prog 33 [reaF r, int now] []
    (.tup [reaO (tickM r now).1 0 1 2, .ov 9 3 0 (tickM r now).2.1.length, int (tickM r now).2.2]) (reaH (tickM r now).1 ++ [.arr none 9 (lst sndV (tickM r now).2.1)]) := by
  have c1 := k_xValid r hr
  by_cases h1 : validX r = true
  · have hv := h1
    rw [hv] at c1
    by_cases h2 : isT now
    · rw [tickM, if_pos h1, if_pos h2]
      have n1 := hr.ld
      have c2 := k_currentOnly r.paths now hr.lp
      have c3 := k_currentOnly r.seen now hr.ls
      have hV := ReaV.of hr hv
      dsimp only [reaO, reaH, List.cons_append, List.nil_append]
      refine spec_of_run ttok mixed (T0 := 4505863075276279) (ts := [.cell 4 32, .tmp 5, .tmp 6]) 81 rfl rfl rfl rfl (by simp) rfl ?_
      conv => whnf
      repeat' (first | ((first | ((with_reducible apply Nm.mk); focus ((try simp only [lns]); exact rfl)) | (apply CallN.mk (c1)) | (apply CallN.mk (c2)) | (apply CallN.mk (c3)) | (apply CallN.mk (k_xisTime _)) | (with_reducible apply Bif.T) | ((with_reducible apply Bif.dec) <;> intro h <;> (try simp only [lns] at h) <;> (try (exfalso; omega))) | (with_reducible apply Bif.not) | (with_reducible apply Frz.l)) <;> conv => whnf) | fail)
      refine LoopN.adopt 8 9 rfl (by simp) ?_
      refine LoopN.adoptF 2 3 (.agg [.v (.int .u64 r.self), .v (.int .u16 r.num), .ov 6 3 0 (liveP r.paths now).length, .ov 3 6 0 0, .ov 6 4 0 (liveP r.seen now).length]) rfl (by simp) (.cons .rfl (.cons .rfl (.cons .rfl (.cons .nil (.cons .rfl .rfl))))) ?_
      refine loop_keep ttok mixed (T0 := 4505863075276279) [1, 2, 4, 7, 32, 33] (ι := {k : Nat // k ≤ r.srch.length})
        (fun k => [(8, .ov 9 5 0 (tickS r now k.1).out.length), (34, int (k.1 : Int))])
        (fun k => [.cells (reaF r), .cells (.agg [.v (.int .u64 0), .v (.int .u16 0), .v (.slice none 0 0), .v (.slice none 0 0), .v (.slice none 0 0)]), .cells (.agg [.v (.int .u64 r.self), .v (.int .u16 (tickS r now k.1).num), .ov 6 3 0 (liveP r.paths now).length, .ov 3 6 0 (tickS r now k.1).srch.length, .ov 6 4 0 (liveP r.seen now).length]), .arr none 6 (lst pthV (liveP r.paths now)), .arr none 6 (lst pthV (liveP r.seen now)), .arr none 9 (lst sndV (tickS r now k.1).out), .arr none 3 (lst dscV (tickS r now k.1).srch)]) (fun k => r.srch.length - k.1) ⟨0, by omega⟩ ?_
      conv => whnf
      repeat' (first | ((first | (with_reducible apply Same.rfl) | (apply Same.int; focus rfl) | (apply Same.ov; (focus rfl); focus rfl) | (apply Same.rfl) | (with_reducible apply Frz.l)) <;> conv => whnf) | fail)
      rintro ⟨k, hk⟩
      dsimp only
      have g1 := tickS_out r now k
      have g2 := (tickS_ok (now := now) hr k 0).ld
      have g2 : (tickS r now k).srch.length ≤ 1000000 := g2
      conv => whnf
      by_cases hkl : k < r.srch.length
      · have d1 := tickS_succ (now := now) hkl
        unfold tickStep at d1
        by_cases h3 : now < (gt r.srch k).again
        · rw [if_pos h3] at d1
          have e1 := congrArg TkS.num d1
          have e2 := congrArg TkS.srch d1
          have e3 := congrArg TkS.out d1
          dsimp only at e1 e2 e3
          have m2 := congrArg List.length e2
          rw [List.length_append, List.length_singleton] at m2
          have m3 := congrArg List.length e3
          repeat' (first | ((first | (with_reducible apply Nm.snoc _ (dsc_mk _ _ _)) | ((with_reducible apply Nm.mk); focus ((try simp only [lns]); exact rfl)) | ((with_reducible apply Wr.i64); focus omega) | ((with_reducible apply Need.mk); focus first | (simp only [lns]; omega) | (unfold roomOK; simp only [lns]; omega)) | ((with_reducible apply Elem.lst); focus omega) | ((with_reducible apply Bif.dec) <;> intro h <;> (try simp only [lns] at h) <;> (try (exfalso; omega))) | (with_reducible apply Alt.l) | (with_reducible apply Frz.l)) <;> conv => whnf) | fail)
          (refine ⟨⟨k + 1, by omega⟩, ?_⟩; (try dsimp only); conv => whnf); repeat' (first | with_reducible apply True.intro | ((with_reducible apply Same.mk); (focus (first | omega | (rw [e1]; done) | (rw [e2]; done) | (rw [e3]; done) | (rw [m2, e1]; done) | (rw [m2, e1]; rfl) | fail)); (conv => whnf)) | ((first | ((with_reducible apply Need.mk); focus omega) | (with_reducible apply Same.rfl) | (apply Same.int; focus rfl) | (with_reducible apply Turn.l) | (with_reducible apply Frz.l)) <;> conv => whnf) | fail)
        · rw [if_neg h3] at d1
          have c4 := k_usable _ now (gt r.srch k).to (tickS_ok (now := now) hr k (tickS r now k).num)
          dsimp only [reaF] at c4
          by_cases h4 : (gt r.srch k).left = 1 ∨ usbP (liveP r.paths now) now (gt r.srch k).to = true
          · rw [if_pos h4] at d1
            have e1 := congrArg TkS.num d1
            have e2 := congrArg TkS.srch d1
            have e3 := congrArg TkS.out d1
            have m2 := congrArg List.length e2
            have m3 := congrArg List.length e3
            by_cases h5 : (gt r.srch k).left = 1
            · repeat' (first | ((first | ((with_reducible apply Nm.mk); focus ((try simp only [lns]); exact rfl)) | ((with_reducible apply Wr.i64); focus omega) | ((with_reducible apply Need.mk); focus (simp only [lns]; omega)) | ((with_reducible apply Elem.lst); focus omega) | (with_reducible apply Bif.T) | ((with_reducible first | apply Bif.dec | apply Bif.beq) <;> intro h <;> (try simp only [lns] at h) <;> (try (exfalso; omega))) | (with_reducible apply Frz.l)) <;> conv => whnf) | fail)
              (refine ⟨⟨k + 1, by omega⟩, ?_⟩; (try dsimp only); conv => whnf); repeat' (first | with_reducible apply True.intro | ((with_reducible apply Same.mk); (focus (first | omega | (rw [e1]; done) | (rw [e2]; done) | (rw [e3]; done) | (rw [m2, e1]; done) | (rw [m2, e1]; rfl) | fail)); (conv => whnf)) | ((first | ((with_reducible apply Need.mk); focus omega) | (with_reducible apply Same.rfl) | (apply Same.int; focus rfl) | (with_reducible apply Turn.l) | (with_reducible apply Frz.l)) <;> conv => whnf) | fail)
            · have hu : usbP (liveP r.paths now) now (gt r.srch k).to = true := by simpa [h5] using h4
              rw [hu, if_pos rfl] at c4
              repeat' (first | ((first | ((with_reducible apply Nm.mk); focus ((try simp only [lns]); exact rfl)) | ((with_reducible apply Wr.i64); focus omega) | ((with_reducible apply Need.mk); focus first | (simp only [lns]; omega) | exact CleanP.nil rfl) | ((with_reducible apply Elem.lst); focus omega) | (apply CallN.mk (c4)) | (with_reducible apply Bif.F) | ((with_reducible first | apply Bif.dec | apply Bif.beq) <;> intro h <;> (try simp only [lns] at h) <;> (try (exfalso; omega))) | (with_reducible apply GiveN.lend) | (with_reducible apply Frz.l)) <;> conv => whnf) | fail)
              (refine ⟨⟨k + 1, by omega⟩, ?_⟩; (try dsimp only); conv => whnf); repeat' (first | with_reducible apply True.intro | ((with_reducible apply Same.mk); (focus (first | omega | (rw [e1]; done) | (rw [e2]; done) | (rw [e3]; done) | (rw [m2, e1]; done) | (rw [m2, e1]; rfl) | fail)); (conv => whnf)) | ((first | ((with_reducible apply Need.mk); focus omega) | (with_reducible apply Same.rfl) | (apply Same.int; focus rfl) | (with_reducible apply Turn.l) | (with_reducible apply Frz.l)) <;> conv => whnf) | fail)
          · rw [if_neg h4] at d1
            have h5 : (gt r.srch k).left ≠ 1 := fun h => h4 (.inl h)
            have hu : usbP (liveP r.paths now) now (gt r.srch k).to = false := by
              cases hh : usbP (liveP r.paths now) now (gt r.srch k).to
              · rfl
              · exact absurd (.inr hh) h4
            rw [hu, if_neg (by simp)] at c4
            have c5 := k_request _ now (gt r.srch k).to (tickS_ok (now := now) hr k (w16 ((tickS r now k).num + 1)))
            dsimp only [reaF] at c5
            have hD := (dscOK_iff.1 (okL_ok hV.iff.2.2.1 hkl)).2.1
            have e1 := congrArg TkS.num d1
            have e2 := congrArg TkS.srch d1
            have e3 := congrArg TkS.out d1
            dsimp only at e1 e2 e3
            have m2 := congrArg List.length e2
            rw [List.length_append, List.length_singleton] at m2
            have m3 := congrArg List.length e3
            rw [List.length_append, List.length_singleton] at m3
            repeat' (first | ((with_reducible apply Wr.w16); (conv => whnf)) | ((first | (with_reducible first | apply Nm.snoc _ (dsc_mk2 _ _ _) | apply Nm.snoc _ (snd_mk _ _)) | ((with_reducible apply Nm.mk); focus ((try simp only [lns]); exact rfl)) | ((with_reducible apply Wr.i64); focus omega) | ((with_reducible apply Need.mk); focus first | (simp only [lns]; omega) | exact CleanP.nil rfl | (unfold roomOK; simp only [lns]; omega)) | ((with_reducible apply Elem.lst); focus omega) | (apply CallN.mk (c4)) | (apply CallN.mk (c5)) | (apply CallN.mk (k_later _ _ h2 (by omega))) | (with_reducible apply Bif.F) | ((with_reducible first | apply Bif.dec | apply Bif.beq) <;> intro h <;> (try simp only [lns] at h) <;> (try (exfalso; omega))) | (with_reducible first | apply Alt.l | apply GiveN.lend) | (with_reducible apply Frz.l)) <;> conv => whnf) | fail)
            (refine ⟨⟨k + 1, by omega⟩, ?_⟩; (try dsimp only); conv => whnf); repeat' (first | with_reducible apply True.intro | ((with_reducible apply Same.mk); (focus (first | omega | (rw [e1]; done) | (rw [e2]; done) | (rw [e3]; done) | (rw [m2, e1]; done) | (rw [m2, e1]; rfl) | fail)); (conv => whnf)) | ((first | ((with_reducible apply Need.mk); focus omega) | (with_reducible apply Same.rfl) | (apply Same.int; focus rfl) | (apply Same.ov; (focus rfl); focus omega) | (with_reducible apply Turn.l) | (with_reducible apply Frz.l)) <;> conv => whnf) | fail)
      · have hkE : k = r.srch.length := by omega
        subst hkE
        repeat' (first | with_reducible apply True.intro | ((first | ((with_reducible apply Bif.dec) <;> intro h <;> (try simp only [lns] at h) <;> (try (exfalso; omega))) | (with_reducible apply Same.rfl) | (apply Same.int; focus rfl) | (with_reducible apply Cut.l) | (with_reducible apply Frz.l)) <;> conv => whnf) | fail)
    · rw [tickM, if_pos h1, if_neg h2]
      dsimp only [reaO, reaH, List.cons_append, List.nil_append, rea0]
      refine spec_of_run ttok mixed (T0 := 4505863075276279) (ts := [.cell 4 32, .tmp 5, .tmp 6]) 81 rfl rfl rfl rfl (by simp) rfl ?_
      conv => whnf
      repeat' (first | with_reducible apply True.intro | ((first | (apply CallN.mk (c1)) | (apply CallN.mk (k_xisTime _)) | (with_reducible apply Bif.T) | ((with_reducible apply Bif.dec) <;> intro h <;> (try simp only [lns] at h) <;> (try (exfalso; omega))) | (with_reducible apply Bif.not) | (with_reducible apply Same.rfl) | (apply Same.int; focus rfl) | (apply Same.rfl) | (with_reducible apply Frz.l)) <;> conv => whnf) | fail)
  · rw [tickM, if_neg h1]
    dsimp only [reaO, reaH, List.cons_append, List.nil_append, rea0]
    refine spec_of_run ttok mixed (T0 := 4505863075276279) (ts := [.cell 4 32, .tmp 5, .tmp 6]) 81 rfl rfl rfl rfl (by simp) rfl ?_
    conv => whnf
    have hv : validX r = false := by simpa using h1
    rw [hv] at c1
    repeat' (first | with_reducible apply True.intro | ((first | (apply CallN.mk (c1)) | (with_reducible apply Bif.F) | (with_reducible apply Bif.not) | (with_reducible apply Same.rfl) | (apply Same.int; focus rfl) | (apply Same.rfl) | (with_reducible apply Frz.l)) <;> conv => whnf) | fail)
end Go.Fw
