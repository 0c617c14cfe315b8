/- Reactive, the reference: Seek. -/
import Derived.Test.YtmblmljcjmmlgaaReaL
namespace Go.Fw
open Go.Proofs
set_option maxHeartbeats 8000000
set_option maxRecDepth 4000
/-- The list that Seek makes, after k elements. -/
def outD (l : List Dsc) (x : Dsc) (k : Nat) : List Dsc := if k ≤ atD l x.to then l.take k else l.take (atD l x.to) ++ [x] ++ (l.take k).drop (atD l x.to)
theorem outD_le {l : List Dsc} {x : Dsc} {k : Nat} (h : k ≤ atD l x.to) : outD l x k = l.take k := if_pos h
theorem outD_gr {l : List Dsc} {x : Dsc} {k : Nat} (h : atD l x.to < k) : outD l x k = l.take (atD l x.to) ++ [x] ++ (l.take k).drop (atD l x.to) := if_neg (by omega)
theorem outD_lt {l : List Dsc} {x : Dsc} {k : Nat} (h : k < atD l x.to) : outD l x (k + 1) = outD l x k ++ [gt l k] := by
  have := atD_le l x.to
  rw [outD_le (by omega), outD_le (by omega), take_gt (by omega)]
theorem dropD_snoc {l : List Dsc} {a k : Nat} (h : k < l.length) (ha : a ≤ k) : (l.take (k + 1)).drop a = (l.take k).drop a ++ [gt l k] := by
  rw [take_gt h, List.drop_append_of_le_length (by simp; omega)]
theorem outD_at {l : List Dsc} {x : Dsc} (h : atD l x.to < l.length) : outD l x (atD l x.to + 1) = outD l x (atD l x.to) ++ [x] ++ [gt l (atD l x.to)] := by
  rw [outD_gr (by omega), outD_le (Nat.le_refl _), dropD_snoc h (Nat.le_refl _)]
  rw [List.drop_of_length_le (l := l.take (atD l x.to)) (by simp; omega), List.nil_append]
theorem outD_gt {l : List Dsc} {x : Dsc} {k : Nat} (h : atD l x.to < k) (hk : k < l.length) : outD l x (k + 1) = outD l x k ++ [gt l k] := by
  rw [outD_gr (by omega), outD_gr h, dropD_snoc hk (by omega), List.append_assoc, List.append_assoc, List.append_assoc]
theorem outD_end1 {l : List Dsc} {x : Dsc} (h : atD l x.to = l.length) : insD l x = outD l x l.length ++ [x] := by
  rw [insD, outD_le (by omega), h]
  simp
theorem outD_end2 {l : List Dsc} {x : Dsc} (h : atD l x.to < l.length) : insD l x = outD l x l.length := by
  rw [insD, outD_gr h, List.take_length]
theorem outD_len (l : List Dsc) (x : Dsc) (k : Nat) : (outD l x k).length ≤ l.length + 1 := by
  have := atD_le l x.to
  unfold outD
  repeat' split
  all_goals simp
  all_goals omega
theorem insD_len (l : List Dsc) (x : Dsc) : (insD l x).length = l.length + 1 := by
  have := atD_le l x.to
  simp [insD]; omega
theorem k_ySeek (r : Rea) (now t : Int) (hr : ReaOK r) (h0 : 0 ≤ t) : Con Try.prog 47 [reaF r, int now, .v (.int .u64 t)] []
    (.tup [reaO (seekM r now t).1 0 1 2, .ov 9 3 0 (seekM r now t).2.1.length, int (seekM r now t).2.2]) (reaH (seekM r now t).1 ++ [.arr none 9 (lst sndV (seekM r now t).2.1)]) := by
  have c1 := k_yValid r hr
  have c4 := k_Copy r hr
  by_cases h1 : validX r = true ∧ t ≠ 0 ∧ t ≠ r.self
  · obtain ⟨hv, ht, hs⟩ := id h1
    rw [hv] at c1
    have hV := ReaV.of hr hv
    have hsD := okD_srt hV.iff.2.2.1
    have n2 : r.srch.length ≤ 64 := okL_len hV.iff.2.2.1
    have c2 := k_yusable r now t hV.sp hr
    by_cases h2 : isT now
    · cases hu : usbP r.paths now t
      · rw [hu] at c2
        have hlo := fun j => atD_lo (l := r.srch) (t := t) (j := j)
        have hge := atD_ge (l := r.srch) (t := t)
        have hhi := fun j => atD_hi (l := r.srch) (t := t) (j := j) hsD
        have hfi := fndD_iff (l := r.srch) (t := t)
        have hle := atD_le r.srch t
        generalize curV r.paths now t = cv at *
        cases hf : fndD r.srch t
        · have hne : atD r.srch t < r.srch.length → (gt r.srch (atD r.srch t)).to ≠ t := fun h g => by rw [hfi.2 ⟨h, g⟩] at hf; cases hf
          obtain ⟨x, hx⟩ : ∃ x : Dsc, x = ⟨t, 3, lat now 8⟩ := ⟨_, rfl⟩
          have hxt : x.to = t := by rw [hx]
          have o1 := fun k => outD_lt (l := r.srch) (x := x) (k := k)
          have o3 := outD_at (l := r.srch) (x := x)
          have o4 := fun k => outD_gt (l := r.srch) (x := x) (k := k)
          have o5 := outD_end1 (l := r.srch) (x := x)
          have o6 := outD_end2 (l := r.srch) (x := x)
          have oL := outD_len r.srch x
          have iL := insD_len r.srch x
          have e0 : outD r.srch x 0 = [] := by rw [outD_le (Nat.zero_le _)]; rfl
          rw [hxt] at o1 o3 o4 o5 o6
          have eM : seekM r now t = if r.srch.length ≥ 64 then (rea0, [], 10) else ({ r with num := w16 (r.num + 1), srch := insD r.srch x }, [reqS r.self (w16 (r.num + 1)) r.paths now t], 0) := by
            rw [seekM, if_pos h1, if_pos h2, if_neg (by simp [hf, hu]), hx]
          have c6 : r.srch.length < 64 → Con Try.prog 78 [reaF { r with num := w16 (r.num + 1), srch := insD r.srch x }, int now, .v (.int .u64 t)] [] (sndV (reqS r.self (w16 (r.num + 1)) r.paths now t)) [] := fun h => by
            have o2 := seekM_rv (now := now) hr h0 (by rw [eM, if_neg (by omega)])
            rw [eM, if_neg (by omega)] at o2
            exact k_search _ now t o2.sp o2.ok
          dsimp only [reaF] at c6
          rw [eM]
          generalize insD r.srch x = P at *
          generalize atD r.srch t = a at *
          generalize outD r.srch x = R at *
          have wk : Con Try.prog 47 [reaF r, int now, .v (.int .u64 t)] [] (if r.srch.length ≥ 64 then (.tup [reaO rea0 0 1 2, .ov 9 3 0 0, int 10]) else (.tup [reaO { r with num := w16 (r.num + 1), srch := P } 0 1 2, .ov 9 3 0 1, int 0]))
              (if r.srch.length ≥ 64 then reaH rea0 ++ [.arr none 9 []] else reaH { r with num := w16 (r.num + 1), srch := P } ++ [.arr none 9 (lst sndV [reqS r.self (w16 (r.num + 1)) r.paths now t])]) := by
            dsimp only [reaF]
            refine spec_of_run ttok mixed (T0 := 77976011106406812683910607) (ts := [.cell 6 32, .tmp 7, .tmp 8]) 100 rfl rfl rfl rfl (by simp) rfl ?_
            conv => whnf
            repeat' (first | ((first | ((with_reducible apply Nm.mk); focus ((try simp only [lns]); exact rfl)) | ((with_reducible apply Need.mk); focus first | (simp only [lns]; omega) | exact CleanP.nil rfl) | (apply CallN.mk (c1)) | (apply CallN.mk (c2)) | (apply CallN.mk (c4)) | (apply CallN.mk (k_xIsTime _)) | (apply CallN.mk (k_After _ _ h2 (by omega))) | (with_reducible first | apply Bif.T | apply Bif.F) | ((with_reducible first | apply Bif.dec | apply Bif.beq) <;> intro h <;> (try simp only [lns] at h) <;> (try (exfalso; omega))) | (with_reducible apply Bif.not) | (with_reducible apply GiveN.lend)) <;> conv => whnf) | fail)
            refine LoopN.adopt 12 3 rfl (by simp) ?_
            refine loop_keep ttok mixed (T0 := 77976011106406812683910607) [1, 2, 3, 6, 11, 50, 51] (ι := {k : Nat // k ≤ r.srch.length})
              (fun k => [(12, .ov 3 7 0 (R k.1).length), (13, bool (decide (a < k.1))), (52, int (k.1 : Int))]) (fun k => [.cells (reaO r 2 3 4), .cells (.agg [.v (.int .u64 0), .v (.int .u16 0), .v (.slice none 0 0), .v (.slice none 0 0), .v (.slice none 0 0)]), .arr none 6 (lst pthV r.paths), .arr none 3 (lst dscV r.srch), .arr none 6 (lst pthV r.seen), .cells (pthV cv), .cells (dscV x), .arr none 3 (lst dscV (R k.1))]) (fun k => r.srch.length - k.1) ⟨0, by omega⟩ ?_
            conv => whnf
            repeat' (first | ((with_reducible apply Same.mk); (focus (first | (rw [e0]; done) | (rw [e0]; rfl) | (rw [hx]; rfl) | fail)); (conv => whnf)) | ((first | (with_reducible apply Same.rfl) | (apply Same.rfl)) <;> conv => whnf) | fail)
            rintro ⟨k, hk⟩
            dsimp only
            have oLk := oL k
            conv => whnf
            by_cases hkl : k < r.srch.length
            · rcases Nat.lt_trichotomy k a with ha | ha | ha
              · have d := o1 k ha
                have n1 := congrArg List.length d
                rw [List.length_append, List.length_singleton] at n1
                have := hlo k ha
                have e1 : decide (a < k) = false := decide_eq_false (by omega)
                have e2 : decide (a < k + 1) = false := decide_eq_false (by omega)
                rw [e1]
                repeat' (first | ((first | (with_reducible apply Nm.snoc _ (dsc_mk _ _ _)) | ((with_reducible apply Nm.mk); focus ((try simp only [lns]); exact rfl)) | ((with_reducible apply Wr.i64); focus omega) | ((with_reducible apply Need.mk); focus first | omega | (simp only [lns]; omega) | (unfold roomOK; simp only [lns]; omega)) | ((with_reducible apply Elem.lst); focus omega) | (with_reducible first | apply Bif.T | apply Bif.F) | ((with_reducible first | apply Bif.dec | apply Bif.beq) <;> intro h <;> (try simp only [lns] at h) <;> (try (exfalso; omega))) | (with_reducible apply Bif.not) | (with_reducible apply Alt.l)) <;> conv => whnf) | fail)
                (refine ⟨⟨k + 1, by omega⟩, ?_⟩; (try dsimp only); conv => whnf); repeat' (first | with_reducible apply True.intro | ((with_reducible apply Same.mk); (focus (first | omega | (rw [d]; done) | (rw [e2]; done) | (rw [e2]; rfl) | fail)); (conv => whnf)) | ((first | ((with_reducible apply Need.mk); focus omega) | (with_reducible apply Same.rfl) | (apply Same.int; focus rfl) | (apply Same.ov; (focus rfl); focus omega) | (with_reducible apply Turn.l)) <;> conv => whnf) | fail)
              · subst ha
                have e1 : decide (k < k) = false := decide_eq_false (by omega)
                have e2 : decide (k < k + 1) = true := decide_eq_true (by omega)
                have hge := hge hkl
                have hne := hne hkl
                rw [e1]
                have d := o3 hkl
                have n1 := congrArg List.length d
                rw [List.length_append, List.length_append, List.length_singleton, List.length_singleton] at n1
                repeat' (first | ((first | (with_reducible apply Nm.snoc _ (dsc_mk _ _ _)) | ((with_reducible apply Nm.mk); focus ((try simp only [lns]); exact rfl)) | ((with_reducible apply Wr.i64); focus omega) | ((with_reducible apply Need.mk); focus first | omega | (simp only [lns]; omega) | (unfold roomOK; simp only [lns]; omega)) | ((with_reducible apply Elem.lst); focus omega) | (with_reducible first | apply Bif.T | apply Bif.F) | ((with_reducible first | apply Bif.dec | apply Bif.beq) <;> intro h <;> (try simp only [lns] at h) <;> (try (exfalso; omega))) | (with_reducible apply Bif.not) | (with_reducible apply Alt.l)) <;> conv => whnf) | fail)
                (refine ⟨⟨k + 1, by omega⟩, ?_⟩; (try dsimp only); conv => whnf); repeat' (first | with_reducible apply True.intro | ((with_reducible apply Same.mk); (focus (first | omega | (rw [d]; done) | (rw [e2]; done) | (rw [e2]; rfl) | fail)); (conv => whnf)) | ((first | ((with_reducible apply Need.mk); focus omega) | (with_reducible apply Same.rfl) | (apply Same.int; focus rfl) | (apply Same.ov; (focus rfl); focus omega) | (with_reducible apply Turn.l)) <;> conv => whnf) | fail)
              · have d := o4 k ha hkl
                have n1 := congrArg List.length d
                rw [List.length_append, List.length_singleton] at n1
                have := hhi k ha hkl
                have e1 : decide (a < k) = true := decide_eq_true (by omega)
                have e2 : decide (a < k + 1) = true := decide_eq_true (by omega)
                rw [e1]
                repeat' (first | ((first | (with_reducible apply Nm.snoc _ (dsc_mk _ _ _)) | ((with_reducible apply Nm.mk); focus ((try simp only [lns]); exact rfl)) | ((with_reducible apply Wr.i64); focus omega) | ((with_reducible apply Need.mk); focus first | omega | (simp only [lns]; omega) | (unfold roomOK; simp only [lns]; omega)) | ((with_reducible apply Elem.lst); focus omega) | (with_reducible first | apply Bif.T | apply Bif.F) | ((with_reducible first | apply Bif.dec | apply Bif.beq) <;> intro h <;> (try simp only [lns] at h) <;> (try (exfalso; omega))) | (with_reducible apply Bif.not) | (with_reducible apply Alt.l)) <;> conv => whnf) | fail)
                (refine ⟨⟨k + 1, by omega⟩, ?_⟩; (try dsimp only); conv => whnf); repeat' (first | with_reducible apply True.intro | ((with_reducible apply Same.mk); (focus (first | omega | (rw [d]; done) | (rw [e2]; done) | (rw [e2]; rfl) | fail)); (conv => whnf)) | ((first | ((with_reducible apply Need.mk); focus omega) | (with_reducible apply Same.rfl) | (apply Same.int; focus rfl) | (apply Same.ov; (focus rfl); focus omega) | (with_reducible apply Turn.l)) <;> conv => whnf) | fail)
            · have hkE : k = r.srch.length := by omega
              subst hkE
              by_cases hfu : r.srch.length ≥ 64
              · rw [if_pos hfu, if_pos hfu]
                by_cases ha : a < r.srch.length
                · have e1 : decide (a < r.srch.length) = true := decide_eq_true ha
                  have d := o6 ha
                  have n1 := congrArg List.length d
                  rw [e1]
                  dsimp only [reaO, reaH, rea0, List.cons_append, List.nil_append]
                  repeat' (first | with_reducible apply True.intro | ((first | (with_reducible apply Bif.T) | ((with_reducible apply Bif.dec) <;> intro h <;> (try simp only [lns] at h) <;> (try (exfalso; omega))) | (with_reducible apply Bif.not) | (with_reducible apply Same.rfl) | (apply Same.int; focus rfl) | (apply Same.rfl)) <;> conv => whnf) | fail)
                · have e1 : decide (a < r.srch.length) = false := decide_eq_false ha
                  have d := o5 (by omega)
                  have n1 := congrArg List.length d
                  rw [List.length_append, List.length_singleton] at n1
                  rw [e1]
                  dsimp only [reaO, reaH, rea0, List.cons_append, List.nil_append]
                  repeat' (first | with_reducible apply True.intro | ((first | (with_reducible apply Nm.snoc _ (dsc_mk _ _ _)) | ((with_reducible apply Nm.mk); focus ((try simp only [lns]); exact rfl)) | ((with_reducible apply Need.mk); focus first | (simp only [lns]; omega) | (unfold roomOK; simp only [lns]; omega)) | (with_reducible apply Bif.F) | ((with_reducible apply Bif.dec) <;> intro h <;> (try simp only [lns] at h) <;> (try (exfalso; omega))) | (with_reducible apply Bif.not) | (with_reducible apply Same.rfl) | (apply Same.int; focus rfl) | (apply Same.rfl) | (with_reducible apply Alt.l)) <;> conv => whnf) | fail)
              · have c6 := c6 (by omega)
                rw [if_neg hfu, if_neg hfu]
                by_cases ha : a < r.srch.length
                · have e1 : decide (a < r.srch.length) = true := decide_eq_true ha
                  have d := o6 ha
                  have n1 := congrArg List.length d
                  rw [e1]
                  rw [d] at c6 ⊢
                  dsimp only [reaO, reaH, List.cons_append, List.nil_append]
                  repeat' (first | with_reducible apply True.intro | ((with_reducible apply Wr.w16); (conv => whnf)) | ((first | ((with_reducible apply Nm.mk); focus ((try simp only [lns]); exact rfl)) | ((with_reducible apply Need.mk); focus first | (simp only [lns]; omega) | exact CleanP.nil rfl | kernel_rfl) | (apply CallN.mk (c6)) | (with_reducible apply Bif.T) | ((with_reducible apply Bif.dec) <;> intro h <;> (try simp only [lns] at h) <;> (try (exfalso; omega))) | (with_reducible apply Bif.not) | (with_reducible apply Same.rfl) | (apply Same.int; focus rfl) | (apply Same.rfl) | (with_reducible first | apply Cut.l | apply GiveN.lend)) <;> conv => whnf) | fail)
                · have e1 : decide (a < r.srch.length) = false := decide_eq_false ha
                  have d := o5 (by omega)
                  have n1 := congrArg List.length d
                  rw [List.length_append, List.length_singleton] at n1
                  rw [e1]
                  rw [d] at c6 ⊢
                  have eT : List.take ((R r.srch.length).length + 1) (R r.srch.length ++ [x]) = R r.srch.length ++ [x] := List.take_of_length_le (by simp)
                  rw [← eT] at c6
                  dsimp only [reaO, reaH, List.cons_append, List.nil_append]
                  repeat' (first | with_reducible apply True.intro | ((with_reducible apply Wr.w16); (conv => whnf)) | ((with_reducible apply Same.mk); (focus (simp only [List.length_append, List.length_singleton]; done)); (conv => whnf)) | ((first | (with_reducible apply Nm.snoc _ (dsc_mk _ _ _)) | ((with_reducible apply Nm.mk); focus ((try simp only [lns]); exact rfl)) | ((with_reducible apply Need.mk); focus first | (simp only [lns]; omega) | exact CleanP.nil rfl | kernel_rfl | (unfold roomOK; simp only [lns]; omega)) | (apply CallN.mk (c6)) | (with_reducible apply Bif.F) | ((with_reducible apply Bif.dec) <;> intro h <;> (try simp only [lns] at h) <;> (try (exfalso; omega))) | (with_reducible apply Bif.not) | (apply Same.int; focus rfl) | (apply Same.rfl) | (with_reducible first | apply Alt.l | apply Cut.l | apply GiveN.lend)) <;> conv => whnf) | fail)
          by_cases hfu : r.srch.length ≥ 64
          · rw [if_pos hfu, if_pos hfu] at wk
            rw [if_pos hfu]
            exact wk
          · rw [if_neg hfu, if_neg hfu] at wk
            rw [if_neg hfu]
            exact wk
        · obtain ⟨ha, hat⟩ := hfi.1 hf
          rw [seekM, if_pos h1, if_pos h2, if_pos (.inl hf)]
          generalize atD r.srch t = a at *
          dsimp only [reaO, reaH, List.cons_append, List.nil_append]
          refine spec_of_run ttok mixed (T0 := 77976011106406812683910607) (ts := [.cell 6 32, .tmp 7, .tmp 8]) 100 rfl rfl rfl rfl (by simp) rfl ?_
          conv => whnf
          repeat' (first | ((first | ((with_reducible apply Nm.mk); focus ((try simp only [lns]); exact rfl)) | ((with_reducible apply Need.mk); focus first | (simp only [lns]; omega) | exact CleanP.nil rfl) | (apply CallN.mk (c1)) | (apply CallN.mk (c2)) | (apply CallN.mk (c4)) | (apply CallN.mk (k_xIsTime _)) | (apply CallN.mk (k_After _ _ h2 (by omega))) | (with_reducible first | apply Bif.T | apply Bif.F) | ((with_reducible first | apply Bif.dec | apply Bif.beq) <;> intro h <;> (try simp only [lns] at h) <;> (try (exfalso; omega))) | (with_reducible apply Bif.not) | (with_reducible apply GiveN.lend)) <;> conv => whnf) | fail)
          refine LoopN.adopt 12 3 rfl (by simp) ?_
          refine loop_keep ttok mixed (T0 := 77976011106406812683910607) [1, 2, 3, 6, 11, 13, 50, 51] (ι := {k : Nat // k ≤ a})
            (fun k => [(12, .ov 3 7 0 (r.srch.take k.1).length), (52, int (k.1 : Int))]) (fun k => [.cells (reaO r 2 3 4), .cells (.agg [.v (.int .u64 0), .v (.int .u16 0), .v (.slice none 0 0), .v (.slice none 0 0), .v (.slice none 0 0)]), .arr none 6 (lst pthV r.paths), .arr none 3 (lst dscV r.srch), .arr none 6 (lst pthV r.seen), .cells (pthV cv), .cells (dscV ⟨t, 3, lat now 8⟩), .arr none 3 (lst dscV (r.srch.take k.1))]) (fun k => a - k.1) ⟨0, by omega⟩ ?_
          conv => whnf
          repeat' (first | ((with_reducible apply Same.mk); (focus (first | rfl | fail)); (conv => whnf)) | fail)
          rintro ⟨k, hk⟩
          dsimp only
          have hlen : (r.srch.take k).length = k := by simp; omega
          conv => whnf
          by_cases hka : k < a
          · have d := take_gt (l := r.srch) (i := k) (by omega)
            have n1 := congrArg List.length d
            rw [List.length_append, List.length_singleton] at n1
            have := hlo k hka
            repeat' (first | ((first | (with_reducible apply Nm.snoc _ (dsc_mk _ _ _)) | ((with_reducible apply Nm.mk); focus ((try simp only [lns]); exact rfl)) | ((with_reducible apply Wr.i64); focus omega) | ((with_reducible apply Need.mk); focus first | omega | (simp only [lns]; omega) | (unfold roomOK; simp only [lns]; omega)) | ((with_reducible apply Elem.lst); focus omega) | (with_reducible first | apply Bif.T | apply Bif.F) | ((with_reducible first | apply Bif.dec | apply Bif.beq) <;> intro h <;> (try simp only [lns] at h) <;> (try (exfalso; omega))) | (with_reducible apply Bif.not) | (with_reducible apply Alt.l)) <;> conv => whnf) | fail)
            (refine ⟨⟨k + 1, by omega⟩, ?_⟩; (try dsimp only); conv => whnf); repeat' (first | with_reducible apply True.intro | ((with_reducible apply Same.mk); (focus (first | omega | (rw [d]; done) | fail)); (conv => whnf)) | ((first | ((with_reducible apply Need.mk); focus omega) | (with_reducible apply Same.rfl) | (apply Same.int; focus rfl) | (apply Same.ov; (focus rfl); focus omega) | (with_reducible apply Turn.l)) <;> conv => whnf) | fail)
          · have hkE : k = a := by omega
            subst hkE
            repeat' (first | with_reducible apply True.intro | ((first | ((with_reducible apply Nm.mk); focus ((try simp only [lns]); exact rfl)) | ((with_reducible apply Need.mk); focus omega) | ((with_reducible apply Elem.lst); focus omega) | ((with_reducible first | apply Bif.dec | apply Bif.beq) <;> intro h <;> (try simp only [lns] at h) <;> (try (exfalso; omega))) | (with_reducible apply Same.rfl) | (apply Same.int; focus rfl) | (apply Same.rfl) | (with_reducible apply Cut.l)) <;> conv => whnf) | fail)
      · rw [hu] at c2
        rw [seekM, if_pos h1, if_pos h2, if_pos (.inr hu)]
        generalize curV r.paths now t = cv at *
        dsimp only [reaO, reaH, List.cons_append, List.nil_append]
        refine spec_of_run ttok mixed (T0 := 77976011106406812683910607) (ts := [.cell 6 32, .tmp 7, .tmp 8]) 100 rfl rfl rfl rfl (by simp) rfl ?_
        conv => whnf
        repeat' (first | with_reducible apply True.intro | ((first | ((with_reducible apply Nm.mk); focus ((try simp only [lns]); exact rfl)) | ((with_reducible apply Need.mk); focus first | (simp only [lns]; omega) | exact CleanP.nil rfl) | (apply CallN.mk (c1)) | (apply CallN.mk (c2)) | (apply CallN.mk (c4)) | (apply CallN.mk (k_xIsTime _)) | (with_reducible first | apply Bif.T | apply Bif.F) | ((with_reducible first | apply Bif.dec | apply Bif.beq) <;> intro h <;> (try simp only [lns] at h) <;> (try (exfalso; omega))) | (with_reducible apply Bif.not) | (with_reducible apply Same.rfl) | (apply Same.int; focus rfl) | (apply Same.rfl) | (with_reducible first | apply Cut.l | apply GiveN.lend)) <;> conv => whnf) | fail)
    · rw [seekM, if_pos h1, if_neg h2]
      dsimp only [reaO, reaH, List.cons_append, List.nil_append, rea0]
      refine spec_of_run ttok mixed (T0 := 77976011106406812683910607) (ts := [.cell 6 32, .tmp 7, .tmp 8]) 100 rfl rfl rfl rfl (by simp) rfl ?_
      conv => whnf
      repeat' (first | with_reducible apply True.intro | ((first | (apply CallN.mk (c1)) | (apply CallN.mk (k_xIsTime _)) | (with_reducible first | apply Bif.T | apply Bif.F) | ((with_reducible first | apply Bif.dec | apply Bif.beq) <;> intro h <;> (try simp only [lns] at h) <;> (try (exfalso; omega))) | (with_reducible apply Bif.not) | (with_reducible apply Same.rfl) | (apply Same.int; focus rfl) | (apply Same.rfl)) <;> conv => whnf) | fail)
  · rw [seekM, if_neg h1]
    dsimp only [reaO, reaH, List.cons_append, List.nil_append, rea0]
    refine spec_of_run ttok mixed (T0 := 77976011106406812683910607) (ts := [.cell 6 32, .tmp 7, .tmp 8]) 100 rfl rfl rfl rfl (by simp) rfl ?_
    conv => whnf
    cases hv : validX r
    · rw [hv] at c1
      repeat' (first | with_reducible apply True.intro | ((first | (apply CallN.mk (c1)) | (with_reducible first | apply Bif.T | apply Bif.F) | (with_reducible apply Bif.not) | (with_reducible apply Same.rfl) | (apply Same.int; focus rfl) | (apply Same.rfl)) <;> conv => whnf) | fail)
    · rw [hv] at c1
      repeat' (first | with_reducible apply True.intro | ((first | (apply CallN.mk (c1)) | (with_reducible first | apply Bif.T | apply Bif.F) | ((with_reducible apply Bif.beq) <;> intro h <;> (try simp only [lns] at h) <;> (try ((refine absurd ⟨hv, ?_, ?_⟩ h1); (focus assumption); (focus assumption)))) | (with_reducible apply Bif.not) | (with_reducible apply Same.rfl) | (apply Same.int; focus rfl) | (apply Same.rfl)) <;> conv => whnf) | fail)
end Go.Fw
