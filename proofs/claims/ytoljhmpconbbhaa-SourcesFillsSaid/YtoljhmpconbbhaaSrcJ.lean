/- SourcesFills: the walk. -/
import Derived.Test.YtoljhmpconbbhaaSrcI
namespace Go.Fw
open Go.Proofs
set_option maxHeartbeats 8000000
set_option maxRecDepth 4000
def fe (i : Nat) : Src := ⟨toD i, ⟨0, 9⟩, ((i % 3 : Nat) : Int)⟩
def fl (k : Nat) : List Src := (List.range k).map fe
theorem fl_len (k : Nat) : (fl k).length = k := by simp [fl]
theorem fl_succ (k : Nat) : fl k ++ [⟨toD k, ⟨0, 9⟩, (k : Int).tmod 3⟩] = fl (k + 1) := by
  have e : (k : Int).tmod 3 = ((k % 3 : Nat) : Int) := by rw [Int.tmod_eq_emod_of_nonneg (by omega)]; omega
  rw [e, fl, fl, List.range_succ, List.map_append]; rfl
theorem fl_gt {k i : Nat} (h : i < k) : gt (fl k) i = fe i := by
  rw [gt_eq (by rw [fl_len]; exact h)]; simp [fl]
theorem fl_valid : validS (fl 256) = true := by decide +kernel
theorem fl_cur : (curS (fl 256) 1).length = 85 := by decide +kernel
def moreD : Dst := ⟨⟨toIP 0, 64⟩, pfx0, 4⟩
theorem more_valid : vDst moreD = true := by decide +kernel
theorem not_there {l : List Src} (h : ∀ s ∈ l, s.to.router = 3) : fndS l moreD = false := by
  cases hf : fndS l moreD with
  | false => rfl
  | true =>
    obtain ⟨h1, h2⟩ := (fndK_iff cmpT_ok).1 hf
    have := h _ (gt_mem h1)
    rw [h2] at this
    cases this
theorem fl_router : ∀ s ∈ fl 256, s.to.router = 3 := fun s hs => by
  simp only [fl, List.mem_map] at hs
  obtain ⟨i, _, rfl⟩ := hs
  rfl
theorem rec_there {d : Dis} {j : Nat} (hj : j < 256) (hd : okM d.metric = true ∧ d.metric ≠ 65535) : (recM (fl 256) 1 (toD j) d).2 = 0 ∧ (recM (fl 256) 1 (toD j) d).1.length = 256 := by
  have hk : (gt (fl 256) j).to = toD j := by rw [fl_gt hj]; rfl
  have hat : j = atS (fl 256) (toD j) := key_other cmpT_ok fl_valid (by rw [fl_len]; exact hj) hk
  have hf : fndS (fl 256) (toD j) = true := (fndK_iff cmpT_ok).2 ⟨by show atS _ _ < _; rw [← hat, fl_len]; exact hj, by show (gt (fl 256) (atS (fl 256) (toD j))).to = _; rw [← hat]; exact hk⟩
  have hv : vDst (toD j) = true := by
    have := (srcOK_iff.1 (srcOK_of fl_valid (i := j) (by rw [fl_len]; exact hj))).1
    rwa [hk] at this
  have e : recM (fl 256) 1 (toD j) d = ((fl 256).set (atS (fl 256) (toD j)) (recX (fl 256) 1 (toD j) d), 0) := by
    unfold recM
    rw [if_pos ⟨fl_valid, hv, hd.1, hd.2⟩, if_pos (by omega), if_pos hf]
  rw [e]
  exact ⟨rfl, by rw [List.length_set, fl_len]⟩
theorem rec_full {d : Dis} (hd : okM d.metric = true ∧ d.metric ≠ 65535) : recM (fl 256) 1 moreD d = ([], 10) := by
  unfold recM
  rw [if_pos ⟨fl_valid, more_valid, hd.1, hd.2⟩, if_pos (by omega), if_neg (by rw [not_there fl_router]; simp), if_pos (by rw [fl_len]; omega)]
theorem cur_valid : validS (curS (fl 256) 1) = true := okL_sub cmpT_ok fl_valid List.filter_sublist
theorem rec_room {d : Dis} (hd : okM d.metric = true ∧ d.metric ≠ 65535) : (recM (curS (fl 256) 1) 1 moreD d).2 = 0 := by
  have hf : fndS (curS (fl 256) 1) moreD = false := not_there fun s hs => fl_router s (List.mem_filter.1 hs).1
  unfold recM
  rw [if_pos ⟨cur_valid, more_valid, hd.1, hd.2⟩, if_pos (by omega), if_neg (by rw [hf]; simp), if_neg (by rw [fl_cur]; omega)]
theorem k_SourcesFills (n : Int) (d0 : Dis) : Con Try.prog 7 [int n, disV d0] [] (bool true) [] := by
  have m1 := modV_range (v := d0.metric) (n := 65535) (by omega)
  have m2 := modV_range (v := n) (n := 256) (by omega)
  have q1 := k_made_Mod d0.metric 65535 (by omega)
  have q2 := k_made_Mod n 256 (by omega)
  generalize modV d0.metric 65535 = me at *
  generalize modV n 256 = j at *
  have hd : okM (⟨d0.seq, me⟩ : Dis).metric = true ∧ (⟨d0.seq, me⟩ : Dis).metric ≠ 65535 := ⟨by rw [okM, decide_eq_true_eq]; dsimp only; omega, by dsimp only; omega⟩
  refine spec_of_run ttok mixed (T0 := 1072123) (ts := [.tmp 4]) 82 rfl rfl rfl rfl (by simp) rfl ?_
  conv => whnf
  repeat' (first | with_reducible apply True.intro | ((first | (with_reducible first | apply Nm.set _ (int_mk _) | apply Nm.snoc _ (int_mk _) | apply Nm.rep _ (int_mk _) | apply Nm.set _ (bool_mk _) | apply Nm.snoc _ (bool_mk _) | apply Nm.rep _ (bool_mk _) | apply Nm.set _ (rfl) | apply Nm.snoc _ (rfl) | apply Nm.rep _ (rfl)) | ((with_reducible apply Nm.mk); focus ((try simp only [lns, ipRows_take]); exact rfl)) | ((with_reducible first | apply Wr.i64 | apply Wr.u8 | apply Wr.u16 | apply Wr.u32 | apply Wr.u64); focus omega) | ((with_reducible apply Need.mk); focus first | omega | (simp only [lns, ipRows_take]; omega) | exact List.cons_ne_nil _ _ | exact CleanP.nil rfl | exact CleanP.cell rfl rfl | exact CleanP.lst rfl (fun _ => rfl) | kernel_rfl | (dsimp only; omega) | (unfold roomOK; simp only [lns, ipRows_take]; omega)) | ((with_reducible apply Elem.lst); focus first | omega | (simp only [lns, ipRows_take]; omega)) | (apply CallN.mk (q1)) | (with_reducible first | apply Bif.T | apply Bif.F) | ((with_reducible first | apply Bif.dec | apply Bif.beq | apply Bif.bne) <;> intro h <;> (try simp only [lns, ipRows_take] at h) <;> (try first | (exfalso; omega) | (exact absurd True.intro h))) | (with_reducible first | apply Bif.not | apply Bif.and | apply Bif.or) | ((with_reducible apply Bif.mk) <;> intro h <;> (try first | (exfalso; omega) | (exact absurd True.intro h))) | (with_reducible apply Same.rfl) | (apply Same.int; focus first | rfl | omega | (dsimp only; omega) | (simp only [lns, ipRows_take]; omega)) | (apply Same.bool; focus (with_reducible rfl)) | (apply Same.ov; (focus first | rfl | omega | (simp only [lns, ipRows_take]; omega)); focus first | rfl | omega | (simp only [lns, ipRows_take]; first | done | omega)) | ((with_reducible apply Same.mk); focus first | omega | (simp only [lns, ipRows_take]; omega)) | (apply Same.rfl) | (with_reducible first | apply Alt.l | apply Sl3.l | apply Cut.l | apply Turn.l | apply GiveN.lend)) <;> conv => whnf) | fail)
  refine LoopN.adopt 5 38 rfl (by simp) ?_
  refine loop_keep ttok mixed (T0 := 1072123) [0, 3] (ι := {k : Nat // k ≤ 256})
    (fun k => [(5, .ov 38 1 0 k.1), (6, int (k.1 : Int))]) (fun k => [.cells (disV ⟨d0.seq, me⟩), .arr none 38 (lst srcV (fl k.1))]) (fun k => 256 - k.1) ⟨0, by omega⟩ ?_
  conv => whnf
  repeat' (first | with_reducible apply True.intro | ((apply Same.mk rfl); conv => whnf) | ((first | (with_reducible first | apply Nm.set _ (int_mk _) | apply Nm.snoc _ (int_mk _) | apply Nm.rep _ (int_mk _) | apply Nm.set _ (bool_mk _) | apply Nm.snoc _ (bool_mk _) | apply Nm.rep _ (bool_mk _) | apply Nm.set _ (rfl) | apply Nm.snoc _ (rfl) | apply Nm.rep _ (rfl)) | ((with_reducible apply Nm.mk); focus ((try simp only [lns, ipRows_take]); exact rfl)) | ((with_reducible first | apply Wr.i64 | apply Wr.u8 | apply Wr.u16 | apply Wr.u32 | apply Wr.u64); focus omega) | ((with_reducible apply Need.mk); focus first | omega | (simp only [lns, ipRows_take]; omega) | exact List.cons_ne_nil _ _ | exact CleanP.nil rfl | exact CleanP.cell rfl rfl | exact CleanP.lst rfl (fun _ => rfl) | kernel_rfl | (dsimp only; omega) | (unfold roomOK; simp only [lns, ipRows_take]; omega)) | ((with_reducible apply Elem.lst); focus first | omega | (simp only [lns, ipRows_take]; omega)) | (with_reducible first | apply Bif.T | apply Bif.F) | ((with_reducible first | apply Bif.dec | apply Bif.beq | apply Bif.bne) <;> intro h <;> (try simp only [lns, ipRows_take] at h) <;> (try first | (exfalso; omega) | (exact absurd True.intro h))) | (with_reducible first | apply Bif.not | apply Bif.and | apply Bif.or) | ((with_reducible apply Bif.mk) <;> intro h <;> (try first | (exfalso; omega) | (exact absurd True.intro h))) | (with_reducible apply Same.rfl) | (apply Same.int; focus first | rfl | omega | (dsimp only; omega) | (simp only [lns, ipRows_take]; omega)) | (apply Same.bool; focus (with_reducible rfl)) | (apply Same.ov; (focus first | rfl | omega | (simp only [lns, ipRows_take]; omega)); focus first | rfl | omega | (simp only [lns, ipRows_take]; first | done | omega)) | ((with_reducible apply Same.mk); focus first | omega | (simp only [lns, ipRows_take]; omega)) | (apply Same.rfl) | (with_reducible first | apply Alt.l | apply Sl3.l | apply Cut.l | apply Turn.l | apply GiveN.lend)) <;> conv => whnf) | fail)
  rintro ⟨k, hk⟩
  dsimp only
  have hl := fl_len k
  conv => whnf
  by_cases hk2 : k < 256
  · have hs := fl_succ k
    repeat' (first | with_reducible apply True.intro | ((first | (with_reducible first | apply Nm.set _ (src_mk4 _ _ _ _) | apply Nm.snoc _ (src_mk4 _ _ _ _) | apply Nm.rep _ (src_mk4 _ _ _ _) | apply Nm.set _ (int_mk _) | apply Nm.snoc _ (int_mk _) | apply Nm.rep _ (int_mk _) | apply Nm.set _ (bool_mk _) | apply Nm.snoc _ (bool_mk _) | apply Nm.rep _ (bool_mk _) | apply Nm.set _ (rfl) | apply Nm.snoc _ (rfl) | apply Nm.rep _ (rfl)) | ((with_reducible apply Nm.mk); focus ((try simp only [lns, ipRows_take]); exact rfl)) | ((with_reducible first | apply Wr.i64 | apply Wr.u8 | apply Wr.u16 | apply Wr.u32 | apply Wr.u64); focus omega) | ((with_reducible apply Need.mk); focus first | omega | (simp only [lns, ipRows_take]; omega) | exact List.cons_ne_nil _ _ | exact CleanP.nil rfl | exact CleanP.cell rfl rfl | exact CleanP.lst rfl (fun _ => rfl) | kernel_rfl | (dsimp only; omega) | (unfold roomOK; simp only [lns, ipRows_take]; omega)) | ((with_reducible apply Elem.lst); focus first | omega | (simp only [lns, ipRows_take]; omega)) | (apply CallN.mk (k_to _ (by omega))) | (with_reducible first | apply Bif.T | apply Bif.F) | ((with_reducible first | apply Bif.dec | apply Bif.beq | apply Bif.bne) <;> intro h <;> (try simp only [lns, ipRows_take] at h) <;> (try first | (exfalso; omega) | (exact absurd True.intro h))) | (with_reducible first | apply Bif.not | apply Bif.and | apply Bif.or) | ((with_reducible apply Bif.mk) <;> intro h <;> (try first | (exfalso; omega) | (exact absurd True.intro h))) | (with_reducible apply Same.rfl) | (apply Same.int; focus first | rfl | omega | (dsimp only; omega) | (simp only [lns, ipRows_take]; omega)) | (apply Same.bool; focus (with_reducible rfl)) | (apply Same.ov; (focus first | rfl | omega | (simp only [lns, ipRows_take]; omega)); focus first | rfl | omega | (simp only [lns, ipRows_take]; first | done | omega)) | ((with_reducible apply Same.mk); focus first | omega | (simp only [lns, ipRows_take]; omega)) | (apply Same.rfl) | (with_reducible first | apply Alt.l | apply Sl3.l | apply Cut.l | apply Turn.l | apply GiveN.lend)) <;> conv => whnf) | fail)
    (refine ⟨⟨k + 1, by omega⟩, ?_⟩; (try dsimp only); conv => whnf); repeat' (first | with_reducible apply True.intro | ((with_reducible apply Same.mk); (focus (first | (rw [hs]; done) | (rw [hl]; done) | fail)); (conv => whnf)) | ((first | (with_reducible first | apply Nm.set _ (int_mk _) | apply Nm.snoc _ (int_mk _) | apply Nm.rep _ (int_mk _) | apply Nm.set _ (bool_mk _) | apply Nm.snoc _ (bool_mk _) | apply Nm.rep _ (bool_mk _) | apply Nm.set _ (rfl) | apply Nm.snoc _ (rfl) | apply Nm.rep _ (rfl)) | ((with_reducible apply Nm.mk); focus ((try simp only [lns, ipRows_take]); exact rfl)) | ((with_reducible first | apply Wr.i64 | apply Wr.u8 | apply Wr.u16 | apply Wr.u32 | apply Wr.u64); focus omega) | ((with_reducible apply Need.mk); focus first | omega | (simp only [lns, ipRows_take]; omega) | exact List.cons_ne_nil _ _ | exact CleanP.nil rfl | exact CleanP.cell rfl rfl | exact CleanP.lst rfl (fun _ => rfl) | kernel_rfl | (dsimp only; omega) | (unfold roomOK; simp only [lns, ipRows_take]; omega)) | ((with_reducible apply Elem.lst); focus first | omega | (simp only [lns, ipRows_take]; omega)) | (with_reducible first | apply Bif.T | apply Bif.F) | ((with_reducible first | apply Bif.dec | apply Bif.beq | apply Bif.bne) <;> intro h <;> (try simp only [lns, ipRows_take] at h) <;> (try first | (exfalso; omega) | (exact absurd True.intro h))) | (with_reducible first | apply Bif.not | apply Bif.and | apply Bif.or) | ((with_reducible apply Bif.mk) <;> intro h <;> (try first | (exfalso; omega) | (exact absurd True.intro h))) | (with_reducible apply Same.rfl) | (apply Same.int; focus first | rfl | omega | (dsimp only; omega) | (simp only [lns, ipRows_take]; omega)) | (apply Same.bool; focus (with_reducible rfl)) | (apply Same.ov; (focus first | rfl | omega | (simp only [lns, ipRows_take]; omega)); focus first | rfl | omega | (simp only [lns, ipRows_take]; first | done | omega)) | ((with_reducible apply Same.mk); focus first | omega | (simp only [lns, ipRows_take]; omega)) | (apply Same.rfl) | (with_reducible first | apply Alt.l | apply Sl3.l | apply Cut.l | apply Turn.l | apply GiveN.lend)) <;> conv => whnf) | fail)
  · obtain rfl : k = 256 := by omega
    have c1 := k_Record (fl 256) .no 1 (toD j) ⟨d0.seq, me⟩ (by omega)
    obtain ⟨e1, e2⟩ := rec_there (j := j.toNat) (by omega) hd
    rw [show ((j.toNat : Nat) : Int) = j by omega] at e1 e2
    have c2 := k_Record (fl 256) .no 1 moreD ⟨d0.seq, me⟩ (by omega)
    rw [rec_full hd] at c2
    have c3 := k_Expire (fl 256) .no 1 (by omega)
    rw [show expS (fl 256) 1 = curS (fl 256) 1 from if_pos ⟨fl_valid, by omega, by omega⟩] at c3
    have l3 := fl_cur
    have c4 := k_Record (curS (fl 256) 1) .no 1 moreD ⟨d0.seq, me⟩ (by omega)
    have e4 := rec_room hd
    generalize recM (fl 256) 1 (toD j) ⟨d0.seq, me⟩ = w1 at *
    generalize recM (curS (fl 256) 1) 1 moreD ⟨d0.seq, me⟩ = w4 at *
    generalize curS (fl 256) 1 = M at *
    obtain ⟨a1, b1⟩ := w1
    obtain ⟨a4, b4⟩ := w4
    dsimp only at c1 c2 e1 e2 c4 e4
    subst e1 e4
    generalize fl 256 = F at *
    have hT : F.take 256 = F := List.take_of_length_le (by omega)
    repeat' (first | with_reducible apply True.intro | ((first | (with_reducible first | apply Nm.set _ (int_mk _) | apply Nm.snoc _ (int_mk _) | apply Nm.rep _ (int_mk _) | apply Nm.set _ (bool_mk _) | apply Nm.snoc _ (bool_mk _) | apply Nm.rep _ (bool_mk _) | apply Nm.set _ (rfl) | apply Nm.snoc _ (rfl) | apply Nm.rep _ (rfl)) | ((with_reducible apply Nm.mk); focus ((try simp only [lns, ipRows_take, hT]); exact rfl)) | ((with_reducible first | apply Wr.i64 | apply Wr.u8 | apply Wr.u16 | apply Wr.u32 | apply Wr.u64); focus omega) | ((with_reducible apply Need.mk); focus first | omega | (simp only [lns, ipRows_take, hT]; omega) | exact List.cons_ne_nil _ _ | exact CleanP.nil rfl | exact CleanP.cell rfl rfl | exact CleanP.lst rfl (fun _ => rfl) | kernel_rfl | (dsimp only; omega) | (unfold roomOK; simp only [lns, ipRows_take, hT]; omega)) | ((with_reducible apply Elem.lst); focus first | omega | (simp only [lns, ipRows_take, hT]; omega)) | (apply CallN.mk (k_known)) | (apply CallN.mk (q2)) | (apply CallN.mk (k_to _ (by omega))) | (apply CallN.mk (c1)) | (apply CallN.mk (c2)) | (apply CallN.mk (c3)) | (apply CallN.mk (c4)) | (with_reducible first | apply Bif.T | apply Bif.F) | ((with_reducible first | apply Bif.dec | apply Bif.beq | apply Bif.bne) <;> intro h <;> (try simp only [lns, ipRows_take, hT] at h) <;> (try first | (exfalso; omega) | (exact absurd True.intro h))) | (with_reducible first | apply Bif.not | apply Bif.and | apply Bif.or) | ((with_reducible apply Bif.mk) <;> intro h <;> (try first | (exfalso; omega) | (exact absurd True.intro h))) | (with_reducible apply Same.rfl) | (apply Same.int; focus first | rfl | omega | (dsimp only; omega) | (simp only [lns, ipRows_take, hT]; omega)) | (apply Same.bool; focus (with_reducible rfl)) | (apply Same.ov; (focus first | rfl | omega | (simp only [lns, ipRows_take, hT]; omega)); focus first | rfl | omega | (simp only [lns, ipRows_take, hT]; first | done | omega)) | ((with_reducible apply Same.mk); focus first | omega | (simp only [lns, ipRows_take, hT]; omega)) | (apply Same.rfl) | (with_reducible first | apply Alt.l | apply Sl3.l | apply Cut.l | apply Turn.l | apply GiveN.lend)) <;> conv => whnf) | fail)
end Go.Fw
