/- Reactive, the reference: see, requests, replies, errors. -/
import Derived.Test.YtmblmljcjmmlgaaReaI
namespace Go.Fw
open Go.Proofs
set_option maxHeartbeats 8000000
set_option maxRecDepth 4000
def fltP (l : List Pth) (o : Int) : List Pth := l.filter fun p => p.to != o
theorem fltP_snoc {l : List Pth} {o : Int} {k : Nat} (hk : k < l.length) : fltP (l.take (k + 1)) o = fltP (l.take k) o ++ if (gt l k).to ≠ o then [gt l k] else [] := by
  rw [fltP, filter_snoc hk]
  congr 1
  by_cases h : (gt l k).to = o <;> simp [h]
theorem fltP_len (l : List Pth) (o : Int) : (fltP l o).length ≤ l.length := List.length_filter_le _ _
theorem flt_no {l : List Pth} {o : Int} (hs : srtP l) (hf : fndP l o = false) : fltP l o = l := by
  refine List.filter_eq_self.2 fun x hx => ?_
  rw [bne_iff_ne]
  rintro rfl
  rw [find_mem hs hx] at hf
  cases hf
theorem flt_yes {l : List Pth} {o : Int} (hs : srtP l) (hf : fndP l o = true) : fltP l o = delP l (atP l o) := by
  obtain ⟨h1, h2⟩ := fndP_iff.1 hf
  have e1 : (l.take (atP l o)).filter (fun p => p.to != o) = l.take (atP l o) := List.filter_eq_self.2 fun x hx => by
    obtain ⟨i, hi, rfl⟩ := List.getElem_of_mem hx
    have hi2 : i < atP l o := by rw [List.length_take] at hi; omega
    rw [← gt_eq hi, gt_take hi2, bne_iff_ne]
    have := at_lo hi2
    omega
  have e2 : (l.drop (atP l o + 1)).filter (fun p => p.to != o) = l.drop (atP l o + 1) := List.filter_eq_self.2 fun x hx => by
    obtain ⟨i, hi, rfl⟩ := List.getElem_of_mem hx
    have hi2 : i < l.length - (atP l o + 1) := by rw [List.length_drop] at hi; omega
    rw [← gt_eq hi, gt_drop, bne_iff_ne]
    have := at_hi (t := o) hs (j := atP l o + 1 + i) (by omega) (by omega)
    omega
  have e3 : l = l.take (atP l o) ++ gt l (atP l o) :: l.drop (atP l o + 1) := cut3 h1
  rw [fltP]
  conv => lhs; rw [e3]
  rw [List.filter_append, e1, List.filter_cons, if_neg (by simp [h2]), e2]; rfl
theorem delP_gt {l : List Pth} {i j : Nat} (hi : i < l.length) : gt (delP l i) j = if j < i then gt l j else gt l (j + 1) := by
  have hl : (l.take i).length = i := by simp; omega
  rw [delP, gt_app, hl]
  split
  · rename_i h; rw [gt_take h]
  · rw [gt_drop]; congr 1; omega
theorem put_del {l : List Pth} {x : Pth} (hs : srtP l) (hf : fndP l x.to = true) : putP (delP l (atP l x.to)) x = putP l x := by
  obtain ⟨h1, h2⟩ := fndP_iff.1 hf
  have hl := delP_len h1
  have e1 : atP (delP l (atP l x.to)) x.to = atP l x.to := by
    refine atI_eq (by rw [hl]; omega) (fun j hj => ?_) (fun h => ?_)
    · rw [delP_gt h1, if_pos hj]; exact at_lo hj
    · rw [delP_gt h1, if_neg (by omega)]
      rw [hl] at h
      have := at_hi (t := x.to) hs (j := atP l x.to + 1) (by omega) (by omega)
      omega
  have e2 : fndP (delP l (atP l x.to)) x.to = false := by
    rw [Bool.eq_false_iff]
    intro h
    obtain ⟨g1, g2⟩ := fndP_iff.1 h
    rw [e1, hl] at g1
    rw [e1, delP_gt h1, if_neg (by omega)] at g2
    have := at_hi (t := x.to) hs (j := atP l x.to + 1) (by omega) (by omega)
    omega
  rw [putP, e2, if_neg (by simp), e1, putP, hf, if_pos rfl, delP, List.set_eq_take_append_cons_drop, if_pos h1]
  have hL : (l.take (atP l x.to)).length = atP l x.to := by simp; omega
  rw [List.take_append_of_le_length (by omega), List.take_take, Nat.min_self, List.drop_append_of_le_length (by omega), List.drop_of_length_le (by omega)]
  simp
theorem delP_srt {l : List Pth} {i : Nat} (hs : srtP l) (hi : i < l.length) : srtP (delP l i) := fun a b hab hb => by
  rw [delP_len hi] at hb
  rw [delP_gt hi, delP_gt hi]
  repeat' split
  all_goals exact hs _ _ (by omega) (by omega)
theorem k_ysee (r : Rea) (now o : Int) (d : Dis) (hV : ReaV r) (hn : isT now) (hb : (seeM r now o d).2 = true) :
    Con Try.prog 92 [reaO r 0 1 2, int now, .v (.int .u64 o), disV d] (reaH r) (reaO (seeM r now o d).1 0 1 2) (reaH (seeM r now o d).1) := by
  have n1 := hV.ok.ls
  have n2 : r.seen.length ≤ 64 := okL_len hV.iff.2.2.2
  have hs := hV.ss
  have hA : ¬ (curP r.seen now o = true ∧ cmpD d (gt r.seen (atP r.seen o)).own ≠ -1) := fun h => by rw [seeM, if_pos h] at hb; cases hb
  clear hb
  rw [seeM, if_neg hA]
  clear hA
  have hF := fltP_len r.seen o
  have hlt := minP_lt (l := fltP r.seen o)
  by_cases hC : fndP r.seen o = false ∧ r.seen.length ≥ 64
  · rw [if_pos hC]
    have e := flt_no hs hC.1
    have hm := minP_lt (l := r.seen) (k := r.seen.length) (by omega) (Nat.le_refl _)
    have hl2 := delP_len hm
    have c2 := k_rput (delP r.seen (minP r.seen r.seen.length)) (seeX now o d) (delP_srt hs hm) (by omega)
    have hC2 := hC.2
    have eD : r.seen.take (minP r.seen r.seen.length) ++ r.seen.drop (minP r.seen r.seen.length + 1) = delP r.seen (minP r.seen r.seen.length) := rfl
    unfold seeX at *
    generalize putP (delP r.seen (minP r.seen r.seen.length)) ⟨o, 0, d, false, lat now 20⟩ = P at *
    dsimp only [reaO, reaH]
    refine spec_of_run ttok mixed (T0 := 281599548046239) (ts := [.cell 8 32]) 69 rfl rfl rfl rfl (by simp) rfl ?_
    conv => whnf
    skip
    refine LoopN.adopt 9 6 rfl (by simp) ?_
    refine loop_keep ttok mixed (T0 := 281599548046239) [1, 2, 4, 7, 8, 15, 16] (ι := {k : Nat // k ≤ r.seen.length})
      (fun k => [(9, .ov 6 6 0 (fltP (r.seen.take k.1) o).length), (17, int (k.1 : Int))]) (fun k => [.arr none 6 (lst pthV r.paths), .arr none 3 (lst dscV r.srch), .arr none 6 (lst pthV r.seen), .cells (reaO r 0 1 2), .cells (disV d), .cells (.agg [.v (.int .u64 0), .v (.int .u16 0), .v (.slice none 0 0), .v (.slice none 0 0), .v (.slice none 0 0)]), .arr none 6 (lst pthV (fltP (r.seen.take k.1) o))]) (fun k => r.seen.length - k.1) ⟨0, by omega⟩ ?_
    conv => whnf
    repeat' (first | ((first | (with_reducible apply Same.rfl) | (apply Same.int; focus rfl) | (apply Same.ov; (focus rfl); focus rfl) | (apply Same.rfl)) <;> conv => whnf) | fail)
    rintro ⟨k, hk⟩
    dsimp only
    have h1 := fltP_len (r.seen.take k) o
    rw [List.length_take] at h1
    conv => whnf
    by_cases hkl : k < r.seen.length
    · have d1 := fltP_snoc (o := o) hkl
      by_cases hu : (gt r.seen k).to ≠ o
      · rw [if_pos hu] at d1
        have n1 := congrArg List.length d1
        rw [List.length_append, List.length_singleton] at n1
        repeat' (first | ((first | (with_reducible apply Nm.snoc _ (pth_mk _ _ _ _ _)) | ((with_reducible apply Nm.mk); focus ((try simp only [lns]); exact rfl)) | ((with_reducible apply Wr.i64); focus omega) | ((with_reducible apply Need.mk); focus first | omega | (simp only [lns]; omega) | (unfold roomOK; simp only [lns]; omega)) | ((with_reducible apply Elem.lst); focus omega) | ((with_reducible first | apply Bif.dec | apply Bif.bne) <;> intro h <;> (try simp only [lns] at h) <;> (try (exfalso; omega))) | (with_reducible apply Alt.l)) <;> conv => whnf) | fail)
        (refine ⟨⟨k + 1, by omega⟩, ?_⟩; (try dsimp only); conv => whnf); repeat' (first | with_reducible apply True.intro | ((with_reducible apply Same.mk); (focus (first | omega | (rw [d1]; done) | fail)); (conv => whnf)) | ((first | ((with_reducible apply Need.mk); focus omega) | (with_reducible apply Same.rfl) | (apply Same.int; focus rfl) | (apply Same.ov; (focus rfl); focus omega) | (with_reducible apply Turn.l)) <;> conv => whnf) | fail)
      · rw [if_neg hu, List.append_nil] at d1
        have n1 := congrArg List.length d1
        repeat' (first | ((first | ((with_reducible apply Nm.mk); focus ((try simp only [lns]); exact rfl)) | ((with_reducible apply Wr.i64); focus omega) | ((with_reducible apply Need.mk); focus omega) | ((with_reducible apply Elem.lst); focus omega) | ((with_reducible first | apply Bif.dec | apply Bif.bne) <;> intro h <;> (try simp only [lns] at h) <;> (try (exfalso; omega)))) <;> conv => whnf) | fail)
        (refine ⟨⟨k + 1, by omega⟩, ?_⟩; (try dsimp only); conv => whnf); repeat' (first | with_reducible apply True.intro | ((with_reducible apply Same.mk); (focus (first | omega | (rw [d1]; done) | fail)); (conv => whnf)) | ((first | ((with_reducible apply Need.mk); focus omega) | (with_reducible apply Same.rfl) | (apply Same.int; focus rfl) | (with_reducible apply Turn.l)) <;> conv => whnf) | fail)
    · have hkE : k = r.seen.length := by omega
      subst hkE
      rw [List.take_length, e]
      repeat' (first | (((with_reducible first | apply Bif.dec | apply Bif.beq) <;> intro h <;> (try simp only [lns] at h) <;> (try (exfalso; omega))) <;> conv => whnf) | fail)
      refine loop_keep ttok mixed (T0 := 281599548046239) [1, 2, 4, 7, 8, 9, 34] (ι := {k : Nat // k ≤ r.seen.length})
        (fun k => [(12, int (minP r.seen k.1 : Int)), (35, int (k.1 : Int))]) (fun k => [.arr none 6 (lst pthV r.paths), .arr none 3 (lst dscV r.srch), .arr none 6 (lst pthV r.seen), .cells (reaO r 0 1 2), .cells (disV d), .cells (.agg [.v (.int .u64 0), .v (.int .u16 0), .v (.slice none 0 0), .v (.slice none 0 0), .v (.slice none 0 0)]), .arr none 6 (lst pthV r.seen)]) (fun k => r.seen.length - k.1) ⟨0, by omega⟩ ?_
      conv => whnf
      repeat' (first | ((first | (with_reducible apply Same.rfl) | (apply Same.int; focus rfl)) <;> conv => whnf) | fail)
      rintro ⟨k, hk⟩
      dsimp only
      conv => whnf
      by_cases hkl : k < r.seen.length
      · have hmk := minP_lt (l := r.seen) (k := k) (by omega) hk
        by_cases hu : (gt r.seen k).upto < (gt r.seen (minP r.seen k)).upto
        · have e : minP r.seen (k + 1) = k := by rw [minP, if_pos hu]
          repeat' (first | ((first | ((with_reducible apply Nm.mk); focus ((try simp only [lns]); exact rfl)) | ((with_reducible apply Wr.i64); focus omega) | ((with_reducible apply Need.mk); focus first | omega | kernel_rfl) | ((with_reducible apply Elem.lst); focus omega) | ((with_reducible apply Bif.dec) <;> intro h <;> (try simp only [lns] at h) <;> (try (exfalso; omega)))) <;> conv => whnf) | fail)
          (refine ⟨⟨k + 1, by omega⟩, ?_⟩; (try dsimp only); conv => whnf); repeat' (first | with_reducible apply True.intro | ((with_reducible apply Same.mk); (focus (first | (rw [e]; done) | (rw [e]; omega) | fail)); (conv => whnf)) | ((first | ((with_reducible apply Need.mk); focus omega) | (with_reducible apply Same.rfl) | (apply Same.int; focus rfl) | (with_reducible apply Turn.l)) <;> conv => whnf) | fail)
        · have e : minP r.seen (k + 1) = minP r.seen k := by rw [minP, if_neg hu]
          repeat' (first | ((first | ((with_reducible apply Nm.mk); focus ((try simp only [lns]); exact rfl)) | ((with_reducible apply Wr.i64); focus omega) | ((with_reducible apply Need.mk); focus first | omega | kernel_rfl) | ((with_reducible apply Elem.lst); focus omega) | ((with_reducible apply Bif.dec) <;> intro h <;> (try simp only [lns] at h) <;> (try (exfalso; omega)))) <;> conv => whnf) | fail)
          (refine ⟨⟨k + 1, by omega⟩, ?_⟩; (try dsimp only); conv => whnf); repeat' (first | with_reducible apply True.intro | ((apply Same.int); (focus (first | (rw [e]; done) | fail)); (conv => whnf)) | ((first | ((with_reducible apply Need.mk); focus omega) | (with_reducible apply Same.rfl) | (apply Same.int; focus rfl) | (with_reducible apply Turn.l)) <;> conv => whnf) | fail)
      · have hkE : k = r.seen.length := by omega
        subst hkE
        generalize minP r.seen r.seen.length = mi at *
        have ei : ((mi : Int) + 1).toNat = mi + 1 := by omega
        have eX : List.take (min mi r.seen.length + min (r.seen.length - (mi + 1)) (r.seen.length - (mi + 1))) (List.take mi r.seen ++ List.take (r.seen.length - (mi + 1)) (List.drop (mi + 1) r.seen)) = delP r.seen mi := by
          rw [List.take_of_length_le (l := List.drop (mi + 1) r.seen) (by simp), List.take_of_length_le (by simp)]; rfl
        rw [← eX] at c2
        repeat' (first | with_reducible apply True.intro | ((first | ((with_reducible apply Nm.mk); focus ((try simp only [lns, ei]); exact rfl)) | ((with_reducible apply Wr.i64); focus omega) | ((with_reducible apply Need.mk); focus first | omega | (simp only [lns, ei]; omega) | exact CleanP.lst rfl (fun _ => rfl) | kernel_rfl | (unfold roomOK; simp only [lns, ei]; omega)) | (apply CallN.mk (k_After _ _ hn (by omega))) | (apply CallN.mk (c2)) | ((with_reducible apply Bif.dec) <;> intro h <;> (try simp only [lns, ei] at h) <;> (try (exfalso; omega))) | (with_reducible apply Same.rfl) | (with_reducible first | apply Alt.l | apply Cut.l | apply GiveN.lend)) <;> conv => whnf) | fail)
  · rw [if_neg hC]
    have hput : putP (fltP r.seen o) (seeX now o d) = putP r.seen (seeX now o d) := by
      cases hf : fndP r.seen o
      · rw [flt_no hs hf]
      · rw [flt_yes hs hf]; exact put_del (x := seeX now o d) hs hf
    have h63 : (fltP r.seen o).length ≠ 64 := by
      cases hf : fndP r.seen o
      · rw [flt_no hs hf]; simp only [hf, true_and] at hC; omega
      · rw [flt_yes hs hf, delP_len (fndP_iff.1 hf).1]; omega
    have hsf : srtP (fltP r.seen o) := by
      cases hf : fndP r.seen o
      · rw [flt_no hs hf]; exact hs
      · rw [flt_yes hs hf]; exact delP_srt hs (fndP_iff.1 hf).1
    have c2 := k_rput (fltP r.seen o) (seeX now o d) hsf (by omega)
    rw [hput] at c2
    unfold seeX at *
    generalize putP r.seen ⟨o, 0, d, false, lat now 20⟩ = P at *
    dsimp only [reaO, reaH]
    refine spec_of_run ttok mixed (T0 := 281599548046239) (ts := [.cell 8 32]) 69 rfl rfl rfl rfl (by simp) rfl ?_
    conv => whnf
    skip
    refine LoopN.adopt 9 6 rfl (by simp) ?_
    refine loop_keep ttok mixed (T0 := 281599548046239) [1, 2, 4, 7, 8, 15, 16] (ι := {k : Nat // k ≤ r.seen.length})
      (fun k => [(9, .ov 6 6 0 (fltP (r.seen.take k.1) o).length), (17, int (k.1 : Int))]) (fun k => [.arr none 6 (lst pthV r.paths), .arr none 3 (lst dscV r.srch), .arr none 6 (lst pthV r.seen), .cells (reaO r 0 1 2), .cells (disV d), .cells (.agg [.v (.int .u64 0), .v (.int .u16 0), .v (.slice none 0 0), .v (.slice none 0 0), .v (.slice none 0 0)]), .arr none 6 (lst pthV (fltP (r.seen.take k.1) o))]) (fun k => r.seen.length - k.1) ⟨0, by omega⟩ ?_
    conv => whnf
    repeat' (first | ((first | (with_reducible apply Same.rfl) | (apply Same.int; focus rfl) | (apply Same.ov; (focus rfl); focus rfl) | (apply Same.rfl)) <;> conv => whnf) | fail)
    rintro ⟨k, hk⟩
    dsimp only
    have h1 := fltP_len (r.seen.take k) o
    rw [List.length_take] at h1
    conv => whnf
    by_cases hkl : k < r.seen.length
    · have d1 := fltP_snoc (o := o) hkl
      by_cases hu : (gt r.seen k).to ≠ o
      · rw [if_pos hu] at d1
        have n1 := congrArg List.length d1
        rw [List.length_append, List.length_singleton] at n1
        repeat' (first | ((first | (with_reducible apply Nm.snoc _ (pth_mk _ _ _ _ _)) | ((with_reducible apply Nm.mk); focus ((try simp only [lns]); exact rfl)) | ((with_reducible apply Wr.i64); focus omega) | ((with_reducible apply Need.mk); focus first | omega | (simp only [lns]; omega) | (unfold roomOK; simp only [lns]; omega)) | ((with_reducible apply Elem.lst); focus omega) | ((with_reducible first | apply Bif.dec | apply Bif.bne) <;> intro h <;> (try simp only [lns] at h) <;> (try (exfalso; omega))) | (with_reducible apply Alt.l)) <;> conv => whnf) | fail)
        (refine ⟨⟨k + 1, by omega⟩, ?_⟩; (try dsimp only); conv => whnf); repeat' (first | with_reducible apply True.intro | ((with_reducible apply Same.mk); (focus (first | omega | (rw [d1]; done) | fail)); (conv => whnf)) | ((first | ((with_reducible apply Need.mk); focus omega) | (with_reducible apply Same.rfl) | (apply Same.int; focus rfl) | (apply Same.ov; (focus rfl); focus omega) | (with_reducible apply Turn.l)) <;> conv => whnf) | fail)
      · rw [if_neg hu, List.append_nil] at d1
        have n1 := congrArg List.length d1
        repeat' (first | ((first | ((with_reducible apply Nm.mk); focus ((try simp only [lns]); exact rfl)) | ((with_reducible apply Wr.i64); focus omega) | ((with_reducible apply Need.mk); focus omega) | ((with_reducible apply Elem.lst); focus omega) | ((with_reducible first | apply Bif.dec | apply Bif.bne) <;> intro h <;> (try simp only [lns] at h) <;> (try (exfalso; omega)))) <;> conv => whnf) | fail)
        (refine ⟨⟨k + 1, by omega⟩, ?_⟩; (try dsimp only); conv => whnf); repeat' (first | with_reducible apply True.intro | ((with_reducible apply Same.mk); (focus (first | omega | (rw [d1]; done) | fail)); (conv => whnf)) | ((first | ((with_reducible apply Need.mk); focus omega) | (with_reducible apply Same.rfl) | (apply Same.int; focus rfl) | (with_reducible apply Turn.l)) <;> conv => whnf) | fail)
    · have hkE : k = r.seen.length := by omega
      subst hkE
      rw [List.take_length]
      repeat' (first | with_reducible apply True.intro | ((first | ((with_reducible apply Nm.mk); focus ((try simp only [lns]); exact rfl)) | ((with_reducible apply Need.mk); focus first | (simp only [lns]; omega) | exact CleanP.lst rfl (fun _ => rfl) | kernel_rfl) | (apply CallN.mk (k_After _ _ hn (by omega))) | (apply CallN.mk (c2)) | ((with_reducible first | apply Bif.dec | apply Bif.beq) <;> intro h <;> (try simp only [lns] at h) <;> (try (exfalso; omega))) | (with_reducible apply Same.rfl) | (with_reducible first | apply Cut.l | apply GiveN.lend)) <;> conv => whnf) | fail)
end Go.Fw
