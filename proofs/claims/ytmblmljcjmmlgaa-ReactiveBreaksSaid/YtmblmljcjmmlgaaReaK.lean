/- Reactive, the reference: requests, replies, errors. -/
import Derived.Test.YtmblmljcjmmlgaaReaJ
namespace Go.Fw
open Go.Proofs
set_option maxHeartbeats 8000000
set_option maxRecDepth 4000
theorem seeM_ff {r : Rea} {now o : Int} {d : Dis} (h : (seeM r now o d).2 = false) : curP r.seen now o = true ∧ cmpD d (gt r.seen (atP r.seen o)).own ≠ -1 := by
  unfold seeM at h
  split at h
  · assumption
  · split at h <;> cases h
theorem seeM_tt {r : Rea} {now o : Int} {d : Dis} (h : (seeM r now o d).2 = true) : ¬ (curP r.seen now o = true ∧ cmpD d (gt r.seen (atP r.seen o)).own ≠ -1) := fun g => by
  rw [seeM, if_pos g] at h
  cases h
theorem k_yrequest (r : Rea) (now nb : Int) (d : Dis) (m : Msg) (H : ReqOK r now nb d m) (ho : m.org ≠ 0) (h0 : 0 ≤ m.org) (hh : 1 ≤ m.hops ∧ m.hops ≤ 32) :
    Con Try.prog 81 [reaO r 0 1 2, int now, .v (.int .u64 nb), disV d, msgV m] (reaH r)
      (.tup [reaO (hReq r now nb d m).1 0 1 2, .ov 9 3 0 (hReq r now nb d m).2.length]) (reaH (hReq r now nb d m).1 ++ [.arr none 9 (lst sndV (hReq r now nb d m).2)]) := by
  obtain ⟨hV, hn, hb, hd, hi⟩ := H
  by_cases h1 : m.org = r.self
  · rw [hReq, if_pos h1]
    dsimp only [reaO, reaH, List.cons_append, List.nil_append]
    refine spec_of_run ttok mixed (T0 := 1208927260766578653019967) (ts := [.cell 10 32, .tmp 11]) 93 rfl rfl rfl rfl (by simp) rfl ?_
    conv => whnf
    repeat' (first | with_reducible apply True.intro | ((first | ((with_reducible apply Bif.beq) <;> intro h <;> (try simp only [lns] at h) <;> (try (exfalso; omega))) | (with_reducible apply Same.rfl) | (apply Same.rfl) | (with_reducible apply Cut.l)) <;> conv => whnf) | fail)
  · have cc := k_Current r.seen now m.org hV.ss hV.ok.ls
    have v1 := seeM_rv (d := d) hV ho h0 h1 hn hd hi
    have s1 := seeM_self (r := r) (now := now) (o := m.org) (d := d)
    have s2 := seeM_num (r := r) (now := now) (o := m.org) (d := d)
    have sf := seeM_ff (r := r) (now := now) (o := m.org) (d := d)
    have st := seeM_tt (r := r) (now := now) (o := m.org) (d := d)
    have c1 := k_ysee r now m.org d hV hn
    rw [hReq, if_neg h1]
    generalize seeM r now m.org d = q at *
    obtain ⟨r1, b1⟩ := q
    dsimp only at c1 v1 s1 s2 sf st ⊢
    cases b1
    · obtain ⟨f1, f2⟩ := sf rfl
      simp only [if_true]
      rw [curV, f1, if_pos rfl] at cc
      generalize atP r.seen m.org = a at *
      dsimp only [reaO, reaH, List.cons_append, List.nil_append]
      refine spec_of_run ttok mixed (T0 := 1208927260766578653019967) (ts := [.cell 10 32, .tmp 11]) 93 rfl rfl rfl rfl (by simp) rfl ?_
      conv => whnf
      repeat' (first | with_reducible apply True.intro | ((first | ((with_reducible apply Nm.mk); focus ((try simp only [lns]); exact rfl)) | ((with_reducible apply Need.mk); focus first | (simp only [lns]; omega) | exact CleanP.nil rfl) | (apply CallN.mk (cc)) | (apply CallN.mk (k_refCompare _ _)) | (with_reducible apply Bif.T) | ((with_reducible first | apply Bif.beq | apply Bif.bne) <;> intro h <;> (try simp only [lns] at h) <;> (try (exfalso; omega))) | (with_reducible apply Same.rfl) | (apply Same.rfl) | (with_reducible first | apply Cut.l | apply GiveN.lend)) <;> conv => whnf) | fail)
    · have c1 := c1 rfl
      have st := st rfl
      have c2 := k_yoffer r1 now m.org nb d v1 hn
      have t1 := offM_self (r := r1) (now := now) (t := m.org) (nb := nb) (d := d)
      have t2 := offM_num (r := r1) (now := now) (t := m.org) (nb := nb) (d := d)
      generalize offM r1 now m.org nb d = q at *
      obtain ⟨r2, b2⟩ := q
      dsimp only at c2 t1 t2 ⊢
      rw [s1] at t1
      rw [s2] at t2
      simp only [Bool.true_eq_false, if_false]
      have c3 := k_refsqRaise r.num m.kn
      have ecv : curP r.seen now m.org = true → curV r.seen now m.org = gt r.seen (atP r.seen m.org) := fun h => by rw [curV, if_pos h]
      have st : curP r.seen now m.org = true → cmpD d (curV r.seen now m.org).own = -1 := fun h => by
        rw [ecv h]
        rcases Decidable.em (cmpD d (gt r.seen (atP r.seen m.org)).own = -1) with g | g
        · exact g
        · exact absurd ⟨h, g⟩ st
      clear ecv sf
      generalize curV r.seen now m.org = cv at *
      generalize curP r.seen now m.org = cp at *
      by_cases h2 : m.to = r.self
      · rw [if_pos h2]
        cases h3 : m.has
        · simp only [Bool.false_eq_true, if_false]
          rw [← t2, ← t1]
          rw [← t1] at h2
          dsimp only [reaO, reaH, List.cons_append, List.nil_append] at c1 c2 ⊢
          refine spec_of_run ttok mixed (T0 := 1208927260766578653019967) (ts := [.cell 10 32, .tmp 11]) 93 rfl rfl rfl rfl (by simp) rfl ?_
          conv => whnf
          repeat' (first | with_reducible apply True.intro | ((with_reducible apply GiveN.mk [0]); (conv => whnf); (first | (apply CallN.mk c1) | (apply CallN.mk c2) | fail); (conv => whnf)) | ((first | ((with_reducible apply Nm.mk); focus ((try simp only [lns]); exact rfl)) | ((with_reducible apply Need.mk); focus first | (simp only [lns]; omega) | exact CleanP.nil rfl | kernel_rfl) | (apply CallN.mk (cc)) | (apply CallN.mk (k_refCompare _ _)) | (with_reducible first | apply Bif.T | apply Bif.F) | ((with_reducible first | apply Bif.beq | apply Bif.bne) <;> intro h <;> (try simp only [lns] at h) <;> (try first | (exfalso; omega) | (simp_all; done))) | ((with_reducible apply Bif.mk) <;> intro h <;> (try (rw [h3] at h; cases h))) | (with_reducible apply Same.rfl) | (apply Same.rfl) | (with_reducible first | apply Cut.l | apply GiveN.lend)) <;> conv => whnf) | fail)
        · simp only [if_true]
          rw [← t2] at c3
          rw [← t2, ← t1]
          rw [← t1] at h2
          dsimp only [reaO, reaH, List.cons_append, List.nil_append] at c1 c2 ⊢
          refine spec_of_run ttok mixed (T0 := 1208927260766578653019967) (ts := [.cell 10 32, .tmp 11]) 93 rfl rfl rfl rfl (by simp) rfl ?_
          conv => whnf
          repeat' (first | with_reducible apply True.intro | ((with_reducible apply GiveN.mk [0]); (conv => whnf); (first | (apply CallN.mk c1) | (apply CallN.mk c2) | fail); (conv => whnf)) | ((first | ((with_reducible apply Nm.mk); focus ((try simp only [lns]); exact rfl)) | ((with_reducible apply Need.mk); focus first | (simp only [lns]; omega) | exact CleanP.nil rfl | kernel_rfl) | (apply CallN.mk (cc)) | (apply CallN.mk (k_refCompare _ _)) | (apply CallN.mk (c3)) | (with_reducible first | apply Bif.T | apply Bif.F) | ((with_reducible first | apply Bif.beq | apply Bif.bne) <;> intro h <;> (try simp only [lns] at h) <;> (try first | (exfalso; omega) | (simp_all; done))) | ((with_reducible apply Bif.mk) <;> intro h <;> (try (rw [h3] at h; cases h))) | (with_reducible apply Same.rfl) | (apply Same.int; focus rfl) | (apply Same.rfl) | (with_reducible first | apply Cut.l | apply GiveN.lend)) <;> conv => whnf) | fail)
      · rw [if_neg h2]
        rw [← t1] at h2
        by_cases h4 : m.hops ≤ 1
        · rw [if_pos h4]
          dsimp only [reaO, reaH, List.cons_append, List.nil_append] at c1 c2 ⊢
          refine spec_of_run ttok mixed (T0 := 1208927260766578653019967) (ts := [.cell 10 32, .tmp 11]) 93 rfl rfl rfl rfl (by simp) rfl ?_
          conv => whnf
          repeat' (first | with_reducible apply True.intro | ((with_reducible apply GiveN.mk [0]); (conv => whnf); (first | (apply CallN.mk c1) | (apply CallN.mk c2) | fail); (conv => whnf)) | ((first | ((with_reducible apply Nm.mk); focus ((try simp only [lns]); exact rfl)) | ((with_reducible apply Need.mk); focus first | (simp only [lns]; omega) | exact CleanP.nil rfl) | (apply CallN.mk (cc)) | (apply CallN.mk (k_refCompare _ _)) | (with_reducible first | apply Bif.T | apply Bif.F) | ((with_reducible first | apply Bif.dec | apply Bif.beq | apply Bif.bne) <;> intro h <;> (try simp only [lns] at h) <;> (try first | (exfalso; omega) | (simp_all; done))) | ((with_reducible apply Bif.mk) <;> intro h) | (with_reducible apply Same.rfl) | (apply Same.rfl) | (with_reducible first | apply Cut.l | apply GiveN.lend)) <;> conv => whnf) | fail)
        · rw [if_neg h4]
          dsimp only [reaO, reaH, List.cons_append, List.nil_append] at c1 c2 ⊢
          refine spec_of_run ttok mixed (T0 := 1208927260766578653019967) (ts := [.cell 10 32, .tmp 11]) 93 rfl rfl rfl rfl (by simp) rfl ?_
          conv => whnf
          repeat' (first | with_reducible apply True.intro | ((with_reducible apply GiveN.mk [0]); (conv => whnf); (first | (apply CallN.mk c1) | (apply CallN.mk c2) | fail); (conv => whnf)) | ((first | ((with_reducible apply Nm.mk); focus ((try simp only [lns]); exact rfl)) | ((with_reducible apply Wr.i64); focus omega) | ((with_reducible apply Need.mk); focus first | (simp only [lns]; omega) | exact CleanP.nil rfl | kernel_rfl) | (apply CallN.mk (cc)) | (apply CallN.mk (k_refCompare _ _)) | (with_reducible first | apply Bif.T | apply Bif.F) | ((with_reducible first | apply Bif.dec | apply Bif.beq | apply Bif.bne) <;> intro h <;> (try simp only [lns] at h) <;> (try first | (exfalso; omega) | (simp_all; done))) | ((with_reducible apply Bif.mk) <;> intro h) | (with_reducible apply Same.rfl) | (apply Same.rfl) | (with_reducible first | apply Cut.l | apply GiveN.lend)) <;> conv => whnf) | fail)
def srtD (l : List Dsc) : Prop := ∀ i j, i < j → j < l.length → (gt l i).to < (gt l j).to
theorem okD_srt {s : Int} {l : List Dsc} (h : okDs s l = true) : srtD l := fun i j hi hj => cmpI_lo.1 (okL_lt cmpI_ok2 h hi hj)
def fltD (l : List Dsc) (o : Int) : List Dsc := l.filter fun p => p.to != o
theorem fltD_snoc {l : List Dsc} {o : Int} {k : Nat} (hk : k < l.length) : fltD (l.take (k + 1)) o = fltD (l.take k) o ++ if (gt l k).to ≠ o then [gt l k] else [] := by
  rw [fltD, filter_snoc hk]
  congr 1
  by_cases h : (gt l k).to = o <;> simp [h]
theorem fltD_len (l : List Dsc) (o : Int) : (fltD l o).length ≤ l.length := List.length_filter_le _ _
theorem atD_lo {l : List Dsc} {t : Int} {j : Nat} (h : j < atD l t) : (gt l j).to < t := cmpI_lo.1 (atK_lo (cm := cmpI) (κ := Dsc.to) h)
theorem atD_ge {l : List Dsc} {t : Int} (h : atD l t < l.length) : t ≤ (gt l (atD l t)).to := by
  have := atK_ge (cm := cmpI) (κ := Dsc.to) h
  have h2 : ¬ (gt l (atD l t)).to < t := fun g => this (cmpI_lo.2 g)
  omega
theorem atD_hi {l : List Dsc} {t : Int} (hs : srtD l) {j : Nat} (h : atD l t < j) (hj : j < l.length) : t < (gt l j).to := by
  have h1 := atD_ge (l := l) (t := t) (by omega)
  have h2 := hs _ _ h hj
  omega
theorem findD_mem {l : List Dsc} (hs : srtD l) {x : Dsc} (hx : x ∈ l) : fndD l x.to = true := by
  obtain ⟨i, hi, rfl⟩ := List.getElem_of_mem hx
  rw [← gt_eq hi]
  have : atD l (gt l i).to = i := atI_eq (by omega) (fun j hj => hs j i hj hi) (fun _ => Int.le_refl _)
  exact fndD_iff.2 (by rw [this]; exact ⟨hi, rfl⟩)
theorem fltD_eq {l : List Dsc} {o : Int} (hs : srtD l) : fltD l o = delD l o := by
  cases hf : fndD l o
  · rw [delD, hf, if_neg (by simp)]
    refine List.filter_eq_self.2 fun x hx => ?_
    rw [bne_iff_ne]
    rintro rfl
    rw [findD_mem hs hx] at hf
    cases hf
  · rw [delD, hf, if_pos rfl]
    obtain ⟨h1, h2⟩ := fndD_iff.1 hf
    have e1 : (l.take (atD l o)).filter (fun p => p.to != o) = l.take (atD l o) := List.filter_eq_self.2 fun x hx => by
      obtain ⟨i, hi, rfl⟩ := List.getElem_of_mem hx
      have hi2 : i < atD l o := by rw [List.length_take] at hi; omega
      rw [← gt_eq hi, gt_take hi2, bne_iff_ne]
      have := atD_lo hi2
      omega
    have e2 : (l.drop (atD l o + 1)).filter (fun p => p.to != o) = l.drop (atD l o + 1) := List.filter_eq_self.2 fun x hx => by
      obtain ⟨i, hi, rfl⟩ := List.getElem_of_mem hx
      have hi2 : i < l.length - (atD l o + 1) := by rw [List.length_drop] at hi; omega
      rw [← gt_eq hi, gt_drop, bne_iff_ne]
      have := atD_hi (t := o) hs (j := atD l o + 1 + i) (by omega) (by omega)
      omega
    have e3 : l = l.take (atD l o) ++ gt l (atD l o) :: l.drop (atD l o + 1) := cut3 h1
    rw [fltD]
    conv => lhs; rw [e3]
    rw [List.filter_append, e1, List.filter_cons, if_neg (by simp [h2]), e2]
theorem k_yreply (r : Rea) (now nb : Int) (d : Dis) (m : Msg) (H : ReqOK r now nb d m) (ho : m.to ≠ 0) (h0 : 0 ≤ m.to) (hh : 1 ≤ m.hops ∧ m.hops ≤ 32) :
    Con Try.prog 82 [reaO r 0 1 2, int now, .v (.int .u64 nb), disV d, msgV m] (reaH r)
      (.tup [reaO (hRep r now nb d m).1 0 1 2, .ov 9 3 0 (hRep r now nb d m).2.length]) (reaH (hRep r now nb d m).1 ++ [.arr none 9 (lst sndV (hRep r now nb d m).2)]) := by
  obtain ⟨hV, hn, hb, hd, hi⟩ := H
  have c1 := k_yoffer r now m.to nb d hV hn
  have v1 := offM_rv (d := d) hV ho h0 hn hb hd
  have s1 := offM_self (r := r) (now := now) (t := m.to) (nb := nb) (d := d)
  have s2 := offM_srch (r := r) (now := now) (t := m.to) (nb := nb) (d := d)
  have s3 := offM_no (r := r) (now := now) (t := m.to) (nb := nb) (d := d)
  rw [hRep]
  generalize offM r now m.to nb d = q at *
  obtain ⟨r1, b1⟩ := q
  dsimp only at c1 v1 s1 s2 s3 ⊢
  cases b1
  · rw [s3 rfl] at c1
    simp only [if_true]
    dsimp only [reaO, reaH, List.cons_append, List.nil_append] at c1 ⊢
    refine spec_of_run ttok mixed (T0 := 1180591763551380815679) (ts := [.cell 10 32, .tmp 11]) 85 rfl rfl rfl rfl (by simp) rfl ?_
    conv => whnf
    repeat' (first | with_reducible apply True.intro | ((with_reducible apply GiveN.mk [0]); (conv => whnf); (apply CallN.mk c1); (conv => whnf)) | ((first | (with_reducible apply Bif.F) | (with_reducible apply Bif.not) | (with_reducible apply Same.rfl) | (apply Same.rfl) | (with_reducible apply Cut.l)) <;> conv => whnf) | fail)
  · simp only [Bool.true_eq_false, if_false]
    by_cases h1 : m.org = r.self
    · rw [if_pos h1]
      rw [← s2, ← fltD_eq (okD_srt v1.iff.2.2.1)]
      rw [← s1] at h1
      have n1 := v1.ok.ld
      dsimp only [reaO, reaH, List.cons_append, List.nil_append] at c1 ⊢
      refine spec_of_run ttok mixed (T0 := 1180591763551380815679) (ts := [.cell 10 32, .tmp 11]) 85 rfl rfl rfl rfl (by simp) rfl ?_
      conv => whnf
      repeat' (first | ((with_reducible apply GiveN.mk [0]); (conv => whnf); (apply CallN.mk c1); (conv => whnf)) | ((first | (with_reducible apply Bif.T) | ((with_reducible apply Bif.beq) <;> intro h <;> (try simp only [lns] at h) <;> (try (exfalso; omega))) | (with_reducible apply Bif.not)) <;> conv => whnf) | fail)
      refine LoopN.adopt 13 3 rfl (by simp) ?_
      refine loop_keep ttok mixed (T0 := 1180591763551380815679) [1, 2, 5, 8, 9, 10, 11, 37, 38] (ι := {k : Nat // k ≤ r1.srch.length})
        (fun k => [(13, .ov 3 10 0 (fltD (r1.srch.take k.1) m.to).length), (39, int (k.1 : Int))]) (fun k => [.gone, .gone, .gone, .cells (reaO r1 7 8 9), .cells (disV d), .cells (msgV m), .cells (.agg [.v (.int .u64 0), .v (.int .u16 0), .v (.slice none 0 0), .v (.slice none 0 0), .v (.slice none 0 0)]), .arr none 6 (lst pthV r1.paths), .arr none 3 (lst dscV r1.srch), .arr none 6 (lst pthV r1.seen), .arr none 3 (lst dscV (fltD (r1.srch.take k.1) m.to))]) (fun k => r1.srch.length - k.1) ⟨0, by omega⟩ ?_
      conv => whnf
      repeat' (first | ((first | (with_reducible apply Same.rfl) | (apply Same.int; focus rfl) | (apply Same.ov; (focus rfl); focus rfl) | (apply Same.rfl)) <;> conv => whnf) | fail)
      rintro ⟨k, hk⟩
      dsimp only
      have g1 := fltD_len (r1.srch.take k) m.to
      rw [List.length_take] at g1
      conv => whnf
      by_cases hkl : k < r1.srch.length
      · have d1 := fltD_snoc (o := m.to) hkl
        by_cases hu : (gt r1.srch k).to ≠ m.to
        · rw [if_pos hu] at d1
          have n1 := congrArg List.length d1
          rw [List.length_append, List.length_singleton] at n1
          repeat' (first | ((first | (with_reducible apply Nm.snoc _ (dsc_mk _ _ _)) | ((with_reducible apply Nm.mk); focus ((try simp only [lns]); exact rfl)) | ((with_reducible apply Wr.i64); focus omega) | ((with_reducible apply Need.mk); focus first | omega | (simp only [lns]; omega) | (unfold roomOK; simp only [lns]; omega)) | ((with_reducible apply Elem.lst); focus omega) | ((with_reducible first | apply Bif.dec | apply Bif.bne) <;> intro h <;> (try simp only [lns] at h) <;> (try (exfalso; omega))) | (with_reducible apply Alt.l)) <;> conv => whnf) | fail)
          (refine ⟨⟨k + 1, by omega⟩, ?_⟩; (try dsimp only); conv => whnf); repeat' (first | with_reducible apply True.intro | ((with_reducible apply Same.mk); (focus (first | omega | (rw [d1]; done) | fail)); (conv => whnf)) | ((first | ((with_reducible apply Need.mk); focus omega) | (with_reducible apply Same.rfl) | (apply Same.int; focus rfl) | (apply Same.ov; (focus rfl); focus omega) | (with_reducible apply Turn.l)) <;> conv => whnf) | fail)
        · rw [if_neg hu, List.append_nil] at d1
          have n1 := congrArg List.length d1
          repeat' (first | ((first | ((with_reducible apply Nm.mk); focus ((try simp only [lns]); exact rfl)) | ((with_reducible apply Wr.i64); focus omega) | ((with_reducible apply Need.mk); focus omega) | ((with_reducible apply Elem.lst); focus omega) | ((with_reducible first | apply Bif.dec | apply Bif.bne) <;> intro h <;> (try simp only [lns] at h) <;> (try (exfalso; omega)))) <;> conv => whnf) | fail)
          (refine ⟨⟨k + 1, by omega⟩, ?_⟩; (try dsimp only); conv => whnf); repeat' (first | with_reducible apply True.intro | ((with_reducible apply Same.mk); (focus (first | omega | (rw [d1]; done) | fail)); (conv => whnf)) | ((first | ((with_reducible apply Need.mk); focus omega) | (with_reducible apply Same.rfl) | (apply Same.int; focus rfl) | (with_reducible apply Turn.l)) <;> conv => whnf) | fail)
      · have hkE : k = r1.srch.length := by omega
        subst hkE
        rw [List.take_length]
        repeat' (first | with_reducible apply True.intro | ((first | ((with_reducible apply Bif.dec) <;> intro h <;> (try simp only [lns] at h) <;> (try (exfalso; omega))) | (with_reducible apply Same.rfl) | (apply Same.rfl) | (with_reducible apply Cut.l)) <;> conv => whnf) | fail)
    · rw [if_neg h1]
      rw [← s1] at h1
      have c2 := k_yusable r1 now m.org v1.sp v1.ok
      have hp1 := usbP_iff (l := r1.paths) (now := now) (t := m.org)
      cases hu : usbP r1.paths now m.org
      · rw [if_pos (.inl rfl)]
        rw [hu] at c2
        generalize curV r1.paths now m.org = cv at *
        dsimp only [reaO, reaH, List.cons_append, List.nil_append] at c1 ⊢
        refine spec_of_run ttok mixed (T0 := 1180591763551380815679) (ts := [.cell 10 32, .tmp 11]) 85 rfl rfl rfl rfl (by simp) rfl ?_
        conv => whnf
        repeat' (first | with_reducible apply True.intro | ((with_reducible apply GiveN.mk [0]); (conv => whnf); (apply CallN.mk c1); (conv => whnf)) | ((first | ((with_reducible apply Nm.mk); focus ((try simp only [lns]); exact rfl)) | ((with_reducible apply Need.mk); focus first | (simp only [lns]; omega) | exact CleanP.nil rfl) | (apply CallN.mk (c2)) | (with_reducible first | apply Bif.T | apply Bif.F) | ((with_reducible apply Bif.beq) <;> intro h <;> (try simp only [lns] at h) <;> (try (exfalso; omega))) | (with_reducible apply Bif.not) | (with_reducible apply Same.rfl) | (apply Same.rfl) | (with_reducible first | apply Cut.l | apply GiveN.lend)) <;> conv => whnf) | fail)
      · have hc : curP r1.paths now m.org = true := curP_iff.2 ⟨(hp1.1 hu).1, (hp1.1 hu).2.1⟩
        rw [hu, curV, hc, if_pos rfl] at c2
        by_cases h4 : m.hops ≤ 1
        · rw [if_pos (.inr h4)]
          dsimp only [reaO, reaH, List.cons_append, List.nil_append] at c1 ⊢
          refine spec_of_run ttok mixed (T0 := 1180591763551380815679) (ts := [.cell 10 32, .tmp 11]) 85 rfl rfl rfl rfl (by simp) rfl ?_
          conv => whnf
          repeat' (first | with_reducible apply True.intro | ((with_reducible apply GiveN.mk [0]); (conv => whnf); (apply CallN.mk c1); (conv => whnf)) | ((first | ((with_reducible apply Nm.mk); focus ((try simp only [lns]); exact rfl)) | ((with_reducible apply Need.mk); focus first | (simp only [lns]; omega) | exact CleanP.nil rfl) | (apply CallN.mk (c2)) | (with_reducible first | apply Bif.T | apply Bif.F) | ((with_reducible first | apply Bif.dec | apply Bif.beq) <;> intro h <;> (try simp only [lns] at h) <;> (try (exfalso; omega))) | (with_reducible apply Bif.not) | (with_reducible apply Same.rfl) | (apply Same.rfl) | (with_reducible first | apply Cut.l | apply GiveN.lend)) <;> conv => whnf) | fail)
        · rw [if_neg (by simp [h4])]
          generalize atP r1.paths m.org = a at *
          dsimp only [reaO, reaH, List.cons_append, List.nil_append] at c1 ⊢
          refine spec_of_run ttok mixed (T0 := 1180591763551380815679) (ts := [.cell 10 32, .tmp 11]) 85 rfl rfl rfl rfl (by simp) rfl ?_
          conv => whnf
          repeat' (first | with_reducible apply True.intro | ((with_reducible apply GiveN.mk [0]); (conv => whnf); (apply CallN.mk c1); (conv => whnf)) | ((first | ((with_reducible apply Nm.mk); focus ((try simp only [lns]); exact rfl)) | ((with_reducible apply Wr.i64); focus omega) | ((with_reducible apply Need.mk); focus first | (simp only [lns]; omega) | exact CleanP.nil rfl | kernel_rfl) | (apply CallN.mk (c2)) | (with_reducible first | apply Bif.T | apply Bif.F) | ((with_reducible first | apply Bif.dec | apply Bif.beq) <;> intro h <;> (try simp only [lns] at h) <;> (try (exfalso; omega))) | (with_reducible apply Bif.not) | (with_reducible apply Same.rfl) | (apply Same.rfl) | (with_reducible first | apply Cut.l | apply GiveN.lend)) <;> conv => whnf) | fail)
theorem k_broken (r : Rea) (now nb : Int) (m : Msg) (hV : ReaV r) (hh : 1 ≤ m.hops ∧ m.hops ≤ 32) :
    Con Try.prog 80 [reaO r 0 1 2, int now, .v (.int .u64 nb), msgV m] (reaH r)
      (.tup [reaO (hErr r now nb m).1 0 1 2, .ov 9 3 0 (hErr r now nb m).2.length]) (reaH (hErr r now nb m).1 ++ [.arr none 9 (lst sndV (hErr r now nb m).2)]) := by
  have hr := hV.ok
  have c2 := k_yusable r now m.to hV.sp hr
  have hp1 := usbP_iff (l := r.paths) (now := now) (t := m.to)
  have hk0 := fndP_iff (l := r.paths) (t := m.to)
  cases hu : usbP r.paths now m.to
  · rw [hErr, if_pos (.inl hu)]
    rw [hu] at c2
    generalize curV r.paths now m.to = cv at *
    dsimp only [reaO, reaH, List.cons_append, List.nil_append]
    refine spec_of_run ttok mixed (T0 := 288247968337760159) (ts := [.cell 8 32, .tmp 9]) 68 rfl rfl rfl rfl (by simp) rfl ?_
    conv => whnf
    repeat' (first | with_reducible apply True.intro | ((first | ((with_reducible apply Nm.mk); focus ((try simp only [lns]); exact rfl)) | ((with_reducible apply Need.mk); focus first | (simp only [lns]; omega) | exact CleanP.nil rfl) | (apply CallN.mk (c2)) | (with_reducible first | apply Bif.T | apply Bif.F) | (with_reducible apply Bif.not) | (with_reducible apply Same.rfl) | (apply Same.rfl) | (with_reducible first | apply Cut.l | apply GiveN.lend)) <;> conv => whnf) | fail)
  · obtain ⟨hl, ht⟩ := hk0.1 (hp1.1 hu).1
    have hc : curP r.paths now m.to = true := curP_iff.2 ⟨(hp1.1 hu).1, (hp1.1 hu).2.1⟩
    rw [hu, curV, hc, if_pos rfl] at c2
    by_cases h1 : (gt r.paths (atP r.paths m.to)).nx ≠ nb
    · rw [hErr, if_pos (.inr h1)]
      generalize atP r.paths m.to = a at *
      dsimp only [reaO, reaH, List.cons_append, List.nil_append]
      refine spec_of_run ttok mixed (T0 := 288247968337760159) (ts := [.cell 8 32, .tmp 9]) 68 rfl rfl rfl rfl (by simp) rfl ?_
      conv => whnf
      repeat' (first | with_reducible apply True.intro | ((first | ((with_reducible apply Nm.mk); focus ((try simp only [lns]); exact rfl)) | ((with_reducible apply Need.mk); focus first | (simp only [lns]; omega) | exact CleanP.nil rfl) | (apply CallN.mk (c2)) | (with_reducible first | apply Bif.T | apply Bif.F) | ((with_reducible apply Bif.bne) <;> intro h <;> (try simp only [lns] at h) <;> (try (exfalso; omega))) | (with_reducible apply Bif.not) | (with_reducible apply Same.rfl) | (apply Same.rfl) | (with_reducible first | apply Cut.l | apply GiveN.lend)) <;> conv => whnf) | fail)
    · rw [hErr, if_neg (by simp [hu, h1])]
      by_cases h2 : m.num ≠ (gt r.paths (atP r.paths m.to)).own.seq ∧ newer m.num (gt r.paths (atP r.paths m.to)).own.seq = false
      · rw [if_pos h2]
        generalize atP r.paths m.to = a at *
        have c3 := k_refNewer m.num (gt r.paths a).own.seq
        rw [h2.2] at c3
        have h3 := h2.1
        dsimp only [reaO, reaH, List.cons_append, List.nil_append]
        refine spec_of_run ttok mixed (T0 := 288247968337760159) (ts := [.cell 8 32, .tmp 9]) 68 rfl rfl rfl rfl (by simp) rfl ?_
        conv => whnf
        repeat' (first | with_reducible apply True.intro | ((first | ((with_reducible apply Nm.mk); focus ((try simp only [lns]); exact rfl)) | ((with_reducible apply Need.mk); focus first | (simp only [lns]; omega) | exact CleanP.nil rfl) | (apply CallN.mk (c2)) | (apply CallN.mk (c3)) | (with_reducible first | apply Bif.T | apply Bif.F) | ((with_reducible apply Bif.bne) <;> intro h <;> (try simp only [lns] at h) <;> (try (exfalso; omega))) | (with_reducible apply Bif.not) | (with_reducible apply Same.rfl) | (apply Same.rfl) | (with_reducible first | apply Cut.l | apply GiveN.lend)) <;> conv => whnf) | fail)
      · rw [if_neg h2]
        have c4 := k_rput r.paths (brk1 (gt r.paths (atP r.paths m.to)) m.num) hV.sp hr.lp
        have eP : putP r.paths (brk1 (gt r.paths (atP r.paths m.to)) m.num) = r.paths.set (atP r.paths m.to) (brk1 (gt r.paths (atP r.paths m.to)) m.num) := by
          have e : (brk1 (gt r.paths (atP r.paths m.to)) m.num).to = m.to := ht
          rw [putP, e, (hp1.1 hu).1, if_pos rfl]
        rw [eP] at c4
        generalize r.paths.set (atP r.paths m.to) (brk1 (gt r.paths (atP r.paths m.to)) m.num) = P at *
        generalize atP r.paths m.to = a at *
        unfold brk1 at c4
        by_cases h4 : m.hops ≤ 1
        · rw [if_pos h4]
          dsimp only [reaO, reaH, List.cons_append, List.nil_append]
          refine spec_of_run ttok mixed (T0 := 288247968337760159) (ts := [.cell 8 32, .tmp 9]) 68 rfl rfl rfl rfl (by simp) rfl ?_
          conv => whnf
          repeat' (first | with_reducible apply True.intro | ((first | ((with_reducible apply Nm.mk); focus ((try simp only [lns]); exact rfl)) | ((with_reducible apply Need.mk); focus first | (simp only [lns]; omega) | exact CleanP.nil rfl | exact CleanP.lst rfl (fun _ => rfl)) | (apply CallN.mk (c2)) | (apply CallN.mk (c4)) | (apply CallN.mk (k_refNewer _ _)) | (with_reducible first | apply Bif.T | apply Bif.F) | ((with_reducible first | apply Bif.dec | apply Bif.bne) <;> intro h <;> (try simp only [lns] at h) <;> (try (exfalso; omega))) | (with_reducible apply Bif.not) | ((with_reducible apply Bif.mk) <;> intro h <;> (try ((refine absurd ⟨?_, ?_⟩ h2); (focus assumption); (focus assumption)))) | (with_reducible apply Same.rfl) | (apply Same.rfl) | (with_reducible first | apply Cut.l | apply GiveN.lend)) <;> conv => whnf) | fail)
        · rw [if_neg h4]
          dsimp only [reaO, reaH, List.cons_append, List.nil_append]
          refine spec_of_run ttok mixed (T0 := 288247968337760159) (ts := [.cell 8 32, .tmp 9]) 68 rfl rfl rfl rfl (by simp) rfl ?_
          conv => whnf
          repeat' (first | with_reducible apply True.intro | ((first | ((with_reducible apply Nm.mk); focus ((try simp only [lns]); exact rfl)) | ((with_reducible apply Wr.i64); focus omega) | ((with_reducible apply Need.mk); focus first | (simp only [lns]; omega) | exact CleanP.nil rfl | exact CleanP.lst rfl (fun _ => rfl) | kernel_rfl) | (apply CallN.mk (c2)) | (apply CallN.mk (c4)) | (apply CallN.mk (k_refNewer _ _)) | (with_reducible first | apply Bif.T | apply Bif.F) | ((with_reducible first | apply Bif.dec | apply Bif.bne) <;> intro h <;> (try simp only [lns] at h) <;> (try (exfalso; omega))) | (with_reducible apply Bif.not) | ((with_reducible apply Bif.mk) <;> intro h <;> (try ((refine absurd ⟨?_, ?_⟩ h2); (focus assumption); (focus assumption)))) | (with_reducible apply Same.rfl) | (apply Same.rfl) | (with_reducible first | apply Cut.l | apply GiveN.lend)) <;> conv => whnf) | fail)
end Go.Fw
