/- Reactive, the reference: put, offer, see. -/
import Derived.Test.YtmblmljcjmmlgaaReaH
namespace Go.Fw
open Go.Proofs
set_option maxHeartbeats 8000000
set_option maxRecDepth 4000
/-! Sorted lists -/
theorem at_lo {l : List Pth} {t : Int} {j : Nat} (h : j < atP l t) : (gt l j).to < t := cmpI_lo.1 (atK_lo (cm := cmpI) (κ := Pth.to) h)
theorem at_ge {l : List Pth} {t : Int} (h : atP l t < l.length) : t ≤ (gt l (atP l t)).to := by
  have := atK_ge (cm := cmpI) (κ := Pth.to) h
  have h2 : ¬ (gt l (atP l t)).to < t := fun g => this (cmpI_lo.2 g)
  omega
theorem at_hi {l : List Pth} {t : Int} (hs : srtP l) {j : Nat} (h : atP l t < j) (hj : j < l.length) : t < (gt l j).to := by
  have h1 := at_ge (l := l) (t := t) (by omega)
  have h2 := hs _ _ h hj
  omega
theorem fnd_eq {l : List Pth} {t : Int} (h : atP l t < l.length) : fndP l t = decide ((gt l (atP l t)).to = t) := by
  rw [Bool.eq_iff_iff, decide_eq_true_eq, fndP_iff]
  exact ⟨fun h => h.2, fun g => ⟨h, g⟩⟩
/-- The list that put makes, after k elements. -/
def outR (l : List Pth) (x : Pth) (k : Nat) : List Pth :=
  if k ≤ atP l x.to then l.take k else l.take (atP l x.to) ++ [x] ++ (l.take k).drop (if fndP l x.to = true then atP l x.to + 1 else atP l x.to)
theorem outR_le {l : List Pth} {x : Pth} {k : Nat} (h : k ≤ atP l x.to) : outR l x k = l.take k := if_pos h
def dropR (l : List Pth) (x : Pth) : Nat := if fndP l x.to = true then atP l x.to + 1 else atP l x.to
theorem outR_gr {l : List Pth} {x : Pth} {k : Nat} (h : atP l x.to < k) : outR l x k = l.take (atP l x.to) ++ [x] ++ (l.take k).drop (dropR l x) := if_neg (by omega)
theorem outR_lt {l : List Pth} {x : Pth} {k : Nat} (h : k < atP l x.to) : outR l x (k + 1) = outR l x k ++ [gt l k] := by
  have := atP_le l x.to
  rw [outR_le (by omega), outR_le (by omega), take_gt (by omega)]
theorem drop_snoc {l : List Pth} {a k : Nat} (h : k < l.length) (ha : a ≤ k) : (l.take (k + 1)).drop a = (l.take k).drop a ++ [gt l k] := by
  rw [take_gt h, List.drop_append_of_le_length (by simp; omega)]
theorem outR_at1 {l : List Pth} {x : Pth} (h : atP l x.to < l.length) (hf : fndP l x.to = true) : outR l x (atP l x.to + 1) = outR l x (atP l x.to) ++ [x] := by
  rw [outR_gr (by omega), outR_le (Nat.le_refl _), dropR, if_pos hf]
  rw [List.drop_of_length_le (by simp; omega), List.append_nil]
theorem outR_at2 {l : List Pth} {x : Pth} (h : atP l x.to < l.length) (hf : fndP l x.to = false) : outR l x (atP l x.to + 1) = outR l x (atP l x.to) ++ [x] ++ [gt l (atP l x.to)] := by
  rw [outR_gr (by omega), outR_le (Nat.le_refl _), dropR, if_neg (by simp [hf]), drop_snoc h (Nat.le_refl _)]
  rw [List.drop_of_length_le (l := l.take (atP l x.to)) (by simp; omega), List.nil_append]
theorem outR_gt {l : List Pth} {x : Pth} {k : Nat} (h : atP l x.to < k) (hk : k < l.length) : outR l x (k + 1) = outR l x k ++ [gt l k] := by
  rw [outR_gr (by omega), outR_gr h, drop_snoc hk (by unfold dropR; split <;> omega), List.append_assoc, List.append_assoc, List.append_assoc]
theorem outR_end1 {l : List Pth} {x : Pth} (h : atP l x.to = l.length) : putP l x = outR l x l.length ++ [x] := by
  have hf : fndP l x.to = false := by
    rw [Bool.eq_false_iff]; intro hf
    have := (fndP_iff.1 hf).1
    omega
  rw [putP, if_neg (by simp [hf]), outR_le (by omega), h]
  simp
theorem outR_end2 {l : List Pth} {x : Pth} (h : atP l x.to < l.length) : putP l x = outR l x l.length := by
  rw [putP, outR_gr h, List.take_length, dropR]
  cases hf : fndP l x.to
  · simp
  · simp only [if_true]
    rw [List.set_eq_take_append_cons_drop, if_pos h]
    simp
theorem outR_len (l : List Pth) (x : Pth) (k : Nat) : (outR l x k).length ≤ l.length + 1 := by
  have := atP_le l x.to
  unfold outR
  repeat' split
  all_goals simp
  all_goals omega
theorem k_rput (l : List Pth) (x : Pth) (hs : srtP l) (hl : l.length ≤ 1000000) : Con Try.prog 91 [.fs .no 6 (lst pthV l), pthV x] [] (.ov 6 0 0 (putP l x).length) [.arr none 6 (lst pthV (putP l x))] := by
  have h2 := atP_le l x.to
  have hlo := fun j => at_lo (l := l) (t := x.to) (j := j)
  have hge := at_ge (l := l) (t := x.to)
  have hhi := fun j => at_hi (l := l) (t := x.to) (j := j) hs
  have hfe := fnd_eq (l := l) (t := x.to)
  have o1 := fun k => outR_lt (l := l) (x := x) (k := k)
  have o2 := outR_at1 (l := l) (x := x)
  have o3 := outR_at2 (l := l) (x := x)
  have o4 := fun k => outR_gt (l := l) (x := x) (k := k)
  have o5 := outR_end1 (l := l) (x := x)
  have o6 := outR_end2 (l := l) (x := x)
  have oL := outR_len l x
  have e0 : outR l x 0 = [] := by rw [outR, if_pos (Nat.zero_le _)]; rfl
  generalize putP l x = P at *
  generalize fndP l x.to = f at *
  generalize atP l x.to = a at *
  generalize outR l x = R at *
  refine spec_of_run ttok mixed (T0 := 554059177851) (ts := [.tmp 4]) 45 rfl rfl rfl rfl (by simp) rfl ?_
  conv => whnf
  repeat' (first | (((with_reducible apply Nm.mk); focus ((try simp only [lns]); exact rfl)) <;> conv => whnf) | fail)
  refine LoopN.adopt 5 6 rfl (by simp) ?_
  refine loop_keep ttok mixed (T0 := 554059177851) [0, 3, 9, 10] (ι := {k : Nat // k ≤ l.length})
    (fun k => [(5, .ov 6 1 0 (R k.1).length), (6, bool (decide (a < k.1))), (11, int (k.1 : Int))]) (fun k => [.cells (pthV x), .arr none 6 (lst pthV (R k.1))]) (fun k => l.length - k.1) ⟨0, by omega⟩ ?_
  conv => whnf
  repeat' (first | ((with_reducible apply Same.mk); (focus (first | (rw [e0]; done) | (rw [e0]; rfl) | fail)); (conv => whnf)) | ((first | (with_reducible apply Same.rfl) | (apply Same.int; focus rfl) | (apply Same.rfl)) <;> conv => whnf) | fail)
  rintro ⟨k, hk⟩
  dsimp only
  have oLk := oL k
  conv => whnf
  by_cases hkl : k < l.length
  · rcases Nat.lt_trichotomy k a with ha | ha | ha
    · have d := o1 k ha
      have n1 := congrArg List.length d
      rw [List.length_append, List.length_singleton] at n1
      have := hlo k ha
      have e1 : decide (a < k) = false := decide_eq_false (by omega)
      have e2 : decide (a < k + 1) = false := decide_eq_false (by omega)
      rw [e1]
      repeat' (first | ((first | (with_reducible apply Nm.snoc _ (pth_mk _ _ _ _ _)) | ((with_reducible apply Nm.mk); focus ((try simp only [lns]); exact rfl)) | ((with_reducible apply Wr.i64); focus omega) | ((with_reducible apply Need.mk); focus first | (simp only [lns]; omega) | (unfold roomOK; simp only [lns]; omega)) | ((with_reducible apply Elem.lst); focus omega) | (with_reducible apply Bif.F) | ((with_reducible first | apply Bif.dec | apply Bif.bne) <;> intro h <;> (try simp only [lns] at h) <;> (try (exfalso; omega))) | (with_reducible apply Alt.l)) <;> conv => whnf) | fail)
      (refine ⟨⟨k + 1, by omega⟩, ?_⟩; (try dsimp only); conv => whnf); repeat' (first | with_reducible apply True.intro | ((with_reducible apply Same.mk); (focus (first | omega | (rw [d]; done) | (rw [e2]; done) | (rw [e2]; rfl) | fail)); (conv => whnf)) | ((first | ((with_reducible apply Need.mk); focus omega) | (with_reducible apply Same.rfl) | (apply Same.int; focus rfl) | (apply Same.ov; (focus rfl); focus omega) | (with_reducible apply Turn.l)) <;> conv => whnf) | fail)
    · subst ha
      have e1 : decide (k < k) = false := decide_eq_false (by omega)
      have e2 : decide (k < k + 1) = true := decide_eq_true (by omega)
      have hge := hge hkl
      rw [e1]
      cases f
      · have d := o3 hkl rfl
        have n1 := congrArg List.length d
        rw [List.length_append, List.length_append, List.length_singleton, List.length_singleton] at n1
        have hne : (gt l k).to ≠ x.to := fun h => by have := hfe hkl; rw [h] at this; simp at this
        repeat' (first | ((first | (with_reducible apply Nm.snoc _ (pth_mk _ _ _ _ _)) | ((with_reducible apply Nm.mk); focus ((try simp only [lns]); exact rfl)) | ((with_reducible apply Wr.i64); focus omega) | ((with_reducible apply Need.mk); focus first | (simp only [lns]; omega) | (unfold roomOK; simp only [lns]; omega)) | ((with_reducible apply Elem.lst); focus omega) | (with_reducible first | apply Bif.T | apply Bif.F) | ((with_reducible first | apply Bif.dec | apply Bif.bne) <;> intro h <;> (try simp only [lns] at h) <;> (try (exfalso; omega))) | (with_reducible apply Bif.not) | (with_reducible apply Alt.l)) <;> conv => whnf) | fail)
        (refine ⟨⟨k + 1, by omega⟩, ?_⟩; (try dsimp only); conv => whnf); repeat' (first | with_reducible apply True.intro | ((with_reducible apply Same.mk); (focus (first | omega | (rw [d]; done) | (rw [e2]; done) | (rw [e2]; rfl) | fail)); (conv => whnf)) | ((first | ((with_reducible apply Need.mk); focus omega) | (with_reducible apply Same.rfl) | (apply Same.int; focus rfl) | (apply Same.ov; (focus rfl); focus omega) | (with_reducible apply Turn.l)) <;> conv => whnf) | fail)
      · have d := o2 hkl rfl
        have n1 := congrArg List.length d
        rw [List.length_append, List.length_singleton] at n1
        have he : (gt l k).to = x.to := by have := hfe hkl; simpa using this
        repeat' (first | ((first | (with_reducible apply Nm.snoc _ (pth_mk _ _ _ _ _)) | ((with_reducible apply Nm.mk); focus ((try simp only [lns]); exact rfl)) | ((with_reducible apply Wr.i64); focus omega) | ((with_reducible apply Need.mk); focus first | (simp only [lns]; omega) | (unfold roomOK; simp only [lns]; omega)) | ((with_reducible apply Elem.lst); focus omega) | (with_reducible first | apply Bif.T | apply Bif.F) | ((with_reducible first | apply Bif.dec | apply Bif.bne) <;> intro h <;> (try simp only [lns] at h) <;> (try (exfalso; omega))) | (with_reducible apply Bif.not) | (with_reducible apply Alt.l)) <;> conv => whnf) | fail)
        (refine ⟨⟨k + 1, by omega⟩, ?_⟩; (try dsimp only); conv => whnf); repeat' (first | with_reducible apply True.intro | ((with_reducible apply Same.mk); (focus (first | omega | (rw [d]; done) | (rw [e2]; done) | (rw [e2]; rfl) | fail)); (conv => whnf)) | ((first | ((with_reducible apply Need.mk); focus omega) | (with_reducible apply Same.rfl) | (apply Same.int; focus rfl) | (apply Same.ov; (focus rfl); focus omega) | (with_reducible apply Turn.l)) <;> conv => whnf) | fail)
    · have d := o4 k ha hkl
      have n1 := congrArg List.length d
      rw [List.length_append, List.length_singleton] at n1
      have := hhi k ha hkl
      have e1 : decide (a < k) = true := decide_eq_true (by omega)
      have e2 : decide (a < k + 1) = true := decide_eq_true (by omega)
      rw [e1]
      repeat' (first | ((first | (with_reducible apply Nm.snoc _ (pth_mk _ _ _ _ _)) | ((with_reducible apply Nm.mk); focus ((try simp only [lns]); exact rfl)) | ((with_reducible apply Wr.i64); focus omega) | ((with_reducible apply Need.mk); focus first | (simp only [lns]; omega) | (unfold roomOK; simp only [lns]; omega)) | ((with_reducible apply Elem.lst); focus omega) | (with_reducible apply Bif.T) | ((with_reducible first | apply Bif.dec | apply Bif.bne) <;> intro h <;> (try simp only [lns] at h) <;> (try (exfalso; omega))) | (with_reducible apply Bif.not) | (with_reducible apply Alt.l)) <;> conv => whnf) | fail)
      (refine ⟨⟨k + 1, by omega⟩, ?_⟩; (try dsimp only); conv => whnf); repeat' (first | with_reducible apply True.intro | ((with_reducible apply Same.mk); (focus (first | omega | (rw [d]; done) | (rw [e2]; done) | (rw [e2]; rfl) | fail)); (conv => whnf)) | ((first | ((with_reducible apply Need.mk); focus omega) | (with_reducible apply Same.rfl) | (apply Same.int; focus rfl) | (apply Same.ov; (focus rfl); focus omega) | (with_reducible apply Turn.l)) <;> conv => whnf) | fail)
  · have hkE : k = l.length := by omega
    subst hkE
    by_cases ha : a < l.length
    · have e1 : decide (a < l.length) = true := decide_eq_true ha
      rw [e1, o6 ha]
      repeat' (first | with_reducible apply True.intro | ((first | (with_reducible apply Bif.T) | ((with_reducible apply Bif.dec) <;> intro h <;> (try simp only [lns] at h) <;> (try (exfalso; omega))) | (with_reducible apply Bif.not) | (with_reducible apply Same.rfl) | (with_reducible apply Cut.l)) <;> conv => whnf) | fail)
    · have e1 : decide (a < l.length) = false := decide_eq_false ha
      have d := o5 (by omega)
      have n1 := congrArg List.length d
      rw [List.length_append, List.length_singleton] at n1
      rw [e1]
      repeat' (first | with_reducible apply True.intro | ((with_reducible apply Same.mk); (focus (first | omega | (rw [d]; done) | fail)); (conv => whnf)) | ((first | (with_reducible apply Nm.snoc _ (pth_mk _ _ _ _ _)) | ((with_reducible apply Nm.mk); focus ((try simp only [lns]); exact rfl)) | ((with_reducible apply Need.mk); focus first | (simp only [lns]; omega) | (unfold roomOK; simp only [lns]; omega)) | (with_reducible apply Bif.F) | ((with_reducible apply Bif.dec) <;> intro h <;> (try simp only [lns] at h) <;> (try (exfalso; omega))) | (with_reducible apply Bif.not) | (with_reducible first | apply Alt.l | apply Cut.l)) <;> conv => whnf) | fail)
theorem k_expire (l : List Pth) (now : Int) (hl : l.length ≤ 1000000) : Con Try.prog 86 [.fs .no 6 (lst pthV l), int now] [] (.ov 6 0 0 (liveP l now).length) [.arr none 6 (lst pthV (liveP l now))] := by
  refine spec_of_run ttok mixed (T0 := 135091) (ts := [.tmp 4]) 24 rfl rfl rfl rfl (by simp) rfl ?_
  conv => whnf
  repeat' (first | (((with_reducible apply Nm.mk); focus ((try simp only [lns]); exact rfl)) <;> conv => whnf) | fail)
  refine LoopN.adopt 5 6 rfl (by simp) ?_
  refine loop_keep ttok mixed (T0 := 135091) [0, 1, 8, 9] (ι := {k : Nat // k ≤ l.length})
    (fun k => [(5, .ov 6 0 0 (liveP (l.take k.1) now).length), (10, int (k.1 : Int))]) (fun k => [.arr none 6 (lst pthV (liveP (l.take k.1) now))]) (fun k => l.length - k.1) ⟨0, by omega⟩ ?_
  conv => whnf
  repeat' (first | ((first | (with_reducible apply Same.rfl) | (apply Same.int; focus rfl) | (apply Same.ov; (focus rfl); focus rfl) | (apply Same.rfl)) <;> conv => whnf) | fail)
  rintro ⟨k, hk⟩
  dsimp only
  have h1 := liveP_len (l.take k) now
  rw [List.length_take] at h1
  conv => whnf
  by_cases hkl : k < l.length
  · have d1 := liveP_snoc (now := now) hkl
    by_cases hu : now < (gt l k).upto
    · rw [if_pos hu] at d1
      have n1 := congrArg List.length d1
      rw [List.length_append, List.length_singleton] at n1
      repeat' (first | ((first | (with_reducible apply Nm.snoc _ (pth_mk _ _ _ _ _)) | ((with_reducible apply Nm.mk); focus ((try simp only [lns]); exact rfl)) | ((with_reducible apply Wr.i64); focus omega) | ((with_reducible apply Need.mk); focus first | (simp only [lns]; omega) | (unfold roomOK; simp only [lns]; omega)) | ((with_reducible apply Elem.lst); focus omega) | ((with_reducible apply Bif.dec) <;> intro h <;> (try simp only [lns] at h) <;> (try (exfalso; omega))) | (with_reducible apply Alt.l)) <;> conv => whnf) | fail)
      (refine ⟨⟨k + 1, by omega⟩, ?_⟩; (try dsimp only); conv => whnf); repeat' (first | with_reducible apply True.intro | ((with_reducible apply Same.mk); (focus (first | omega | (rw [d1]; done) | fail)); (conv => whnf)) | ((first | ((with_reducible apply Need.mk); focus omega) | (with_reducible apply Same.rfl) | (apply Same.int; focus rfl) | (apply Same.ov; (focus rfl); focus omega) | (with_reducible apply Turn.l)) <;> conv => whnf) | fail)
    · rw [if_neg hu, List.append_nil] at d1
      have n1 := congrArg List.length d1
      repeat' (first | ((first | ((with_reducible apply Nm.mk); focus ((try simp only [lns]); exact rfl)) | ((with_reducible apply Wr.i64); focus omega) | ((with_reducible apply Need.mk); focus (simp only [lns]; omega)) | ((with_reducible apply Elem.lst); focus omega) | ((with_reducible apply Bif.dec) <;> intro h <;> (try simp only [lns] at h) <;> (try (exfalso; omega)))) <;> conv => whnf) | fail)
      (refine ⟨⟨k + 1, by omega⟩, ?_⟩; (try dsimp only); conv => whnf); repeat' (first | with_reducible apply True.intro | ((with_reducible apply Same.mk); (focus (first | omega | (rw [d1]; done) | fail)); (conv => whnf)) | ((first | ((with_reducible apply Need.mk); focus omega) | (with_reducible apply Same.rfl) | (apply Same.int; focus rfl) | (with_reducible apply Turn.l)) <;> conv => whnf) | fail)
  · have hkE : k = l.length := by omega
    subst hkE
    have e : l.take l.length = l := List.take_length
    rw [e]
    repeat' (first | with_reducible apply True.intro | ((first | ((with_reducible apply Bif.dec) <;> intro h <;> (try simp only [lns] at h) <;> (try (exfalso; omega))) | (with_reducible apply Same.rfl) | (with_reducible apply Cut.l)) <;> conv => whnf) | fail)
theorem k_yoffer (r : Rea) (now t nb : Int) (d : Dis) (hV : ReaV r) (hn : isT now) :
    Con Try.prog 93 [reaO r 0 1 2, int now, .v (.int .u64 t), .v (.int .u64 nb), disV d] (reaH r) (.tup [reaO (offM r now t nb d).1 0 1 2, bool (offM r now t nb d).2]) (reaH (offM r now t nb d).1) := by
  have hr := hV.ok
  have hs := hV.sp
  have n1 := hr.lp
  have n2 : r.paths.length ≤ 64 := okL_len hV.iff.2.1
  have c1 := k_Current r.paths now t hs n1
  have c2 := k_rput r.paths (offX now t nb d) hs n1
  have hpl := putP_len r.paths (offX now t nb d)
  rw [show (offX now t nb d).to = t from rfl] at hpl
  by_cases hA : t = r.self ∨ d.metric = 65535
  · rw [offM, if_pos hA]
    dsimp only [reaO, reaH]
    refine spec_of_run ttok mixed (T0 := 590367867952752000575) (ts := [.cell 10 32, .tmp 11]) 74 rfl rfl rfl rfl (by simp) rfl ?_
    conv => whnf
    repeat' (first | with_reducible apply True.intro | ((first | (with_reducible first | apply Bif.T | apply Bif.F) | ((with_reducible apply Bif.beq) <;> intro h <;> (try simp only [lns] at h) <;> (try (exfalso; omega))) | (with_reducible apply Same.rfl) | (apply Same.bool; focus (with_reducible rfl)) | (with_reducible apply Cut.l)) <;> conv => whnf) | fail)
  · rw [offM, if_neg hA]
    by_cases hB : curP r.paths now t = true ∧ cmpD d (gt r.paths (atP r.paths t)).own ≠ -1 ∧ ¬ ((gt r.paths (atP r.paths t)).brk = false ∧ (gt r.paths (atP r.paths t)).nx = nb ∧ (gt r.paths (atP r.paths t)).own = d)
    · rw [if_pos hB]
      obtain ⟨b1, b2, b3⟩ := hB
      rw [curV, b1, if_pos rfl] at c1
      generalize atP r.paths t = a at *
      dsimp only [reaO, reaH]
      refine spec_of_run ttok mixed (T0 := 590367867952752000575) (ts := [.cell 10 32, .tmp 11]) 74 rfl rfl rfl rfl (by simp) rfl ?_
      conv => whnf
      repeat' (first | with_reducible apply True.intro | ((first | ((with_reducible apply Nm.mk); focus ((try simp only [lns]); exact rfl)) | ((with_reducible apply Need.mk); focus first | (simp only [lns]; omega) | exact CleanP.nil rfl) | (apply CallN.mk (c1)) | (apply CallN.mk (k_refCompare _ _)) | (with_reducible first | apply Bif.T | apply Bif.F) | ((with_reducible first | apply Bif.beq | apply Bif.bne) <;> intro h <;> (try simp only [lns] at h) <;> (try first | (exfalso; omega) | ((refine absurd ⟨?_, ?_, dis_ext ?_ ?_⟩ b3); (focus assumption); (focus assumption); (focus assumption); (focus assumption)))) | (with_reducible first | apply Bif.not | apply Bif.and) | ((with_reducible apply Bif.mk) <;> intro h) | (with_reducible apply Same.rfl) | (apply Same.bool; focus (with_reducible rfl)) | (with_reducible first | apply Cut.l | apply GiveN.lend)) <;> conv => whnf) | fail)
    · rw [if_neg hB]
      by_cases hC : fndP r.paths t = false ∧ r.paths.length ≥ 64
      · rw [if_pos hC]
        rw [if_neg (by simp [hC.1])] at hpl
        have hC2 := hC.2
        have hcf : curP r.paths now t = false := by rw [curP, hC.1, Bool.false_and]
        rw [hcf] at c1
        unfold offX at *
        generalize putP r.paths ⟨t, nb, d, false, lat now 20⟩ = P at *
        dsimp only [reaO, reaH]
        refine spec_of_run ttok mixed (T0 := 590367867952752000575) (ts := [.cell 10 32, .tmp 11]) 74 rfl rfl rfl rfl (by simp) rfl ?_
        conv => whnf
        repeat' (first | with_reducible apply True.intro | ((first | ((with_reducible apply Nm.mk); focus ((try simp only [lns]); exact rfl)) | ((with_reducible apply Need.mk); focus first | (simp only [lns]; omega) | exact CleanP.nil rfl | exact CleanP.lst rfl (fun _ => rfl) | kernel_rfl) | (apply CallN.mk (c1)) | (apply CallN.mk (k_After _ _ hn (by omega))) | (apply CallN.mk (c2)) | (with_reducible apply Bif.F) | ((with_reducible first | apply Bif.dec | apply Bif.beq) <;> intro h <;> (try simp only [lns] at h) <;> (try (exfalso; omega))) | (with_reducible apply Same.rfl) | (apply Same.bool; focus (with_reducible rfl)) | (with_reducible first | apply Cut.l | apply GiveN.lend)) <;> conv => whnf) | fail)
      · rw [if_neg hC]
        have hpl2 : (putP r.paths (offX now t nb d)).length ≤ 64 := by
          cases hf : fndP r.paths t
          · rw [hf, if_neg (by simp)] at hpl; simp only [hf, true_and] at hC; omega
          · rw [hf, if_pos rfl] at hpl; omega
        clear hpl
        unfold offX at *
        generalize putP r.paths ⟨t, nb, d, false, lat now 20⟩ = P at *
        cases hc : curP r.paths now t
        · rw [hc] at c1
          dsimp only [reaO, reaH]
          refine spec_of_run ttok mixed (T0 := 590367867952752000575) (ts := [.cell 10 32, .tmp 11]) 74 rfl rfl rfl rfl (by simp) rfl ?_
          conv => whnf
          repeat' (first | with_reducible apply True.intro | ((first | ((with_reducible apply Nm.mk); focus ((try simp only [lns]); exact rfl)) | ((with_reducible apply Need.mk); focus first | (simp only [lns]; omega) | exact CleanP.nil rfl | exact CleanP.lst rfl (fun _ => rfl) | kernel_rfl) | (apply CallN.mk (c1)) | (apply CallN.mk (k_After _ _ hn (by omega))) | (apply CallN.mk (c2)) | (with_reducible apply Bif.F) | ((with_reducible first | apply Bif.dec | apply Bif.beq) <;> intro h <;> (try simp only [lns] at h) <;> (try (exfalso; omega))) | (with_reducible apply Same.rfl) | (apply Same.bool; focus (with_reducible rfl)) | (with_reducible first | apply Cut.l | apply GiveN.lend)) <;> conv => whnf) | fail)
        · rw [curV, hc, if_pos rfl] at c1
          have hD : ¬ (cmpD d (gt r.paths (atP r.paths t)).own ≠ -1 ∧ ¬ ((gt r.paths (atP r.paths t)).brk = false ∧ (gt r.paths (atP r.paths t)).nx = nb ∧ (gt r.paths (atP r.paths t)).own = d)) := fun h => hB ⟨hc, h⟩
          generalize atP r.paths t = a at *
          dsimp only [reaO, reaH]
          refine spec_of_run ttok mixed (T0 := 590367867952752000575) (ts := [.cell 10 32, .tmp 11]) 74 rfl rfl rfl rfl (by simp) rfl ?_
          conv => whnf
          repeat' (first | with_reducible apply True.intro | ((first | ((with_reducible apply Nm.mk); focus ((try simp only [lns]); exact rfl)) | ((with_reducible apply Need.mk); focus first | (simp only [lns]; omega) | exact CleanP.nil rfl | exact CleanP.lst rfl (fun _ => rfl) | kernel_rfl) | (apply CallN.mk (c1)) | (apply CallN.mk (k_refCompare _ _)) | (apply CallN.mk (k_After _ _ hn (by omega))) | (apply CallN.mk (c2)) | (with_reducible first | apply Bif.T | apply Bif.F) | ((with_reducible first | apply Bif.dec | apply Bif.beq | apply Bif.bne) <;> intro h <;> (try simp only [lns] at h) <;> (try first | (exfalso; omega) | ((refine absurd ⟨?_, ?_⟩ hD); (focus assumption); (focus (rintro ⟨u1, u2, u3⟩; simp_all; done))))) | (with_reducible first | apply Bif.not | apply Bif.and) | ((with_reducible apply Bif.mk) <;> intro h <;> (try ((refine absurd ⟨?_, ?_⟩ hD); (focus assumption); (focus (rintro ⟨u1, u2, u3⟩; simp_all; done))))) | (with_reducible apply Same.rfl) | (apply Same.bool; focus (with_reducible rfl)) | (with_reducible first | apply Cut.l | apply GiveN.lend)) <;> conv => whnf) | fail)
end Go.Fw
