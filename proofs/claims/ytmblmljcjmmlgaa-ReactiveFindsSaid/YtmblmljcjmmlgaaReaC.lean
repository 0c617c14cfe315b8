/- Reactive: messages; lists that are put into, taken from; paths that are current. -/
import Derived.Test.YtmblmljcjmmlgaaReaB
namespace Go.Fw
open Go.Proofs
set_option maxHeartbeats 4000000
set_option maxRecDepth 4000
theorem vMsg_iff {m : Msg} : vMsg m = true ↔ m.to ≠ 0 ∧ okM m.cost = true ∧ (1 ≤ m.hops ∧ m.hops ≤ 32) ∧ (m.has = true ∨ m.kn = 0) ∧ ((m.kind = 1 ∧ m.org ≠ 0) ∨ (m.kind = 2 ∧ m.org ≠ 0 ∧ m.has = false) ∨ (m.kind = 3 ∧ m.org = 0 ∧ m.has = false ∧ m.cost = 0)) := by
  simp only [vMsg, Bool.and_eq_true, decide_eq_true_eq, Bool.or_eq_true, beq_iff_eq]
theorem k_xValidMessage (m : Msg) : Con Try.prog 38 [msgV m] [] (bool (vMsg m)) [] := by
  refine spec_of_run ttok mixed (T0 := 140881908727815) (ts := [.tmp 2]) 62 rfl rfl rfl rfl (by simp) rfl ?_
  conv => whnf
  repeat' (first | ((first | (apply CallN.mk (k_metricValid _)) | (with_reducible first | apply Bif.T | apply Bif.F) | ((with_reducible first | apply Bif.dec | apply Bif.beq | apply Bif.bne) <;> intro h <;> (try simp only [lns] at h)) | (with_reducible apply Bif.not) | ((with_reducible apply Bif.mk) <;> intro h) | (with_reducible apply Frz.l)) <;> conv => whnf) | fail)
  all_goals (apply Same.bool (by rw [Bool.eq_iff_iff, vMsg_iff]; first | (simp_all; done) | (simp_all; omega)); (conv => whnf); repeat' (first | with_reducible apply True.intro | ((with_reducible apply Frz.l) <;> conv => whnf) | fail))
theorem k_yValidMessage (m : Msg) : Con Try.prog 50 [msgV m] [] (bool (vMsg m)) [] := by
  refine spec_of_run ttok mixed (T0 := 1152921779512016903) (ts := [.tmp 2]) 73 rfl rfl rfl rfl (by simp) rfl ?_
  conv => whnf
  repeat' (first | ((first | (apply CallN.mk (k_refmetricValid _)) | (with_reducible first | apply Bif.T | apply Bif.F) | ((with_reducible first | apply Bif.dec | apply Bif.beq | apply Bif.bne) <;> intro h <;> (try simp only [lns] at h)) | (with_reducible apply Bif.not) | ((with_reducible apply Bif.mk) <;> intro h) | (with_reducible apply Frz.l)) <;> conv => whnf) | fail)
  all_goals (apply Same.bool (by rw [Bool.eq_iff_iff, vMsg_iff]; first | (simp only [Bool.false_eq_true, false_iff]; omega) | (simp_all; done) | (cases hh : m.has <;> simp_all <;> omega)); (conv => whnf); repeat' (first | with_reducible apply True.intro | ((with_reducible apply Frz.l) <;> conv => whnf) | fail))

theorem put_rows {l : List Pth} {i : Nat} {x : Pth} : (lst pthV l).take i ++ [pthV x] ++ (lst pthV l).drop i = lst pthV (l.take i ++ [x] ++ l.drop i) := by
  simp only [lst, ← List.map_take, ← List.map_drop, List.map_append, List.map_cons, List.map_nil]
theorem put_law {α : Type} {l : List α} {x : α} {i : Nat} (hi : i ≤ l.length) : (List.take (i + 1) (l ++ [x]) ++ List.take (l.length + 1 - (i + 1)) (List.take (l.length + 1 - i) (List.drop i (l ++ [x]))) ++ List.drop (i + 1 + min (l.length + 1 - (i + 1)) (min (l.length + 1 - i) (l.length + 1 - i))) (l ++ [x])).set i x = l.take i ++ [x] ++ l.drop i := by
  apply List.ext_getElem?
  intro kk
  rw [List.getElem?_set]
  by_cases hk : i = kk
  · subst hk
    rw [if_pos rfl, if_pos (by simp; omega)]
    simp [List.getElem?_append, Nat.min_eq_left hi]
  · rw [if_neg hk]
    (simp only [List.getElem?_append, List.getElem?_take, List.getElem?_drop, List.length_append, List.length_take, List.length_drop, List.length_cons, List.length_nil, List.getElem?_cons, List.getElem?_nil]; repeat' (split <;> try (exfalso; omega))) <;> first | rfl | (congr 1; omega) | (symm; apply List.getElem?_eq_none; omega) | (apply List.getElem?_eq_none; omega) | (congr 2; omega) | (simp; omega)
theorem k_put_Pth (l : List Pth) (i : Nat) (x : Pth) (hi : i ≤ l.length) (hl : l.length ≤ 1000000) :
    Con Try.prog 90 [.ov 6 0 0 l.length, int i, pthV x] [.arr none 6 (lst pthV l)] (.ov 6 0 0 (l.length + 1)) [.arr none 6 (lst pthV (l.take i ++ [x] ++ l.drop i))] := by
  have e1 : ((i : Int) + 1).toNat = i + 1 := by omega
  refine spec_of_run ttok mixed (T0 := 103) (ts := [.tmp 6]) 24 rfl rfl rfl rfl (by simp) rfl ?_
  conv => whnf
  repeat' (first | with_reducible apply True.intro | ((apply Same.mk); (focus (exact congrArg _ (put_law hi))); (conv => whnf)) | ((first | (with_reducible first | apply Nm.set _ (pth_mk _ _ _ _ _) | apply Nm.snoc _ (pth_mk _ _ _ _ _)) | ((with_reducible apply Nm.mk); focus ((try simp only [lns, e1]); exact rfl)) | ((with_reducible apply Wr.i64); focus omega) | ((with_reducible apply Need.mk); focus first | omega | (simp only [lns, e1]; omega) | kernel_rfl | (unfold roomOK; simp only [lns, e1]; omega)) | ((with_reducible apply Elem.lst); focus (simp only [lns, e1]; omega)) | (with_reducible apply Same.rfl) | (with_reducible first | apply Alt.l | apply Cut.l) | (with_reducible apply Frz.l)) <;> conv => whnf) | fail)
theorem k_put_Dsc (l : List Dsc) (i : Nat) (x : Dsc) (hi : i ≤ l.length) (hl : l.length ≤ 1000000) :
    Con Try.prog 57 [.ov 3 0 0 l.length, int i, dscV x] [.arr none 3 (lst dscV l)] (.ov 3 0 0 (l.length + 1)) [.arr none 3 (lst dscV (l.take i ++ [x] ++ l.drop i))] := by
  have e1 : ((i : Int) + 1).toNat = i + 1 := by omega
  refine spec_of_run ttok mixed (T0 := 103) (ts := [.tmp 6]) 24 rfl rfl rfl rfl (by simp) rfl ?_
  conv => whnf
  repeat' (first | with_reducible apply True.intro | ((apply Same.mk); (focus (exact congrArg _ (put_law hi))); (conv => whnf)) | ((first | (with_reducible first | apply Nm.set _ (dsc_mk _ _ _) | apply Nm.snoc _ (dsc_mk _ _ _)) | ((with_reducible apply Nm.mk); focus ((try simp only [lns, e1]); exact rfl)) | ((with_reducible apply Wr.i64); focus omega) | ((with_reducible apply Need.mk); focus first | omega | (simp only [lns, e1]; omega) | kernel_rfl | (unfold roomOK; simp only [lns, e1]; omega)) | ((with_reducible apply Elem.lst); focus (simp only [lns, e1]; omega)) | (with_reducible apply Same.rfl) | (with_reducible first | apply Alt.l | apply Cut.l) | (with_reducible apply Frz.l)) <;> conv => whnf) | fail)
theorem del_law {α : Type} {l : List α} {i : Nat} (hi : i < l.length) : List.take (l.take i ++ l.drop (i + 1)).length (l.take i ++ List.take (l.length - (i + 1)) (l.drop (i + 1)) ++ List.drop (i + min (l.length - (i + 1)) (l.length - (i + 1))) l) = l.take i ++ l.drop (i + 1) := by
  rw [List.take_of_length_le (l := l.drop (i + 1)) (by simp)]
  rw [List.take_append_of_le_length (Nat.le_refl _), List.take_length]
theorem k_remove_Pth (l : List Pth) (i : Nat) (hi : i < l.length) (hl : l.length ≤ 1000000) :
    Con Try.prog 89 [.ov 6 0 0 l.length, int i] [.arr none 6 (lst pthV l)] (.ov 6 0 0 (l.length - 1)) [.arr none 6 (lst pthV (l.take i ++ l.drop (i + 1)))] := by
  have e1 : ((i : Int) + 1).toNat = i + 1 := by omega
  refine spec_of_run ttok mixed (T0 := 19) (ts := [.tmp 4]) 13 rfl rfl rfl rfl (by simp) rfl ?_
  conv => whnf
  repeat' (first | with_reducible apply True.intro | ((with_reducible apply Alt.r); (with_reducible apply Alt.l); conv => whnf) | ((with_reducible apply Cut.r); (apply Same.mk); (focus (rw [lst_len, lst_take]; exact congrArg _ (del_law hi))); (conv => whnf)) | ((first | ((with_reducible apply Nm.mk); focus ((try simp only [lns, e1]); exact rfl)) | ((with_reducible apply Wr.i64); focus omega) | ((with_reducible apply Need.mk); focus first | omega | (simp only [lns, e1]; omega) | kernel_rfl) | (with_reducible apply Same.rfl) | ((with_reducible apply Same.mk); focus omega) | (with_reducible apply Frz.l)) <;> conv => whnf) | fail)
theorem k_remove_Dsc (l : List Dsc) (i : Nat) (hi : i < l.length) (hl : l.length ≤ 1000000) :
    Con Try.prog 74 [.ov 3 0 0 l.length, int i] [.arr none 3 (lst dscV l)] (.ov 3 0 0 (l.length - 1)) [.arr none 3 (lst dscV (l.take i ++ l.drop (i + 1)))] := by
  have e1 : ((i : Int) + 1).toNat = i + 1 := by omega
  refine spec_of_run ttok mixed (T0 := 19) (ts := [.tmp 4]) 13 rfl rfl rfl rfl (by simp) rfl ?_
  conv => whnf
  repeat' (first | with_reducible apply True.intro | ((with_reducible apply Alt.r); (with_reducible apply Alt.l); conv => whnf) | ((with_reducible apply Cut.r); (apply Same.mk); (focus (rw [lst_len, lst_take]; exact congrArg _ (del_law hi))); (conv => whnf)) | ((first | ((with_reducible apply Nm.mk); focus ((try simp only [lns, e1]); exact rfl)) | ((with_reducible apply Wr.i64); focus omega) | ((with_reducible apply Need.mk); focus first | omega | (simp only [lns, e1]; omega) | kernel_rfl) | (with_reducible apply Same.rfl) | ((with_reducible apply Same.mk); focus omega) | (with_reducible apply Frz.l)) <;> conv => whnf) | fail)
theorem k_clone (r : Rea) (hr : ReaOK r) : Con Try.prog 40 [reaF r] [] (reaO r 0 1 2) (reaH r) := by
  obtain ⟨-, -, -, n1, n2, n3⟩ := hr
  refine spec_of_run ttok mixed (T0 := 7) (ts := [.cell 2 32]) 16 rfl rfl rfl rfl (by simp) rfl ?_
  conv => whnf
  repeat' (first | with_reducible apply True.intro | ((first | ((with_reducible apply Nm.mk); focus ((try simp only [lns]); exact rfl)) | ((with_reducible apply Need.mk); focus (unfold roomOK; simp only [lns]; omega)) | (with_reducible apply Same.rfl) | (with_reducible apply Cut.l) | (with_reducible apply Frz.l)) <;> conv => whnf) | fail)
theorem k_Copy (r : Rea) (hr : ReaOK r) : Con Try.prog 52 [reaF r] [] (reaO r 0 1 2) (reaH r) := by
  obtain ⟨-, -, -, n1, n2, n3⟩ := hr
  refine spec_of_run ttok mixed (T0 := 7) (ts := [.cell 2 32]) 16 rfl rfl rfl rfl (by simp) rfl ?_
  conv => whnf
  repeat' (first | with_reducible apply True.intro | ((first | ((with_reducible apply Nm.mk); focus ((try simp only [lns]); exact rfl)) | ((with_reducible apply Need.mk); focus (unfold roomOK; simp only [lns]; omega)) | (with_reducible apply Same.rfl) | (with_reducible apply Cut.l) | (with_reducible apply Frz.l)) <;> conv => whnf) | fail)
def startM (s : Int) : Rea := ⟨s, 0, [], [], []⟩
theorem k_xStart (s : Int) : Con Try.prog 11 [.v (.int .u64 s)] [] (reaO (startM s) 0 1 2) (reaH (startM s)) := by
  refine spec_of_run ttok mixed (T0 := 5) (ts := [.cell 2 32]) 5 rfl rfl rfl rfl (by simp) rfl ?_
  conv => whnf
  repeat' (first | with_reducible apply True.intro | ((first | (with_reducible apply Same.rfl) | (apply Same.int; focus rfl) | (apply Same.rfl) | (with_reducible apply Frz.l)) <;> conv => whnf) | fail)
theorem k_yStart (s : Int) : Con Try.prog 36 [.v (.int .u64 s)] [] (reaO (startM s) 0 1 2) (reaH (startM s)) := by
  refine spec_of_run ttok mixed (T0 := 5) (ts := [.cell 2 32]) 5 rfl rfl rfl rfl (by simp) rfl ?_
  conv => whnf
  repeat' (first | with_reducible apply True.intro | ((first | (with_reducible apply Same.rfl) | (apply Same.int; focus rfl) | (apply Same.rfl) | (with_reducible apply Frz.l)) <;> conv => whnf) | fail)
theorem fndP_iff {l : List Pth} {t : Int} : fndP l t = true ↔ atP l t < l.length ∧ (gt l (atP l t)).to = t := fndK_iff cmpI_ok2
theorem fndD_iff {l : List Dsc} {t : Int} : fndD l t = true ↔ atD l t < l.length ∧ (gt l (atD l t)).to = t := fndK_iff cmpI_ok2
theorem atP_le (l : List Pth) (t : Int) : atP l t ≤ l.length := atK_le l t
theorem atD_le (l : List Dsc) (t : Int) : atD l t ≤ l.length := atK_le l t
theorem k_usable (r : Rea) (now t : Int) (hr : ReaOK r) : Con Try.prog 55 [reaF r, int now, .v (.int .u64 t)] [] (int (if usbP r.paths now t = true then (atP r.paths t : Int) else -1)) [] := by
  have n1 := hr.lp
  have c1 := k_find_Pth r.paths t (by omega)
  have h1 := fndP_iff (l := r.paths) (t := t)
  have h2 := atP_le r.paths t
  refine spec_of_run ttok mixed (T0 := 34359738831) (ts := [.tmp 6]) 37 rfl rfl rfl rfl (by simp) rfl ?_
  conv => whnf
  unfold usbP curP
  generalize atP r.paths t = a at *
  generalize fndP r.paths t = f at *
  cases f
  · simp only [Bool.false_and, Bool.false_eq_true, if_false]
    repeat' (first | with_reducible apply True.intro | ((first | (apply CallN.mk (c1)) | (with_reducible apply Bif.F) | (apply Same.int; focus rfl) | (with_reducible apply Frz.l)) <;> conv => whnf) | fail)
  · have h3 := (h1.1 rfl).1
    by_cases h4 : now < (gt r.paths a).upto
    · cases h5 : (gt r.paths a).brk
      · simp only [h4, decide_true, Bool.true_and, Bool.not_false, if_true]
        repeat' (first | with_reducible apply True.intro | ((first | ((with_reducible apply Nm.mk); focus ((try simp only [lns]); exact rfl)) | ((with_reducible apply Need.mk); focus (simp only [lns]; omega)) | ((with_reducible apply Elem.lst); focus omega) | (apply CallN.mk (c1)) | (with_reducible apply Bif.T) | ((with_reducible apply Bif.dec) <;> intro h <;> (try simp only [lns] at h) <;> (try (exfalso; omega))) | (with_reducible apply Bif.not) | ((with_reducible apply Bif.mk) <;> intro h <;> (try (simp_all; done))) | (with_reducible apply Same.rfl) | (with_reducible apply Frz.l)) <;> conv => whnf) | fail)
      · simp only [Bool.not_true, Bool.and_false, Bool.false_eq_true, if_false]
        repeat' (first | with_reducible apply True.intro | ((first | ((with_reducible apply Nm.mk); focus ((try simp only [lns]); exact rfl)) | ((with_reducible apply Need.mk); focus (simp only [lns]; omega)) | ((with_reducible apply Elem.lst); focus omega) | (apply CallN.mk (c1)) | (with_reducible apply Bif.T) | ((with_reducible apply Bif.dec) <;> intro h <;> (try simp only [lns] at h) <;> (try (exfalso; omega))) | (with_reducible apply Bif.not) | ((with_reducible apply Bif.mk) <;> intro h <;> (try (simp_all; done))) | (apply Same.int; focus rfl) | (with_reducible apply Frz.l)) <;> conv => whnf) | fail)
    · simp only [h4, decide_false, Bool.and_false, Bool.false_and, Bool.false_eq_true, if_false]
      repeat' (first | with_reducible apply True.intro | ((first | ((with_reducible apply Nm.mk); focus ((try simp only [lns]); exact rfl)) | ((with_reducible apply Need.mk); focus (simp only [lns]; omega)) | ((with_reducible apply Elem.lst); focus omega) | (apply CallN.mk (c1)) | (with_reducible first | apply Bif.T | apply Bif.F) | ((with_reducible apply Bif.dec) <;> intro h <;> (try simp only [lns] at h) <;> (try (exfalso; omega))) | (apply Same.int; focus rfl) | (with_reducible apply Frz.l)) <;> conv => whnf) | fail)
theorem curP_iff {l : List Pth} {now t : Int} : curP l now t = true ↔ fndP l t = true ∧ now < (gt l (atP l t)).upto := by
  simp only [curP, Bool.and_eq_true, decide_eq_true_eq]
theorem k_request (r : Rea) (now t : Int) (hr : ReaOK r) : Con Try.prog 58 [reaF r, int now, .v (.int .u64 t)] [] (sndV (reqS r.self r.num r.paths now t)) [] := by
  have n1 := hr.lp
  have c1 := k_find_Pth r.paths t (by omega)
  have h1 := fndP_iff (l := r.paths) (t := t)
  refine spec_of_run ttok mixed (T0 := 8589935567) (ts := [.cell 6 77]) 45 rfl rfl rfl rfl (by simp) rfl ?_
  conv => whnf
  unfold reqS curP
  generalize atP r.paths t = a at *
  generalize fndP r.paths t = f at *
  cases f
  · simp only [Bool.false_and, Bool.false_eq_true, if_false]
    repeat' (first | with_reducible apply True.intro | ((first | (apply CallN.mk (c1)) | (with_reducible apply Bif.F) | (with_reducible apply Same.rfl) | (with_reducible apply Frz.l)) <;> conv => whnf) | fail)
  · have h3 := (h1.1 rfl).1
    by_cases h4 : now < (gt r.paths a).upto
    · simp only [h4, decide_true, Bool.true_and, if_true]
      repeat' (first | with_reducible apply True.intro | ((first | ((with_reducible apply Nm.mk); focus ((try simp only [lns]); exact rfl)) | ((with_reducible apply Need.mk); focus (simp only [lns]; omega)) | ((with_reducible apply Elem.lst); focus omega) | (apply CallN.mk (c1)) | (with_reducible apply Bif.T) | ((with_reducible apply Bif.dec) <;> intro h <;> (try simp only [lns] at h) <;> (try (exfalso; omega))) | (with_reducible apply Same.rfl) | (with_reducible apply Frz.l)) <;> conv => whnf) | fail)
    · simp only [h4, decide_false, Bool.and_false, Bool.false_eq_true, if_false]
      repeat' (first | with_reducible apply True.intro | ((first | ((with_reducible apply Nm.mk); focus ((try simp only [lns]); exact rfl)) | ((with_reducible apply Need.mk); focus (simp only [lns]; omega)) | ((with_reducible apply Elem.lst); focus omega) | (apply CallN.mk (c1)) | (with_reducible apply Bif.T) | ((with_reducible apply Bif.dec) <;> intro h <;> (try simp only [lns] at h) <;> (try (exfalso; omega))) | (with_reducible apply Same.rfl) | (with_reducible apply Frz.l)) <;> conv => whnf) | fail)
/-- A list in the order of its keys. -/
def srtP (l : List Pth) : Prop := ∀ i j, i < j → j < l.length → (gt l i).to < (gt l j).to
theorem okL_srt {n : Nat} {ok : Pth → Bool} {l : List Pth} (h : okL n ok cmpI Pth.to l = true) : srtP l := fun i j hi hj => cmpI_lo.1 (okL_lt cmpI_ok2 h hi hj)
theorem at_other {l : List Pth} {t : Int} (hs : srtP l) {i : Nat} (hi : i < l.length) (h : (gt l i).to = t) : atP l t = i :=
  atI_eq (by omega) (fun j hj => by have := hs j i hj hi; omega) (fun _ => by omega)
def path0 : Pth := ⟨0, 0, ⟨0, 0⟩, false, 0⟩
def curV (l : List Pth) (now t : Int) : Pth := if curP l now t = true then gt l (atP l t) else path0
theorem k_Current (l : List Pth) (now t : Int) (hs : srtP l) (hl : l.length ≤ 1000000) : Con Try.prog 16 [.fs .no 6 (lst pthV l), int now, .v (.int .u64 t)] [] (.tup [pthV (curV l now t), bool (curP l now t)]) [] := by
  refine spec_of_run ttok mixed (T0 := 33570503) (ts := [.cell 6 46, .tmp 7]) 29 rfl rfl rfl rfl (by simp) rfl ?_
  conv => whnf
  repeat' (first | ((first | ((with_reducible apply Nm.mk); focus ((try simp only [lns]); exact rfl)) | (with_reducible apply Frz.l)) <;> conv => whnf) | fail)
  refine loop_keep ttok mixed (T0 := 33570503) [0, 1, 2, 6, 10, 11] (ι := {k : Nat // k ≤ l.length ∧ ∀ i, i < k → ¬ ((gt l i).to = t ∧ now < (gt l i).upto)})
    (fun k => [(12, int (k.1 : Int))]) (fun _ => [.cells (pthV path0)]) (fun k => l.length - k.1) ⟨0, by omega, none_lt⟩ ?_
  conv => whnf
  repeat' (first | ((first | (with_reducible apply Same.rfl) | (apply Same.int; focus rfl) | (apply Same.rfl) | (with_reducible apply Frz.l)) <;> conv => whnf) | fail)
  rintro ⟨k, hk, he⟩
  dsimp only
  conv => whnf
  by_cases hkl : k < l.length
  · by_cases h1 : (gt l k).to = t ∧ now < (gt l k).upto
    · have ha := at_other hs hkl h1.1
      have hf : fndP l t = true := fndP_iff.2 (by rw [ha]; exact ⟨hkl, h1.1⟩)
      have hc : curP l now t = true := curP_iff.2 (by rw [ha]; exact ⟨hf, h1.2⟩)
      rw [curV, hc, if_pos rfl, ha]
      repeat' (first | with_reducible apply True.intro | ((first | ((with_reducible apply Nm.mk); focus ((try simp only [lns]); exact rfl)) | ((with_reducible apply Need.mk); focus (simp only [lns]; omega)) | ((with_reducible apply Elem.lst); focus omega) | (with_reducible apply Bif.T) | ((with_reducible first | apply Bif.dec | apply Bif.beq) <;> intro h <;> (try simp only [lns] at h) <;> (try (exfalso; omega))) | (with_reducible apply Same.rfl) | (apply Same.bool; focus (with_reducible rfl)) | (with_reducible apply Frz.l)) <;> conv => whnf) | fail)
    · repeat' (first | ((first | ((with_reducible apply Nm.mk); focus ((try simp only [lns]); exact rfl)) | ((with_reducible apply Wr.i64); focus omega) | ((with_reducible apply Need.mk); focus (simp only [lns]; omega)) | ((with_reducible apply Elem.lst); focus omega) | (with_reducible first | apply Bif.T | apply Bif.F) | ((with_reducible first | apply Bif.dec | apply Bif.beq) <;> intro h <;> (try simp only [lns] at h) <;> (try (exfalso; omega))) | (with_reducible apply Frz.l)) <;> conv => whnf) | fail)
      all_goals ((refine ⟨⟨k + 1, by omega, step_lt he h1⟩, ?_⟩; (try dsimp only); conv => whnf); repeat' (first | with_reducible apply True.intro | ((first | ((with_reducible apply Need.mk); focus omega) | (with_reducible apply Same.rfl) | (apply Same.int; focus rfl) | (with_reducible apply Turn.l) | (with_reducible apply Frz.l)) <;> conv => whnf) | fail))
  · have hc : curP l now t = false := by
      rw [Bool.eq_false_iff]
      intro h
      obtain ⟨h1, h2⟩ := curP_iff.1 h
      obtain ⟨h3, h4⟩ := fndP_iff.1 h1
      exact he _ (by omega) ⟨h4, h2⟩
    rw [curV, hc, if_neg (by simp)]
    repeat' (first | with_reducible apply True.intro | ((first | ((with_reducible apply Bif.dec) <;> intro h <;> (try simp only [lns] at h) <;> (try (exfalso; omega))) | (apply Same.int; focus rfl) | (apply Same.bool; focus (with_reducible rfl)) | (apply Same.rfl) | (with_reducible apply Frz.l)) <;> conv => whnf) | fail)
theorem k_yusable (r : Rea) (now t : Int) (hs : srtP r.paths) (hr : ReaOK r) : Con Try.prog 76 [reaF r, int now, .v (.int .u64 t)] [] (.tup [pthV (curV r.paths now t), bool (usbP r.paths now t)]) [] := by
  have c1 := k_Current r.paths now t hs hr.lp
  refine spec_of_run ttok mixed (T0 := 975) (ts := [.cell 6 46, .tmp 7]) 25 rfl rfl rfl rfl (by simp) rfl ?_
  conv => whnf
  unfold usbP
  cases hc : curP r.paths now t
  · rw [hc] at c1
    simp only [Bool.false_and]
    repeat' (first | with_reducible apply True.intro | ((first | ((with_reducible apply Need.mk); focus kernel_rfl) | (apply CallN.mk (c1)) | (with_reducible apply Bif.F) | (with_reducible apply Same.rfl) | (apply Same.bool; focus (with_reducible rfl)) | (with_reducible apply Frz.l)) <;> conv => whnf) | fail)
  · rw [hc] at c1
    have e : curV r.paths now t = gt r.paths (atP r.paths t) := by rw [curV, hc, if_pos rfl]
    rw [e] at c1 ⊢
    repeat' (first | with_reducible apply True.intro | ((apply Same.bool); (focus (simp_all; done)); (conv => whnf)) | ((first | ((with_reducible apply Need.mk); focus kernel_rfl) | (apply CallN.mk (c1)) | (with_reducible apply Bif.T) | (with_reducible apply Same.rfl) | (with_reducible apply Frz.l)) <;> conv => whnf) | fail)
theorem k_search (r : Rea) (now t : Int) (hs : srtP r.paths) (hr : ReaOK r) : Con Try.prog 78 [reaF r, int now, .v (.int .u64 t)] [] (sndV (reqS r.self r.num r.paths now t)) [] := by
  have c1 := k_Current r.paths now t hs hr.lp
  refine spec_of_run ttok mixed (T0 := 16778191) (ts := [.cell 6 77]) 32 rfl rfl rfl rfl (by simp) rfl ?_
  conv => whnf
  unfold reqS
  cases hc : curP r.paths now t
  · rw [hc] at c1
    simp only [Bool.false_eq_true, if_false]
    repeat' (first | with_reducible apply True.intro | ((first | (apply CallN.mk (c1)) | (with_reducible apply Bif.F) | (with_reducible apply Same.rfl) | (with_reducible apply Frz.l)) <;> conv => whnf) | fail)
  · rw [hc] at c1
    have e : curV r.paths now t = gt r.paths (atP r.paths t) := by rw [curV, hc, if_pos rfl]
    rw [e] at c1
    simp only [if_true]
    repeat' (first | with_reducible apply True.intro | ((first | (apply CallN.mk (c1)) | (with_reducible apply Bif.T) | (with_reducible apply Same.rfl) | (with_reducible apply Frz.l)) <;> conv => whnf) | fail)
end Go.Fw
