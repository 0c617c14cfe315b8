/- Reactive: offer, see. -/
import Derived.Test.YtmblmljcjmmlgaaReaC
namespace Go.Fw
open Go.Proofs
set_option maxHeartbeats 8000000
set_option maxRecDepth 4000
theorem putP_len (l : List Pth) (x : Pth) : (putP l x).length = if fndP l x.to = true then l.length else l.length + 1 := by
  have := atP_le l x.to
  unfold putP
  split
  · simp
  · simp; omega
theorem putP_le (l : List Pth) (x : Pth) : (putP l x).length ≤ l.length + 1 := by rw [putP_len]; split <;> omega
theorem ins_set {α : Type} {l : List α} {i : Nat} {x y : α} (hi : i ≤ l.length) : (l.take i ++ [x] ++ l.drop i).set i y = l.take i ++ [y] ++ l.drop i := by
  have h : (l.take i).length = i := by simp [Nat.min_eq_left hi]
  rw [List.append_assoc, List.append_assoc, List.set_append_right _ _ (by omega), h, Nat.sub_self]
  rfl
theorem k_offer (r : Rea) (now t nb : Int) (d : Dis) (hr : ReaOK r) (hn : isT now) :
    Con Try.prog 72 [.pb 0 [], int now, .v (.int .u64 t), .v (.int .u64 nb), disV d] (.cells (reaO r 1 2 3) :: reaH r) (bool (offM r now t nb d).2) (.cells (reaO (offM r now t nb d).1 1 2 3) :: reaH (offM r now t nb d).1) := by
  have n1 := hr.lp
  have c1 := k_find_Pth r.paths t (by omega)
  have h1 := fndP_iff (l := r.paths) (t := t)
  have h2 := atP_le r.paths t
  have h3 := curP_iff (l := r.paths) (now := now) (t := t)
  by_cases hA : t = r.self ∨ d.metric = 65535
  · rw [offM, if_pos hA]
    dsimp only [reaO, reaH]
    refine spec_of_run ttok mixed (T0 := 78882409729995291171520031) (ts := [.tmp 10]) 109 rfl rfl rfl rfl (by simp) rfl ?_
    conv => whnf
    repeat' (first | with_reducible apply True.intro | ((first | (with_reducible first | apply Bif.T | apply Bif.F) | ((with_reducible apply Bif.beq) <;> intro h <;> (try simp only [lns] at h) <;> (try (exfalso; omega))) | (with_reducible apply Same.rfl) | (apply Same.bool; focus (with_reducible rfl)) | (with_reducible apply Cut.l) | (with_reducible apply Frz.l)) <;> conv => whnf) | fail)
  · rw [offM, if_neg hA]
    by_cases hB : curP r.paths now t = true ∧ cmpD d (gt r.paths (atP r.paths t)).own ≠ -1 ∧ ¬ ((gt r.paths (atP r.paths t)).brk = false ∧ (gt r.paths (atP r.paths t)).nx = nb ∧ (gt r.paths (atP r.paths t)).own = d)
    · rw [if_pos hB]
      obtain ⟨b1, b2, b3⟩ := hB
      obtain ⟨b4, b5⟩ := h3.1 b1
      rw [b4] at c1
      have b6 := (h1.1 b4).1
      dsimp only [reaO, reaH]
      refine spec_of_run ttok mixed (T0 := 78882409729995291171520031) (ts := [.tmp 10]) 109 rfl rfl rfl rfl (by simp) rfl ?_
      conv => whnf
      repeat' (first | with_reducible apply True.intro | ((apply Bif.of (dis_eq _ _)); (conv => whnf)) | ((first | ((with_reducible apply Nm.mk); focus ((try simp only [lns]); exact rfl)) | ((with_reducible apply Need.mk); focus first | omega | (simp only [lns]; omega) | exact CleanP.nil rfl) | ((with_reducible apply Elem.lst); focus omega) | (apply CallN.mk (c1)) | (apply CallN.mk (k_Compare _ _)) | (with_reducible first | apply Bif.T | apply Bif.F) | ((with_reducible first | apply Bif.dec | apply Bif.beq | apply Bif.bne) <;> intro h <;> (try simp only [lns] at h) <;> (try first | (exfalso; omega) | ((refine absurd ⟨?_, ?_, ?_⟩ b3); (focus assumption); (focus assumption); (focus assumption)))) | (with_reducible apply Bif.not) | ((with_reducible apply Bif.mk) <;> intro h) | (with_reducible apply Same.rfl) | (apply Same.bool; focus (with_reducible rfl)) | (with_reducible first | apply Cut.l | apply GiveN.lend) | (with_reducible apply Frz.l)) <;> conv => whnf) | fail)
    · rw [if_neg hB]
      cases hf : fndP r.paths t
      · rw [hf] at c1
        simp only [true_and]
        by_cases hC : r.paths.length ≥ 64
        · rw [if_pos hC]
          dsimp only [reaO, reaH]
          refine spec_of_run ttok mixed (T0 := 78882409729995291171520031) (ts := [.tmp 10]) 109 rfl rfl rfl rfl (by simp) rfl ?_
          conv => whnf
          repeat' (first | with_reducible apply True.intro | ((first | ((with_reducible apply Nm.mk); focus ((try simp only [lns]); exact rfl)) | ((with_reducible apply Need.mk); focus first | (simp only [lns]; omega) | exact CleanP.nil rfl) | (apply CallN.mk (c1)) | (with_reducible apply Bif.F) | ((with_reducible first | apply Bif.dec | apply Bif.beq) <;> intro h <;> (try simp only [lns] at h) <;> (try (exfalso; omega))) | (with_reducible apply Bif.not) | (with_reducible apply Same.rfl) | (apply Same.bool; focus (with_reducible rfl)) | (with_reducible first | apply Cut.l | apply GiveN.lend) | (with_reducible apply Frz.l)) <;> conv => whnf) | fail)
        · rw [if_neg hC]
          have hp := k_put_Pth r.paths (atP r.paths t) path0 h2 n1
          have e : putP r.paths (offX now t nb d) = r.paths.take (atP r.paths t) ++ [offX now t nb d] ++ r.paths.drop (atP r.paths t) := by
            rw [putP, if_neg (by rw [show (offX now t nb d).to = t from rfl, hf]; simp)]; rfl
          rw [e]
          have eL : r.paths.length + 1 = (r.paths.take (atP r.paths t) ++ [offX now t nb d] ++ r.paths.drop (atP r.paths t)).length := by simp; omega
          have eS := ins_set (x := path0) (y := offX now t nb d) h2
          unfold offX at *
          generalize atP r.paths t = a at *
          dsimp only [reaO, reaH]
          refine spec_of_run ttok mixed (T0 := 78882409729995291171520031) (ts := [.tmp 10]) 109 rfl rfl rfl rfl (by simp) rfl ?_
          conv => whnf
          repeat' (first | with_reducible apply True.intro | ((with_reducible apply GiveN.mk [0]); (conv => whnf); (apply CallN.mk hp); (conv => whnf)) | ((with_reducible apply Same.mk); (focus (exact congrArg _ eS)); (conv => whnf)) | ((first | (with_reducible apply Nm.set _ (pth_mk3 _ _ _ _ _)) | ((with_reducible apply Nm.mk); focus ((try simp only [lns]); exact rfl)) | ((with_reducible apply Need.mk); focus first | omega | (simp only [lns]; omega) | exact CleanP.nil rfl | kernel_rfl) | ((with_reducible apply Elem.lst); focus (simp only [lns]; omega)) | (apply CallN.mk (c1)) | (apply CallN.mk (k_later _ _ hn (by omega))) | (with_reducible apply Bif.F) | ((with_reducible first | apply Bif.dec | apply Bif.beq) <;> intro h <;> (try simp only [lns] at h) <;> (try (exfalso; omega))) | (with_reducible apply Bif.not) | (with_reducible apply Same.rfl) | (apply Same.bool; focus (with_reducible rfl)) | ((with_reducible apply Same.mk); focus omega) | (with_reducible first | apply Cut.l | apply GiveN.lend) | (with_reducible apply Frz.l)) <;> conv => whnf) | fail)
      · rw [hf] at c1
        obtain ⟨g1, g2⟩ := h1.1 hf
        simp only [Bool.true_eq_false, false_and, if_false]
        have e : putP r.paths (offX now t nb d) = r.paths.set (atP r.paths t) (offX now t nb d) := by
          rw [putP, if_pos (by rw [show (offX now t nb d).to = t from rfl, hf])]; rfl
        rw [e]
        have hD : ¬ (now < (gt r.paths (atP r.paths t)).upto ∧ cmpD d (gt r.paths (atP r.paths t)).own ≠ -1 ∧ ¬ ((gt r.paths (atP r.paths t)).brk = false ∧ (gt r.paths (atP r.paths t)).nx = nb ∧ (gt r.paths (atP r.paths t)).own = d)) := fun h => hB ⟨h3.2 ⟨hf, h.1⟩, h.2⟩
        unfold offX at *
        generalize atP r.paths t = a at *
        dsimp only [reaO, reaH]
        refine spec_of_run ttok mixed (T0 := 78882409729995291171520031) (ts := [.tmp 10]) 109 rfl rfl rfl rfl (by simp) rfl ?_
        conv => whnf
        repeat' (first | with_reducible apply True.intro | ((apply Bif.of (dis_eq _ _)); (conv => whnf)) | ((with_reducible apply Same.mk); (focus (simp only [List.length_set]; done)); (conv => whnf)) | ((first | (with_reducible apply Nm.set _ (pth_mk3 _ _ _ _ _)) | ((with_reducible apply Nm.mk); focus ((try simp only [lns]); exact rfl)) | ((with_reducible apply Need.mk); focus first | omega | (simp only [lns]; omega) | exact CleanP.nil rfl | kernel_rfl) | ((with_reducible apply Elem.lst); focus omega) | (apply CallN.mk (c1)) | (apply CallN.mk (k_Compare _ _)) | (apply CallN.mk (k_later _ _ hn (by omega))) | (with_reducible first | apply Bif.T | apply Bif.F) | ((with_reducible first | apply Bif.dec | apply Bif.beq | apply Bif.bne) <;> intro h <;> (try simp only [lns] at h) <;> (try first | (exfalso; omega) | ((refine absurd ⟨?_, ?_, ?_⟩ hD); (focus omega); (focus assumption); (focus (simp_all; done))))) | (with_reducible apply Bif.not) | ((with_reducible apply Bif.mk) <;> intro h) | (apply Same.bool; focus (with_reducible rfl)) | (with_reducible first | apply Cut.l | apply GiveN.lend) | (with_reducible apply Frz.l)) <;> conv => whnf) | fail)
theorem minP_lt {l : List Pth} (h0 : 0 < l.length) : ∀ {k : Nat}, k ≤ l.length → minP l k < l.length
  | 0, _ => h0
  | k + 1, h => by
    unfold minP
    split
    · omega
    · exact minP_lt h0 (by omega)
theorem find_mem {l : List Pth} (hs : srtP l) {x : Pth} (hx : x ∈ l) : fndP l x.to = true := by
  obtain ⟨i, hi, rfl⟩ := List.getElem_of_mem hx
  rw [← gt_eq hi]
  have := at_other hs hi rfl
  exact fndP_iff.2 (by rw [this]; exact ⟨hi, rfl⟩)
theorem fnd_ex {l : List Pth} {t : Int} (h : fndP l t = true) : ∃ x ∈ l, x.to = t := by
  obtain ⟨h1, h2⟩ := fndP_iff.1 h
  exact ⟨_, gt_mem h1, h2⟩
theorem fnd_sub {l m : List Pth} {t : Int} (hs : srtP l) (hm : ∀ x ∈ m, x ∈ l) (h : fndP l t = false) : fndP m t = false := by
  rw [Bool.eq_false_iff]
  intro hf
  obtain ⟨x, hx, rfl⟩ := fnd_ex hf
  rw [find_mem hs (hm x hx)] at h
  cases h
theorem delP_mem {l : List Pth} {i : Nat} {x : Pth} (h : x ∈ delP l i) : x ∈ l := by
  rcases List.mem_append.1 h with h | h
  · exact List.mem_of_mem_take h
  · exact List.mem_of_mem_drop h
theorem delP_len {l : List Pth} {i : Nat} (h : i < l.length) : (delP l i).length = l.length - 1 := by simp [delP]; omega
theorem k_see (r : Rea) (now o : Int) (d : Dis) (hr : ReaOK r) (hn : isT now) (hs : srtP r.seen) :
    Con Try.prog 71 [.pb 0 [], int now, .v (.int .u64 o), disV d] (.cells (reaO r 1 2 3) :: reaH r) (bool (seeM r now o d).2) (.cells (reaO (seeM r now o d).1 1 2 3) :: reaH (seeM r now o d).1) := by
  have n1 := hr.ls
  have c1 := k_find_Pth r.seen o (by omega)
  have h1 := fndP_iff (l := r.seen) (t := o)
  have h2 := atP_le r.seen o
  have h3 := curP_iff (l := r.seen) (now := now) (t := o)
  by_cases hB : curP r.seen now o = true ∧ cmpD d (gt r.seen (atP r.seen o)).own ≠ -1
  · rw [seeM, if_pos hB]
    obtain ⟨b1, b2⟩ := hB
    obtain ⟨b4, b5⟩ := h3.1 b1
    rw [b4] at c1
    have b6 := (h1.1 b4).1
    dsimp only [reaO, reaH]
    refine spec_of_run ttok mixed (T0 := 2535301804988832412435533021071) (ts := [.tmp 8]) 123 rfl rfl rfl rfl (by simp) rfl ?_
    conv => whnf
    repeat' (first | with_reducible apply True.intro | ((first | ((with_reducible apply Nm.mk); focus ((try simp only [lns]); exact rfl)) | ((with_reducible apply Need.mk); focus first | omega | (simp only [lns]; omega) | exact CleanP.nil rfl | kernel_rfl) | ((with_reducible apply Elem.lst); focus omega) | (apply CallN.mk (c1)) | (apply CallN.mk (k_Compare _ _)) | (with_reducible apply Bif.T) | ((with_reducible first | apply Bif.dec | apply Bif.bne) <;> intro h <;> (try simp only [lns] at h) <;> (try (exfalso; omega))) | (with_reducible apply Same.rfl) | (apply Same.bool; focus (with_reducible rfl)) | (with_reducible first | apply Cut.l | apply GiveN.lend) | (with_reducible apply Frz.l)) <;> conv => whnf) | fail)
  · rw [seeM, if_neg hB]
    cases hf : fndP r.seen o
    · rw [hf] at c1
      simp only [true_and]
      by_cases hC : r.seen.length ≥ 64
      · rw [if_pos hC]
        have hm := minP_lt (l := r.seen) (k := r.seen.length) (by omega) (Nat.le_refl _)
        have hrem := k_remove_Pth r.seen (minP r.seen r.seen.length) hm n1
        rw [← delP_len hm] at hrem
        have hrem : Con _ _ _ _ _ [.arr none 6 (lst pthV (delP r.seen (minP r.seen r.seen.length)))] := hrem
        have hf2 : fndP (delP r.seen (minP r.seen r.seen.length)) o = false := fnd_sub hs (fun x hx => delP_mem hx) hf
        have hl2 := delP_len hm
        obtain ⟨L, hL⟩ : ∃ L, L = delP r.seen (minP r.seen r.seen.length) := ⟨_, rfl⟩
        rw [← hL] at hrem hf2 hl2 ⊢
        have c2 := k_find_Pth L o (by omega)
        rw [hf2] at c2
        have g2 := atP_le L o
        have hp := k_put_Pth L (atP L o) path0 g2 (by omega)
        have e : putP L (seeX now o d) = L.take (atP L o) ++ [seeX now o d] ++ L.drop (atP L o) := by
          rw [putP, if_neg (by rw [show (seeX now o d).to = o from rfl, hf2]; simp)]; rfl
        rw [e]
        have eL : L.length + 1 = (L.take (atP L o) ++ [seeX now o d] ++ L.drop (atP L o)).length := by simp; omega
        have eS := ins_set (x := path0) (y := seeX now o d) g2
        unfold seeX at *
        clear e hL
        generalize atP L o = a2 at *
        dsimp only [reaO, reaH]
        refine spec_of_run ttok mixed (T0 := 2535301804988832412435533021071) (ts := [.tmp 8]) 123 rfl rfl rfl rfl (by simp) rfl ?_
        conv => whnf
        repeat' (first | ((first | ((with_reducible apply Nm.mk); focus ((try simp only [lns]); exact rfl)) | ((with_reducible apply Need.mk); focus first | (simp only [lns]; omega) | exact CleanP.nil rfl | kernel_rfl) | (apply CallN.mk (c1)) | (with_reducible first | apply Bif.T | apply Bif.F) | ((with_reducible apply Bif.dec) <;> intro h <;> (try simp only [lns] at h) <;> (try (exfalso; omega))) | (with_reducible apply Bif.not) | (with_reducible apply GiveN.lend) | (with_reducible apply Frz.l)) <;> conv => whnf) | fail)
        refine loop_keep ttok mixed (T0 := 2535301804988832412435533021071) [0, 1, 2, 7, 10, 62, 63] (ι := {k : Nat // k ≤ r.seen.length})
          (fun k => [(11, int (minP r.seen k.1 : Int)), (64, int (k.1 : Int))]) (fun _ => [.cells (reaO r 1 2 3), .arr none 6 (lst pthV r.paths), .arr none 3 (lst dscV r.srch), .arr none 6 (lst pthV r.seen), .cells (disV d)]) (fun k => r.seen.length - k.1) ⟨0, by omega⟩ ?_
        conv => whnf
        repeat' (first | ((first | (with_reducible apply Same.rfl) | (apply Same.int; focus rfl) | (with_reducible apply Frz.l)) <;> conv => whnf) | fail)
        rintro ⟨k, hk⟩
        dsimp only
        conv => whnf
        by_cases hkl : k < r.seen.length
        · have hmk := minP_lt (l := r.seen) (k := k) (by omega) hk
          by_cases hu : (gt r.seen k).upto < (gt r.seen (minP r.seen k)).upto
          · have e : minP r.seen (k + 1) = k := by rw [minP, if_pos hu]
            repeat' (first | ((first | ((with_reducible apply Nm.mk); focus ((try simp only [lns]); exact rfl)) | ((with_reducible apply Wr.i64); focus omega) | ((with_reducible apply Need.mk); focus first | omega | kernel_rfl) | ((with_reducible apply Elem.lst); focus omega) | ((with_reducible apply Bif.dec) <;> intro h <;> (try simp only [lns] at h) <;> (try (exfalso; omega))) | (with_reducible apply Frz.l)) <;> conv => whnf) | fail)
            (refine ⟨⟨k + 1, by omega⟩, ?_⟩; (try dsimp only); conv => whnf); repeat' (first | with_reducible apply True.intro | ((with_reducible apply Same.mk); (focus (first | (rw [e]; done) | (rw [e]; omega) | fail)); (conv => whnf)) | ((first | ((with_reducible apply Need.mk); focus omega) | (with_reducible apply Same.rfl) | (apply Same.int; focus rfl) | (with_reducible apply Turn.l) | (with_reducible apply Frz.l)) <;> conv => whnf) | fail)
          · have e : minP r.seen (k + 1) = minP r.seen k := by rw [minP, if_neg hu]
            repeat' (first | ((first | ((with_reducible apply Nm.mk); focus ((try simp only [lns]); exact rfl)) | ((with_reducible apply Wr.i64); focus omega) | ((with_reducible apply Need.mk); focus first | omega | kernel_rfl) | ((with_reducible apply Elem.lst); focus omega) | ((with_reducible apply Bif.dec) <;> intro h <;> (try simp only [lns] at h) <;> (try (exfalso; omega))) | (with_reducible apply Frz.l)) <;> conv => whnf) | fail)
            (refine ⟨⟨k + 1, by omega⟩, ?_⟩; (try dsimp only); conv => whnf); repeat' (first | with_reducible apply True.intro | ((apply Same.int); (focus (first | (rw [e]; done) | fail)); (conv => whnf)) | ((first | ((with_reducible apply Need.mk); focus omega) | (with_reducible apply Same.rfl) | (apply Same.int; focus rfl) | (with_reducible apply Turn.l) | (with_reducible apply Frz.l)) <;> conv => whnf) | fail)
        · have hkE : k = r.seen.length := by omega
          subst hkE
          repeat' (first | with_reducible apply True.intro | ((with_reducible apply GiveN.mk [0]); (conv => whnf); (first | (apply CallN.mk hrem) | (apply CallN.mk hp) | fail); (conv => whnf)) | ((with_reducible apply Same.mk); (focus (exact congrArg _ eS)); (conv => whnf)) | ((first | (with_reducible apply Nm.set _ (pth_mk3 _ _ _ _ _)) | ((with_reducible apply Nm.mk); focus ((try simp only [lns]); exact rfl)) | ((with_reducible apply Need.mk); focus first | omega | (simp only [lns]; omega) | exact CleanP.nil rfl | kernel_rfl) | ((with_reducible apply Elem.lst); focus (simp only [lns]; omega)) | (apply CallN.mk (c2)) | (apply CallN.mk (k_later _ _ hn (by omega))) | (with_reducible apply Bif.F) | ((with_reducible apply Bif.dec) <;> intro h <;> (try simp only [lns] at h) <;> (try (exfalso; omega))) | (with_reducible apply Bif.not) | (with_reducible apply Same.rfl) | (apply Same.bool; focus (with_reducible rfl)) | ((with_reducible apply Same.mk); focus omega) | (with_reducible first | apply Cut.l | apply GiveN.lend) | (with_reducible apply Frz.l)) <;> conv => whnf) | fail)
      · rw [if_neg hC]
        have hp := k_put_Pth r.seen (atP r.seen o) path0 h2 n1
        have e : putP r.seen (seeX now o d) = r.seen.take (atP r.seen o) ++ [seeX now o d] ++ r.seen.drop (atP r.seen o) := by
          rw [putP, if_neg (by rw [show (seeX now o d).to = o from rfl, hf]; simp)]; rfl
        rw [e]
        have eL : r.seen.length + 1 = (r.seen.take (atP r.seen o) ++ [seeX now o d] ++ r.seen.drop (atP r.seen o)).length := by simp; omega
        have eS := ins_set (x := path0) (y := seeX now o d) h2
        unfold seeX at *
        generalize atP r.seen o = a at *
        dsimp only [reaO, reaH]
        refine spec_of_run ttok mixed (T0 := 2535301804988832412435533021071) (ts := [.tmp 8]) 123 rfl rfl rfl rfl (by simp) rfl ?_
        conv => whnf
        repeat' (first | with_reducible apply True.intro | ((with_reducible apply GiveN.mk [0]); (conv => whnf); (apply CallN.mk hp); (conv => whnf)) | ((with_reducible apply Same.mk); (focus (exact congrArg _ eS)); (conv => whnf)) | ((first | (with_reducible apply Nm.set _ (pth_mk3 _ _ _ _ _)) | ((with_reducible apply Nm.mk); focus ((try simp only [lns]); exact rfl)) | ((with_reducible apply Need.mk); focus first | omega | (simp only [lns]; omega) | exact CleanP.nil rfl | kernel_rfl) | ((with_reducible apply Elem.lst); focus (simp only [lns]; omega)) | (apply CallN.mk (c1)) | (apply CallN.mk (k_later _ _ hn (by omega))) | (with_reducible first | apply Bif.T | apply Bif.F) | ((with_reducible apply Bif.dec) <;> intro h <;> (try simp only [lns] at h) <;> (try (exfalso; omega))) | (with_reducible apply Bif.not) | (with_reducible apply Same.rfl) | (apply Same.bool; focus (with_reducible rfl)) | ((with_reducible apply Same.mk); focus omega) | (with_reducible first | apply Cut.l | apply GiveN.lend) | (with_reducible apply Frz.l)) <;> conv => whnf) | fail)
    · rw [hf] at c1
      obtain ⟨g1, g2⟩ := h1.1 hf
      simp only [Bool.true_eq_false, false_and, if_false]
      have e : putP r.seen (seeX now o d) = r.seen.set (atP r.seen o) (seeX now o d) := by
        rw [putP, if_pos (by rw [show (seeX now o d).to = o from rfl, hf])]; rfl
      rw [e]
      have hD : ¬ (now < (gt r.seen (atP r.seen o)).upto ∧ cmpD d (gt r.seen (atP r.seen o)).own ≠ -1) := fun h => hB ⟨h3.2 ⟨hf, h.1⟩, h.2⟩
      unfold seeX at *
      generalize atP r.seen o = a at *
      dsimp only [reaO, reaH]
      refine spec_of_run ttok mixed (T0 := 2535301804988832412435533021071) (ts := [.tmp 8]) 123 rfl rfl rfl rfl (by simp) rfl ?_
      conv => whnf
      repeat' (first | with_reducible apply True.intro | ((with_reducible apply Same.mk); (focus (simp only [List.length_set]; done)); (conv => whnf)) | ((first | (with_reducible apply Nm.set _ (pth_mk3 _ _ _ _ _)) | ((with_reducible apply Nm.mk); focus ((try simp only [lns]); exact rfl)) | ((with_reducible apply Need.mk); focus first | omega | (simp only [lns]; omega) | exact CleanP.nil rfl | kernel_rfl) | ((with_reducible apply Elem.lst); focus omega) | (apply CallN.mk (c1)) | (apply CallN.mk (k_Compare _ _)) | (apply CallN.mk (k_later _ _ hn (by omega))) | (with_reducible first | apply Bif.T | apply Bif.F) | ((with_reducible first | apply Bif.dec | apply Bif.bne) <;> intro h <;> (try simp only [lns] at h) <;> (try (exfalso; omega))) | (with_reducible apply Bif.not) | (apply Same.bool; focus (with_reducible rfl)) | (with_reducible first | apply Cut.l | apply GiveN.lend) | (with_reducible apply Frz.l)) <;> conv => whnf) | fail)
end Go.Fw
