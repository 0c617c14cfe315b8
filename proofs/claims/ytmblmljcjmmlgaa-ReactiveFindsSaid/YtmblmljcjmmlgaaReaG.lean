/- Reactive: requests, replies and errors that are heard. -/
import Derived.Test.YtmblmljcjmmlgaaReaF
namespace Go.Fw
open Go.Proofs
set_option maxHeartbeats 8000000
set_option maxRecDepth 4000
theorem k_hearRequest (r : Rea) (now nb : Int) (d : Dis) (m : Msg) (H : ReqOK r now nb d m) (ho : m.org ≠ 0) (h0 : 0 ≤ m.org) (hh : 1 ≤ m.hops ∧ m.hops ≤ 32) :
    Con Try.prog 43 [reaO r 0 1 2, int now, .v (.int .u64 nb), disV d, msgV m] (reaH r)
      (.tup [reaO (hReq r now nb d m).1 0 1 2, .ov 9 3 0 (hReq r now nb d m).2.length, int 0]) (reaH (hReq r now nb d m).1 ++ [.arr none 9 (lst sndV (hReq r now nb d m).2)]) := by
  obtain ⟨hV, hn, hb, hd, hi⟩ := H
  by_cases h1 : m.org = r.self
  · rw [hReq, if_pos h1]
    dsimp only [reaO, reaH, List.cons_append, List.nil_append]
    refine spec_of_run ttok mixed (T0 := 2305844383670353727) (ts := [.cell 10 32, .tmp 11, .tmp 12]) 74 rfl rfl rfl rfl (by simp) rfl ?_
    conv => whnf
    repeat' (first | with_reducible apply True.intro | ((first | (with_reducible apply Bif.T) | ((with_reducible apply Bif.beq) <;> intro h <;> (try simp only [lns] at h) <;> (try (exfalso; omega))) | (with_reducible apply Same.rfl) | (apply Same.int; focus rfl) | (apply Same.rfl) | (with_reducible apply Cut.l) | (with_reducible apply Frz.l)) <;> conv => whnf) | fail)
  · have c1 := k_see r now m.org d hV.ok hn hV.ss
    have v1 := seeM_rv (d := d) hV ho h0 h1 hn hd hi
    have s1 := seeM_self (r := r) (now := now) (o := m.org) (d := d)
    have s2 := seeM_num (r := r) (now := now) (o := m.org) (d := d)
    have s3 := seeM_no (r := r) (now := now) (o := m.org) (d := d)
    rw [hReq, if_neg h1]
    generalize seeM r now m.org d = q at *
    obtain ⟨r1, b1⟩ := q
    dsimp only at c1 v1 s1 s2 s3 ⊢
    cases b1
    · rw [s3 rfl] at c1
      simp only [if_true]
      dsimp only [reaO, reaH, List.cons_append, List.nil_append] at c1 ⊢
      refine spec_of_run ttok mixed (T0 := 2305844383670353727) (ts := [.cell 10 32, .tmp 11, .tmp 12]) 74 rfl rfl rfl rfl (by simp) rfl ?_
      conv => whnf
      repeat' (first | with_reducible apply True.intro | ((with_reducible apply GiveN.mk [0]); (conv => whnf); (apply CallN.mk c1); (conv => whnf)) | ((first | (with_reducible apply Bif.F) | ((with_reducible apply Bif.beq) <;> intro h <;> (try simp only [lns] at h) <;> (try (exfalso; omega))) | (with_reducible apply Bif.not) | (with_reducible apply Same.rfl) | (apply Same.int; focus rfl) | (apply Same.rfl) | (with_reducible apply Cut.l) | (with_reducible apply Frz.l)) <;> conv => whnf) | fail)
    · have c2 := k_offer r1 now m.org nb d v1.ok hn
      have t1 := offM_self (r := r1) (now := now) (t := m.org) (nb := nb) (d := d)
      have t2 := offM_num (r := r1) (now := now) (t := m.org) (nb := nb) (d := d)
      generalize offM r1 now m.org nb d = q at *
      obtain ⟨r2, b2⟩ := q
      dsimp only at c2 t1 t2 ⊢
      rw [s1] at t1
      rw [s2] at t2
      simp only [Bool.true_eq_false, if_false]
      have c3 := k_sqRaise r.num m.kn
      by_cases h2 : m.to = r.self
      · rw [if_pos h2]
        cases h3 : m.has
        · simp only [Bool.false_eq_true, if_false]
          rw [← t2, ← t1]
          rw [← t1] at h2
          dsimp only [reaO, reaH, List.cons_append, List.nil_append] at c1 c2 ⊢
          refine spec_of_run ttok mixed (T0 := 2305844383670353727) (ts := [.cell 10 32, .tmp 11, .tmp 12]) 74 rfl rfl rfl rfl (by simp) rfl ?_
          conv => whnf
          repeat' (first | with_reducible apply True.intro | ((with_reducible apply GiveN.mk [0]); (conv => whnf); (first | (apply CallN.mk c1) | (apply CallN.mk c2) | fail); (conv => whnf)) | ((first | ((with_reducible apply Need.mk); focus kernel_rfl) | (with_reducible first | apply Bif.T | apply Bif.F) | ((with_reducible apply Bif.beq) <;> intro h <;> (try simp only [lns] at h) <;> (try (exfalso; omega))) | (with_reducible apply Bif.not) | ((with_reducible apply Bif.mk) <;> intro h <;> (try (rw [h3] at h; cases h))) | (with_reducible apply Same.rfl) | (apply Same.int; focus rfl) | (apply Same.rfl) | (with_reducible apply Cut.l) | (with_reducible apply Frz.l)) <;> conv => whnf) | fail)
        · simp only [if_true]
          rw [← t2] at c3
          rw [← t2, ← t1]
          rw [← t1] at h2
          dsimp only [reaO, reaH, List.cons_append, List.nil_append] at c1 c2 ⊢
          refine spec_of_run ttok mixed (T0 := 2305844383670353727) (ts := [.cell 10 32, .tmp 11, .tmp 12]) 74 rfl rfl rfl rfl (by simp) rfl ?_
          conv => whnf
          repeat' (first | with_reducible apply True.intro | ((with_reducible apply GiveN.mk [0]); (conv => whnf); (first | (apply CallN.mk c1) | (apply CallN.mk c2) | fail); (conv => whnf)) | ((first | ((with_reducible apply Need.mk); focus kernel_rfl) | (apply CallN.mk (c3)) | (with_reducible first | apply Bif.T | apply Bif.F) | ((with_reducible apply Bif.beq) <;> intro h <;> (try simp only [lns] at h) <;> (try (exfalso; omega))) | (with_reducible apply Bif.not) | ((with_reducible apply Bif.mk) <;> intro h <;> (try (rw [h3] at h; cases h))) | (with_reducible apply Same.rfl) | (apply Same.int; focus rfl) | (apply Same.rfl) | (with_reducible apply Cut.l) | (with_reducible apply Frz.l)) <;> conv => whnf) | fail)
      · rw [if_neg h2]
        rw [← t1] at h2
        by_cases h4 : m.hops ≤ 1
        · rw [if_pos h4]
          dsimp only [reaO, reaH, List.cons_append, List.nil_append] at c1 c2 ⊢
          refine spec_of_run ttok mixed (T0 := 2305844383670353727) (ts := [.cell 10 32, .tmp 11, .tmp 12]) 74 rfl rfl rfl rfl (by simp) rfl ?_
          conv => whnf
          repeat' (first | with_reducible apply True.intro | ((with_reducible apply GiveN.mk [0]); (conv => whnf); (first | (apply CallN.mk c1) | (apply CallN.mk c2) | fail); (conv => whnf)) | ((first | (with_reducible first | apply Bif.T | apply Bif.F) | ((with_reducible first | apply Bif.dec | apply Bif.beq) <;> intro h <;> (try simp only [lns] at h) <;> (try (exfalso; omega))) | (with_reducible apply Bif.not) | (with_reducible apply Same.rfl) | (apply Same.int; focus rfl) | (apply Same.rfl) | (with_reducible apply Cut.l) | (with_reducible apply Frz.l)) <;> conv => whnf) | fail)
        · rw [if_neg h4]
          dsimp only [reaO, reaH, List.cons_append, List.nil_append] at c1 c2 ⊢
          refine spec_of_run ttok mixed (T0 := 2305844383670353727) (ts := [.cell 10 32, .tmp 11, .tmp 12]) 74 rfl rfl rfl rfl (by simp) rfl ?_
          conv => whnf
          repeat' (first | with_reducible apply True.intro | ((with_reducible apply GiveN.mk [0]); (conv => whnf); (first | (apply CallN.mk c1) | (apply CallN.mk c2) | fail); (conv => whnf)) | ((first | ((with_reducible apply Wr.i64); focus omega) | ((with_reducible apply Need.mk); focus kernel_rfl) | (with_reducible first | apply Bif.T | apply Bif.F) | ((with_reducible first | apply Bif.dec | apply Bif.beq) <;> intro h <;> (try simp only [lns] at h) <;> (try (exfalso; omega))) | (with_reducible apply Bif.not) | (with_reducible apply Same.rfl) | (apply Same.int; focus rfl) | (apply Same.rfl) | (with_reducible apply Cut.l) | (with_reducible apply Frz.l)) <;> conv => whnf) | fail)
theorem k_hearReply (r : Rea) (now nb : Int) (d : Dis) (m : Msg) (H : ReqOK r now nb d m) (ho : m.to ≠ 0) (h0 : 0 ≤ m.to) (hh : 1 ≤ m.hops ∧ m.hops ≤ 32) :
    Con Try.prog 44 [reaO r 0 1 2, int now, .v (.int .u64 nb), disV d, msgV m] (reaH r)
      (.tup [reaO (hRep r now nb d m).1 0 1 2, .ov 9 3 0 (hRep r now nb d m).2.length, int 0]) (reaH (hRep r now nb d m).1 ++ [.arr none 9 (lst sndV (hRep r now nb d m).2)]) := by
  obtain ⟨hV, hn, hb, hd, hi⟩ := H
  have c1 := k_offer r now m.to nb d hV.ok hn
  have v1 := offM_rv (d := d) hV ho h0 hn hb hd
  have s1 := offM_self (r := r) (now := now) (t := m.to) (nb := nb) (d := d)
  have s2 := offM_srch (r := r) (now := now) (t := m.to) (nb := nb) (d := d)
  have s3 := offM_no (r := r) (now := now) (t := m.to) (nb := nb) (d := d)
  rw [hRep]
  generalize offM r now m.to nb d = q at *
  obtain ⟨r1, b1⟩ := q
  dsimp only at c1 v1 s1 s2 s3 ⊢
  cases b1
  · rw [s3 rfl] at c1
    simp only [if_true]
    dsimp only [reaO, reaH, List.cons_append, List.nil_append] at c1 ⊢
    refine spec_of_run ttok mixed (T0 := 36028934730612543) (ts := [.cell 10 32, .tmp 11, .tmp 12]) 74 rfl rfl rfl rfl (by simp) rfl ?_
    conv => whnf
    repeat' (first | with_reducible apply True.intro | ((with_reducible apply GiveN.mk [0]); (conv => whnf); (apply CallN.mk c1); (conv => whnf)) | ((first | (with_reducible apply Bif.F) | (with_reducible apply Bif.not) | (with_reducible apply Same.rfl) | (apply Same.int; focus rfl) | (apply Same.rfl) | (with_reducible apply Cut.l) | (with_reducible apply Frz.l)) <;> conv => whnf) | fail)
  · simp only [Bool.true_eq_false, if_false]
    by_cases h1 : m.org = r.self
    · rw [if_pos h1]
      have c2 := k_find_Dsc r.srch m.to (by have := hV.ok.ld; omega)
      have hf := fndD_iff (l := r.srch) (t := m.to)
      rw [← s2] at c2 hf ⊢
      rw [← s1] at h1
      unfold delD
      cases hk : fndD r1.srch m.to
      · simp only [Bool.false_eq_true, if_false]
        rw [hk] at c2
        dsimp only [reaO, reaH, List.cons_append, List.nil_append] at c1 ⊢
        refine spec_of_run ttok mixed (T0 := 36028934730612543) (ts := [.cell 10 32, .tmp 11, .tmp 12]) 74 rfl rfl rfl rfl (by simp) rfl ?_
        conv => whnf
        repeat' (first | with_reducible apply True.intro | ((with_reducible apply GiveN.mk [0]); (conv => whnf); (apply CallN.mk c1); (conv => whnf)) | ((first | ((with_reducible apply Nm.mk); focus ((try simp only [lns]); exact rfl)) | ((with_reducible apply Need.mk); focus first | (simp only [lns]; omega) | exact CleanP.nil rfl) | (apply CallN.mk (c2)) | (with_reducible first | apply Bif.T | apply Bif.F) | ((with_reducible apply Bif.beq) <;> intro h <;> (try simp only [lns] at h) <;> (try (exfalso; omega))) | (with_reducible apply Bif.not) | (with_reducible apply Same.rfl) | (apply Same.int; focus rfl) | (apply Same.rfl) | (with_reducible first | apply Cut.l | apply GiveN.lend) | (with_reducible apply Frz.l)) <;> conv => whnf) | fail)
      · simp only [if_true]
        rw [hk] at c2
        have hl := (hf.1 hk).1
        have c3 := k_remove_Dsc r1.srch (atD r1.srch m.to) hl v1.ok.ld
        have eL : r1.srch.length - 1 = (r1.srch.take (atD r1.srch m.to) ++ r1.srch.drop (atD r1.srch m.to + 1)).length := by simp; omega
        rw [eL] at c3
        generalize r1.srch.take (atD r1.srch m.to) ++ r1.srch.drop (atD r1.srch m.to + 1) = q at *
        dsimp only [reaO, reaH, List.cons_append, List.nil_append] at c1 ⊢
        refine spec_of_run ttok mixed (T0 := 36028934730612543) (ts := [.cell 10 32, .tmp 11, .tmp 12]) 74 rfl rfl rfl rfl (by simp) rfl ?_
        conv => whnf
        repeat' (first | with_reducible apply True.intro | ((with_reducible apply GiveN.mk [0]); (conv => whnf); (first | (apply CallN.mk c1) | (apply CallN.mk c3) | fail); (conv => whnf)) | ((first | ((with_reducible apply Nm.mk); focus ((try simp only [lns]); exact rfl)) | ((with_reducible apply Need.mk); focus first | (simp only [lns]; omega) | exact CleanP.nil rfl) | (apply CallN.mk (c2)) | (with_reducible apply Bif.T) | ((with_reducible apply Bif.beq) <;> intro h <;> (try simp only [lns] at h) <;> (try (exfalso; omega))) | (with_reducible apply Bif.not) | (with_reducible apply Same.rfl) | (apply Same.int; focus rfl) | (apply Same.rfl) | (with_reducible first | apply Cut.l | apply GiveN.lend) | (with_reducible apply Frz.l)) <;> conv => whnf) | fail)
    · rw [if_neg h1]
      rw [← s1] at h1
      have c2 := k_usable r1 now m.org v1.ok
      have hp1 := usbP_iff (l := r1.paths) (now := now) (t := m.org)
      have hk0 := fndP_iff (l := r1.paths) (t := m.org)
      cases hu : usbP r1.paths now m.org
      · rw [if_pos (.inl rfl)]
        rw [hu, if_neg (by simp)] at c2
        dsimp only [reaO, reaH, List.cons_append, List.nil_append] at c1 ⊢
        refine spec_of_run ttok mixed (T0 := 36028934730612543) (ts := [.cell 10 32, .tmp 11, .tmp 12]) 74 rfl rfl rfl rfl (by simp) rfl ?_
        conv => whnf
        repeat' (first | with_reducible apply True.intro | ((with_reducible apply GiveN.mk [0]); (conv => whnf); (apply CallN.mk c1); (conv => whnf)) | ((first | ((with_reducible apply Nm.mk); focus ((try simp only [lns]); exact rfl)) | ((with_reducible apply Need.mk); focus first | (simp only [lns]; omega) | exact CleanP.nil rfl) | (apply CallN.mk (c2)) | (with_reducible apply Bif.T) | ((with_reducible first | apply Bif.dec | apply Bif.beq) <;> intro h <;> (try simp only [lns] at h) <;> (try (exfalso; omega))) | (with_reducible apply Bif.not) | (with_reducible apply Same.rfl) | (apply Same.int; focus rfl) | (apply Same.rfl) | (with_reducible first | apply Cut.l | apply GiveN.lend) | (with_reducible apply Frz.l)) <;> conv => whnf) | fail)
      · have hl := (hk0.1 (hp1.1 hu).1).1
        rw [hu, if_pos rfl] at c2
        by_cases h4 : m.hops ≤ 1
        · rw [if_pos (.inr h4)]
          dsimp only [reaO, reaH, List.cons_append, List.nil_append] at c1 ⊢
          refine spec_of_run ttok mixed (T0 := 36028934730612543) (ts := [.cell 10 32, .tmp 11, .tmp 12]) 74 rfl rfl rfl rfl (by simp) rfl ?_
          conv => whnf
          repeat' (first | with_reducible apply True.intro | ((with_reducible apply GiveN.mk [0]); (conv => whnf); (apply CallN.mk c1); (conv => whnf)) | ((first | ((with_reducible apply Nm.mk); focus ((try simp only [lns]); exact rfl)) | ((with_reducible apply Need.mk); focus first | (simp only [lns]; omega) | exact CleanP.nil rfl) | (apply CallN.mk (c2)) | (with_reducible first | apply Bif.T | apply Bif.F) | ((with_reducible first | apply Bif.dec | apply Bif.beq) <;> intro h <;> (try simp only [lns] at h) <;> (try (exfalso; omega))) | (with_reducible apply Bif.not) | (with_reducible apply Same.rfl) | (apply Same.int; focus rfl) | (apply Same.rfl) | (with_reducible first | apply Cut.l | apply GiveN.lend) | (with_reducible apply Frz.l)) <;> conv => whnf) | fail)
        · rw [if_neg (by simp [h4])]
          generalize atP r1.paths m.org = a at *
          dsimp only [reaO, reaH, List.cons_append, List.nil_append] at c1 ⊢
          refine spec_of_run ttok mixed (T0 := 36028934730612543) (ts := [.cell 10 32, .tmp 11, .tmp 12]) 74 rfl rfl rfl rfl (by simp) rfl ?_
          conv => whnf
          repeat' (first | with_reducible apply True.intro | ((with_reducible apply GiveN.mk [0]); (conv => whnf); (apply CallN.mk c1); (conv => whnf)) | ((first | ((with_reducible apply Nm.mk); focus ((try simp only [lns]); exact rfl)) | ((with_reducible apply Wr.i64); focus omega) | ((with_reducible apply Need.mk); focus first | omega | (simp only [lns]; omega) | exact CleanP.nil rfl | kernel_rfl) | ((with_reducible apply Elem.lst); focus omega) | (apply CallN.mk (c2)) | (with_reducible first | apply Bif.T | apply Bif.F) | ((with_reducible first | apply Bif.dec | apply Bif.beq) <;> intro h <;> (try simp only [lns] at h) <;> (try (exfalso; omega))) | (with_reducible apply Bif.not) | (with_reducible apply Same.rfl) | (apply Same.int; focus rfl) | (apply Same.rfl) | (with_reducible first | apply Cut.l | apply GiveN.lend) | (with_reducible apply Frz.l)) <;> conv => whnf) | fail)
theorem k_hearError (r : Rea) (now nb : Int) (m : Msg) (hr : ReaOK r) (hh : 1 ≤ m.hops ∧ m.hops ≤ 32) :
    Con Try.prog 42 [.pb 0 [], int now, .v (.int .u64 nb), msgV m] (.cells (reaO r 1 2 3) :: reaH r)
      (.ov 9 4 0 (hErr r now nb m).2.length) (.cells (reaO (hErr r now nb m).1 1 2 3) :: reaH (hErr r now nb m).1 ++ [.arr none 9 (lst sndV (hErr r now nb m).2)]) := by
  have c2 := k_usable r now m.to hr
  have hp1 := usbP_iff (l := r.paths) (now := now) (t := m.to)
  have hk0 := fndP_iff (l := r.paths) (t := m.to)
  cases hu : usbP r.paths now m.to
  · rw [hErr, if_pos (.inl hu)]
    rw [hu, if_neg (by simp)] at c2
    dsimp only [reaO, reaH, List.cons_append, List.nil_append]
    refine spec_of_run ttok mixed (T0 := 2361185493236783777679) (ts := [.tmp 8]) 79 rfl rfl rfl rfl (by simp) rfl ?_
    conv => whnf
    repeat' (first | with_reducible apply True.intro | ((first | ((with_reducible apply Nm.mk); focus ((try simp only [lns]); exact rfl)) | ((with_reducible apply Need.mk); focus first | (simp only [lns]; omega) | exact CleanP.nil rfl | kernel_rfl) | (apply CallN.mk (c2)) | (with_reducible apply Bif.T) | ((with_reducible apply Bif.dec) <;> intro h <;> (try simp only [lns] at h) <;> (try (exfalso; omega))) | (with_reducible apply Same.rfl) | (apply Same.rfl) | (with_reducible first | apply Cut.l | apply GiveN.lend) | (with_reducible apply Frz.l)) <;> conv => whnf) | fail)
  · have hl := (hk0.1 (hp1.1 hu).1).1
    rw [hu, if_pos rfl] at c2
    by_cases h1 : (gt r.paths (atP r.paths m.to)).nx ≠ nb
    · rw [hErr, if_pos (.inr h1)]
      generalize atP r.paths m.to = a at *
      dsimp only [reaO, reaH, List.cons_append, List.nil_append]
      refine spec_of_run ttok mixed (T0 := 2361185493236783777679) (ts := [.tmp 8]) 79 rfl rfl rfl rfl (by simp) rfl ?_
      conv => whnf
      repeat' (first | with_reducible apply True.intro | ((first | ((with_reducible apply Nm.mk); focus ((try simp only [lns]); exact rfl)) | ((with_reducible apply Need.mk); focus first | omega | (simp only [lns]; omega) | exact CleanP.nil rfl | kernel_rfl) | ((with_reducible apply Elem.lst); focus omega) | (apply CallN.mk (c2)) | (with_reducible apply Bif.F) | ((with_reducible first | apply Bif.dec | apply Bif.bne) <;> intro h <;> (try simp only [lns] at h) <;> (try (exfalso; omega))) | (with_reducible apply Same.rfl) | (apply Same.rfl) | (with_reducible first | apply Cut.l | apply GiveN.lend) | (with_reducible apply Frz.l)) <;> conv => whnf) | fail)
    · rw [hErr, if_neg (by simp [hu, h1])]
      by_cases h2 : m.num ≠ (gt r.paths (atP r.paths m.to)).own.seq ∧ newer m.num (gt r.paths (atP r.paths m.to)).own.seq = false
      · rw [if_pos h2]
        generalize atP r.paths m.to = a at *
        have c3 := k_Newer m.num (gt r.paths a).own.seq
        rw [h2.2] at c3
        have h3 := h2.1
        dsimp only [reaO, reaH, List.cons_append, List.nil_append]
        refine spec_of_run ttok mixed (T0 := 2361185493236783777679) (ts := [.tmp 8]) 79 rfl rfl rfl rfl (by simp) rfl ?_
        conv => whnf
        repeat' (first | with_reducible apply True.intro | ((first | ((with_reducible apply Nm.mk); focus ((try simp only [lns]); exact rfl)) | ((with_reducible apply Need.mk); focus first | omega | (simp only [lns]; omega) | exact CleanP.nil rfl | kernel_rfl) | ((with_reducible apply Elem.lst); focus omega) | (apply CallN.mk (c2)) | (apply CallN.mk (c3)) | (with_reducible first | apply Bif.T | apply Bif.F) | ((with_reducible first | apply Bif.dec | apply Bif.bne) <;> intro h <;> (try simp only [lns] at h) <;> (try (exfalso; omega))) | (with_reducible apply Bif.not) | (with_reducible apply Same.rfl) | (apply Same.rfl) | (with_reducible first | apply Cut.l | apply GiveN.lend) | (with_reducible apply Frz.l)) <;> conv => whnf) | fail)
      · rw [if_neg h2]
        generalize atP r.paths m.to = a at *
        unfold brk1
        by_cases h4 : m.hops ≤ 1
        · rw [if_pos h4]
          dsimp only [reaO, reaH, List.cons_append, List.nil_append]
          refine spec_of_run ttok mixed (T0 := 2361185493236783777679) (ts := [.tmp 8]) 79 rfl rfl rfl rfl (by simp) rfl ?_
          conv => whnf
          repeat' (first | with_reducible apply True.intro | ((with_reducible apply Same.mk); (focus (simp only [List.length_set]; done)); (conv => whnf)) | ((with_reducible apply Same.mk); (focus (simp only [List.set_set, gt_set hl, if_true]; done)); (conv => whnf)) | ((first | (with_reducible first | apply Nm.set _ (pth_mk _ _ _ _ _) | apply Nm.set _ (pth_mk2 _ _ _ _ _ _)) | ((with_reducible apply Nm.mk); focus ((try simp only [lns]); exact rfl)) | ((with_reducible apply Need.mk); focus first | omega | (simp only [lns]; omega) | exact CleanP.nil rfl | kernel_rfl) | ((with_reducible apply Elem.lst); focus first | omega | (simp only [lns]; omega)) | (apply CallN.mk (c2)) | (apply CallN.mk (k_Newer _ _)) | (with_reducible first | apply Bif.T | apply Bif.F) | ((with_reducible first | apply Bif.dec | apply Bif.bne) <;> intro h <;> (try simp only [lns] at h) <;> (try (exfalso; omega))) | (with_reducible apply Bif.not) | ((with_reducible apply Bif.mk) <;> intro h <;> (try ((refine absurd ⟨?_, ?_⟩ h2); (focus assumption); (focus assumption)))) | (apply Same.rfl) | (with_reducible first | apply Cut.l | apply GiveN.lend) | (with_reducible apply Frz.l)) <;> conv => whnf) | fail)
        · rw [if_neg h4]
          dsimp only [reaO, reaH, List.cons_append, List.nil_append]
          refine spec_of_run ttok mixed (T0 := 2361185493236783777679) (ts := [.tmp 8]) 79 rfl rfl rfl rfl (by simp) rfl ?_
          conv => whnf
          repeat' (first | with_reducible apply True.intro | ((with_reducible apply Same.mk); (focus (simp only [List.length_set]; done)); (conv => whnf)) | ((with_reducible apply Same.mk); (focus (simp only [List.set_set, gt_set hl, if_true]; done)); (conv => whnf)) | ((first | (with_reducible first | apply Nm.set _ (pth_mk _ _ _ _ _) | apply Nm.set _ (pth_mk2 _ _ _ _ _ _)) | ((with_reducible apply Nm.mk); focus ((try simp only [lns]); exact rfl)) | ((with_reducible apply Wr.i64); focus omega) | ((with_reducible apply Need.mk); focus first | omega | (simp only [lns]; omega) | exact CleanP.nil rfl | kernel_rfl) | ((with_reducible apply Elem.lst); focus first | omega | (simp only [lns]; omega)) | (apply CallN.mk (c2)) | (apply CallN.mk (k_Newer _ _)) | (with_reducible first | apply Bif.T | apply Bif.F) | ((with_reducible first | apply Bif.dec | apply Bif.bne) <;> intro h <;> (try simp only [lns] at h) <;> (try (exfalso; omega))) | (with_reducible apply Bif.not) | ((with_reducible apply Bif.mk) <;> intro h <;> (try ((refine absurd ⟨?_, ?_⟩ h2); (focus assumption); (focus assumption)))) | (apply Same.rfl) | (with_reducible first | apply Cut.l | apply GiveN.lend) | (with_reducible apply Frz.l)) <;> conv => whnf) | fail)
end Go.Fw
