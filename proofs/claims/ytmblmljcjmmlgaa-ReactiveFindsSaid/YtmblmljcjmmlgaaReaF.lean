/- Reactive: Next, Seek, and what is heard. -/
import Derived.Test.YtmblmljcjmmlgaaReaE
namespace Go.Fw
open Go.Proofs
set_option maxHeartbeats 8000000
set_option maxRecDepth 4000
theorem k_xNext (r : Rea) (now t : Int) (hr : ReaOK r) : Con Try.prog 31 [reaF r, int now, .v (.int .u64 t)] [] (.tup [.v (.int .u64 (nextM r now t).1), int (nextM r now t).2]) [] := by
  have c1 := k_xValid r hr
  have c2 := k_usable r now t hr
  by_cases h1 : validX r = true ∧ t ≠ 0 ∧ t ≠ r.self
  · obtain ⟨hv, ht, hs⟩ := id h1
    rw [hv] at c1
    by_cases h2 : isT now
    · cases hu : usbP r.paths now t
      · rw [nextM, if_pos h1, if_pos h2, hu, if_neg (by simp)]
        rw [hu, if_neg (by simp)] at c2
        refine spec_of_run ttok mixed (T0 := 1092616655) (ts := [.tmp 6, .tmp 7]) 37 rfl rfl rfl rfl (by simp) rfl ?_
        conv => whnf
        repeat' (first | with_reducible apply True.intro | ((first | (apply CallN.mk (c1)) | (apply CallN.mk (c2)) | (apply CallN.mk (k_xisTime _)) | (with_reducible first | apply Bif.T | apply Bif.F) | ((with_reducible first | apply Bif.dec | apply Bif.beq) <;> intro h <;> (try simp only [lns] at h) <;> (try (exfalso; omega))) | (with_reducible apply Bif.not) | (with_reducible apply Same.rfl) | (apply Same.int; focus rfl) | (with_reducible apply Frz.l)) <;> conv => whnf) | fail)
      · have hl := (fndP_iff.1 (usbP_iff.1 hu).1).1
        rw [nextM, if_pos h1, if_pos h2, hu, if_pos rfl]
        rw [hu, if_pos rfl] at c2
        generalize atP r.paths t = a at *
        refine spec_of_run ttok mixed (T0 := 1092616655) (ts := [.tmp 6, .tmp 7]) 37 rfl rfl rfl rfl (by simp) rfl ?_
        conv => whnf
        repeat' (first | with_reducible apply True.intro | ((first | ((with_reducible apply Nm.mk); focus ((try simp only [lns]); exact rfl)) | ((with_reducible apply Need.mk); focus (simp only [lns]; omega)) | ((with_reducible apply Elem.lst); focus omega) | (apply CallN.mk (c1)) | (apply CallN.mk (c2)) | (apply CallN.mk (k_xisTime _)) | (with_reducible first | apply Bif.T | apply Bif.F) | ((with_reducible first | apply Bif.dec | apply Bif.beq) <;> intro h <;> (try simp only [lns] at h) <;> (try (exfalso; omega))) | (with_reducible apply Bif.not) | (with_reducible apply Same.rfl) | (apply Same.int; focus rfl) | (with_reducible apply Frz.l)) <;> conv => whnf) | fail)
    · rw [nextM, if_pos h1, if_neg h2]
      refine spec_of_run ttok mixed (T0 := 1092616655) (ts := [.tmp 6, .tmp 7]) 37 rfl rfl rfl rfl (by simp) rfl ?_
      conv => whnf
      repeat' (first | with_reducible apply True.intro | ((first | (apply CallN.mk (c1)) | (apply CallN.mk (k_xisTime _)) | (with_reducible first | apply Bif.T | apply Bif.F) | ((with_reducible first | apply Bif.dec | apply Bif.beq) <;> intro h <;> (try simp only [lns] at h) <;> (try (exfalso; omega))) | (with_reducible apply Bif.not) | (with_reducible apply Same.rfl) | (apply Same.int; focus rfl) | (with_reducible apply Frz.l)) <;> conv => whnf) | fail)
  · rw [nextM, if_neg h1]
    refine spec_of_run ttok mixed (T0 := 1092616655) (ts := [.tmp 6, .tmp 7]) 37 rfl rfl rfl rfl (by simp) rfl ?_
    conv => whnf
    cases hv : validX r
    · rw [hv] at c1
      repeat' (first | with_reducible apply True.intro | ((first | (apply CallN.mk (c1)) | (with_reducible first | apply Bif.T | apply Bif.F) | (with_reducible apply Bif.not) | (with_reducible apply Same.rfl) | (apply Same.int; focus rfl) | (with_reducible apply Frz.l)) <;> conv => whnf) | fail)
    · rw [hv] at c1
      repeat' (first | with_reducible apply True.intro | ((first | (apply CallN.mk (c1)) | (with_reducible first | apply Bif.T | apply Bif.F) | ((with_reducible apply Bif.beq) <;> intro h <;> (try simp only [lns] at h) <;> (try ((refine absurd ⟨hv, ?_, ?_⟩ h1); (focus assumption); (focus assumption)))) | (with_reducible apply Bif.not) | (with_reducible apply Same.rfl) | (apply Same.int; focus rfl) | (with_reducible apply Frz.l)) <;> conv => whnf) | fail)
theorem insD_rows {l : List Dsc} {i : Nat} {x : Dsc} : (lst dscV l).take i ++ [dscV x] ++ (lst dscV l).drop i = lst dscV (l.take i ++ [x] ++ l.drop i) := by
  simp only [lst, ← List.map_take, ← List.map_drop, List.map_append, List.map_cons, List.map_nil]
theorem w16_def (x : Int) : IntKind.wrap .u16 x = w16 x := rfl
theorem Wr.w16 {x : Int} {K : Int → Prop} (h : K (w16 x)) : Wr .u16 x K := ⟨h⟩
theorem k_xSeek (r : Rea) (now t : Int) (hr : ReaOK r) (h0 : 0 ≤ t) : Con Try.prog 27 [reaF r, int now, .v (.int .u64 t)] []
    (.tup [reaO (seekM r now t).1 0 1 2, .ov 9 3 0 (seekM r now t).2.1.length, int (seekM r now t).2.2]) (reaH (seekM r now t).1 ++ [.arr none 9 (lst sndV (seekM r now t).2.1)]) := by
  have c1 := k_xValid r hr
  have c2 := k_usable r now t hr
  have c4 := k_clone r hr
  have c5 := k_find_Dsc r.srch t (by have := hr.ld; omega)
  have hle := atD_le r.srch t
  by_cases h1 : validX r = true ∧ t ≠ 0 ∧ t ≠ r.self
  · obtain ⟨hv, ht, hs⟩ := id h1
    rw [hv] at c1
    by_cases h2 : isT now
    · have hp1 := usbP_iff (l := r.paths) (now := now) (t := t)
      have hk0 := fndP_iff (l := r.paths) (t := t)
      by_cases h3 : fndD r.srch t = true ∨ usbP r.paths now t = true
      · rw [seekM, if_pos h1, if_pos h2, if_pos h3]
        dsimp only [reaO, reaH, List.cons_append, List.nil_append]
        cases hf : fndD r.srch t
        · rw [hf] at c5 h3
          have hu : usbP r.paths now t = true := by simpa using h3
          rw [hu, if_pos rfl] at c2
          refine spec_of_run ttok mixed (T0 := 4644337686159311) (ts := [.cell 6 32, .tmp 7, .tmp 8]) 74 rfl rfl rfl rfl (by simp) rfl ?_
          conv => whnf
          repeat' (first | with_reducible apply True.intro | ((first | (apply CallN.mk (c1)) | (apply CallN.mk (c2)) | (apply CallN.mk (c4)) | (apply CallN.mk (c5)) | (apply CallN.mk (k_xisTime _)) | (with_reducible first | apply Bif.T | apply Bif.F) | ((with_reducible first | apply Bif.dec | apply Bif.beq) <;> intro h <;> (try simp only [lns] at h) <;> (try (exfalso; omega))) | (with_reducible apply Bif.not) | (with_reducible apply Same.rfl) | (apply Same.int; focus rfl) | (apply Same.rfl) | (with_reducible apply Cut.l) | (with_reducible apply Frz.l)) <;> conv => whnf) | fail)
        · rw [hf] at c5
          refine spec_of_run ttok mixed (T0 := 4644337686159311) (ts := [.cell 6 32, .tmp 7, .tmp 8]) 74 rfl rfl rfl rfl (by simp) rfl ?_
          conv => whnf
          repeat' (first | with_reducible apply True.intro | ((first | (apply CallN.mk (c1)) | (apply CallN.mk (c4)) | (apply CallN.mk (c5)) | (apply CallN.mk (k_xisTime _)) | (with_reducible first | apply Bif.T | apply Bif.F) | ((with_reducible first | apply Bif.dec | apply Bif.beq) <;> intro h <;> (try simp only [lns] at h) <;> (try (exfalso; omega))) | (with_reducible apply Bif.not) | (with_reducible apply Same.rfl) | (apply Same.int; focus rfl) | (apply Same.rfl) | (with_reducible apply Cut.l) | (with_reducible apply Frz.l)) <;> conv => whnf) | fail)
      · have hf : fndD r.srch t = false := by cases h : fndD r.srch t <;> simp_all
        have hu : usbP r.paths now t = false := by cases h : usbP r.paths now t <;> simp_all
        rw [hf] at c5
        rw [hu, if_neg (by simp)] at c2
        by_cases h4 : r.srch.length ≥ 64
        · rw [seekM, if_pos h1, if_pos h2, if_neg h3, if_pos h4]
          dsimp only [reaO, reaH, List.cons_append, List.nil_append, rea0]
          refine spec_of_run ttok mixed (T0 := 4644337686159311) (ts := [.cell 6 32, .tmp 7, .tmp 8]) 74 rfl rfl rfl rfl (by simp) rfl ?_
          conv => whnf
          repeat' (first | with_reducible apply True.intro | ((first | ((with_reducible apply Nm.mk); focus ((try simp only [lns]); exact rfl)) | (apply CallN.mk (c1)) | (apply CallN.mk (c2)) | (apply CallN.mk (c4)) | (apply CallN.mk (c5)) | (apply CallN.mk (k_xisTime _)) | (with_reducible first | apply Bif.T | apply Bif.F) | ((with_reducible first | apply Bif.dec | apply Bif.beq) <;> intro h <;> (try simp only [lns] at h) <;> (try (exfalso; omega))) | (with_reducible apply Bif.not) | (with_reducible apply Same.rfl) | (apply Same.int; focus rfl) | (apply Same.rfl) | (with_reducible apply Frz.l)) <;> conv => whnf) | fail)
        · have hV := ReaV.of hr hv
          have hT := lat_isT h2 (d := 8) (by omega)
          have hx : dscOK r.self ⟨t, 3, lat now 8⟩ = true := dscOK_iff.2 ⟨⟨ht, hs⟩, by show 1 ≤ (3 : Int) ∧ (3 : Int) ≤ 3; omega, hT.1, hT.2⟩
          have e0 : seekM r now t = ({ r with num := w16 (r.num + 1), srch := insD r.srch ⟨t, 3, lat now 8⟩ }, [reqS r.self (w16 (r.num + 1)) r.paths now t], 0) := by
            rw [seekM, if_pos h1, if_pos h2, if_neg h3, if_neg h4]
          have o2 := seekM_rv (now := now) hr h0 (by rw [e0])
          rw [e0] at o2
          have c6 := k_request _ now t o2.ok
          rw [e0]
          have hp := k_put_Dsc r.srch (atD r.srch t) ⟨t, 3, lat now 8⟩ hle hr.ld
          have eL : r.srch.length + 1 = (insD r.srch ⟨t, 3, lat now 8⟩).length := by simp [insD]; omega
          have hp : Con _ _ _ _ _ [.arr none 3 (lst dscV (insD r.srch ⟨t, 3, lat now 8⟩))] := hp
          rw [eL] at hp
          generalize insD r.srch ⟨t, 3, lat now 8⟩ = q at *
          clear e0 o2
          dsimp only [reaO, reaH, reaF, List.cons_append, List.nil_append] at c6 ⊢
          refine spec_of_run ttok mixed (T0 := 4644337686159311) (ts := [.cell 6 32, .tmp 7, .tmp 8]) 74 rfl rfl rfl rfl (by simp) rfl ?_
          conv => whnf
          repeat' (first | with_reducible apply True.intro | ((with_reducible apply GiveN.mk [0]); (conv => whnf); (apply CallN.mk hp); (conv => whnf)) | ((with_reducible apply Wr.w16); (conv => whnf)) | ((first | ((with_reducible apply Nm.mk); focus ((try simp only [lns]); exact rfl)) | ((with_reducible apply Need.mk); focus first | (simp only [lns]; omega) | exact CleanP.nil rfl | kernel_rfl) | (apply CallN.mk (c1)) | (apply CallN.mk (c2)) | (apply CallN.mk (c4)) | (apply CallN.mk (c5)) | (apply CallN.mk (c6)) | (apply CallN.mk (k_xisTime _)) | (apply CallN.mk (k_later _ _ h2 (by omega))) | (with_reducible first | apply Bif.T | apply Bif.F) | ((with_reducible first | apply Bif.dec | apply Bif.beq) <;> intro h <;> (try simp only [lns] at h) <;> (try (exfalso; omega))) | (with_reducible apply Bif.not) | (with_reducible apply Same.rfl) | (apply Same.int; focus rfl) | (apply Same.rfl) | (with_reducible first | apply Cut.l | apply GiveN.lend) | (with_reducible apply Frz.l)) <;> conv => whnf) | fail)
    · rw [seekM, if_pos h1, if_neg h2]
      dsimp only [reaO, reaH, List.cons_append, List.nil_append, rea0]
      refine spec_of_run ttok mixed (T0 := 4644337686159311) (ts := [.cell 6 32, .tmp 7, .tmp 8]) 74 rfl rfl rfl rfl (by simp) rfl ?_
      conv => whnf
      repeat' (first | with_reducible apply True.intro | ((first | (apply CallN.mk (c1)) | (apply CallN.mk (k_xisTime _)) | (with_reducible first | apply Bif.T | apply Bif.F) | ((with_reducible first | apply Bif.dec | apply Bif.beq) <;> intro h <;> (try simp only [lns] at h) <;> (try (exfalso; omega))) | (with_reducible apply Bif.not) | (with_reducible apply Same.rfl) | (apply Same.int; focus rfl) | (apply Same.rfl) | (with_reducible apply Frz.l)) <;> conv => whnf) | fail)
  · rw [seekM, if_neg h1]
    dsimp only [reaO, reaH, List.cons_append, List.nil_append, rea0]
    refine spec_of_run ttok mixed (T0 := 4644337686159311) (ts := [.cell 6 32, .tmp 7, .tmp 8]) 74 rfl rfl rfl rfl (by simp) rfl ?_
    conv => whnf
    cases hv : validX r
    · rw [hv] at c1
      repeat' (first | with_reducible apply True.intro | ((first | (apply CallN.mk (c1)) | (with_reducible first | apply Bif.T | apply Bif.F) | (with_reducible apply Bif.not) | (with_reducible apply Same.rfl) | (apply Same.int; focus rfl) | (apply Same.rfl) | (with_reducible apply Frz.l)) <;> conv => whnf) | fail)
    · rw [hv] at c1
      repeat' (first | with_reducible apply True.intro | ((first | (apply CallN.mk (c1)) | (with_reducible first | apply Bif.T | apply Bif.F) | ((with_reducible apply Bif.beq) <;> intro h <;> (try simp only [lns] at h) <;> (try ((refine absurd ⟨hv, ?_, ?_⟩ h1); (focus assumption); (focus assumption)))) | (with_reducible apply Bif.not) | (with_reducible apply Same.rfl) | (apply Same.int; focus rfl) | (apply Same.rfl) | (with_reducible apply Frz.l)) <;> conv => whnf) | fail)
end Go.Fw
