/- OracleForms: the walk. -/
import Derived.Test.YtkmcmhohelgjfaaOfC
namespace Go.Fw
set_option maxRecDepth 4000
open Go.Proofs
set_option maxHeartbeats 4000000
theorem rows_n {M : List (Tg × List Int)} (hv : validT (rowsM M) = true) : ∀ p ∈ M, p.2.length = M.length := fun p hp => by
  obtain ⟨i, hi⟩ := List.mem_iff_getElem?.1 hp
  have hlt : i < M.length := (List.getElem?_eq_some_iff.1 hi).1
  simp only [validT, Bool.and_eq_true, List.all_eq_true, List.mem_range] at hv
  have h1 := hv.2 i (by simpa [rowsM] using hlt)
  simp only [rowOK, Bool.and_eq_true, decide_eq_true_eq] at h1
  have h2 := h1.1
  rw [show (rowsM M).getD i [] = p.2 by simp [rowsM, List.getD, hi]] at h2
  rw [h2]; simp [rowsM]
/-- spoiled: some list of rows. -/
theorem k_spoiled (l : List Int) (k : Int) (hk : 0 ≤ k) (hl : l.length ≤ 400) (M : List (Tg × List Int)) (h1 : 1 ≤ M.length) (h7 : M.length ≤ 7) (hv : validT (rowsM M) = true) :
    ∃ r hp', (∃ N k', r = .fs .no 1 (mat N) ∧ hp' = [.cells (tape l k'), .gone] ∧ N.length ≤ 7 ∧ 0 ≤ k') ∧ Con Try.prog 23 [.pb 0 [], .ov 1 1 0 M.length] [.cells (tape l k), .arr none 1 (mat M)] r hp' := by
  have key : ∃ r hp', Spo l r hp' ∧ Con Try.prog 23 [.pb 0 [], .ov 1 1 0 M.length] [.cells (tape l k), .arr none 1 (mat M)] r hp' := by
    have hr := rows_n hv
    clear hv
    match M, h1, h7, hr with
    | [a], _, _, hr => exact k_spo1 l k hk hl a (hr a (by simp))
    | [a, b], _, _, hr => exact k_spo2 l k hk hl a b (hr a (by simp)) (hr b (by simp))
    | [a, b, c], _, _, hr => exact k_spo3 l k hk hl a b c (hr a (by simp)) (hr b (by simp)) (hr c (by simp))
    | [a, b, c, d], _, _, hr => exact k_spo4 l k hk hl a b c d (hr a (by simp)) (hr b (by simp)) (hr c (by simp)) (hr d (by simp))
    | [a, b, c, d, e], _, _, hr => exact k_spo5 l k hk hl a b c d e (hr a (by simp)) (hr b (by simp)) (hr c (by simp)) (hr d (by simp)) (hr e (by simp))
    | [a, b, c, d, e, f], _, _, hr => exact k_spo6 l k hk hl a b c d e f (hr a (by simp)) (hr b (by simp)) (hr c (by simp)) (hr d (by simp)) (hr e (by simp)) (hr f (by simp))
    | [a, b, c, d, e, f, g], _, _, hr => exact k_spo7 l k hk hl a b c d e f g (hr a (by simp)) (hr b (by simp)) (hr c (by simp)) (hr d (by simp)) (hr e (by simp)) (hr f (by simp)) (hr g (by simp))
    | _ :: _ :: _ :: _ :: _ :: _ :: _ :: _ :: _, _, h7, _ => simp at h7
  obtain ⟨r, hp', ⟨R, off, k', rfl, rfl, h1, h2, h3⟩, hc⟩ := key
  exact ⟨_, _, ⟨noT (R.drop off), k', rfl, rfl, by rw [noT_len, List.length_drop]; omega, h1⟩, spo_shared hc (by simp) h3⟩
theorem k_OracleForms (M : List (Tg × List Int)) (t : List Int) (to : Int) :
    Con Try.prog 6 [.fs .no 1 (mat M), .fs .no 1 (ints t), int to] [] (bool true) [] := by
  have ht : (t.take 400).length ≤ 400 := by simp; omega
  have hl := mat_len M
  refine spec_of_run ttok mixed (T0 := 8890183) (ts := [.tmp 6]) 55 rfl rfl rfl rfl (by simp) rfl ?_
  conv => whnf
  repeat' (first | with_reducible apply True.intro | ((first | ((with_reducible apply Nm.mk); focus ((try simp only [lns, mat_len, mat_take]); exact rfl)) | (apply CallN.mk (k_known)) | ((with_reducible apply Bif.dec) <;> intro h <;> (try simp only [lns, mat_len, mat_take] at h)) | (with_reducible apply Same.rfl) | (with_reducible apply Frz.l)) <;> conv => whnf) | fail)
  refine loop_keep ttok mixed (T0 := 8890183) [0, 1, 2, 6, 15, 16] (ι := {i : Nat // i ≤ M.length})
    (fun i => [(17, int (i.1 : Int))]) (fun _ => []) (fun i => M.length - i.1) ⟨0, by omega⟩ ?_
  conv => whnf
  repeat' (first | ((first | (with_reducible apply Same.rfl) | (apply Same.int; focus rfl) | (with_reducible apply Frz.l)) <;> conv => whnf) | fail)
  rintro ⟨i, hi⟩
  dsimp only
  conv => whnf
  by_cases hiM : i < M.length
  · repeat' (first | with_reducible apply True.intro | ((with_reducible apply Elem.matG); (focus omega); conv => whnf) | ((first | ((with_reducible apply Nm.mk); focus ((try simp only [lns, mat_len, mat_take]); exact rfl)) | ((with_reducible apply Wr.i64); focus omega) | ((with_reducible apply Need.mk); focus omega) | (apply CallN.mk (k_known)) | ((with_reducible apply Bif.dec) <;> intro h <;> (try simp only [lns, mat_len, mat_take] at h) <;> (try (exfalso; omega))) | (with_reducible apply Same.rfl) | (with_reducible apply Frz.l)) <;> conv => whnf) | fail)
    (refine ⟨⟨i + 1, by omega⟩, ?_⟩; (try dsimp only); conv => whnf); repeat' (first | with_reducible apply True.intro | ((first | ((with_reducible apply Need.mk); focus omega) | (with_reducible apply Same.rfl) | (apply Same.int; focus rfl) | (with_reducible apply Turn.l) | (with_reducible apply Frz.l)) <;> conv => whnf) | fail)
  · repeat' (first | ((first | (apply CallN.mk (k_made_New t)) | (apply CallN.mk (k_alike M .no to (by omega))) | (refine CallN.ex (k_topology (t.take 400) _ (by omega) ht) ?_; rintro _ _ ⟨N, k1, rfl, rfl, n1, n2, hv, hk1⟩) | (with_reducible apply Bif.T) | ((with_reducible apply Bif.dec) <;> intro h <;> (try simp only [lns, mat_len, mat_take] at h) <;> (try (exfalso; omega))) | (with_reducible apply Frz.l)) <;> conv => whnf) | fail)
    repeat' (first | with_reducible apply True.intro | ((refine GiveN.mk [1] ?_); (conv => whnf); (refine CallN.ex (k_spoiled (t.take 400) k2 hk2 ht N n1 n2 hv) ?_); (rintro _ _ ⟨O, k3, rfl, rfl, o1, o2⟩); (conv => whnf)) | ((first | ((with_reducible apply Nm.mk); focus ((try simp only [lns, mat_len, mat_take]); exact rfl)) | ((with_reducible apply Need.mk); focus first | (simp only [lns, mat_len, mat_take]; omega) | exact CleanP.nil rfl) | (refine CallN.ex (k_tape_Next (t.take 400) k1 (N.length : Int) hk1 ht (by omega)) ?_; rintro _ _ ⟨x, k2, rfl, rfl, x1, x2, hk2⟩) | (apply CallN.mk (k_alike N .no x (by omega))) | (apply CallN.mk (k_alike N .no to (by omega))) | (apply CallN.mk (k_alike O .no 0 (by omega))) | (apply CallN.mk (k_known)) | (with_reducible apply Bif.T) | (with_reducible apply Same.rfl) | (with_reducible apply GiveN.lend) | (with_reducible apply Frz.l)) <;> conv => whnf) | fail)
theorem shp_mat {d : Nat} {s : SV} (h : Shp Try.prog tt (d + 3) 27 s) : ∃ M, s = .fs .no 1 (mat M) := by
  obtain ⟨rows, rfl, hl, h⟩ := h
  obtain ⟨M, rfl, _⟩ := rows_of (fun p : Tg × List Int => SV.fs p.1 1 (ints p.2)) (fun _ => True) fun r hr => let ⟨n, h1, _⟩ := shp_ints (d := d) (h 22 Try.underlying27 r hr); ⟨(Tg.no, n), h1, trivial⟩
  exact ⟨M, rfl⟩
end Go.Fw
