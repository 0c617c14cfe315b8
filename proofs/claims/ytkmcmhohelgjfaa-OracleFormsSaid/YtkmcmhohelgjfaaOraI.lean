/- Topologies: Valid of the oracle. -/
import Derived.Test.YtkmcmhohelgjfaaOraH
namespace Go.Fw
set_option maxRecDepth 4000
open Go.Proofs
set_option maxHeartbeats 2000000
/-- a list of rows, as it lies in memory: each with what is known of its capacity -/
def mat (M : List (Tg × List Int)) : List SV := M.map fun p => .fs p.1 1 (ints p.2)
def rowsM (M : List (Tg × List Int)) : List (List Int) := M.map fun p => p.2
theorem mat_len (M : List (Tg × List Int)) : (mat M).length = M.length := by simp [mat]
theorem mat_take (M : List (Tg × List Int)) : (mat M).take M.length = mat M := by rw [← mat_len M]; exact List.take_length
theorem mat_get {M : List (Tg × List Int)} {k : Nat} (h : k < M.length) : (mat M)[k]? = some (.fs M[k].1 1 (ints M[k].2)) := by simp [mat, List.getElem?_eq_getElem h]
def cellOK (i k : Nat) (c : Int) : Bool := okM c && (i != k || c == 0)
def rowOK (n i : Nat) (row : List Int) : Bool := decide (row.length = n) && (List.range n).all fun k => cellOK i k (row.getD k 0)
def validT (m : List (List Int)) : Bool := decide (1 ≤ m.length ∧ m.length ≤ 12) && (List.range m.length).all fun i => rowOK m.length i (m.getD i [])
theorem all_range_ff {n k : Nat} {f : Nat → Bool} (h : k < n) (hf : f k = false) : (List.range n).all f = false := by
  rw [List.all_eq_false]; exact ⟨k, List.mem_range.2 h, by simp [hf]⟩
theorem all_range_tt {n : Nat} {f : Nat → Bool} (hf : ∀ j, j < n → f j = true) : (List.range n).all f = true := by
  rw [List.all_eq_true]; exact fun j hj => hf j (List.mem_range.1 hj)
instance : Inhabited Tg := ⟨Tg.no⟩
theorem Elem.mat {M : List (Tg × List Int)} {i : Nat} {K : SV → Prop} (h : i < M.length) (k : K (.fs M[i].1 1 (ints M[i].2))) : Elem (mat M) i K := Elem.mk _ (mat_get h) k
theorem Elem.matG {M : List (Tg × List Int)} {i : Nat} {K : SV → Prop} (h : i < M.length) (k : K (.fs (gt M i).1 1 (ints (gt M i).2))) : Elem (Fw.mat M) i K := Elem.mat h (by rw [← gt_eq h]; exact k)
theorem rowsM_get (M : List (Tg × List Int)) {i : Nat} (hi : i < M.length) : (rowsM M).getD i [] = M[i].2 := by simp [rowsM, hi]
theorem rowsM_gt {M : List (Tg × List Int)} {i : Nat} (h : i < M.length) : (rowsM M).getD i [] = (gt M i).2 := by rw [gt_eq h]; exact rowsM_get M h
theorem validT_ff {m : List (List Int)} {i : Nat} (hi : i < m.length) (h : rowOK m.length i (m.getD i []) ≠ true) : validT m = false := by
  rw [validT, all_range_ff hi (by simpa using h)]; simp
theorem getD_gt (l : List Int) (k : Nat) : l.getD k 0 = gt l k := rfl
theorem k_Valid (M : List (Tg × List Int)) (t : Tg) : Con Try.prog 29 [.fs t 1 (mat M)] [] (bool (validT (rowsM M))) [] := by
  have hM := mat_len M
  have hr : (rowsM M).length = M.length := by simp [rowsM]
  by_cases hn : 1 ≤ M.length ∧ M.length ≤ 12
  case neg =>
    rw [show validT (rowsM M) = false by simp [validT, hr, hn]]
    refine spec_of_run ttok mixed (T0 := 35186453479677) (ts := [.tmp 2]) 48 rfl rfl rfl rfl (by simp) rfl ?_
    conv => whnf
    repeat' (first | with_reducible apply True.intro | ((first | ((with_reducible apply Nm.mk); focus ((try simp only [lns, mat_len]); exact rfl)) | (with_reducible first | apply Bif.T | apply Bif.F) | ((with_reducible apply Bif.dec) <;> intro h <;> (try simp only [lns, mat_len] at h) <;> (try (exfalso; omega))) | (apply Same.bool; focus (with_reducible rfl)) | (with_reducible apply Frz.l)) <;> conv => whnf) | fail)
  have bad : ∀ i, i < M.length → rowOK M.length i (gt M i).2 = false → validT (rowsM M) = false := fun i hi h => validT_ff (i := i) (by omega) (by rw [hr, rowsM_gt hi, h]; simp)
  refine spec_of_run ttok mixed (T0 := 35186453479677) (ts := [.tmp 2]) 48 rfl rfl rfl rfl (by simp) rfl ?_
  conv => whnf
  repeat' (first | ((first | ((with_reducible apply Nm.mk); focus ((try simp only [lns, mat_len]); exact rfl)) | (with_reducible apply Bif.F) | ((with_reducible apply Bif.dec) <;> intro h <;> (try simp only [lns, mat_len] at h) <;> (try (exfalso; omega))) | (with_reducible apply Frz.l)) <;> conv => whnf) | fail)
  refine loop_keep ttok mixed (T0 := 35186453479677) [3, 16, 17] (ι := {i : Nat // i ≤ M.length ∧ ∀ j, j < i → rowOK M.length j (gt M j).2 = true})
    (fun i => [(18, int (i.1 : Int))]) (fun _ => []) (fun i => M.length - i.1) ⟨0, by omega, fun j hj => by omega⟩ ?_
  conv => whnf
  repeat' (first | ((first | (with_reducible apply Same.rfl) | (apply Same.int; focus rfl) | (with_reducible apply Frz.l)) <;> conv => whnf) | fail)
  rintro ⟨i, hi, hb⟩
  dsimp only
  conv => whnf
  by_cases hiM : i < M.length
  · by_cases hw : (gt M i).2.length = M.length
    case neg =>
      rw [bad i hiM (by rw [rowOK]; simp [hw])]
      repeat' (first | with_reducible apply True.intro | ((with_reducible apply Elem.matG); (focus omega); conv => whnf) | ((first | ((with_reducible apply Nm.mk); focus ((try simp only [lns, mat_len]); exact rfl)) | ((with_reducible apply Need.mk); focus omega) | ((with_reducible first | apply Bif.dec | apply Bif.bne) <;> intro h <;> (try simp only [lns, mat_len] at h) <;> (try (exfalso; omega))) | (apply Same.bool; focus (with_reducible rfl)) | (with_reducible apply Frz.l)) <;> conv => whnf) | fail)
    repeat' (first | ((with_reducible apply Elem.matG); (focus omega); conv => whnf) | ((first | ((with_reducible apply Nm.mk); focus ((try simp only [lns, mat_len]); exact rfl)) | ((with_reducible apply Need.mk); focus omega) | ((with_reducible first | apply Bif.dec | apply Bif.bne) <;> intro h <;> (try simp only [lns, mat_len] at h) <;> (try (exfalso; omega))) | (with_reducible apply Frz.l)) <;> conv => whnf) | fail)
    refine loop_keep ttok mixed (T0 := 35186453479677) [3, 4, 16, 17, 18, 27, 28] (ι := {k : Nat // k ≤ M.length ∧ ∀ j, j < k → cellOK i j (gt (gt M i).2 j) = true})
      (fun k => [(29, int (k.1 : Int))]) (fun _ => []) (fun k => M.length - k.1) ⟨0, by omega, fun j hj => by omega⟩ ?_
    conv => whnf
    repeat' (first | ((first | (with_reducible apply Same.rfl) | (apply Same.int; focus rfl) | (with_reducible apply Frz.l)) <;> conv => whnf) | fail)
    rintro ⟨k, hk, hc⟩
    dsimp only
    conv => whnf
    by_cases hkM : k < M.length
    · have cm := k_metricValid (gt (gt M i).2 k)
      cases hcell : cellOK i k (gt (gt M i).2 k) with
      | false =>
        rw [bad i hiM (by rw [rowOK, all_range_ff hkM (by rw [getD_gt]; exact hcell)]; simp)]
        unfold cellOK at hcell
        cases hok : okM (gt (gt M i).2 k) with
        | false =>
          rw [hok] at cm
          repeat' (first | with_reducible apply True.intro | ((first | ((with_reducible apply Nm.mk); focus ((try simp only [lns, mat_len]); exact rfl)) | ((with_reducible apply Need.mk); focus (simp only [lns, mat_len]; omega)) | ((with_reducible apply Elem.lst); focus omega) | (apply CallN.mk (cm)) | (with_reducible first | apply Bif.T | apply Bif.F) | ((with_reducible apply Bif.dec) <;> intro h <;> (try simp only [lns, mat_len] at h) <;> (try (exfalso; omega))) | (with_reducible apply Bif.not) | (apply Same.bool; focus (with_reducible rfl)) | (with_reducible apply Frz.l)) <;> conv => whnf) | fail)
        | true =>
          rw [hok] at cm hcell
          simp only [Bool.true_and, Bool.or_eq_false_iff, bne_eq_false_iff_eq, beq_eq_false_iff_ne] at hcell
          obtain ⟨c1, c2⟩ := hcell
          repeat' (first | with_reducible apply True.intro | ((first | ((with_reducible apply Nm.mk); focus ((try simp only [lns, mat_len]); exact rfl)) | ((with_reducible apply Need.mk); focus (simp only [lns, mat_len]; omega)) | ((with_reducible apply Elem.lst); focus omega) | (apply CallN.mk (cm)) | (with_reducible first | apply Bif.T | apply Bif.F) | ((with_reducible first | apply Bif.dec | apply Bif.beq | apply Bif.bne) <;> intro h <;> (try simp only [lns, mat_len] at h) <;> (try (exfalso; omega))) | (with_reducible apply Bif.not) | (apply Same.bool; focus (with_reducible rfl)) | (with_reducible apply Frz.l)) <;> conv => whnf) | fail)
      | true =>
        have hc2 := step_lt hc hcell
        unfold cellOK at hcell
        simp only [Bool.and_eq_true, Bool.or_eq_true, bne_iff_ne, beq_iff_eq] at hcell
        obtain ⟨c1, c2⟩ := hcell
        rw [c1] at cm
        repeat' (first | ((first | ((with_reducible apply Nm.mk); focus ((try simp only [lns, mat_len]); exact rfl)) | ((with_reducible apply Wr.i64); focus omega) | ((with_reducible apply Need.mk); focus (simp only [lns, mat_len]; omega)) | ((with_reducible apply Elem.lst); focus omega) | (apply CallN.mk (cm)) | (with_reducible first | apply Bif.T | apply Bif.F) | ((with_reducible first | apply Bif.dec | apply Bif.beq | apply Bif.bne) <;> intro h <;> (try simp only [lns, mat_len] at h) <;> (try (exfalso; omega))) | (with_reducible apply Bif.not) | (with_reducible apply Frz.l)) <;> conv => whnf) | fail)
        all_goals ((refine ⟨⟨k + 1, hkM, hc2⟩, ?_⟩; (try dsimp only); conv => whnf); repeat' (first | with_reducible apply True.intro | ((first | ((with_reducible apply Need.mk); focus omega) | (with_reducible apply Same.rfl) | (apply Same.int; focus rfl) | (with_reducible apply Turn.l) | (with_reducible apply Frz.l)) <;> conv => whnf) | fail))
    · have e : k = M.length := by omega
      subst e
      repeat' (first | ((first | ((with_reducible apply Wr.i64); focus omega) | ((with_reducible apply Bif.dec) <;> intro h <;> (try simp only [lns, mat_len] at h) <;> (try (exfalso; omega))) | (with_reducible apply Frz.l)) <;> conv => whnf) | fail)
      (refine ⟨⟨i + 1, hiM, step_lt hb (by rw [rowOK, all_range_tt (fun j hj => by rw [getD_gt]; exact hc j hj)]; simp [hw])⟩, ?_⟩; (try dsimp only); conv => whnf); repeat' (first | with_reducible apply True.intro | ((first | ((with_reducible apply Need.mk); focus omega) | (with_reducible apply Same.rfl) | (apply Same.int; focus rfl) | (with_reducible apply Turn.l) | (with_reducible apply Frz.l)) <;> conv => whnf) | fail)
  · have e : i = M.length := by omega
    subst e
    rw [show validT (rowsM M) = true by rw [validT, hr, all_range_tt (fun j hj => by rw [rowsM_gt hj]; exact hb j hj)]; simp [hn]]
    repeat' (first | with_reducible apply True.intro | ((first | ((with_reducible apply Bif.dec) <;> intro h <;> (try simp only [lns, mat_len] at h) <;> (try (exfalso; omega))) | (apply Same.bool; focus (with_reducible rfl)) | (with_reducible apply Frz.l)) <;> conv => whnf) | fail)
end Go.Fw
