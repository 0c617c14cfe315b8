/- OracleForms: the comparison of a topology's functions with the reference. -/
import Derived.Test.YtkmcmhohelgjfaaOraX
namespace Go.Fw
set_option maxRecDepth 4000
open Go.Proofs
set_option maxHeartbeats 4000000
theorem k_EqSelf (a : List Int) (t1 t2 : Tg) (hl : a.length < 4611686018427387904) :
    Con Try.prog 11 [.fs t1 1 (ints a), .fs t2 1 (ints a)] [] (bool true) [] := by
  have := k_Equal a a t1 t2 hl
  rwa [decide_eq_true rfl] at this
theorem k_EqNil : Con Try.prog 11 [.v (.slice none 0 0), .v (.slice none 0 0)] [] (bool true) [] :=
  (k_EqSelf [] .no .no (by decide)).le ⟨ArgLe.nil, ArgLe.nil, trivial⟩
theorem k_alike (M : List (Tg × List Int)) (t : Tg) (to : Int) (hM : M.length ≤ 1000) :
    Con Try.prog 22 [.fs t 1 (mat M), int to] [] (bool true) [] := by
  have hl := mat_len M
  have hr : (rowsM M).length = M.length := by simp [rowsM]
  have hbig : (rowsM M).length < 4611686018427387904 := by omega
  refine spec_of_run ttok mixed (T0 := 1153493800409104499) (ts := [.tmp 4]) 61 rfl rfl rfl rfl (by simp) rfl ?_
  conv => whnf
  by_cases hv : validT (rowsM M) = true
  case' neg =>
    have hv : validT (rowsM M) = false := by simpa using hv
    have hb : ¬ (validT (rowsM M) = true ∧ inN to M.length) := fun h => by rw [hv] at h; cases h.1
    repeat' (first | ((first | (apply CallN.mk (k_Valid M t)) | (apply CallN.mk (k_refValid M t)) | (apply CallN.mk (k_Distances_bad M t to hb)) | (apply CallN.mk (k_refDistances_bad M t to hb)) | (apply CallN.mk (k_Hops_bad M t to hb)) | (apply CallN.mk (k_refHops_bad M t to hb)) | (apply CallN.mk (k_Components_bad M t hv)) | (apply CallN.mk (k_refComponents_bad M t hv)) | (apply CallN.mk (k_EqNil)) | (with_reducible first | apply Bif.T | apply Bif.F) | ((with_reducible apply Bif.bne) <;> intro h <;> (try simp only [lns, mat_len] at h) <;> (try (exact absurd rfl h))) | (with_reducible apply Bif.not) | (with_reducible apply Frz.l)) <;> conv => whnf) | fail)
  case' pos =>
    by_cases hto : inN to M.length
    case' neg =>
      have hb : ¬ (validT (rowsM M) = true ∧ inN to M.length) := fun h => hto h.2
      repeat' (first | ((first | ((with_reducible apply Nm.mk); focus ((try simp only [lns, mat_len]); exact rfl)) | ((with_reducible apply Need.mk); focus first | (simp only [lns, mat_len]; omega) | exact CleanP.nil rfl) | (apply CallN.mk (k_Valid M t)) | (apply CallN.mk (k_refValid M t)) | (apply CallN.mk (k_Distances_bad M t to hb)) | (apply CallN.mk (k_refDistances_bad M t to hb)) | (apply CallN.mk (k_Hops_bad M t to hb)) | (apply CallN.mk (k_refHops_bad M t to hb)) | (refine CallN.ex (k_Components M t hv) ?_; rintro _ _ ⟨c, hc, rfl, rfl⟩) | (apply CallN.mk (k_refComponents M t c hv hc)) | (apply CallN.mk (k_EqNil)) | (apply CallN.mk (k_EqSelf c _ _ (Nat.lt_of_le_of_lt (Nat.le_of_eq hc.len) hbig))) | (with_reducible first | apply Bif.T | apply Bif.F) | ((with_reducible apply Bif.bne) <;> intro h <;> (try simp only [lns, mat_len] at h) <;> (try (exact absurd rfl h))) | (with_reducible apply Bif.not) | (with_reducible apply GiveN.lend) | (with_reducible apply Frz.l)) <;> conv => whnf) | fail)
    case' pos =>
      obtain ⟨e, he⟩ := Bell.ex (rowsM M) (to := to.toNat) (by unfold inN at hto; omega)
      have le := he.len
      obtain ⟨q, rfl⟩ : ∃ q : Nat, to = (q : Int) := ⟨to.toNat, by unfold inN at hto; omega⟩
      have hq : q < M.length := by unfold inN at hto; omega
      rw [Int.toNat_natCast] at he
      have hh : (hopsL (rowsM M) q e).length = M.length := by simp [hopsL, hr]
      repeat' (first | ((first | ((with_reducible apply Nm.mk); focus ((try simp only [lns, mat_len]); exact rfl)) | ((with_reducible apply Need.mk); focus first | (simp only [lns, mat_len]; omega) | exact CleanP.nil rfl) | (apply CallN.mk (k_Valid M t)) | (apply CallN.mk (k_refValid M t)) | (apply CallN.mk (k_Distances M t q e hv hq he)) | (apply CallN.mk (k_refDistances M t q e hv hq he)) | (apply CallN.mk (k_Hops M t q e hv hq he)) | (apply CallN.mk (k_refHops M t q e hv hq he)) | (refine CallN.ex (k_Components M t hv) ?_; rintro _ _ ⟨c, hc, rfl, rfl⟩) | (apply CallN.mk (k_refComponents M t c hv hc)) | (apply CallN.mk (k_EqSelf c _ _ (Nat.lt_of_le_of_lt (Nat.le_of_eq hc.len) hbig))) | (apply CallN.mk (k_EqSelf e _ _ (by omega))) | (apply CallN.mk (k_EqSelf (hopsL (rowsM M) q e) _ _ (by omega))) | (with_reducible first | apply Bif.T | apply Bif.F) | ((with_reducible apply Bif.bne) <;> intro h <;> (try simp only [lns, mat_len] at h) <;> (try (exact absurd rfl h))) | (with_reducible apply Bif.not) | (with_reducible apply GiveN.lend) | (with_reducible apply Frz.l)) <;> conv => whnf) | fail)
  all_goals
    refine loop_keep ttok mixed (T0 := 1153493800409104499) [0] (ι := {i : Int // -1 ≤ i ∧ i ≤ M.length + 1})
      (fun i => [(5, int i.1)]) (fun _ => []) (fun i => (M.length + 1 - i.1).toNat) ⟨-1, by omega⟩ ?_
    conv => whnf
    repeat' (first | ((first | (with_reducible apply Same.rfl) | (apply Same.int; focus rfl) | (with_reducible apply Frz.l)) <;> conv => whnf) | fail)
    rintro ⟨i, hi⟩
    dsimp only
    conv => whnf
    repeat' (first | with_reducible apply True.intro | ((first | ((with_reducible apply Nm.mk); focus ((try simp only [lns, mat_len]); exact rfl)) | ((with_reducible apply Bif.dec) <;> intro h <;> (try simp only [lns, mat_len] at h)) | (apply Same.bool; focus (with_reducible rfl)) | (with_reducible apply Frz.l)) <;> conv => whnf) | fail)
    refine loop_keep ttok mixed (T0 := 1153493800409104499) [0, 5] (ι := {j : Int // -1 ≤ j ∧ j ≤ M.length + 1})
      (fun j => [(6, int j.1)]) (fun _ => []) (fun j => (M.length + 1 - j.1).toNat) ⟨-1, by omega⟩ ?_
    conv => whnf
    repeat' (first | ((first | (with_reducible apply Same.rfl) | (apply Same.int; focus rfl) | (with_reducible apply Frz.l)) <;> conv => whnf) | fail)
    rintro ⟨j, hj⟩
    dsimp only
    conv => whnf
    repeat' (first | ((first | ((with_reducible apply Nm.mk); focus ((try simp only [lns, mat_len]); exact rfl)) | ((with_reducible apply Wr.i64); focus omega) | (apply CallN.mk (k_oraCost M t i j)) | (apply CallN.mk (k_refCost M t i j)) | ((with_reducible first | apply Bif.dec | apply Bif.bne) <;> intro h <;> (try simp only [lns, mat_len] at h) <;> (try (exfalso; omega))) | (with_reducible apply Frz.l)) <;> conv => whnf) | fail)
    · (refine ⟨⟨j + 1, by omega⟩, ?_⟩; (try dsimp only); conv => whnf); repeat' (first | with_reducible apply True.intro | ((first | ((with_reducible apply Need.mk); focus omega) | (with_reducible apply Same.rfl) | (apply Same.int; focus rfl) | (with_reducible apply Turn.l) | (with_reducible apply Frz.l)) <;> conv => whnf) | fail)
    · (refine ⟨⟨i + 1, by omega⟩, ?_⟩; (try dsimp only); conv => whnf); repeat' (first | with_reducible apply True.intro | ((first | ((with_reducible apply Need.mk); focus omega) | (with_reducible apply Same.rfl) | (apply Same.int; focus rfl) | (with_reducible apply Turn.l) | (with_reducible apply Frz.l)) <;> conv => whnf) | fail)
end Go.Fw
