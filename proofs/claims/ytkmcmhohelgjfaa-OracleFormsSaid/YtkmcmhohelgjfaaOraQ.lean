/- The sanity check; OracleFollows. -/
import Derived.Test.YtkmcmhohelgjfaaOraP
namespace Go.Fw
set_option maxRecDepth 4000
open Go.Proofs
set_option maxHeartbeats 4000000
def m0 : List (Tg × List Int) := [(⟨some 3, false⟩, [0, 256, 65535]), (⟨some 3, false⟩, [300, 0, 10]), (⟨some 3, false⟩, [65535, 20, 0])]
def e0 : List Int := [266, 10, 0]
theorem m0_valid : validT (rowsM m0) = true := by decide
theorem e0_bell : Bell (rowsM m0) 2 e0 where
  len := rfl
  range := by decide
  zero := rfl
  le := by
    have h : ∀ i, i < 3 → ∀ k, k < 3 → gt e0 i ≤ addM (costT (rowsM m0) i k) (gt e0 k) := by decide
    exact fun i k hi hk => h i hi k hk
  eq := by
    have h : ∀ i, i < 3 → i ≠ 2 → gt e0 i < 65535 → ∃ k, k < 3 ∧ gt e0 i = addM (costT (rowsM m0) i k) (gt e0 k) := by decide
    exact h
theorem e0_hops : hopsL (rowsM m0) 2 e0 = [1, 2, -1] := by decide
theorem cyc0 : cycV [1, 2, 1, 0] = [1, 2] := by decide
theorem k_known : Con Try.prog 8 [] [] (bool true) [] := by
  refine spec_of_run ttok mixed (T0 := 3) (ts := [.tmp 0]) 22 rfl rfl rfl rfl (by simp) rfl ?_
  conv => whnf
  have d1 := k_Distances m0 .no 2 e0 m0_valid (by decide) e0_bell
  have d2 := k_Hops m0 .no 2 e0 m0_valid (by decide) e0_bell
  have d3 := k_Cycle [1, 2, 1, 0] .no (by decide)
  rw [e0_hops] at d2
  rw [cyc0] at d3
  repeat' (first | with_reducible apply True.intro | ((first | ((with_reducible apply Nm.mk); focus ((try simp only [lns, mat_len]); exact rfl)) | ((with_reducible apply Need.mk); focus first | (simp only [lns, mat_len]; omega) | exact CleanP.nil rfl | exact CleanP.lst rfl (fun _ => rfl)) | (apply CallN.mk (d1)) | (apply CallN.mk (d2)) | (apply CallN.mk (d3)) | (apply CallN.mk (k_Equal e0 [266, 10, 0] _ _ (by decide))) | (apply CallN.mk (k_Equal [1, 2, -1] [1, 2, -1] _ _ (by decide))) | (apply CallN.mk (k_Equal [1, 2] [1, 2] _ _ (by decide))) | (with_reducible apply Bif.T) | ((with_reducible apply Bif.dec) <;> intro h <;> (try simp only [lns, mat_len] at h) <;> (try first | (exact absurd True.intro h) | (exact absurd h (by decide)))) | (apply Same.rfl) | (with_reducible first | apply OwnN.l | apply GiveN.lend) | (with_reducible apply Frz.l)) <;> conv => whnf) | fail)
  all_goals (apply Same.bool (by decide); (conv => whnf); repeat' (first | ((with_reducible apply Frz.l) <;> conv => whnf) | fail))
theorem shp_int {t d : Nat} {s : SV} (ht : tt t = .int .i64) (h : Shp Try.prog tt (d + 1) t s) : ∃ n, s = int n ∧ -9223372036854775808 ≤ n ∧ n ≤ 9223372036854775807 := by
  simp only [Shp, ht] at h
  obtain ⟨n, rfl, hn⟩ := h
  exact ⟨n, rfl, bounds_i64 hn⟩
theorem shp_ints {d : Nat} {s : SV} (h : Shp Try.prog tt (d + 2) 22 s) : ∃ l, s = .fs .no 1 (ints l) ∧ l.length ≤ maxLen := by
  obtain ⟨rows, rfl, hl, h⟩ := h
  obtain ⟨l, rfl, _⟩ := rows_of int (fun _ => True) fun r hr => let ⟨n, h1, _⟩ := shp_int (d := d) rfl (h 3 Try.underlying22 r hr); ⟨n, h1, trivial⟩
  exact ⟨l, rfl, by simpa using hl⟩
theorem cyc_len (l : List Int) : (cycV l).length ≤ l.length := cycU_len l l.length
theorem pathF_len (l : List Int) : ∀ (f : Nat) (a : List Int) (i : Int), (pathF l f a i).length ≤ a.length + f
  | 0, a, _ => by simp [pathF]
  | f + 1, a, i => by
    rw [pathF]
    split
    · have := pathF_len l f (a ++ [i]) (nx l i)
      simp at this; omega
    · omega
theorem path_len (l : List Int) (s : Int) : (pathV l s).length ≤ l.length + 1 := by
  unfold pathV
  split
  · have := pathF_len l (l.length + 1) [] s
    simpa using this
  · simp
/-- OracleFollows -/
structure FolI where
  n : Nat
  at_ : Int
  nx : List Int
  ha : 0 ≤ at_
  hn : nx.length + n ≤ 10
theorem k_OracleFollows (raw t : List Int) (from_ : Int) : Con Try.prog 3 [.fs .no 1 (ints raw), .fs .no 1 (ints t), int from_] [] (bool true) [] := by
  have ht : (t.take 400).length ≤ 400 := by simp; omega
  refine spec_of_run ttok mixed (T0 := 73786976423691439047) (ts := [.tmp 6]) 69 rfl rfl rfl rfl (by simp) rfl ?_
  conv => whnf
  repeat' (first | with_reducible apply True.intro | ((first | ((with_reducible apply Nm.mk); focus ((try simp only [lns, mat_len]); exact rfl)) | ((with_reducible apply Wr.i64); focus omega) | (apply CallN.mk (k_known)) | (apply CallN.mk (k_made_New t)) | (refine CallN.ex (k_tape_Next (t.take 400) _ 9 (by omega) ht (by omega)) ?_; rintro _ _ ⟨x, k', rfl, rfl, h1, h2, h3⟩) | ((with_reducible apply Bif.dec) <;> intro h <;> (try simp only [lns, mat_len] at h)) | (with_reducible apply Same.rfl) | (with_reducible apply Frz.l)) <;> conv => whnf) | fail)
  refine LoopN.adopt 8 1 rfl (by simp) ?_
  refine loop_keep ttok mixed (T0 := 73786976423691439047) [0, 2, 7] (ι := FolI)
    (fun p => [(8, .ov 1 1 0 p.nx.length), (9, int (p.n : Int))]) (fun p => [.cells (tape (t.take 400) p.at_), .arr none 1 (ints p.nx)]) (fun p => p.n) ⟨x.toNat + 1, k', [], h3, by simp; omega⟩ ?_
  conv => whnf
  repeat' (first | ((apply Same.mk rfl); conv => whnf) | ((first | (apply Same.int; focus (dsimp only; omega)) | (with_reducible apply Frz.l)) <;> conv => whnf) | fail)
  rintro ⟨n, at_, nx, ha, hn⟩
  dsimp only
  conv => whnf
  repeat' (first | ((first | (with_reducible apply Nm.snoc _ (int_mk _)) | ((with_reducible apply Nm.mk); focus ((try simp only [lns, mat_len]); exact rfl)) | ((with_reducible apply Wr.i64); focus omega) | ((with_reducible apply Need.mk); focus first | (simp only [lns, mat_len]; omega) | (unfold roomOK; simp only [lns, mat_len]; omega)) | (refine CallN.ex (k_tape_Next (t.take 400) at_ 11 (by omega) ht (by omega)) ?_; rintro _ _ ⟨y, k2, rfl, rfl, g1, g2, g3⟩) | ((with_reducible apply Bif.dec) <;> intro h <;> (try simp only [lns, mat_len] at h)) | (with_reducible first | apply Alt.l | apply OwnN.l) | (with_reducible apply Frz.l)) <;> conv => whnf) | fail)
  · obtain ⟨n, rfl⟩ : ∃ j, n = j + 1 := ⟨n - 1, by omega⟩
    (refine ⟨⟨n, k2, nx ++ [y - 1], g3, by simp; omega⟩, ?_⟩; (try dsimp only); conv => whnf); repeat' (first | with_reducible apply True.intro | ((first | ((with_reducible apply Need.mk); focus omega) | (with_reducible apply Same.rfl) | (apply Same.int; focus omega) | (apply Same.ov; (focus rfl); focus (simp only [lns, mat_len]; first | done | omega)) | (with_reducible apply Turn.l) | (with_reducible apply Frz.l)) <;> conv => whnf) | fail)
  · have hl : ∀ j, j < 2 → (gt [(Tg.no, raw), (Tg.no, nx)] j).2.length ≤ 60 := by
      intro j hj
      match j, hj with
      | 0, _ => show raw.length ≤ 60; omega
      | 1, _ => show nx.length ≤ 60; omega
    refine loop_keep ttok mixed (T0 := 73786976423691439047) [0, 2, 33, 34] (ι := {j : Nat // j ≤ 2})
      (fun j => [(35, int (j.1 : Int))]) (fun _ => [.cells (tape (t.take 400) at_), .gone, .arr (some 2) 1 (mat [(Tg.no, raw), (Tg.no, nx)])]) (fun j => 2 - j.1) ⟨0, by omega⟩ ?_
    conv => whnf
    repeat' (first | ((apply Same.mk rfl); conv => whnf) | ((with_reducible apply Frz.l) <;> conv => whnf) | fail)
    rintro ⟨j, hj⟩
    dsimp only
    have hj2 := hl j
    have hm : (mat [(Tg.no, raw), (Tg.no, nx)]).length = 2 := rfl
    conv => whnf
    repeat' (first | with_reducible apply True.intro | ((with_reducible apply Elem.matG); (focus (show j < 2); omega); conv => whnf) | ((first | ((with_reducible apply Nm.mk); focus ((try simp only [lns, mat_len]); exact rfl)) | ((with_reducible apply Wr.i64); focus omega) | ((with_reducible apply Need.mk); focus first | omega | (simp only [lns, mat_len]; omega) | exact CleanP.nil rfl) | (apply CallN.mk (k_known)) | (apply CallN.mk (k_Cycle _ _ (by omega))) | (apply CallN.mk (k_refCycle _ _ (by omega))) | (apply CallN.mk (k_Path _ _ _ (by omega))) | (apply CallN.mk (k_refPath _ _ _ (by omega))) | (apply CallN.mk (k_made_Mod _ _ (by omega))) | (apply CallN.mk (k_Equal _ _ _ _ (Nat.lt_of_le_of_lt (cyc_len _) (by omega)))) | (apply CallN.mk (k_Equal _ _ _ _ (Nat.lt_of_le_of_lt (path_len _ _) (by omega)))) | (with_reducible apply Bif.F) | ((with_reducible apply Bif.dec) <;> intro h <;> (try simp only [lns, mat_len] at h) <;> (try (exact absurd True.intro h))) | (with_reducible apply Bif.not) | (with_reducible apply Same.rfl) | (with_reducible apply GiveN.lend) | (with_reducible apply Frz.l)) <;> conv => whnf) | fail)
    (refine ⟨⟨j + 1, by omega⟩, ?_⟩; (try dsimp only); conv => whnf); repeat' (first | with_reducible apply True.intro | ((first | ((with_reducible apply Need.mk); focus omega) | (with_reducible apply Same.rfl) | (apply Same.int; focus rfl) | (with_reducible apply Turn.l) | (with_reducible apply Frz.l)) <;> conv => whnf) | fail)
end Go.Fw
