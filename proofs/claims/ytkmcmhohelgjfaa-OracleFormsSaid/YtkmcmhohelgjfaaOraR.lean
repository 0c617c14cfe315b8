/- Topologies that are made from a tape. -/
import Derived.Test.YtkmcmhohelgjfaaOraQ
namespace Go.Fw
set_option maxRecDepth 4000
open Go.Proofs
set_option maxHeartbeats 4000000
def TapeBool (l : List Int) (r : SV) (hp' : List OB) : Prop := ∃ (b : Bool) (k' : Int), r = bool b ∧ hp' = [.cells (tape l k')] ∧ 0 ≤ k'
theorem k_tape_Bool (l : List Int) (k n : Int) (hk : 0 ≤ k) (hl : l.length ≤ 400) (hn : 0 < n ∧ n < 9223372036854775808) :
    ∃ r hp', TapeBool l r hp' ∧ Con Try.prog 28 [.pb 0 [], .v (.int .i64 n)] [.cells (tape l k)] r hp' := by
  refine spec_of_runR ttok mixed (T0 := 19) (ts := [.tmp 4]) 11 rfl rfl rfl rfl (by simp) rfl ?_
  conv => whnf
  repeat' (first | ((first | ((with_reducible apply Wr.i64); focus omega) | (refine CallN.ex (k_tape_Next l k n hk hl hn) ?_; rintro _ _ ⟨x, k', rfl, rfl, h1, h2, h3⟩) | (with_reducible apply Frz.l)) <;> conv => whnf) | fail)
  (refine ⟨_, _, ⟨(x == n - 1), k', rfl, rfl, h3⟩, ?_⟩; conv => whnf); repeat' (first | with_reducible apply True.intro | ((first | (with_reducible apply Same.rfl) | (apply Same.bool; focus (with_reducible rfl)) | (with_reducible apply Frz.l)) <;> conv => whnf) | fail)
theorem Nm.mat {M : List (Tg × List Int)} {tg : Tg} {row : List Int} {K : List SV → Prop} (k : K (Fw.mat (M ++ [(tg, row)]))) : Nm (Fw.mat M ++ [.fs tg 1 (Fw.lst int row)]) K :=
  Nm.mk (by simp [Fw.mat]) k
theorem cellOK_inf {i k : Nat} (h : i ≠ k) {c : Int} (hc : 0 ≤ c ∧ c ≤ 65535) : cellOK i k c = true := by simp [cellOK, okM, h, hc]
structure TopI (n : Nat) where
  M : List (Tg × List Int)
  at_ : Int
  ha : 0 ≤ at_
  hn : M.length ≤ n
  ok : ∀ i, i < M.length → rowOK n i (gt M i).2 = true
structure RowI (n i : Nat) where
  row : List Int
  at_ : Int
  ha : 0 ≤ at_
  hn : row.length ≤ n
  ok : ∀ k, k < row.length → cellOK i k (gt row k) = true
def Topo (l : List Int) (r : SV) (hp' : List OB) : Prop := ∃ (M : List (Tg × List Int)) (k' : Int), r = .ov 1 1 0 M.length ∧ hp' = [.cells (tape l k'), .arr none 1 (mat M)] ∧ 1 ≤ M.length ∧ M.length ≤ 7 ∧ validT (rowsM M) = true ∧ 0 ≤ k'
theorem rowOK_mk {n i : Nat} {row : List Int} (hl : row.length = n) (h : ∀ k, k < row.length → cellOK i k (gt row k) = true) : rowOK n i row = true := by
  simp only [rowOK, hl, decide_true, Bool.true_and, List.all_eq_true, List.mem_range]
  exact fun k hk => h k (by omega)
theorem snoc_ok {α : Type} [Inhabited α] {p : Nat → α → Prop} {l : List α} {x : α} (h : ∀ k, k < l.length → p k (gt l k)) (hx : p l.length x) : ∀ k, k < (l ++ [x]).length → p k (gt (l ++ [x]) k) := fun k hk => by
  rw [List.length_append, List.length_singleton] at hk
  rw [gt_app]
  split
  · exact h k (by assumption)
  · have e : k = l.length := by omega
    subst e
    simpa [gt] using hx
theorem Elem.tbl {rows : List SV} {i : Nat} {K : SV → Prop} (l : List Int) (h : rows = Fw.lst int l) (hi : i < l.length) (k : K (int (gt l i))) : Elem rows i K := by
  subst h; exact Elem.lst hi k
def tbl6 : List Int := [256, 300, 1, 512, 0, 40000]
theorem tbl6_ok (j : Nat) (h : j < 6) : 0 ≤ gt tbl6 j ∧ gt tbl6 j ≤ 65535 := by
  have : ∀ j, j < 6 → 0 ≤ gt tbl6 j ∧ gt tbl6 j ≤ 65535 := by decide
  exact this j h
theorem validT_mk {M : List (Tg × List Int)} (h1 : 1 ≤ M.length ∧ M.length ≤ 12) (ok : ∀ i, i < M.length → rowOK M.length i (gt M i).2 = true) : validT (rowsM M) = true := by
  have hr : (rowsM M).length = M.length := by simp [rowsM]
  rw [validT, hr, all_range_tt (fun j hj => by rw [rowsM_gt hj]; exact ok j hj)]
  simp [h1]
theorem k_topology (l : List Int) (k : Int) (hk : 0 ≤ k) (hl : l.length ≤ 400) :
    ∃ r hp', Topo l r hp' ∧ Con Try.prog 17 [.pb 0 []] [.cells (tape l k)] r hp' := by
  refine spec_of_runR ttok mixed (T0 := 4572054525) (ts := [.tmp 2]) 47 rfl rfl rfl rfl (by simp) rfl ?_
  conv => whnf
  repeat' (first | ((first | ((with_reducible apply Wr.i64); focus omega) | (refine CallN.ex (k_tape_Next l _ _ (by omega) hl (by omega)) ?_; rintro _ _ ⟨x, k', rfl, rfl, h1, h2, h3⟩) | (with_reducible apply Frz.l)) <;> conv => whnf) | fail)
  rename_i x0 k0 a1 a2 a3
  refine LoopN.adopt 5 1 rfl (by simp) ?_
  refine loop_keep ttok mixed (T0 := 4572054525) [0, 3, 4] (ι := TopI (1 + x0).toNat)
    (fun p => [(5, .ov 1 1 0 p.M.length), (6, int (p.M.length : Int))]) (fun p => [.cells (tape l p.at_), .arr none 1 (mat p.M)]) (fun p => 9 - p.M.length) ⟨[], k', h3, by simp, none_lt⟩ ?_
  conv => whnf
  repeat' (first | ((apply Same.mk rfl); conv => whnf) | ((with_reducible apply Frz.l) <;> conv => whnf) | fail)
  rintro ⟨M, at_, ha, hn, ok⟩
  dsimp only
  conv => whnf
  repeat' (first | ((first | ((with_reducible apply Bif.dec) <;> intro h <;> (try simp only [lns, mat_len] at h)) | (with_reducible apply Frz.l)) <;> conv => whnf) | fail)
  · refine LoopN.adopt 7 1 rfl (by simp) ?_
    refine loop_keep ttok mixed (T0 := 4572054525) [0, 3, 4, 5, 6] (ι := RowI (1 + x0).toNat M.length)
      (fun p => [(7, .ov 1 2 0 p.row.length), (8, int (p.row.length : Int))]) (fun p => [.cells (tape l p.at_), .arr none 1 (mat M), .arr none 1 (ints p.row)]) (fun p => 9 - p.row.length) ⟨[], at_, ha, by simp, none_lt⟩ ?_
    conv => whnf
    repeat' (first | ((apply Same.mk rfl); conv => whnf) | ((with_reducible apply Frz.l) <;> conv => whnf) | fail)
    rintro ⟨row, at2, hb, hn2, ok2⟩
    dsimp only
    conv => whnf
    repeat' (first | ((with_reducible apply Nm.mat); conv => whnf) | ((first | (with_reducible apply Nm.snoc _ (int_mk _)) | ((with_reducible apply Nm.mk); focus ((try simp only [lns, mat_len]); exact rfl)) | ((with_reducible apply Wr.i64); focus omega) | ((with_reducible apply Need.mk); focus first | omega | (simp only [lns, mat_len]; omega) | (unfold roomOK; simp only [lns, mat_len]; omega)) | (refine CallN.ex (k_tape_Bool l at2 _ (by omega) hl (by omega)) ?_; rintro _ _ ⟨b, k2, rfl, rfl, g3⟩) | (refine CallN.ex (k_tape_Next l _ 6 (by omega) hl (by omega)) ?_; rintro _ _ ⟨y, k3, rfl, rfl, g4, g5, g6⟩) | ((with_reducible first | apply Bif.dec | apply Bif.beq) <;> intro h <;> (try simp only [lns, mat_len] at h)) | (with_reducible apply Bif.not) | ((with_reducible apply Bif.mk) <;> intro h) | (with_reducible first | apply Alt.l | apply OwnN.l) | (with_reducible apply Frz.l)) <;> conv => whnf) | fail)
    · (refine ⟨⟨row ++ [0], at2, hb, by simp; omega, snoc_ok (p := fun k c => cellOK M.length k c = true) ok2 (by simp [cellOK, okM])⟩, ?_⟩; (try dsimp only); conv => whnf); repeat' (first | with_reducible apply True.intro | ((first | ((with_reducible apply Need.mk); focus (simp only [lns, mat_len]; omega)) | (with_reducible apply Same.rfl) | (apply Same.int; focus (simp only [lns, mat_len]; omega)) | (apply Same.ov; (focus rfl); focus (simp only [lns, mat_len]; first | done | omega)) | (with_reducible apply Turn.l) | (with_reducible apply Frz.l)) <;> conv => whnf) | fail)
    · (refine ⟨⟨row ++ [65535], k2, g3, by simp; omega, snoc_ok (p := fun k c => cellOK M.length k c = true) ok2 (cellOK_inf (by omega) (by omega))⟩, ?_⟩; (try dsimp only); conv => whnf); repeat' (first | with_reducible apply True.intro | ((first | ((with_reducible apply Need.mk); focus (simp only [lns, mat_len]; omega)) | (with_reducible apply Same.rfl) | (apply Same.int; focus (simp only [lns, mat_len]; omega)) | (apply Same.ov; (focus rfl); focus (simp only [lns, mat_len]; first | done | omega)) | (with_reducible apply Turn.l) | (with_reducible apply Frz.l)) <;> conv => whnf) | fail)
    · refine Elem.tbl tbl6 rfl (by show y.toNat < 6; omega) ?_
      have hv := tbl6_ok y.toNat (by omega)
      conv => whnf
      repeat' (first | ((first | (with_reducible apply Nm.snoc _ (rfl)) | ((with_reducible apply Nm.mk); focus ((try simp only [lns, mat_len]); exact rfl)) | ((with_reducible apply Wr.i64); focus omega) | ((with_reducible apply Need.mk); focus first | (simp only [lns, mat_len]; omega) | (unfold roomOK; simp only [lns, mat_len]; omega)) | (with_reducible apply Alt.l) | (with_reducible apply Frz.l)) <;> conv => whnf) | fail)
      (refine ⟨⟨row ++ [gt tbl6 y.toNat], k3, g6, by simp; omega, snoc_ok (p := fun k c => cellOK M.length k c = true) ok2 (cellOK_inf (by omega) hv)⟩, ?_⟩; (try dsimp only); conv => whnf); repeat' (first | with_reducible apply True.intro | ((first | ((with_reducible apply Need.mk); focus (simp only [lns, mat_len]; omega)) | (with_reducible apply Same.rfl) | (apply Same.int; focus (simp only [lns, mat_len]; omega)) | (apply Same.ov; (focus rfl); focus (simp only [lns, mat_len]; first | done | omega)) | (with_reducible apply Turn.l) | (with_reducible apply Frz.l)) <;> conv => whnf) | fail)
    · (refine ⟨⟨M ++ [(Tg.no, row)], at2, hb, by simp; omega, snoc_ok (p := fun i (r : Tg × List Int) => rowOK (1 + x0).toNat i r.2 = true) ok (rowOK_mk (by show row.length = _; omega) ok2)⟩, ?_⟩; (try dsimp only); conv => whnf); repeat' (first | with_reducible apply True.intro | ((first | ((with_reducible apply Need.mk); focus (simp only [lns, mat_len]; omega)) | (with_reducible apply Same.rfl) | (apply Same.int; focus (simp only [lns, mat_len]; omega)) | (apply Same.ov; (focus rfl); focus (simp only [lns, mat_len]; first | done | omega)) | (apply Same.rfl) | (with_reducible apply Turn.l) | (with_reducible apply Frz.l)) <;> conv => whnf) | fail)
  · have e1 : (1 + x0).toNat = M.length := by omega
    rw [e1] at ok
    (refine ⟨_, _, ⟨M, at_, rfl, rfl, by omega, by omega, validT_mk (by omega) ok, ha⟩, ?_⟩; conv => whnf); repeat' (first | with_reducible apply True.intro | ((first | (with_reducible apply Same.rfl) | (with_reducible apply Cut.l) | (with_reducible apply Frz.l)) <;> conv => whnf) | fail)
end Go.Fw
