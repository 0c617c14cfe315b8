/- Networks: lists of members; Valid on both sides. -/
import Derived.Test.YtpmiaggdjgfjgaaParA
namespace Go.Fw
open Go.Proofs
set_option maxHeartbeats 8000000
set_option maxRecDepth 4000
theorem not_mem_gt {l : List Int} {x : Int} (h : ∀ k, k < l.length → gt l k ≠ x) : x ∉ l := fun hx => by
  obtain ⟨i, hi, e⟩ := mem_gt hx
  exact h i hi e
theorem k_Has (l : List Int) (x : Int) (t : Tg) (hl : l.length ≤ 9223372036854775807) : Con Try.prog 42 [.fs t 1 (lst u64 l), .v (.int .u64 x)] [] (bool (decide (x ∈ l))) [] := by
  refine spec_of_run ttok mixed (T0 := 34771) (ts := [.tmp 4]) 17 rfl rfl rfl rfl (by simp) rfl ?_
  conv => whnf
  repeat' (first | (((with_reducible apply Nm.mk); focus ((try simp only [lns]); exact rfl)) <;> conv => whnf) | fail)
  refine loop_keep ttok mixed (T0 := 34771) [1, 7, 8] (ι := {j : Nat // j ≤ l.length ∧ ∀ k, k < j → gt l k ≠ x})
    (fun j => [(9, int ((j.1 : Nat) : Int))]) (fun _ => []) (fun j => l.length - j.1) ⟨0, by omega, fun k h => by omega⟩ ?_
  conv => whnf
  repeat' (first | ((first | (with_reducible apply Same.rfl) | (apply Same.int; focus rfl)) <;> conv => whnf) | fail)
  rintro ⟨j, hj, hn⟩
  dsimp only
  conv => whnf
  repeat' (first | ((first | ((with_reducible apply Nm.mk); focus ((try simp only [lns]); exact rfl)) | ((with_reducible apply Wr.i64); focus omega) | ((with_reducible apply Need.mk); focus (simp only [lns]; omega)) | ((with_reducible apply Elem.lst); focus omega) | ((with_reducible first | apply Bif.dec | apply Bif.beq) <;> intro h <;> (try simp only [lns] at h))) <;> conv => whnf) | fail)
  · apply Same.bool (by rw [decide_eq_true (by rw [← h]; exact gt_mem (by omega))])
    conv => whnf
    repeat' (first | with_reducible apply True.intro | fail)
  · (refine ⟨⟨j + 1, by omega, step_lt hn h⟩, ?_⟩; (try dsimp only); conv => whnf); repeat' (first | with_reducible apply True.intro | ((first | ((with_reducible apply Need.mk); focus omega) | (with_reducible apply Same.rfl) | (apply Same.int; focus rfl) | (with_reducible apply Turn.l)) <;> conv => whnf) | fail)
  · have he : j = l.length := by omega
    apply Same.bool (by rw [decide_eq_false (not_mem_gt (by rw [← he]; exact hn))])
    conv => whnf
    repeat' (first | with_reducible apply True.intro | fail)
theorem k_Index (l : List Int) (x : Int) (t : Tg) (hl : l.length ≤ 9223372036854775807) : ∃ r hp', (∃ v : Int, r = int v ∧ hp' = [] ∧ ((v = -1 ∧ x ∉ l) ∨ (∃ j : Nat, v = (j : Int) ∧ j < l.length ∧ gt l j = x))) ∧ Con Try.prog 49 [.fs t 1 (lst u64 l), .v (.int .u64 x)] [] r hp' := by
  refine spec_of_runR ttok mixed (T0 := 66483) (ts := [.tmp 4]) 19 rfl rfl rfl rfl (by simp) rfl ?_
  conv => whnf
  repeat' (first | (((with_reducible apply Nm.mk); focus ((try simp only [lns]); exact rfl)) <;> conv => whnf) | fail)
  refine loop_keep ttok mixed (T0 := 66483) [0, 1, 7] (ι := {j : Nat // j ≤ l.length ∧ ∀ k, k < j → gt l k ≠ x})
    (fun j => [(8, int ((j.1 : Nat) : Int))]) (fun _ => []) (fun j => l.length - j.1) ⟨0, by omega, fun k h => by omega⟩ ?_
  conv => whnf
  repeat' (first | ((first | (with_reducible apply Same.rfl) | (apply Same.int; focus rfl)) <;> conv => whnf) | fail)
  rintro ⟨j, hj, hn⟩
  dsimp only
  conv => whnf
  repeat' (first | ((first | ((with_reducible apply Nm.mk); focus ((try simp only [lns]); exact rfl)) | ((with_reducible apply Wr.i64); focus omega) | ((with_reducible apply Need.mk); focus (simp only [lns]; omega)) | ((with_reducible apply Elem.lst); focus omega) | ((with_reducible first | apply Bif.dec | apply Bif.beq) <;> intro h <;> (try simp only [lns] at h))) <;> conv => whnf) | fail)
  · (refine ⟨_, _, ⟨(j : Int), rfl, rfl, .inr ⟨j, rfl, by omega, h.symm⟩⟩, ?_⟩; conv => whnf); repeat' (first | with_reducible apply True.intro | ((with_reducible apply Same.rfl) <;> conv => whnf) | fail)
  · (refine ⟨⟨j + 1, by omega, step_lt hn (fun e => h e.symm)⟩, ?_⟩; (try dsimp only); conv => whnf); repeat' (first | with_reducible apply True.intro | ((first | ((with_reducible apply Need.mk); focus omega) | (with_reducible apply Same.rfl) | (apply Same.int; focus rfl) | (with_reducible apply Turn.l)) <;> conv => whnf) | fail)
  · have he : j = l.length := by omega
    (refine ⟨_, _, ⟨-1, rfl, rfl, .inl ⟨rfl, not_mem_gt (by rw [← he]; exact hn)⟩⟩, ?_⟩; conv => whnf); repeat' (first | with_reducible apply True.intro | ((apply Same.int; focus rfl) <;> conv => whnf) | fail)
theorem k_Contains (l : List Int) (x : Int) (t : Tg) (hl : l.length ≤ 9223372036854775807) : Con Try.prog 32 [.fs t 1 (lst u64 l), .v (.int .u64 x)] [] (bool (decide (x ∈ l))) [] := by
  refine spec_of_run ttok mixed (T0 := 19) (ts := [.tmp 4]) 9 rfl rfl rfl rfl (by simp) rfl ?_
  conv => whnf
  repeat' (first | ((refine CallN.ex (k_Index l x t hl) ?_; rintro _ _ ⟨v, rfl, rfl, hv⟩) <;> conv => whnf) | fail)
  all_goals
    apply Same.bool (by
      rcases hv with ⟨e, hx⟩ | ⟨j, e, hj, hg⟩
      · rw [decide_eq_false hx, decide_eq_false (show ¬ v ≥ 0 by omega)]
      · rw [decide_eq_true (show x ∈ l by rw [← hg]; exact gt_mem hj), decide_eq_true (show v ≥ 0 by omega)])
    conv => whnf
    repeat' (first | with_reducible apply True.intro | fail)
theorem asc_pw {l : List Int} (h : ∀ k, k < l.length → 0 < k → gt l (k - 1) < gt l k) : l.Pairwise (· < ·) := by
  rw [List.pairwise_iff_getElem]
  intro i j hi hj hij
  have key : ∀ d, i + 1 + d < l.length → gt l i < gt l (i + 1 + d) := by
    intro d
    induction d with
    | zero => intro hd; exact h (i + 1) hd (by omega)
    | succ d ih =>
      intro hd
      have h1 := ih (by omega)
      have h2 := h (i + 1 + (d + 1)) hd (by omega)
      rw [show i + 1 + (d + 1) - 1 = i + 1 + d by omega] at h2
      omega
  have := key (j - (i + 1)) (by omega)
  rwa [show i + 1 + (j - (i + 1)) = j by omega, gt_eq hi, gt_eq hj] at this
theorem pw_asc {l : List Int} (h : l.Pairwise (· < ·)) {i j : Nat} (hij : i < j) (hj : j < l.length) : gt l i < gt l j := by
  rw [gt_eq (by omega : i < l.length), gt_eq hj]
  exact List.pairwise_iff_getElem.1 h i j (by omega) hj hij
theorem mem_of {l : List Int} {j : Nat} (h1 : 1 ≤ l.length ∧ l.length ≤ 12) (hj : l.length ≤ j) (h : ∀ k, k < j → 0 < gt l k ∧ (0 < k → gt l (k - 1) < gt l k)) : memOK l = true := by
  rw [memOK, decide_eq_true_eq]
  exact ⟨h1.1, h1.2, fun x hx => by
    obtain ⟨i, hi, rfl⟩ := mem_gt hx
    exact (h i (by omega)).1, asc_pw fun k hk h0 => (h k (by omega)).2 h0⟩
theorem mem_ff {l : List Int} {j : Nat} (hj : j < l.length) (h : ¬ (0 < gt l j ∧ (0 < j → gt l (j - 1) < gt l j))) : memOK l = false := by
  rw [memOK, decide_eq_false_iff_not]
  rintro ⟨h1, h2, h3, h4⟩
  exact h ⟨h3 _ (gt_mem hj), fun h0 => pw_asc h4 (by omega) hj⟩
theorem mem_ff2 {l : List Int} (h : ¬ (1 ≤ l.length ∧ l.length ≤ 12)) : memOK l = false := by
  rw [memOK, decide_eq_false_iff_not]
  rintro ⟨h1, h2, _⟩
  exact h ⟨h1, h2⟩
/-- A network that comes in. -/
structure NetR (n : Net) : Prop where
  p : ∀ x ∈ n.mem, 0 ≤ x
  lm : n.mem.length ≤ 9223372036854775807
  lc : n.cl.length ≤ 1000000
theorem vN_mem {n : Net} (h : memOK n.mem = false) : validN n = false := by simp [validN, h]
theorem vN_rt {n : Net} (h : n.rt ∉ n.mem) : validN n = false := by simp [validN, h]
theorem vN_all {n : Net} (he : 0 ≤ n.ep ∧ n.ep ≤ 1073741824) (hm : memOK n.mem = true) (hr : n.rt ∈ n.mem) : validN n = validR n.cl := by
  rw [validN, decide_eq_true he, hm, decide_eq_true hr]; rfl
theorem k_nValid (n : Net) (hn : NetR n) : Con Try.prog 21 [netF n] [] (bool (validN n)) [] := by
  have hlm := hn.lm
  have cE := k_validEpoch n.ep
  have cV := k_Valid n.cl .no hn.lc
  have cC := k_Contains n.mem n.rt .no hn.lm
  by_cases he : 0 ≤ n.ep ∧ n.ep ≤ 1073741824
  case neg =>
    rw [decide_eq_false he] at cE
    have hv : validN n = false := by rw [validN, decide_eq_false he]; rfl
    rw [hv]
    refine spec_of_run ttok mixed (T0 := 4550819887) (ts := [.tmp 2]) 46 rfl rfl rfl rfl (by simp) rfl ?_
    conv => whnf
    repeat' (first | with_reducible apply True.intro | ((first | (apply CallN.mk (cE)) | (with_reducible first | apply Bif.T | apply Bif.F) | (with_reducible apply Bif.not) | (apply Same.bool; focus (with_reducible rfl))) <;> conv => whnf) | fail)
  rw [decide_eq_true he] at cE
  by_cases hL : 1 ≤ n.mem.length ∧ n.mem.length ≤ 12
  case neg =>
    have hv : validN n = false := by rw [validN, mem_ff2 hL]; simp
    rw [hv]
    refine spec_of_run ttok mixed (T0 := 4550819887) (ts := [.tmp 2]) 46 rfl rfl rfl rfl (by simp) rfl ?_
    conv => whnf
    repeat' (first | with_reducible apply True.intro | ((first | ((with_reducible apply Nm.mk); focus ((try simp only [lns]); exact rfl)) | (apply CallN.mk (cE)) | (with_reducible first | apply Bif.T | apply Bif.F) | ((with_reducible apply Bif.dec) <;> intro h <;> (try simp only [lns] at h) <;> (try (exfalso; omega))) | (with_reducible apply Bif.not) | (apply Same.bool; focus (with_reducible rfl))) <;> conv => whnf) | fail)
  refine spec_of_run ttok mixed (T0 := 4550819887) (ts := [.tmp 2]) 46 rfl rfl rfl rfl (by simp) rfl ?_
  conv => whnf
  repeat' (first | ((first | ((with_reducible apply Nm.mk); focus ((try simp only [lns]); exact rfl)) | (apply CallN.mk (cE)) | (with_reducible first | apply Bif.T | apply Bif.F) | ((with_reducible apply Bif.dec) <;> intro h <;> (try simp only [lns] at h) <;> (try (exfalso; omega))) | (with_reducible apply Bif.not)) <;> conv => whnf) | fail)
  refine loop_keep ttok mixed (T0 := 4550819887) [24, 25] (ι := {j : Nat // j ≤ n.mem.length ∧ ∀ k, k < j → 0 < gt n.mem k ∧ (0 < k → gt n.mem (k - 1) < gt n.mem k)})
    (fun j => [(26, int ((j.1 : Nat) : Int)), (1, .pb 0 []), (3, .v (.int .u64 (if j.1 = 0 then 0 else gt n.mem (j.1 - 1))))]) (fun _ => [.cells (netF n)]) (fun j => n.mem.length - j.1) ⟨0, by omega, none_lt⟩ ?_
  conv => whnf
  repeat' (first | ((first | (with_reducible apply Same.rfl) | (apply Same.int; focus rfl)) <;> conv => whnf) | fail)
  rintro ⟨j, hj, hk⟩
  dsimp only
  have h0 : j < n.mem.length → 0 ≤ gt n.mem j := fun h => hn.p _ (gt_mem h)
  have hlast : 0 < j → 0 < gt n.mem (j - 1) := fun h => (hk (j - 1) (by omega)).1
  conv => whnf
  repeat' (first | ((first | ((with_reducible apply Nm.mk); focus ((try simp only [lns]); exact rfl)) | ((with_reducible apply Wr.i64); focus omega) | ((with_reducible apply Need.mk); focus (simp only [lns]; omega)) | ((with_reducible apply Elem.lst); focus omega) | (apply CallN.mk (cC)) | (apply CallN.mk (cV)) | (with_reducible first | apply Bif.T | apply Bif.F) | ((with_reducible apply Bif.dec) <;> intro h <;> (try simp only [lns] at h))) <;> conv => whnf) | fail)
  · apply Same.bool (by
      refine (vN_mem (mem_ff (j := j) (by omega) ?_)).symm
      rintro ⟨g1, g2⟩
      split at h
      · omega
      · have := g2 (by omega); omega)
    conv => whnf
    repeat' (first | with_reducible apply True.intro | fail)
  · have hstep : 0 < gt n.mem j ∧ (0 < j → gt n.mem (j - 1) < gt n.mem j) := by
      split at h
      · exact ⟨by omega, fun h => by omega⟩
      · have := hlast (by omega)
        exact ⟨by omega, fun _ => by omega⟩
    (refine ⟨⟨j + 1, by omega, step_lt hk hstep⟩, ?_⟩; (try dsimp only); conv => whnf); repeat' (first | with_reducible apply True.intro | ((with_reducible apply Same.mk); (focus (first | (rw [if_neg (by omega)]; rfl) | fail)); (conv => whnf)) | ((first | ((with_reducible apply Need.mk); focus omega) | (with_reducible apply Same.rfl) | (apply Same.int; focus rfl) | (with_reducible apply Turn.l)) <;> conv => whnf) | fail)
  · apply Same.bool (vN_all he (mem_of hL (by omega) hk) h).symm
    conv => whnf
    repeat' (first | with_reducible apply True.intro | fail)
  · apply Same.bool (vN_rt h).symm
    conv => whnf
    repeat' (first | with_reducible apply True.intro | fail)
theorem k_yValid (n : Net) (hn : NetR n) : Con Try.prog 22 [netF n] [] (bool (validN n)) [] := by
  have hlm := hn.lm
  have cV := k_refValid n.cl .no hn.lc
  have cC := k_Has n.mem n.rt .no hn.lm
  by_cases hA : (0 ≤ n.ep ∧ n.ep ≤ 1073741824) ∧ (1 ≤ n.mem.length ∧ n.mem.length ≤ 12) ∧ validR n.cl = true
  case neg =>
    have hv : validN n = false := by
      rw [Bool.eq_false_iff, Ne, validN_iff]
      rintro ⟨v1, ⟨v2, v3, _⟩, _, v4⟩
      exact hA ⟨v1, ⟨v2, v3⟩, v4⟩
    rw [hv]
    generalize validR n.cl = vc at *
    refine spec_of_run ttok mixed (T0 := 72057856030933023) (ts := [.tmp 2]) 64 rfl rfl rfl rfl (by simp) rfl ?_
    conv => whnf
    repeat' (first | with_reducible apply True.intro | ((first | ((with_reducible apply Nm.mk); focus ((try simp only [lns]); exact rfl)) | (apply CallN.mk (cV)) | (with_reducible first | apply Bif.T | apply Bif.F) | ((with_reducible apply Bif.dec) <;> intro h <;> (try simp only [lns] at h)) | (with_reducible apply Bif.not) | ((with_reducible apply Bif.mk) <;> intro h <;> (try (exact absurd ⟨⟨by omega, by omega⟩, ⟨by omega, by omega⟩, by assumption⟩ hA))) | (apply Same.bool; focus (with_reducible rfl))) <;> conv => whnf) | fail)
  obtain ⟨he, hL, hvc⟩ := hA
  rw [hvc] at cV
  refine spec_of_run ttok mixed (T0 := 72057856030933023) (ts := [.tmp 2]) 64 rfl rfl rfl rfl (by simp) rfl ?_
  conv => whnf
  repeat' (first | ((first | ((with_reducible apply Nm.mk); focus ((try simp only [lns]); exact rfl)) | (apply CallN.mk (cV)) | (with_reducible first | apply Bif.T | apply Bif.F) | ((with_reducible apply Bif.dec) <;> intro h <;> (try simp only [lns] at h) <;> (try (exfalso; omega))) | (with_reducible apply Bif.not)) <;> conv => whnf) | fail)
  refine loop_keep ttok mixed (T0 := 72057856030933023) [34, 35] (ι := {j : Nat // j ≤ n.mem.length ∧ ∀ k, k < j → 0 < gt n.mem k ∧ (0 < k → gt n.mem (k - 1) < gt n.mem k)})
    (fun j => [(36, int ((j.1 : Nat) : Int)), (1, .pb 0 [])]) (fun _ => [.cells (netF n)]) (fun j => n.mem.length - j.1) ⟨0, by omega, none_lt⟩ ?_
  conv => whnf
  repeat' (first | ((first | (with_reducible apply Same.rfl) | (apply Same.int; focus rfl)) <;> conv => whnf) | fail)
  rintro ⟨j, hj, hk⟩
  dsimp only
  have h0 : j < n.mem.length → 0 ≤ gt n.mem j := fun h => hn.p _ (gt_mem h)
  have e1 : ((j : Int) - 1).toNat = j - 1 := by omega
  conv => whnf
  repeat' (first | ((first | ((with_reducible apply Nm.mk); focus ((try simp only [lns]); exact rfl)) | ((with_reducible apply Wr.i64); focus omega) | ((with_reducible apply Need.mk); focus (simp only [lns]; omega)) | ((with_reducible apply Elem.lst); focus omega) | (apply CallN.mk (cC)) | (with_reducible first | apply Bif.T | apply Bif.F) | ((with_reducible first | apply Bif.dec | apply Bif.beq) <;> intro h <;> (try simp only [lns] at h))) <;> conv => whnf) | fail)
  · apply Same.bool (vN_mem (mem_ff (j := j) (by omega) (fun g => by omega))).symm
    conv => whnf
    repeat' (first | with_reducible apply True.intro | fail)
  · rw [e1] at h
    apply Same.bool (vN_mem (mem_ff (j := j) (by omega) (fun g => by have := g.2 (by omega); omega))).symm
    conv => whnf
    repeat' (first | with_reducible apply True.intro | fail)
  · rw [e1] at h
    have hj0 := h0 (by omega)
    (refine ⟨⟨j + 1, by omega, step_lt hk ⟨by omega, fun _ => by omega⟩⟩, ?_⟩; (try dsimp only); conv => whnf); repeat' (first | with_reducible apply True.intro | ((first | ((with_reducible apply Need.mk); focus omega) | (with_reducible apply Same.rfl) | (apply Same.int; focus rfl) | (with_reducible apply Turn.l)) <;> conv => whnf) | fail)
  · have hj0 := h0 (by omega)
    (refine ⟨⟨j + 1, by omega, step_lt hk ⟨by omega, fun g => by omega⟩⟩, ?_⟩; (try dsimp only); conv => whnf); repeat' (first | with_reducible apply True.intro | ((first | ((with_reducible apply Need.mk); focus omega) | (with_reducible apply Same.rfl) | (apply Same.int; focus rfl) | (with_reducible apply Turn.l)) <;> conv => whnf) | fail)
  · have hm := mem_of hL (by omega) hk
    apply Same.bool (by
      by_cases hr : n.rt ∈ n.mem
      · rw [vN_all he hm hr, hvc, decide_eq_true hr]
      · rw [vN_rt hr, decide_eq_false hr])
    conv => whnf
    repeat' (first | with_reducible apply True.intro | fail)
end Go.Fw
