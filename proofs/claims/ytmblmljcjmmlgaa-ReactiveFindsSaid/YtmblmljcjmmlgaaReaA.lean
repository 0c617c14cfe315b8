/- Reactive: the small functions. -/
import Derived.Test.YtmblmljcjmmlgaaRea0
namespace Go.Fw
open Go.Proofs
set_option maxHeartbeats 4000000
set_option maxRecDepth 4000
theorem k_xisTime (t : Int) : Con Try.prog 39 [int t] [] (bool (decide (0 ≤ t ∧ t ≤ 1099511627776))) [] := by
  refine spec_of_run ttok mixed (T0 := 5) (ts := [.tmp 2]) 9 rfl rfl rfl rfl (by simp) rfl ?_
  conv => whnf
  repeat' (first | ((first | (with_reducible first | apply Bif.T | apply Bif.F) | ((with_reducible apply Bif.dec) <;> intro h <;> (try simp only [lns] at h)) | (with_reducible apply Frz.l)) <;> conv => whnf) | fail)
  all_goals (apply Same.bool (by rw [Bool.eq_iff_iff]; simp only [decide_eq_true_eq, Bool.false_eq_true, false_iff, true_iff, Bool.and_eq_true, Bool.or_eq_true, Bool.not_eq_true', decide_eq_false_iff_not, ne_eq]; omega); (conv => whnf); repeat' (first | with_reducible apply True.intro | ((with_reducible apply Frz.l) <;> conv => whnf) | fail))
theorem k_xIsTime (t : Int) : Con Try.prog 75 [int t] [] (bool (decide (0 ≤ t ∧ t ≤ 1099511627776))) [] := by
  refine spec_of_run ttok mixed (T0 := 5) (ts := [.tmp 2]) 9 rfl rfl rfl rfl (by simp) rfl ?_
  conv => whnf
  repeat' (first | ((first | (with_reducible first | apply Bif.T | apply Bif.F) | ((with_reducible apply Bif.dec) <;> intro h <;> (try simp only [lns] at h)) | (with_reducible apply Frz.l)) <;> conv => whnf) | fail)
  all_goals (apply Same.bool (by rw [Bool.eq_iff_iff]; simp only [decide_eq_true_eq, Bool.false_eq_true, false_iff, true_iff, Bool.and_eq_true, Bool.or_eq_true, Bool.not_eq_true', decide_eq_false_iff_not, ne_eq]; omega); (conv => whnf); repeat' (first | with_reducible apply True.intro | ((with_reducible apply Frz.l) <;> conv => whnf) | fail))
theorem k_later (now d : Int) (hn : isT now) (hd : 0 ≤ d ∧ d ≤ 1000) : Con Try.prog 56 [int now, int d] [] (int (lat now d)) [] := by
  unfold isT at hn
  refine spec_of_run ttok mixed (T0 := 19) (ts := [.tmp 4]) 9 rfl rfl rfl rfl (by simp) rfl ?_
  conv => whnf
  repeat' (first | with_reducible apply True.intro | ((first | ((with_reducible apply Wr.i64); focus omega) | (apply Same.int; focus rfl) | (with_reducible apply Frz.l)) <;> conv => whnf) | fail)
theorem k_After (now d : Int) (hn : isT now) (hd : 0 ≤ d ∧ d ≤ 1000) : Con Try.prog 77 [int now, int d] [] (int (lat now d)) [] := by
  unfold isT at hn
  refine spec_of_run ttok mixed (T0 := 19) (ts := [.tmp 4]) 9 rfl rfl rfl rfl (by simp) rfl ?_
  conv => whnf
  repeat' (first | with_reducible apply True.intro | ((first | ((with_reducible apply Wr.i64); focus omega) | (apply Same.int; focus rfl) | (with_reducible apply Frz.l)) <;> conv => whnf) | fail)
theorem k_mAdd (a b : Int) : Con Try.prog 41 [int a, int b] [] (int (addC a b)) [] := by
  refine spec_of_run ttok mixed (T0 := 4115) (ts := [.tmp 4]) 17 rfl rfl rfl rfl (by simp) rfl ?_
  conv => whnf
  by_cases h1 : okM a = true
  · by_cases h2 : okM b = true
    · have g1 : 0 ≤ a ∧ a ≤ 65535 := of_decide_eq_true h1
      have g2 : 0 ≤ b ∧ b ≤ 65535 := of_decide_eq_true h2
      rw [addC, if_pos ⟨h1, h2⟩]
      repeat' (first | with_reducible apply True.intro | ((first | ((with_reducible apply Wr.i64); focus omega) | (apply CallN.mk (k_metricValid _)) | (with_reducible apply Bif.F) | (with_reducible apply Bif.not) | ((with_reducible apply Bif.mk) <;> intro h <;> (try (simp_all; done))) | (apply Same.int; focus rfl) | (with_reducible apply Frz.l)) <;> conv => whnf) | fail)
    · rw [addC, if_neg (fun h => h2 h.2)]
      repeat' (first | with_reducible apply True.intro | ((first | (apply CallN.mk (k_metricValid _)) | (with_reducible apply Bif.F) | (with_reducible apply Bif.not) | ((with_reducible apply Bif.mk) <;> intro h <;> (try (simp_all; done))) | (apply Same.int; focus rfl) | (with_reducible apply Frz.l)) <;> conv => whnf) | fail)
  · rw [addC, if_neg (fun h => h1 h.1)]
    repeat' (first | with_reducible apply True.intro | ((first | (apply CallN.mk (k_metricValid _)) | (with_reducible apply Bif.T) | (with_reducible apply Bif.not) | ((with_reducible apply Bif.mk) <;> intro h <;> (try (simp_all; done))) | (apply Same.int; focus rfl) | (with_reducible apply Frz.l)) <;> conv => whnf) | fail)
theorem k_refmAdd (a b : Int) : Con Try.prog 79 [int a, int b] [] (int (addC a b)) [] := by
  refine spec_of_run ttok mixed (T0 := 4115) (ts := [.tmp 4]) 17 rfl rfl rfl rfl (by simp) rfl ?_
  conv => whnf
  by_cases h1 : okM a = true
  · by_cases h2 : okM b = true
    · have g1 : 0 ≤ a ∧ a ≤ 65535 := of_decide_eq_true h1
      have g2 : 0 ≤ b ∧ b ≤ 65535 := of_decide_eq_true h2
      rw [addC, if_pos ⟨h1, h2⟩]
      repeat' (first | with_reducible apply True.intro | ((first | ((with_reducible apply Wr.i64); focus omega) | (apply CallN.mk (k_refmetricValid _)) | (with_reducible apply Bif.F) | (with_reducible apply Bif.not) | ((with_reducible apply Bif.mk) <;> intro h <;> (try (simp_all; done))) | (apply Same.int; focus rfl) | (with_reducible apply Frz.l)) <;> conv => whnf) | fail)
    · rw [addC, if_neg (fun h => h2 h.2)]
      repeat' (first | with_reducible apply True.intro | ((first | (apply CallN.mk (k_refmetricValid _)) | (with_reducible apply Bif.F) | (with_reducible apply Bif.not) | ((with_reducible apply Bif.mk) <;> intro h <;> (try (simp_all; done))) | (apply Same.int; focus rfl) | (with_reducible apply Frz.l)) <;> conv => whnf) | fail)
  · rw [addC, if_neg (fun h => h1 h.1)]
    repeat' (first | with_reducible apply True.intro | ((first | (apply CallN.mk (k_refmetricValid _)) | (with_reducible apply Bif.T) | (with_reducible apply Bif.not) | ((with_reducible apply Bif.mk) <;> intro h <;> (try (simp_all; done))) | (apply Same.int; focus rfl) | (with_reducible apply Frz.l)) <;> conv => whnf) | fail)
theorem k_sqRaise (a b : Int) : Con Try.prog 73 [u16 a, u16 b] [] (u16 (raise a b)) [] := by
  refine spec_of_run ttok mixed (T0 := 147) (ts := [.tmp 4]) 10 rfl rfl rfl rfl (by simp) rfl ?_
  conv => whnf
  unfold raise
  cases h : newer b a
  · repeat' (first | with_reducible apply True.intro | ((first | (apply CallN.mk (k_Newer _ _)) | ((with_reducible apply Bif.mk) <;> intro h <;> (try (simp_all; done))) | (apply Same.int; focus rfl) | (with_reducible apply Frz.l)) <;> conv => whnf) | fail)
  · repeat' (first | with_reducible apply True.intro | ((first | (apply CallN.mk (k_Newer _ _)) | ((with_reducible apply Bif.mk) <;> intro h <;> (try (simp_all; done))) | (apply Same.int; focus rfl) | (with_reducible apply Frz.l)) <;> conv => whnf) | fail)
theorem k_refsqRaise (a b : Int) : Con Try.prog 94 [u16 a, u16 b] [] (u16 (raise a b)) [] := by
  refine spec_of_run ttok mixed (T0 := 147) (ts := [.tmp 4]) 10 rfl rfl rfl rfl (by simp) rfl ?_
  conv => whnf
  unfold raise
  cases h : newer b a
  · repeat' (first | with_reducible apply True.intro | ((first | (apply CallN.mk (k_refNewer _ _)) | ((with_reducible apply Bif.mk) <;> intro h <;> (try (simp_all; done))) | (apply Same.int; focus rfl) | (with_reducible apply Frz.l)) <;> conv => whnf) | fail)
  · repeat' (first | with_reducible apply True.intro | ((first | (apply CallN.mk (k_refNewer _ _)) | ((with_reducible apply Bif.mk) <;> intro h <;> (try (simp_all; done))) | (apply Same.int; focus rfl) | (with_reducible apply Frz.l)) <;> conv => whnf) | fail)
theorem k_validOwn (p : Pth) : Con Try.prog 68 [pthV p] [] (bool (ownOK p)) [] := by
  refine spec_of_run ttok mixed (T0 := 7) (ts := [.tmp 2]) 17 rfl rfl rfl rfl (by simp) rfl ?_
  conv => whnf
  repeat' (first | ((first | (apply CallN.mk (k_seqValid _)) | (apply CallN.mk (k_xisTime _)) | (with_reducible first | apply Bif.T | apply Bif.F) | ((with_reducible apply Bif.bne) <;> intro h <;> (try simp only [lns] at h)) | ((with_reducible apply Bif.mk) <;> intro h) | (with_reducible apply Frz.l)) <;> conv => whnf) | fail)
  all_goals (apply Same.bool (by rw [Bool.eq_iff_iff]; simp_all [ownOK, isT]); (conv => whnf); repeat' (first | with_reducible apply True.intro | ((with_reducible apply Frz.l) <;> conv => whnf) | fail))
theorem k_ofPath (p : Pth) : Con Try.prog 66 [pthV p] [] (.v (.int .u64 p.to)) [] := by
  refine spec_of_run ttok mixed (T0 := 7) (ts := [.tmp 2]) 5 rfl rfl rfl rfl (by simp) rfl ?_
  conv => whnf
  repeat' (first | with_reducible apply True.intro | ((first | (with_reducible apply Same.rfl) | (with_reducible apply Frz.l)) <;> conv => whnf) | fail)
theorem k_ofSearch (p : Dsc) : Con Try.prog 54 [dscV p] [] (.v (.int .u64 p.to)) [] := by
  refine spec_of_run ttok mixed (T0 := 7) (ts := [.tmp 2]) 5 rfl rfl rfl rfl (by simp) rfl ?_
  conv => whnf
  repeat' (first | with_reducible apply True.intro | ((first | (with_reducible apply Same.rfl) | (with_reducible apply Frz.l)) <;> conv => whnf) | fail)
theorem cmpI_lo {a b : Int} : cmpI a b < 0 ↔ a < b := by unfold cmpI; (repeat' split) <;> omega
theorem fndI_eq {α : Type} [Inhabited α] {κ : α → Int} {l : List α} {t : Int} (h : atK cmpI κ l t < l.length) : fndK cmpI κ l t = (κ (gt l (atK cmpI κ l t)) == t) := by
  rw [Bool.eq_iff_iff, fndK_iff cmpI_ok2, beq_iff_eq]
  exact ⟨fun h => h.2, fun g => ⟨h, g⟩⟩
theorem fndI_no {α : Type} [Inhabited α] {κ : α → Int} {l : List α} {t : Int} (h : l.length ≤ atK cmpI κ l t) : fndK cmpI κ l t = false := by
  cases hf : fndK cmpI κ l t
  · rfl
  · have := (fndK_iff cmpI_ok2).1 hf; omega
theorem atI_eq {α : Type} [Inhabited α] {κ : α → Int} {l : List α} {t : Int} {i : Nat} (hi : i ≤ l.length) (h1 : ∀ j, j < i → κ (gt l j) < t) (h2 : i < l.length → t ≤ κ (gt l i)) : atK cmpI κ l t = i :=
  bsA_eq hi (fun j hj => cmpI_lo.2 (h1 j hj)) (fun h g => by have := cmpI_lo.1 g; have := h2 h; omega)
theorem k_find_Pth (l : List Pth) (t : Int) (hl : l.length ≤ 9223372036854775807) : Con Try.prog 84 [.fs .no 6 (lst pthV l), .clo 66 [], .v (.int .u64 t)] [] (.tup [int (atP l t), bool (fndP l t)]) [] := by
  refine spec_of_run ttok mixed (T0 := 8421319) (ts := [.tmp 6, .tmp 7]) 31 rfl rfl rfl rfl (by simp) rfl ?_
  conv => whnf
  repeat' (first | ((first | ((with_reducible apply Nm.mk); focus ((try simp only [lns]); exact rfl)) | (with_reducible apply Frz.l)) <;> conv => whnf) | fail)
  refine loop_keep ttok mixed (T0 := 8421319) [0, 1, 2, 11, 12] (ι := {k : Nat // k ≤ l.length ∧ ∀ j, j < k → (gt l j).to < t})
    (fun k => [(13, int (k.1 : Int))]) (fun _ => []) (fun k => l.length - k.1) ⟨0, by omega, none_lt⟩ ?_
  conv => whnf
  repeat' (first | ((first | (with_reducible apply Same.rfl) | (apply Same.int; focus rfl) | (with_reducible apply Frz.l)) <;> conv => whnf) | fail)
  rintro ⟨k, hk, he⟩
  dsimp only
  conv => whnf
  by_cases hkl : k < l.length
  · by_cases ht : t ≤ (gt l k).to
    · have ha : atP l t = k := atI_eq hk he (fun _ => ht)
      have hf := fndI_eq (κ := Pth.to) (l := l) (t := t) (by show atP l t < _; rw [ha]; exact hkl)
      rw [show atK cmpI Pth.to l t = k from ha] at hf
      rw [ha, show fndP l t = _ from hf]
      repeat' (first | with_reducible apply True.intro | ((first | ((with_reducible apply Nm.mk); focus ((try simp only [lns]); exact rfl)) | ((with_reducible apply Need.mk); focus (simp only [lns]; omega)) | ((with_reducible apply Elem.lst); focus omega) | (apply CallN.mk (k_ofPath _)) | ((with_reducible apply Bif.dec) <;> intro h <;> (try simp only [lns] at h) <;> (try (exfalso; omega))) | (with_reducible apply Same.rfl) | (apply Same.bool; focus (with_reducible rfl)) | (with_reducible apply Frz.l)) <;> conv => whnf) | fail)
    · repeat' (first | ((first | ((with_reducible apply Nm.mk); focus ((try simp only [lns]); exact rfl)) | ((with_reducible apply Wr.i64); focus omega) | ((with_reducible apply Need.mk); focus (simp only [lns]; omega)) | ((with_reducible apply Elem.lst); focus omega) | (apply CallN.mk (k_ofPath _)) | ((with_reducible apply Bif.dec) <;> intro h <;> (try simp only [lns] at h) <;> (try (exfalso; omega))) | (with_reducible apply Frz.l)) <;> conv => whnf) | fail)
      (refine ⟨⟨k + 1, by omega, step_lt he (by omega)⟩, ?_⟩; (try dsimp only); conv => whnf); repeat' (first | with_reducible apply True.intro | ((first | ((with_reducible apply Need.mk); focus omega) | (with_reducible apply Same.rfl) | (apply Same.int; focus rfl) | (with_reducible apply Turn.l) | (with_reducible apply Frz.l)) <;> conv => whnf) | fail)
  · have ha : atP l t = k := atI_eq hk he (fun h => by omega)
    have hf := fndI_no (κ := Pth.to) (l := l) (t := t) (by show _ ≤ atP l t; rw [ha]; omega)
    rw [ha, show fndP l t = _ from hf]
    repeat' (first | with_reducible apply True.intro | ((first | ((with_reducible apply Nm.mk); focus ((try simp only [lns]); exact rfl)) | ((with_reducible apply Bif.dec) <;> intro h <;> (try simp only [lns] at h) <;> (try (exfalso; omega))) | (apply Same.int; focus omega) | (apply Same.bool; focus (with_reducible rfl)) | (with_reducible apply Frz.l)) <;> conv => whnf) | fail)
theorem k_find_Dsc (l : List Dsc) (t : Int) (hl : l.length ≤ 9223372036854775807) : Con Try.prog 53 [.fs .no 3 (lst dscV l), .clo 54 [], .v (.int .u64 t)] [] (.tup [int (atD l t), bool (fndD l t)]) [] := by
  refine spec_of_run ttok mixed (T0 := 8421319) (ts := [.tmp 6, .tmp 7]) 31 rfl rfl rfl rfl (by simp) rfl ?_
  conv => whnf
  repeat' (first | ((first | ((with_reducible apply Nm.mk); focus ((try simp only [lns]); exact rfl)) | (with_reducible apply Frz.l)) <;> conv => whnf) | fail)
  refine loop_keep ttok mixed (T0 := 8421319) [0, 1, 2, 11, 12] (ι := {k : Nat // k ≤ l.length ∧ ∀ j, j < k → (gt l j).to < t})
    (fun k => [(13, int (k.1 : Int))]) (fun _ => []) (fun k => l.length - k.1) ⟨0, by omega, none_lt⟩ ?_
  conv => whnf
  repeat' (first | ((first | (with_reducible apply Same.rfl) | (apply Same.int; focus rfl) | (with_reducible apply Frz.l)) <;> conv => whnf) | fail)
  rintro ⟨k, hk, he⟩
  dsimp only
  conv => whnf
  by_cases hkl : k < l.length
  · by_cases ht : t ≤ (gt l k).to
    · have ha : atD l t = k := atI_eq hk he (fun _ => ht)
      have hf := fndI_eq (κ := Dsc.to) (l := l) (t := t) (by show atD l t < _; rw [ha]; exact hkl)
      rw [show atK cmpI Dsc.to l t = k from ha] at hf
      rw [ha, show fndD l t = _ from hf]
      repeat' (first | with_reducible apply True.intro | ((first | ((with_reducible apply Nm.mk); focus ((try simp only [lns]); exact rfl)) | ((with_reducible apply Need.mk); focus (simp only [lns]; omega)) | ((with_reducible apply Elem.lst); focus omega) | (apply CallN.mk (k_ofSearch _)) | ((with_reducible apply Bif.dec) <;> intro h <;> (try simp only [lns] at h) <;> (try (exfalso; omega))) | (with_reducible apply Same.rfl) | (apply Same.bool; focus (with_reducible rfl)) | (with_reducible apply Frz.l)) <;> conv => whnf) | fail)
    · repeat' (first | ((first | ((with_reducible apply Nm.mk); focus ((try simp only [lns]); exact rfl)) | ((with_reducible apply Wr.i64); focus omega) | ((with_reducible apply Need.mk); focus (simp only [lns]; omega)) | ((with_reducible apply Elem.lst); focus omega) | (apply CallN.mk (k_ofSearch _)) | ((with_reducible apply Bif.dec) <;> intro h <;> (try simp only [lns] at h) <;> (try (exfalso; omega))) | (with_reducible apply Frz.l)) <;> conv => whnf) | fail)
      (refine ⟨⟨k + 1, by omega, step_lt he (by omega)⟩, ?_⟩; (try dsimp only); conv => whnf); repeat' (first | with_reducible apply True.intro | ((first | ((with_reducible apply Need.mk); focus omega) | (with_reducible apply Same.rfl) | (apply Same.int; focus rfl) | (with_reducible apply Turn.l) | (with_reducible apply Frz.l)) <;> conv => whnf) | fail)
  · have ha : atD l t = k := atI_eq hk he (fun h => by omega)
    have hf := fndI_no (κ := Dsc.to) (l := l) (t := t) (by show _ ≤ atD l t; rw [ha]; omega)
    rw [ha, show fndD l t = _ from hf]
    repeat' (first | with_reducible apply True.intro | ((first | ((with_reducible apply Nm.mk); focus ((try simp only [lns]); exact rfl)) | ((with_reducible apply Bif.dec) <;> intro h <;> (try simp only [lns] at h) <;> (try (exfalso; omega))) | (apply Same.int; focus omega) | (apply Same.bool; focus (with_reducible rfl)) | (with_reducible apply Frz.l)) <;> conv => whnf) | fail)
/-- The keys ascend; none is 0 or self. -/
def ascI {α : Type} [Inhabited α] (κ : α → Int) (self : Int) (l : List α) : Bool := decide (∀ i, i < l.length → (if i = 0 then (0 : Int) else κ (gt l (i - 1))) < κ (gt l i) ∧ κ (gt l i) ≠ self)
theorem ascI_ff {α : Type} [Inhabited α] {κ : α → Int} {self : Int} {l : List α} {k : Nat} (hk : k < l.length) (h : ¬ ((if k = 0 then (0 : Int) else κ (gt l (k - 1))) < κ (gt l k) ∧ κ (gt l k) ≠ self)) : ascI κ self l = false :=
  decide_eq_false fun g => h (g k hk)
theorem ascI_tt {α : Type} [Inhabited α] {κ : α → Int} {self : Int} {l : List α} {k : Nat} (hk : l.length ≤ k) (h : ∀ i, i < k → (if i = 0 then (0 : Int) else κ (gt l (i - 1))) < κ (gt l i) ∧ κ (gt l i) ≠ self) : ascI κ self l = true :=
  decide_eq_true fun i hi => h i (by omega)
theorem k_asc_Pth (l : List Pth) (s : Int) (hl : l.length ≤ 9223372036854775807) : Con Try.prog 65 [.fs .no 6 (lst pthV l), .clo 66 [], .v (.int .u64 s)] [] (bool (ascI Pth.to s l)) [] := by
  refine spec_of_run ttok mixed (T0 := 134250183) (ts := [.tmp 6]) 30 rfl rfl rfl rfl (by simp) rfl ?_
  conv => whnf
  repeat' (first | ((first | ((with_reducible apply Nm.mk); focus ((try simp only [lns]); exact rfl)) | (with_reducible apply Frz.l)) <;> conv => whnf) | fail)
  refine loop_keep ttok mixed (T0 := 134250183) [0, 1, 2, 11, 12] (ι := {k : Nat // k ≤ l.length ∧ ∀ i, i < k → (if i = 0 then (0 : Int) else (gt l (i - 1)).to) < (gt l i).to ∧ (gt l i).to ≠ s})
    (fun k => [(7, .v (.int .u64 (if k.1 = 0 then (0 : Int) else (gt l (k.1 - 1)).to))), (13, int (k.1 : Int))]) (fun _ => []) (fun k => l.length - k.1) ⟨0, by omega, none_lt⟩ ?_
  conv => whnf
  repeat' (first | ((first | (with_reducible apply Same.rfl) | (apply Same.int; focus rfl) | (with_reducible apply Frz.l)) <;> conv => whnf) | fail)
  rintro ⟨k, hk, he⟩
  dsimp only
  conv => whnf
  by_cases hkl : k < l.length
  · obtain ⟨z, hz⟩ : ∃ z, (if k = 0 then (0 : Int) else (gt l (k - 1)).to) = z := ⟨_, rfl⟩
    rw [hz]
    by_cases h1 : z < (gt l k).to ∧ (gt l k).to ≠ s
    · repeat' (first | ((first | ((with_reducible apply Nm.mk); focus ((try simp only [lns]); exact rfl)) | ((with_reducible apply Wr.i64); focus omega) | ((with_reducible apply Need.mk); focus (simp only [lns]; omega)) | ((with_reducible apply Elem.lst); focus omega) | (apply CallN.mk (k_ofPath _)) | (with_reducible apply Bif.F) | ((with_reducible first | apply Bif.dec | apply Bif.beq) <;> intro h <;> (try simp only [lns] at h) <;> (try (exfalso; omega))) | (with_reducible apply Frz.l)) <;> conv => whnf) | fail)
      (refine ⟨⟨k + 1, by omega, step_lt he (by rw [hz]; exact h1)⟩, ?_⟩; (try dsimp only); conv => whnf); repeat' (first | with_reducible apply True.intro | ((first | ((with_reducible apply Need.mk); focus omega) | (with_reducible apply Same.rfl) | (apply Same.int; focus rfl) | (with_reducible apply Turn.l) | (with_reducible apply Frz.l)) <;> conv => whnf) | fail)
    · rw [ascI_ff hkl (by rw [hz]; exact h1)]
      repeat' (first | with_reducible apply True.intro | ((first | ((with_reducible apply Nm.mk); focus ((try simp only [lns]); exact rfl)) | ((with_reducible apply Need.mk); focus (simp only [lns]; omega)) | ((with_reducible apply Elem.lst); focus omega) | (apply CallN.mk (k_ofPath _)) | (with_reducible first | apply Bif.T | apply Bif.F) | ((with_reducible first | apply Bif.dec | apply Bif.beq) <;> intro h <;> (try simp only [lns] at h) <;> (try (exfalso; omega))) | (apply Same.bool; focus (with_reducible rfl)) | (with_reducible apply Frz.l)) <;> conv => whnf) | fail)
  · rw [ascI_tt (by omega) he]
    repeat' (first | with_reducible apply True.intro | ((first | ((with_reducible apply Bif.dec) <;> intro h <;> (try simp only [lns] at h) <;> (try (exfalso; omega))) | (apply Same.bool; focus (with_reducible rfl)) | (with_reducible apply Frz.l)) <;> conv => whnf) | fail)
theorem k_asc_Dsc (l : List Dsc) (s : Int) (hl : l.length ≤ 9223372036854775807) : Con Try.prog 67 [.fs .no 3 (lst dscV l), .clo 54 [], .v (.int .u64 s)] [] (bool (ascI Dsc.to s l)) [] := by
  refine spec_of_run ttok mixed (T0 := 134250183) (ts := [.tmp 6]) 30 rfl rfl rfl rfl (by simp) rfl ?_
  conv => whnf
  repeat' (first | ((first | ((with_reducible apply Nm.mk); focus ((try simp only [lns]); exact rfl)) | (with_reducible apply Frz.l)) <;> conv => whnf) | fail)
  refine loop_keep ttok mixed (T0 := 134250183) [0, 1, 2, 11, 12] (ι := {k : Nat // k ≤ l.length ∧ ∀ i, i < k → (if i = 0 then (0 : Int) else (gt l (i - 1)).to) < (gt l i).to ∧ (gt l i).to ≠ s})
    (fun k => [(7, .v (.int .u64 (if k.1 = 0 then (0 : Int) else (gt l (k.1 - 1)).to))), (13, int (k.1 : Int))]) (fun _ => []) (fun k => l.length - k.1) ⟨0, by omega, none_lt⟩ ?_
  conv => whnf
  repeat' (first | ((first | (with_reducible apply Same.rfl) | (apply Same.int; focus rfl) | (with_reducible apply Frz.l)) <;> conv => whnf) | fail)
  rintro ⟨k, hk, he⟩
  dsimp only
  conv => whnf
  by_cases hkl : k < l.length
  · obtain ⟨z, hz⟩ : ∃ z, (if k = 0 then (0 : Int) else (gt l (k - 1)).to) = z := ⟨_, rfl⟩
    rw [hz]
    by_cases h1 : z < (gt l k).to ∧ (gt l k).to ≠ s
    · repeat' (first | ((first | ((with_reducible apply Nm.mk); focus ((try simp only [lns]); exact rfl)) | ((with_reducible apply Wr.i64); focus omega) | ((with_reducible apply Need.mk); focus (simp only [lns]; omega)) | ((with_reducible apply Elem.lst); focus omega) | (apply CallN.mk (k_ofSearch _)) | (with_reducible apply Bif.F) | ((with_reducible first | apply Bif.dec | apply Bif.beq) <;> intro h <;> (try simp only [lns] at h) <;> (try (exfalso; omega))) | (with_reducible apply Frz.l)) <;> conv => whnf) | fail)
      (refine ⟨⟨k + 1, by omega, step_lt he (by rw [hz]; exact h1)⟩, ?_⟩; (try dsimp only); conv => whnf); repeat' (first | with_reducible apply True.intro | ((first | ((with_reducible apply Need.mk); focus omega) | (with_reducible apply Same.rfl) | (apply Same.int; focus rfl) | (with_reducible apply Turn.l) | (with_reducible apply Frz.l)) <;> conv => whnf) | fail)
    · rw [ascI_ff hkl (by rw [hz]; exact h1)]
      repeat' (first | with_reducible apply True.intro | ((first | ((with_reducible apply Nm.mk); focus ((try simp only [lns]); exact rfl)) | ((with_reducible apply Need.mk); focus (simp only [lns]; omega)) | ((with_reducible apply Elem.lst); focus omega) | (apply CallN.mk (k_ofSearch _)) | (with_reducible first | apply Bif.T | apply Bif.F) | ((with_reducible first | apply Bif.dec | apply Bif.beq) <;> intro h <;> (try simp only [lns] at h) <;> (try (exfalso; omega))) | (apply Same.bool; focus (with_reducible rfl)) | (with_reducible apply Frz.l)) <;> conv => whnf) | fail)
  · rw [ascI_tt (by omega) he]
    repeat' (first | with_reducible apply True.intro | ((first | ((with_reducible apply Bif.dec) <;> intro h <;> (try simp only [lns] at h) <;> (try (exfalso; omega))) | (apply Same.bool; focus (with_reducible rfl)) | (with_reducible apply Frz.l)) <;> conv => whnf) | fail)
end Go.Fw
