/- Registries: what is valid, what is current, who owns. -/
import Derived.Test.YtpmiaggdjgfjgaaGreatSlStbClm

namespace Go.Fw
set_option maxRecDepth 4000
open Go.Proofs
set_option maxHeartbeats 4000000
theorem k_isTime (t : Int) : Con Tryz.prog 58 [int t] [] (bool (decide (0 ≤ t ∧ t ≤ 1099511627776))) [] := by
  refine spec_of_run ttok mixed (T0 := 5) (ts := [.tmp 2]) 9 rfl rfl rfl rfl (by simp) rfl ?_
  conv => whnf
  repeat' (first | ((first | (with_reducible first | apply Bif.T | apply Bif.F) | ((with_reducible apply Bif.dec) <;> intro h <;> (try simp only [lns] at h)) | (with_reducible apply Frz.l)) <;> conv => whnf) | fail)
  all_goals (apply Same.bool (by simp; omega); (conv => whnf); repeat' (first | with_reducible apply True.intro | ((with_reducible apply Frz.l) <;> conv => whnf) | fail))
theorem k_IsTime (t : Int) : Con Tryz.prog 51 [int t] [] (bool (decide (0 ≤ t ∧ t ≤ 1099511627776))) [] := by
  refine spec_of_run ttok mixed (T0 := 5) (ts := [.tmp 2]) 9 rfl rfl rfl rfl (by simp) rfl ?_
  conv => whnf
  repeat' (first | ((first | (with_reducible first | apply Bif.T | apply Bif.F) | ((with_reducible apply Bif.dec) <;> intro h <;> (try simp only [lns] at h)) | (with_reducible apply Frz.l)) <;> conv => whnf) | fail)
  all_goals (apply Same.bool (by simp; omega); (conv => whnf); repeat' (first | with_reducible apply True.intro | ((with_reducible apply Frz.l) <;> conv => whnf) | fail))
theorem k_After (a b : Int) (h : 0 ≤ a ∧ a ≤ 1099511627776) (g : 0 ≤ b ∧ b ≤ 1099511627776) : Con Tryz.prog 54 [int a, int b] [] (int (min (a + b) 1099511627776)) [] := by
  refine spec_of_run ttok mixed (T0 := 19) (ts := [.tmp 4]) 9 rfl rfl rfl rfl (by simp) rfl ?_
  conv => whnf
  repeat' (first | with_reducible apply True.intro | ((first | ((with_reducible apply Wr.i64); focus omega) | (apply Same.int; focus rfl) | (with_reducible apply Frz.l)) <;> conv => whnf) | fail)
def clmOK (c : Clm) : Bool := decide (c.eui ≠ 0 ∧ 0 ≤ c.seq ∧ c.seq ≤ 1073741824 ∧ 0 ≤ c.since ∧ c.since ≤ 1099511627776 ∧ 0 ≤ c.upto ∧ c.upto ≤ 1099511627776 ∧ c.since ≤ c.upto)
theorem k_validClaim (c : Clm) : Con Tryz.prog 75 [clmV c] [] (bool (clmOK c)) [] := by
  refine spec_of_run ttok mixed (T0 := 7) (ts := [.tmp 2]) 33 rfl rfl rfl rfl (by simp) rfl ?_
  conv => whnf
  repeat' (first | ((first | (apply CallN.mk (k_isTime _)) | (with_reducible first | apply Bif.T | apply Bif.F) | ((with_reducible first | apply Bif.dec | apply Bif.bne) <;> intro h <;> (try simp only [lns] at h)) | (with_reducible apply Frz.l)) <;> conv => whnf) | fail)
  all_goals (apply Same.bool (by rw [Bool.eq_iff_iff]; simp only [clmOK, decide_eq_true_eq, Bool.false_eq_true, false_iff, true_iff, Bool.and_eq_true, Bool.or_eq_true, Bool.not_eq_true', decide_eq_false_iff_not, ne_eq]; omega); (conv => whnf); repeat' (first | with_reducible apply True.intro | ((with_reducible apply Frz.l) <;> conv => whnf) | fail))
theorem k_ValidClaim (c : Clm) : Con Tryz.prog 50 [clmV c] [] (bool (clmOK c)) [] := by
  refine spec_of_run ttok mixed (T0 := 7) (ts := [.tmp 2]) 33 rfl rfl rfl rfl (by simp) rfl ?_
  conv => whnf
  repeat' (first | ((first | (apply CallN.mk (k_IsTime _)) | (with_reducible first | apply Bif.T | apply Bif.F) | ((with_reducible first | apply Bif.dec | apply Bif.bne) <;> intro h <;> (try simp only [lns] at h)) | (with_reducible apply Frz.l)) <;> conv => whnf) | fail)
  all_goals (apply Same.bool (by rw [Bool.eq_iff_iff]; simp only [clmOK, decide_eq_true_eq, Bool.false_eq_true, false_iff, true_iff, Bool.and_eq_true, Bool.or_eq_true, Bool.not_eq_true', decide_eq_false_iff_not, ne_eq]; omega); (conv => whnf); repeat' (first | with_reducible apply True.intro | ((with_reducible apply Frz.l) <;> conv => whnf) | fail))
/-- detection.Valid -/
def validR (r : List Clm) : Bool := decide (r.length ≤ 64 ∧ ∀ i, i < r.length → clmOK (gt r i) = true ∧ (0 < i → cmpIP (gt r (i - 1)).ip (gt r i).ip < 0))
theorem validR_ff {r : List Clm} {i : Nat} (hi : i < r.length) (h : ¬ (clmOK (gt r i) = true ∧ (0 < i → cmpIP (gt r (i - 1)).ip (gt r i).ip < 0))) : false = validR r := by
  symm
  rw [validR, decide_eq_false_iff_not]
  exact fun ⟨_, g⟩ => h (g i hi)
theorem k_Valid (r : List Clm) (t : Tg) (hl : r.length ≤ 1000000) : Con Tryz.prog 55 [.fs t 20 (lst clmV r)] [] (bool (validR r)) [] := by
  refine spec_of_run ttok mixed (T0 := 2147618717) (ts := [.tmp 2]) 33 rfl rfl rfl rfl (by simp) rfl ?_
  conv => whnf
  repeat' (first | ((first | ((with_reducible apply Nm.mk); focus ((try simp only [lns]); exact rfl)) | ((with_reducible apply Bif.dec) <;> intro h <;> (try simp only [lns] at h)) | (with_reducible apply Frz.l)) <;> conv => whnf) | fail)
  · apply Same.bool (by symm; rw [validR, decide_eq_false_iff_not]; omega)
    conv => whnf
    repeat' (first | with_reducible apply True.intro | ((with_reducible apply Frz.l) <;> conv => whnf) | fail)
  refine loop_keep ttok mixed (T0 := 2147618717) [0, 8, 9] (ι := {k : Nat // k ≤ r.length ∧ ∀ i, i < k → clmOK (gt r i) = true ∧ (0 < i → cmpIP (gt r (i - 1)).ip (gt r i).ip < 0)})
    (fun k => [(10, int (k.1 : Int))]) (fun _ => []) (fun k => r.length - k.1) ⟨0, by omega, none_lt⟩ ?_
  conv => whnf
  repeat' (first | ((first | (with_reducible apply Same.rfl) | (apply Same.int; focus rfl) | (with_reducible apply Frz.l)) <;> conv => whnf) | fail)
  rintro ⟨k, hk, he⟩
  dsimp only
  conv => whnf
  by_cases hkl : k < r.length
  · rcases Nat.eq_zero_or_pos k with h0 | h0
    · repeat' (first | ((first | ((with_reducible apply Nm.mk); focus ((try simp only [lns]); exact rfl)) | ((with_reducible apply Wr.i64); focus omega) | ((with_reducible apply Need.mk); focus first | (simp only [lns]; omega) | kernel_rfl) | ((with_reducible apply Elem.lst); focus omega) | (apply CallN.mk (k_validClaim _)) | (with_reducible apply Bif.F) | ((with_reducible apply Bif.dec) <;> intro h <;> (try simp only [lns] at h) <;> (try (exfalso; omega))) | (with_reducible apply Bif.not) | ((with_reducible apply Bif.mk) <;> intro h) | (with_reducible apply Frz.l)) <;> conv => whnf) | fail)
      · (refine ⟨⟨k + 1, by omega, step_lt he ⟨by assumption, fun hp => absurd hp (by omega)⟩⟩, ?_⟩; (try dsimp only); conv => whnf); repeat' (first | with_reducible apply True.intro | ((first | ((with_reducible apply Need.mk); focus omega) | (with_reducible apply Same.rfl) | (apply Same.int; focus rfl) | (with_reducible apply Turn.l) | (with_reducible apply Frz.l)) <;> conv => whnf) | fail)
      · apply Same.bool (validR_ff hkl fun g => by simp [g.1] at h)
        conv => whnf
        repeat' (first | with_reducible apply True.intro | ((with_reducible apply Frz.l) <;> conv => whnf) | fail)
    · have e1 : ((k : Int) - 1).toNat = k - 1 := by omega
      repeat' (first | ((first | ((with_reducible apply Nm.mk); focus ((try simp only [lns, e1, ipRows_take]); exact rfl)) | ((with_reducible apply Wr.i64); focus omega) | ((with_reducible apply Need.mk); focus first | omega | (simp only [lns, e1, ipRows_take]; omega) | exact CleanP.nil rfl | kernel_rfl) | ((with_reducible apply Elem.lst); focus omega) | (apply CallN.mk (k_validClaim _)) | (apply CallN.mk (k_bytesCompare _ _ _ _)) | (with_reducible apply Bif.T) | ((with_reducible apply Bif.dec) <;> intro h <;> (try simp only [lns, e1, ipRows_take] at h) <;> (try (exfalso; omega))) | (with_reducible apply Bif.not) | ((with_reducible apply Bif.mk) <;> intro h) | (with_reducible apply Frz.l)) <;> conv => whnf) | fail)
      · apply Same.bool (validR_ff hkl fun g => by have := g.2 h0; unfold cmpIP at this; omega)
        conv => whnf
        repeat' (first | with_reducible apply True.intro | ((with_reducible apply Frz.l) <;> conv => whnf) | fail)
      · (refine ⟨⟨k + 1, by omega, step_lt he ⟨by assumption, fun _ => by unfold cmpIP; omega⟩⟩, ?_⟩; (try dsimp only); conv => whnf); repeat' (first | with_reducible apply True.intro | ((first | ((with_reducible apply Need.mk); focus omega) | (with_reducible apply Same.rfl) | (apply Same.int; focus rfl) | (with_reducible apply Turn.l) | (with_reducible apply Frz.l)) <;> conv => whnf) | fail)
      · apply Same.bool (validR_ff hkl fun g => by simp [g.1] at h)
        conv => whnf
        repeat' (first | with_reducible apply True.intro | ((with_reducible apply Frz.l) <;> conv => whnf) | fail)
  · repeat' (first | ((first | ((with_reducible apply Bif.dec) <;> intro h <;> (try simp only [lns] at h) <;> (try (exfalso; omega))) | (with_reducible apply Frz.l)) <;> conv => whnf) | fail)
    apply Same.bool (by symm; rw [validR, decide_eq_true_eq, show r.length = k by omega]; exact ⟨by omega, he⟩)
    conv => whnf
    repeat' (first | with_reducible apply True.intro | ((with_reducible apply Frz.l) <;> conv => whnf) | fail)
theorem k_refValid (r : List Clm) (t : Tg) (hl : r.length ≤ 1000000) : Con Tryz.prog 72 [.fs t 20 (lst clmV r)] [] (bool (validR r)) [] := by
  refine spec_of_run ttok mixed (T0 := 68719478605) (ts := [.tmp 2]) 38 rfl rfl rfl rfl (by simp) rfl ?_
  conv => whnf
  repeat' (first | ((first | ((with_reducible apply Nm.mk); focus ((try simp only [lns]); exact rfl)) | ((with_reducible apply Bif.dec) <;> intro h <;> (try simp only [lns] at h)) | (with_reducible apply Frz.l)) <;> conv => whnf) | fail)
  · apply Same.bool (by symm; rw [validR, decide_eq_false_iff_not]; omega)
    conv => whnf
    repeat' (first | with_reducible apply True.intro | ((with_reducible apply Frz.l) <;> conv => whnf) | fail)
  refine loop_keep ttok mixed (T0 := 68719478605) [0, 8] (ι := {k : Nat // k ≤ r.length ∧ ∀ i, i < k → clmOK (gt r i) = true ∧ (0 < i → cmpIP (gt r (i - 1)).ip (gt r i).ip < 0)})
    (fun k => [(9, int (k.1 : Int))]) (fun _ => []) (fun k => r.length - k.1) ⟨0, by omega, none_lt⟩ ?_
  conv => whnf
  repeat' (first | ((first | (with_reducible apply Same.rfl) | (apply Same.int; focus rfl) | (with_reducible apply Frz.l)) <;> conv => whnf) | fail)
  rintro ⟨k, hk, he⟩
  dsimp only
  conv => whnf
  by_cases hkl : k < r.length
  · rcases Nat.eq_zero_or_pos k with h0 | h0
    · repeat' (first | ((first | ((with_reducible apply Nm.mk); focus ((try simp only [lns]); exact rfl)) | ((with_reducible apply Wr.i64); focus omega) | ((with_reducible apply Need.mk); focus first | (simp only [lns]; omega) | kernel_rfl) | ((with_reducible apply Elem.lst); focus omega) | (apply CallN.mk (k_ValidClaim _)) | (with_reducible first | apply Bif.T | apply Bif.F) | ((with_reducible apply Bif.dec) <;> intro h <;> (try simp only [lns] at h) <;> (try (exfalso; omega))) | (with_reducible apply Bif.not) | ((with_reducible apply Bif.mk) <;> intro h) | (with_reducible apply Frz.l)) <;> conv => whnf) | fail)
      · (refine ⟨⟨k + 1, by omega, step_lt he ⟨by assumption, fun hp => absurd hp (by omega)⟩⟩, ?_⟩; (try dsimp only); conv => whnf); repeat' (first | with_reducible apply True.intro | ((first | ((with_reducible apply Need.mk); focus omega) | (with_reducible apply Same.rfl) | (apply Same.int; focus rfl) | (with_reducible apply Turn.l) | (with_reducible apply Frz.l)) <;> conv => whnf) | fail)
      · apply Same.bool (validR_ff hkl fun g => by simp [g.1] at h)
        conv => whnf
        repeat' (first | with_reducible apply True.intro | ((with_reducible apply Frz.l) <;> conv => whnf) | fail)
    · have e1 : ((k : Int) - 1).toNat = k - 1 := by omega
      repeat' (first | ((first | ((with_reducible apply Nm.mk); focus ((try simp only [lns, e1]); exact rfl)) | ((with_reducible apply Wr.i64); focus omega) | ((with_reducible apply Need.mk); focus first | (simp only [lns, e1]; omega) | kernel_rfl) | ((with_reducible apply Elem.lst); focus omega) | (apply CallN.mk (k_ValidClaim _)) | (apply CallN.mk (k_CompareIP _ _)) | (with_reducible first | apply Bif.T | apply Bif.F) | ((with_reducible apply Bif.dec) <;> intro h <;> (try simp only [lns, e1] at h) <;> (try (exfalso; omega))) | (with_reducible apply Bif.not) | ((with_reducible apply Bif.mk) <;> intro h) | (with_reducible apply Frz.l)) <;> conv => whnf) | fail)
      · apply Same.bool (validR_ff hkl fun g => by have := g.2 h0; omega)
        conv => whnf
        repeat' (first | with_reducible apply True.intro | ((with_reducible apply Frz.l) <;> conv => whnf) | fail)
      · (refine ⟨⟨k + 1, by omega, step_lt he ⟨by assumption, fun _ => by omega⟩⟩, ?_⟩; (try dsimp only); conv => whnf); repeat' (first | with_reducible apply True.intro | ((first | ((with_reducible apply Need.mk); focus omega) | (with_reducible apply Same.rfl) | (apply Same.int; focus rfl) | (with_reducible apply Turn.l) | (with_reducible apply Frz.l)) <;> conv => whnf) | fail)
      · apply Same.bool (validR_ff hkl fun g => by simp [g.1] at h)
        conv => whnf
        repeat' (first | with_reducible apply True.intro | ((with_reducible apply Frz.l) <;> conv => whnf) | fail)
  · repeat' (first | ((first | ((with_reducible apply Bif.dec) <;> intro h <;> (try simp only [lns] at h) <;> (try (exfalso; omega))) | (with_reducible apply Frz.l)) <;> conv => whnf) | fail)
    apply Same.bool (by symm; rw [validR, decide_eq_true_eq, show r.length = k by omega]; exact ⟨by omega, he⟩)
    conv => whnf
    repeat' (first | with_reducible apply True.intro | ((with_reducible apply Frz.l) <;> conv => whnf) | fail)
theorem validR_len {r : List Clm} (h : validR r = true) : r.length ≤ 64 := by rw [validR, decide_eq_true_eq] at h; exact h.1
end Go.Fw

/- Registries: Better, current, Owner. -/
namespace Go.Fw
set_option maxRecDepth 4000
open Go.Proofs
set_option maxHeartbeats 4000000
/-- detection.Better -/
def betterC (a b : Clm) : Bool := decide (a.since < b.since ∨ (a.since = b.since ∧ (a.eui < b.eui ∨ (a.eui = b.eui ∧ (a.seq > b.seq ∨ (a.seq = b.seq ∧ a.upto > b.upto))))))
theorem k_Better (a b : Clm) : Con Tryz.prog 62 [clmV a, clmV b] [] (bool (betterC a b)) [] := by
  refine spec_of_run ttok mixed (T0 := 63) (ts := [.tmp 4]) 30 rfl rfl rfl rfl (by simp) rfl ?_
  conv => whnf
  repeat' (first | ((first | ((with_reducible apply Nm.mk); focus ((try simp only [lns, ipRows_take]); exact rfl)) | ((with_reducible apply Need.mk); focus first | (simp only [lns, ipRows_take]; omega) | exact CleanP.nil rfl | kernel_rfl) | (apply CallN.mk (k_cmp_int _ _)) | (apply CallN.mk (k_cmp_EUI _ _)) | (apply CallN.mk (k_Or [cmpI a.since b.since, cmpI a.eui b.eui, cmpI b.seq a.seq, cmpI b.upto a.upto] .no (by simp))) | (with_reducible apply GiveN.lend) | (with_reducible apply Frz.l)) <;> conv => whnf) | fail)
  apply Same.bool
  · rw [betterC]
    apply decide_eq_decide.2
    simp only [orL, cmpI]
    (repeat' split) <;> omega
  conv => whnf
  repeat' (first | with_reducible apply True.intro | ((with_reducible apply Frz.l) <;> conv => whnf) | fail)
/-- detection.current -/
def cur (r : List Clm) (now : Int) : List Clm := r.filter fun c => !decide (c.upto ≤ now)
theorem k_current1 (now : Int) (a : Clm) : Con Tryz.prog 87 [clmV a, .pb 0 []] [.cells (int now)] (bool (decide (a.upto ≤ now))) [.cells (int now)] := by
  refine spec_of_run ttok mixed (T0 := 15) (ts := [.tmp 3]) 8 rfl rfl rfl rfl (by simp) rfl ?_
  conv => whnf
  repeat' (first | with_reducible apply True.intro | ((first | (with_reducible apply Same.rfl) | (apply Same.bool; focus (with_reducible rfl)) | (with_reducible apply Frz.l)) <;> conv => whnf) | fail)
theorem k_current (r : List Clm) (t : Tg) (now : Int) (hl : r.length ≤ 1000000) : Con Tryz.prog 59 [.fs t 20 (lst clmV r), int now] [] (.ov 20 0 0 (cur r now).length) [.arr none 20 (lst clmV (cur r now))] := by
  refine spec_of_run ttok mixed (T0 := 27) (ts := [.tmp 4]) 9 rfl rfl rfl rfl (by simp) rfl ?_
  conv => whnf
  repeat' (first | with_reducible apply True.intro | ((with_reducible apply GiveN.mk [0]); (conv => whnf)) | ((first | (apply CallN.mk (k_Clone_Clm r t hl)) | (apply CallN.mk (k_DeleteFunc_Clm 87 now (fun c => decide (c.upto ≤ now)) (k_current1 now) r hl)) | (with_reducible apply Same.rfl) | (apply Same.rfl) | (with_reducible apply Cut.l) | (with_reducible apply Frz.l)) <;> conv => whnf) | fail)
theorem cur_snoc {r : List Clm} {now : Int} {k : Nat} (hk : k < r.length) : cur (r.take (k + 1)) now = cur (r.take k) now ++ if (gt r k).upto > now then [gt r k] else [] := by
  rw [cur, filter_snoc hk]
  congr 1
  by_cases h : (gt r k).upto > now
  · have : ¬ (gt r k).upto ≤ now := by omega
    simp [h, this]
  · have : (gt r k).upto ≤ now := by omega
    simp [h, this]
theorem cur_len (r : List Clm) (now : Int) : (cur r now).length ≤ r.length := List.length_filter_le _ _
theorem k_refCurrent (r : List Clm) (t : Tg) (now : Int) (hl : r.length ≤ 1000000) : Con Tryz.prog 52 [.fs t 20 (lst clmV r), int now] [] (.ov 20 0 0 (cur r now).length) [.arr none 20 (lst clmV (cur r now))] := by
  refine spec_of_run ttok mixed (T0 := 135091) (ts := [.tmp 4]) 24 rfl rfl rfl rfl (by simp) rfl ?_
  conv => whnf
  repeat' (first | ((first | ((with_reducible apply Nm.mk); focus ((try simp only [lns, ipRows_take]); exact rfl)) | (with_reducible apply Frz.l)) <;> conv => whnf) | fail)
  refine LoopN.adopt 5 20 rfl (by simp) ?_
  refine loop_keep ttok mixed (T0 := 135091) [1, 8, 9] (ι := {k : Nat // k ≤ r.length})
    (fun k => [(5, .ov 20 0 0 (cur (r.take k.1) now).length), (10, int (k.1 : Int))]) (fun k => [.arr none 20 (lst clmV (cur (r.take k.1) now))]) (fun k => r.length - k.1) ⟨0, by omega⟩ ?_
  conv => whnf
  repeat' (first | ((first | (with_reducible apply Same.rfl) | (apply Same.int; focus rfl) | (apply Same.ov; (focus rfl); focus rfl) | (apply Same.rfl) | (with_reducible apply Frz.l)) <;> conv => whnf) | fail)
  rintro ⟨k, hk⟩
  dsimp only
  have hc := cur_len (r.take k) now
  rw [List.length_take] at hc
  conv => whnf
  by_cases hkl : k < r.length
  · have hs := cur_snoc (now := now) hkl
    by_cases hu : (gt r k).upto > now
    · rw [if_pos hu] at hs
      repeat' (first | ((first | (with_reducible apply Nm.snoc _ (clm_mk _ _ _ _ _)) | ((with_reducible apply Nm.mk); focus ((try simp only [lns, ipRows_take]); exact rfl)) | ((with_reducible apply Wr.i64); focus omega) | ((with_reducible apply Need.mk); focus first | (simp only [lns, ipRows_take]; omega) | (unfold roomOK; simp only [lns, ipRows_take]; omega)) | ((with_reducible apply Elem.lst); focus omega) | ((with_reducible apply Bif.dec) <;> intro h <;> (try simp only [lns, ipRows_take] at h) <;> (try (exfalso; omega))) | (with_reducible apply Alt.l) | (with_reducible apply Frz.l)) <;> conv => whnf) | fail)
      (refine ⟨⟨k + 1, by omega⟩, ?_⟩; (try dsimp only); conv => whnf); repeat' (first | with_reducible apply True.intro | ((apply Same.ov rfl (by rw [hs]; simp)); (conv => whnf)) | ((apply Same.lst hs.symm); (conv => whnf)) | ((first | ((with_reducible apply Need.mk); focus omega) | (with_reducible apply Same.rfl) | (apply Same.int; focus rfl) | (with_reducible apply Turn.l) | (with_reducible apply Frz.l)) <;> conv => whnf) | fail)
    · rw [if_neg hu, List.append_nil] at hs
      repeat' (first | ((first | ((with_reducible apply Nm.mk); focus ((try simp only [lns, ipRows_take]); exact rfl)) | ((with_reducible apply Wr.i64); focus omega) | ((with_reducible apply Need.mk); focus (simp only [lns, ipRows_take]; omega)) | ((with_reducible apply Elem.lst); focus omega) | ((with_reducible apply Bif.dec) <;> intro h <;> (try simp only [lns, ipRows_take] at h) <;> (try (exfalso; omega))) | (with_reducible apply Frz.l)) <;> conv => whnf) | fail)
      (refine ⟨⟨k + 1, by omega⟩, ?_⟩; (try dsimp only); conv => whnf); repeat' (first | with_reducible apply True.intro | ((apply Same.ov rfl (by rw [hs])); (conv => whnf)) | ((apply Same.lst hs.symm); (conv => whnf)) | ((first | ((with_reducible apply Need.mk); focus omega) | (with_reducible apply Same.rfl) | (apply Same.int; focus rfl) | (with_reducible apply Turn.l) | (with_reducible apply Frz.l)) <;> conv => whnf) | fail)
  · have e : r.take k = r := List.take_of_length_le (by omega)
    rw [e]
    repeat' (first | with_reducible apply True.intro | ((first | ((with_reducible apply Bif.dec) <;> intro h <;> (try simp only [lns, ipRows_take] at h) <;> (try (exfalso; omega))) | (with_reducible apply Same.rfl) | (with_reducible apply Cut.l) | (with_reducible apply Frz.l)) <;> conv => whnf) | fail)
end Go.Fw

/- Registries: Owner; the reference's Insert. -/
namespace Go.Fw
set_option maxRecDepth 4000
open Go.Proofs
set_option maxHeartbeats 4000000
theorem find_at {α : Type} [Inhabited α] {p : α → Bool} {l : List α} {k : Nat} (hk : k < l.length) (hp : p (gt l k) = true) (h : ∀ j, j < k → p (gt l j) = false) : l.find? p = some (gt l k) := by
  rw [List.find?_eq_some_iff_getElem]
  refine ⟨hp, k, hk, (gt_eq hk).symm, fun j hj => ?_⟩
  have := h j hj
  rw [gt_eq (by omega)] at this
  simp [this]
theorem find_none {α : Type} [Inhabited α] {p : α → Bool} {l : List α} (h : ∀ j, j < l.length → p (gt l j) = false) : l.find? p = none := by
  rw [List.find?_eq_none]
  intro x hx
  obtain ⟨i, hi, rfl⟩ := List.getElem_of_mem hx
  rw [← gt_eq hi, h i hi]; simp
/-- detection.Owner -/
def ownP (now : Int) (ip : IP) (c : Clm) : Bool := decide (c.ip = ip ∧ c.upto > now)
def ownM (r : List Clm) (now : Int) (ip : IP) : Int × Bool := if validR r = true ∧ 0 ≤ now ∧ now ≤ 1099511627776 then (match r.find? (ownP now ip) with | some c => (c.eui, true) | none => (0, false)) else (0, false)
theorem ip_beq (a b : IP) : (a.1 == b.1) = decide (a = b) := by
  rw [Bool.eq_iff_iff]
  simp only [beq_iff_eq, decide_eq_true_eq]
  exact ⟨ip_ext, fun h => h ▸ rfl⟩
/-- the reference's Insert -/
def pos {α : Type} (p : α → Bool) (l : List α) : Nat := (l.takeWhile p).length
theorem pos_eq {α : Type} [Inhabited α] {p : α → Bool} : ∀ {l : List α} {i : Nat}, i ≤ l.length → (∀ k, k < i → p (gt l k) = true) → (i < l.length → p (gt l i) = false) → pos p l = i
  | [], i, h, _, _ => by simp at h; subst h; rfl
  | a :: l, 0, _, _, h2 => by
    have : p a = false := h2 (by simp)
    simp [pos, List.takeWhile_cons, this]
  | a :: l, i + 1, h, h1, h2 => by
    have h0 : p a = true := h1 0 (by omega)
    have ih := pos_eq (p := p) (l := l) (i := i) (by simpa using h) (fun k hk => by have := h1 (k + 1) (by omega); simpa [gt] using this) (fun hi => by have := h2 (by simpa using hi); simpa [gt] using this)
    simp only [pos] at ih ⊢
    simp [List.takeWhile_cons, h0, ih]
def insQ (c x : Clm) : Bool := !decide (cmpIP c.ip x.ip < 0)
def insM (r : List Clm) (c : Clm) : List Clm := r.take (pos (insQ c) r) ++ [c] ++ r.drop (pos (insQ c) r)
structure InsI (r : List Clm) (c : Clm) where
  k : Nat
  d : Bool
  p : Nat
  hk : k ≤ r.length
  ok : match d with | false => ∀ j, j < k → insQ c (gt r j) = true | true => p < k ∧ (∀ j, j < p → insQ c (gt r j) = true) ∧ insQ c (gt r p) = false
def insO (r : List Clm) (c : Clm) (k : Nat) (d : Bool) (p : Nat) : List Clm := match d with | false => r.take k | true => r.take p ++ [c] ++ (r.take k).drop p
theorem insO_ff {r : List Clm} {c : Clm} {k p : Nat} (hk : k < r.length) : insO r c k false p ++ [gt r k] = insO r c (k + 1) false p := (take_gt hk).symm
theorem insO_tt {r : List Clm} {c : Clm} {k p : Nat} (hk : k < r.length) (hp : p < k) : insO r c k true p ++ [gt r k] = insO r c (k + 1) true p := by
  simp only [insO]
  rw [take_gt hk, List.drop_append_of_le_length (by rw [List.length_take]; omega), List.append_assoc]
theorem insO_new {r : List Clm} {c : Clm} {k p : Nat} (hk : k < r.length) : insO r c k false p ++ [c] ++ [gt r k] = insO r c (k + 1) true k := by
  simp only [insO]
  rw [take_gt hk, List.drop_append_of_le_length (by rw [List.length_take]; omega), List.drop_of_length_le (by rw [List.length_take]; omega), List.nil_append]
theorem insO_end {r : List Clm} {c : Clm} {p : Nat} (hp : p < r.length) (h1 : ∀ j, j < p → insQ c (gt r j) = true) (h2 : insQ c (gt r p) = false) : insO r c r.length true p = insM r c := by
  rw [insM, pos_eq (by omega) h1 (fun _ => h2)]
  simp [insO]
theorem insO_last {r : List Clm} {c : Clm} {p : Nat} (h1 : ∀ j, j < r.length → insQ c (gt r j) = true) : insO r c r.length false p ++ [c] = insM r c := by
  rw [insM, pos_eq (Nat.le_refl _) h1 (fun h => absurd h (Nat.lt_irrefl _))]
  simp [insO]
theorem insO_len {r : List Clm} {c : Clm} {k p : Nat} {d : Bool} (hk : k ≤ r.length) : (insO r c k d p).length ≤ r.length + 1 := by
  cases d <;> simp [insO] <;> omega
theorem k_refInsert (r : List Clm) (t : Tg) (c : Clm) (hl : r.length ≤ 100000) : Con Tryz.prog 22 [.fs t 20 (lst clmV r), clmV c] [] (.ov 20 0 0 (insM r c).length) [.arr none 20 (lst clmV (insM r c))] := by
  refine spec_of_run ttok mixed (T0 := 34376523643) (ts := [.tmp 4]) 41 rfl rfl rfl rfl (by simp) rfl ?_
  conv => whnf
  repeat' (first | ((first | ((with_reducible apply Nm.mk); focus ((try simp only [lns, ipRows_take]); exact rfl)) | (with_reducible apply Frz.l)) <;> conv => whnf) | fail)
  refine LoopN.adopt 5 20 rfl (by simp) ?_
  refine loop_keep ttok mixed (T0 := 34376523643) [3, 9, 10] (ι := InsI r c)
    (fun x => [(5, .ov 20 1 0 (insO r c x.k x.d x.p).length), (6, bool x.d), (11, int (x.k : Int))]) (fun x => [.cells (clmV c), .arr none 20 (lst clmV (insO r c x.k x.d x.p))]) (fun x => r.length - x.k) ⟨0, false, 0, by omega, none_lt⟩ ?_
  conv => whnf
  repeat' (first | ((first | (with_reducible apply Same.rfl) | (apply Same.int; focus rfl) | (apply Same.bool; focus (with_reducible rfl)) | (apply Same.ov; (focus rfl); focus rfl) | (apply Same.rfl) | (with_reducible apply Frz.l)) <;> conv => whnf) | fail)
  rintro ⟨k, d, p, hk, ok⟩
  dsimp only
  have hlo := insO_len (r := r) (c := c) (p := p) (d := d) hk
  conv => whnf
  by_cases hkl : k < r.length
  · cases d
    · dsimp only at ok
      have f1 := insO_ff (c := c) (p := p) hkl
      have f2 := insO_new (c := c) (p := p) hkl
      have g1 : (insO r c k false p).length + 1 = (insO r c (k + 1) false p).length := by rw [← f1]; simp
      have g2 : (insO r c k false p).length + 1 + 1 = (insO r c (k + 1) true k).length := by rw [← f2]; simp
      repeat' (first | ((first | (with_reducible apply Nm.snoc _ (clm_mk _ _ _ _ _)) | ((with_reducible apply Nm.mk); focus ((try simp only [lns, ipRows_take]); exact rfl)) | ((with_reducible apply Wr.i64); focus omega) | ((with_reducible apply Need.mk); focus first | (simp only [lns, ipRows_take]; omega) | (unfold roomOK; simp only [lns, ipRows_take]; omega)) | ((with_reducible apply Elem.lst); focus omega) | (apply CallN.mk (k_CompareIP _ _)) | (with_reducible first | apply Bif.T | apply Bif.F) | ((with_reducible apply Bif.dec) <;> intro h <;> (try simp only [lns, ipRows_take] at h) <;> (try (exfalso; omega))) | (with_reducible apply Bif.not) | (with_reducible apply Alt.l) | (with_reducible apply Frz.l)) <;> conv => whnf) | fail)
      · (refine ⟨⟨k + 1, true, k, by omega, by omega, ok, by simp only [insQ]; simp; omega⟩, ?_⟩; (try dsimp only); conv => whnf); repeat' (first | with_reducible apply True.intro | ((apply Same.ov rfl g2); (conv => whnf)) | ((apply Same.lst f2); (conv => whnf)) | ((first | ((with_reducible apply Need.mk); focus omega) | (with_reducible apply Same.rfl) | (apply Same.int; focus rfl) | (apply Same.bool; focus (with_reducible rfl)) | (with_reducible apply Turn.l) | (with_reducible apply Frz.l)) <;> conv => whnf) | fail)
      · (refine ⟨⟨k + 1, false, p, by omega, step_lt ok (by simp only [insQ]; simp; omega)⟩, ?_⟩; (try dsimp only); conv => whnf); repeat' (first | with_reducible apply True.intro | ((apply Same.ov rfl g1); (conv => whnf)) | ((apply Same.lst f1); (conv => whnf)) | ((first | ((with_reducible apply Need.mk); focus omega) | (with_reducible apply Same.rfl) | (apply Same.int; focus rfl) | (with_reducible apply Turn.l) | (with_reducible apply Frz.l)) <;> conv => whnf) | fail)
    · dsimp only at ok
      have f1 := insO_tt (c := c) (p := p) hkl ok.1
      have g1 : (insO r c k true p).length + 1 = (insO r c (k + 1) true p).length := by rw [← f1]; simp
      repeat' (first | ((first | (with_reducible apply Nm.snoc _ (clm_mk _ _ _ _ _)) | ((with_reducible apply Nm.mk); focus ((try simp only [lns, ipRows_take]); exact rfl)) | ((with_reducible apply Wr.i64); focus omega) | ((with_reducible apply Need.mk); focus first | (simp only [lns, ipRows_take]; omega) | (unfold roomOK; simp only [lns, ipRows_take]; omega)) | ((with_reducible apply Elem.lst); focus omega) | (with_reducible first | apply Bif.T | apply Bif.F) | ((with_reducible apply Bif.dec) <;> intro h <;> (try simp only [lns, ipRows_take] at h) <;> (try (exfalso; omega))) | (with_reducible apply Bif.not) | (with_reducible apply Alt.l) | (with_reducible apply Frz.l)) <;> conv => whnf) | fail)
      (refine ⟨⟨k + 1, true, p, by omega, by omega, ok.2⟩, ?_⟩; (try dsimp only); conv => whnf); repeat' (first | with_reducible apply True.intro | ((apply Same.ov rfl g1); (conv => whnf)) | ((apply Same.lst f1); (conv => whnf)) | ((first | ((with_reducible apply Need.mk); focus omega) | (with_reducible apply Same.rfl) | (apply Same.int; focus rfl) | (with_reducible apply Turn.l) | (with_reducible apply Frz.l)) <;> conv => whnf) | fail)
  · have hke : k = r.length := by omega
    subst hke
    cases d
    · dsimp only at ok
      have f1 := insO_last (c := c) (p := p) ok
      have g1 : (insO r c r.length false p).length + 1 = (insM r c).length := by rw [← f1]; simp
      repeat' (first | with_reducible apply True.intro | ((apply Same.mk g1); (conv => whnf)) | ((apply Same.lst f1); (conv => whnf)) | ((first | (with_reducible apply Nm.snoc _ (clm_mk _ _ _ _ _)) | ((with_reducible apply Nm.mk); focus ((try simp only [lns, ipRows_take]); exact rfl)) | ((with_reducible apply Need.mk); focus first | (simp only [lns, ipRows_take]; omega) | (unfold roomOK; simp only [lns, ipRows_take]; omega)) | (with_reducible apply Bif.F) | ((with_reducible apply Bif.dec) <;> intro h <;> (try simp only [lns, ipRows_take] at h) <;> (try (exfalso; omega))) | (with_reducible apply Bif.not) | (with_reducible apply Same.rfl) | (with_reducible first | apply Alt.l | apply Cut.l) | (with_reducible apply Frz.l)) <;> conv => whnf) | fail)
    · dsimp only at ok
      have f1 := insO_end (c := c) ok.1 ok.2.1 ok.2.2
      rw [f1]
      repeat' (first | with_reducible apply True.intro | ((first | (with_reducible apply Bif.T) | ((with_reducible apply Bif.dec) <;> intro h <;> (try simp only [lns, ipRows_take] at h) <;> (try (exfalso; omega))) | (with_reducible apply Bif.not) | (with_reducible apply Same.rfl) | (with_reducible apply Cut.l) | (with_reducible apply Frz.l)) <;> conv => whnf) | fail)
end Go.Fw

/- Plain law of merging: what is best of each address, what has lost it. -/
namespace Go.Fw
set_option maxRecDepth 4000
theorem bet_iff {a b : Clm} : betterC a b = true ↔ a.since < b.since ∨ (a.since = b.since ∧ (a.eui < b.eui ∨ (a.eui = b.eui ∧ (a.seq > b.seq ∨ (a.seq = b.seq ∧ a.upto > b.upto))))) := by simp [betterC]
theorem bet_asym {a b : Clm} (h : betterC a b = true) : betterC b a = false := by
  cases hb : betterC b a
  · rfl
  · rw [bet_iff] at h hb; omega
theorem bet_irr (a : Clm) : betterC a a = false := by
  cases hb : betterC a a
  · rfl
  · have := bet_asym hb
    rw [this] at hb; cases hb
theorem bet_trans {a b d : Clm} (h : betterC a b = true) (g : betterC b d = true) : betterC a d = true := by
  rw [bet_iff] at *; omega
theorem bet_total {a b : Clm} (hi : a.ip = b.ip) (h : betterC a b = false) (g : betterC b a = false) : a = b := by
  have h1 : ¬ betterC a b = true := by rw [h]; simp
  have g1 : ¬ betterC b a = true := by rw [g]; simp
  rw [bet_iff] at h1 g1
  exact clm_ext hi (by omega) (by omega) (by omega) (by omega)
theorem bet_le {a b d : Clm} (h : betterC b a = false) (hi : a.ip = b.ip) (g : betterC b d = true) : betterC a d = true := by
  cases hab : betterC a b
  · rw [bet_total hi hab h]; exact g
  · exact bet_trans hab g
/-- By address, then as Better says. -/
def cmpC (x y : Clm) : Int := if x.ip ≠ y.ip then cmpIP x.ip y.ip else if betterC x y = true then -1 else if betterC y x = true then 1 else 0
theorem cmpC_lt {x y : Clm} : cmpC x y < 0 ↔ cmpIP x.ip y.ip < 0 ∨ (x.ip = y.ip ∧ betterC x y = true) := by
  unfold cmpC
  by_cases h : x.ip = y.ip
  · rw [if_neg (by simpa using h)]
    have h0 : cmpIP x.ip y.ip = 0 := by rw [h, cmpIP_refl]
    by_cases h1 : betterC x y = true
    · rw [if_pos h1]; simp [h, h1]
    · rw [if_neg h1]
      have h2 : betterC x y = false := by simpa using h1
      constructor
      · intro g; split at g <;> omega
      · rintro (g | ⟨_, g⟩)
        · omega
        · rw [h2] at g; cases g
  · rw [if_pos h]
    exact ⟨.inl, fun g => g.elim id fun g => absurd g.1 h⟩
theorem cmpC_zero {x y : Clm} : cmpC x y = 0 ↔ x = y := by
  unfold cmpC
  by_cases h : x.ip = y.ip
  · rw [if_neg (by simpa using h)]
    constructor
    · intro g
      by_cases h1 : betterC x y = true
      · rw [if_pos h1] at g; omega
      · rw [if_neg h1] at g
        by_cases h2 : betterC y x = true
        · rw [if_pos h2] at g; omega
        · exact bet_total h (by simpa using h1) (by simpa using h2)
    · intro g
      subst g
      have : betterC x x = false := by
        cases hb : betterC x x
        · rfl
        · exact absurd hb (by rw [bet_asym hb]; simp)
      rw [this]; simp
  · rw [if_pos h]
    exact ⟨fun g => absurd (cmpIP_zero g) h, fun g => absurd (by rw [g]) h⟩
theorem cmpC_anti (x y : Clm) : cmpC x y = - cmpC y x := by
  unfold cmpC
  by_cases h : x.ip = y.ip
  · have q1 : ¬ x.ip ≠ y.ip := fun g => g h
    have q2 : ¬ y.ip ≠ x.ip := fun g => g h.symm
    simp only [if_neg q1, if_neg q2]
    by_cases h1 : betterC x y = true
    · have h2 := bet_asym h1
      simp [h1, h2]
    · have h1' : betterC x y = false := by simpa using h1
      by_cases h2 : betterC y x = true
      · simp [h1', h2]
      · have h2' : betterC y x = false := by simpa using h2
        simp [h1', h2']
  · rw [if_pos h, if_pos (fun g => h g.symm)]; exact cmpIP_anti _ _
theorem cmpC_trans {x y z : Clm} (h : cmpC x y < 0) (g : cmpC y z < 0) : cmpC x z < 0 := by
  rw [cmpC_lt] at *
  rcases h with h | ⟨h1, h2⟩
  · rcases g with g | ⟨g1, _⟩
    · exact .inl (cmpIP_trans h g)
    · exact .inl (by rw [← g1]; exact h)
  · rcases g with g | ⟨g1, g2⟩
    · exact .inl (by rw [h1]; exact g)
    · exact .inr ⟨h1.trans g1, bet_trans h2 g2⟩
theorem cmpC_ok : CmpOK cmpC := ⟨cmpC_zero, cmpC_anti, cmpC_trans⟩
/-! ### Sorted lists with the same elements -/
theorem pw_unique {α : Type} {R : α → α → Prop} (ha : ∀ x y, R x y → ¬ R y x) : ∀ {l m : List α}, l.Pairwise R → m.Pairwise R → (∀ x, x ∈ l ↔ x ∈ m) → l = m
  | [], [], _, _, _ => rfl
  | [], y :: m, _, _, h => by have := (h y).2 (by simp); simp at this
  | x :: l, [], _, _, h => by have := (h x).1 (by simp); simp at this
  | x :: l, y :: m, hl, hm, h => by
    rw [List.pairwise_cons] at hl hm
    have hxy : x = y := by
      have h1 := (h x).1 (by simp)
      have h2 := (h y).2 (by simp)
      rcases List.mem_cons.1 h1 with h1 | h1
      · exact h1
      · rcases List.mem_cons.1 h2 with h2 | h2
        · exact h2.symm
        · exact absurd (hl.1 y h2) (ha _ _ (hm.1 x h1))
    subst hxy
    congr 1
    refine pw_unique ha hl.2 hm.2 fun z => ?_
    have hz := h z
    simp only [List.mem_cons] at hz
    constructor
    · intro g
      rcases hz.1 (.inr g) with e | e
      · subst e; exact absurd (hl.1 z g) (ha _ _ (hl.1 z g))
      · exact e
    · intro g
      rcases hz.2 (.inr g) with e | e
      · subst e; exact absurd (hm.1 z g) (ha _ _ (hm.1 z g))
      · exact e
def byIP (x y : Clm) : Prop := cmpIP x.ip y.ip < 0
def byC (x y : Clm) : Prop := cmpC x y < 0
theorem byIP_asym (x y : Clm) (h : byIP x y) : ¬ byIP y x := fun g => by
  unfold byIP at h g
  have := cmpIP_anti x.ip y.ip
  omega
theorem byC_asym (x y : Clm) (h : byC x y) : ¬ byC y x := fun g => by
  unfold byC at h g
  have := cmpC_anti x y
  omega
/-- The best claim of its address. -/
def bestIn (cs : List Clm) (x : Clm) : Prop := x ∈ cs ∧ ∀ y ∈ cs, y.ip = x.ip → betterC y x = false
def lostIn (cs : List Clm) (x : Clm) : Prop := x ∈ cs ∧ ∃ r, bestIn cs r ∧ r.ip = x.ip ∧ r.eui ≠ x.eui
theorem best_one {cs : List Clm} {x y : Clm} (h : bestIn cs x) (g : bestIn cs y) (hi : x.ip = y.ip) : x = y := bet_total hi (g.2 x h.1 hi) (h.2 y g.1 hi.symm)
theorem best_congr {cs ds : List Clm} (h : ∀ x, x ∈ cs ↔ x ∈ ds) (x : Clm) : bestIn cs x ↔ bestIn ds x :=
  ⟨fun ⟨a, b⟩ => ⟨(h x).1 a, fun y hy => b y ((h y).2 hy)⟩, fun ⟨a, b⟩ => ⟨(h x).2 a, fun y hy => b y ((h y).1 hy)⟩⟩
theorem lost_congr {cs ds : List Clm} (h : ∀ x, x ∈ cs ↔ x ∈ ds) (x : Clm) : lostIn cs x ↔ lostIn ds x :=
  ⟨fun ⟨a, r, b, d⟩ => ⟨(h x).1 a, r, (best_congr h r).1 b, d⟩, fun ⟨a, r, b, d⟩ => ⟨(h x).2 a, r, (best_congr h r).2 b, d⟩⟩
/-- What a merge of these claims returns. -/
structure MrgOK (cs R L : List Clm) : Prop where
  rs : R.Pairwise byIP
  rm : ∀ x, x ∈ R ↔ bestIn cs x
  ls : L.Pairwise byC
  lm : ∀ x, x ∈ L ↔ lostIn cs x
theorem MrgOK.unique {cs R L R' L' : List Clm} (h : MrgOK cs R L) (g : MrgOK cs R' L') : R = R' ∧ L = L' :=
  ⟨pw_unique byIP_asym h.rs g.rs fun x => (h.rm x).trans (g.rm x).symm, pw_unique byC_asym h.ls g.ls fun x => (h.lm x).trans (g.lm x).symm⟩
theorem MrgOK.congr {cs ds R L : List Clm} (h : MrgOK cs R L) (e : ∀ x, x ∈ cs ↔ x ∈ ds) : MrgOK ds R L :=
  ⟨h.rs, fun x => (h.rm x).trans (best_congr e x), h.ls, fun x => (h.lm x).trans (lost_congr e x)⟩
theorem MrgOK.nil : MrgOK [] [] [] := ⟨.nil, fun x => ⟨fun h => by simp at h, fun h => absurd h.1 (by simp)⟩, .nil, fun x => ⟨fun h => by simp at h, fun h => absurd h.1 (by simp)⟩⟩
/-- Every address has a best claim. -/
theorem best_ex : ∀ {cs : List Clm} {y : Clm}, y ∈ cs → ∃ r, bestIn cs r ∧ r.ip = y.ip
  | [], y, h => by simp at h
  | c :: cs, y, h => by
    by_cases hc : ∃ z ∈ cs, z.ip = y.ip
    · obtain ⟨z, z1, z2⟩ := hc
      obtain ⟨r, r1, r2⟩ := best_ex z1
      by_cases e : c.ip = y.ip ∧ betterC c r = true
      · refine ⟨c, ⟨by simp, fun w hw hwi => ?_⟩, e.1⟩
        rcases List.mem_cons.1 hw with rfl | hw
        · exact bet_irr w
        · have h1 := r1.2 w hw (by rw [hwi, e.1, ← z2, r2])
          cases hb : betterC w c
          · rfl
          · rw [bet_trans hb e.2] at h1; cases h1
      · refine ⟨r, ⟨by simp [r1.1], fun w hw hwi => ?_⟩, by rw [r2, z2]⟩
        rcases List.mem_cons.1 hw with rfl | hw
        · cases hb : betterC w r
          · rfl
          · exact absurd ⟨by rw [hwi, r2, z2], hb⟩ e
        · exact r1.2 w hw hwi
    · have hy : y = c := by
        rcases List.mem_cons.1 h with h | h
        · exact h
        · exact absurd ⟨y, h, rfl⟩ hc
      subst hy
      refine ⟨y, ⟨by simp, fun w hw hwi => ?_⟩, rfl⟩
      rcases List.mem_cons.1 hw with rfl | hw
      · exact bet_irr w
      · exact absurd ⟨w, hw, hwi⟩ hc
theorem MrgOK.has {cs R L : List Clm} (h : MrgOK cs R L) {y : Clm} (hy : y ∈ cs) : ∃ r ∈ R, r.ip = y.ip := by
  obtain ⟨r, r1, r2⟩ := best_ex hy
  exact ⟨r, (h.rm r).2 r1, r2⟩
/-! ### One pass over what is sorted -/
/-- A claim of a further address, behind all others. -/
theorem MrgOK.fresh {cs R L : List Clm} {c : Clm} (h : MrgOK cs R L) (hc : ∀ y ∈ cs, cmpIP y.ip c.ip < 0) : MrgOK (cs ++ [c]) (R ++ [c]) L := by
  have hne : ∀ y ∈ cs, y.ip ≠ c.ip := fun y hy he => by have := hc y hy; rw [he, cmpIP_refl] at this; omega
  have hb : ∀ x, bestIn (cs ++ [c]) x ↔ bestIn cs x ∨ x = c := fun x => by
    constructor
    · rintro ⟨h1, h2⟩
      rcases List.mem_append.1 h1 with h1 | h1
      · exact .inl ⟨h1, fun y hy => h2 y (List.mem_append_left _ hy)⟩
      · exact .inr (List.mem_singleton.1 h1)
    · rintro (⟨h1, h2⟩ | rfl)
      · refine ⟨List.mem_append_left _ h1, fun y hy hyi => ?_⟩
        rcases List.mem_append.1 hy with hy | hy
        · exact h2 y hy hyi
        · rw [List.mem_singleton.1 hy] at hyi; exact absurd hyi.symm (hne x h1)
      · refine ⟨by simp, fun y hy hyi => ?_⟩
        rcases List.mem_append.1 hy with hy | hy
        · exact absurd hyi (hne y hy)
        · rw [List.mem_singleton.1 hy]
          exact bet_irr x
  refine ⟨List.pairwise_append.2 ⟨h.rs, by simp, fun a ha b hb => ?_⟩, fun x => ?_, h.ls, fun x => ?_⟩
  · rw [List.mem_singleton.1 hb]; exact hc a ((h.rm a).1 ha).1
  · rw [hb, List.mem_append, List.mem_singleton, h.rm]
  · rw [h.lm]
    constructor
    · rintro ⟨h1, r, r1, r2⟩
      exact ⟨List.mem_append_left _ h1, r, (hb r).2 (.inl r1), r2⟩
    · rintro ⟨h1, r, r1, r2, r3⟩
      rcases List.mem_append.1 h1 with k1 | k1
      · rcases (hb r).1 r1 with r1 | e
        · exact ⟨k1, r, r1, r2, r3⟩
        · rw [e] at r2; exact absurd r2.symm (hne x k1)
      · have k2 := List.mem_singleton.1 k1
        rcases (hb r).1 r1 with r1 | e
        · rw [k2] at r2; exact absurd r2 (hne r r1.1)
        · rw [e, k2] at r3; exact absurd rfl r3
/-- A claim of an address that has a better one, or the same. -/
theorem best_more {cs : List Clm} {c r : Clm} (hr : bestIn cs r) (hi : r.ip = c.ip) (hb : betterC c r = false) (x : Clm) : bestIn (cs ++ [c]) x ↔ bestIn cs x := by
  constructor
  · rintro ⟨h1, h2⟩
    have h3 : x ∈ cs := by
      rcases List.mem_append.1 h1 with h1 | h1
      · exact h1
      · have := List.mem_singleton.1 h1
        subst this
        have := h2 r (List.mem_append_left _ hr.1) hi
        rw [← bet_total hi this hb]; exact hr.1
    exact ⟨h3, fun y hy => h2 y (List.mem_append_left _ hy)⟩
  · rintro ⟨h1, h2⟩
    refine ⟨List.mem_append_left _ h1, fun y hy hyi => ?_⟩
    rcases List.mem_append.1 hy with hy | hy
    · exact h2 y hy hyi
    · have := List.mem_singleton.1 hy
      subst this
      rw [← best_one hr ⟨h1, h2⟩ (hi.trans hyi)]; exact hb
theorem lost_more {cs : List Clm} {c r : Clm} (hr : bestIn cs r) (hi : r.ip = c.ip) (hb : betterC c r = false) (x : Clm) : lostIn (cs ++ [c]) x ↔ lostIn cs x ∨ (x = c ∧ r.eui ≠ c.eui) := by
  constructor
  · rintro ⟨h1, s, s1, s2, s3⟩
    have s1 := (best_more hr hi hb s).1 s1
    rcases List.mem_append.1 h1 with k1 | k1
    · exact .inl ⟨k1, s, s1, s2, s3⟩
    · have k2 := List.mem_singleton.1 k1
      rw [k2] at s2 s3
      have k3 := best_one hr s1 (hi.trans s2.symm)
      exact .inr ⟨k2, by rw [k3]; exact s3⟩
  · rintro (⟨h1, s, s1, s2⟩ | ⟨rfl, h⟩)
    · exact ⟨List.mem_append_left _ h1, s, (best_more hr hi hb s).2 s1, s2⟩
    · exact ⟨by simp, r, (best_more hr hi hb r).2 hr, hi, h⟩
theorem MrgOK.keep {cs R L : List Clm} {c r : Clm} (h : MrgOK cs R L) (hr : r ∈ R) (hi : r.ip = c.ip) (hb : betterC c r = false) (he : r.eui = c.eui ∨ c ∈ L) : MrgOK (cs ++ [c]) R L := by
  have hr := (h.rm r).1 hr
  refine ⟨h.rs, fun x => by rw [best_more hr hi hb, h.rm], h.ls, fun x => ?_⟩
  rw [lost_more hr hi hb, h.lm]
  constructor
  · exact .inl
  · rintro (g | ⟨rfl, g⟩)
    · exact g
    · rcases he with he | he
      · exact absurd he g
      · exact (h.lm x).1 he
theorem MrgOK.lose {cs R L : List Clm} {c r : Clm} (h : MrgOK cs R L) (hr : r ∈ R) (hi : r.ip = c.ip) (hb : betterC c r = false) (he : r.eui ≠ c.eui) (hl : ∀ x ∈ L, cmpC x c < 0) : MrgOK (cs ++ [c]) R (L ++ [c]) := by
  have hr := (h.rm r).1 hr
  refine ⟨h.rs, fun x => by rw [best_more hr hi hb, h.rm], List.pairwise_append.2 ⟨h.ls, by simp, fun a ha b hb => by rw [List.mem_singleton.1 hb]; exact hl a ha⟩, fun x => ?_⟩
  rw [lost_more hr hi hb, List.mem_append, List.mem_singleton, h.lm]
  constructor
  · rintro (g | g)
    · exact .inl g
    · exact .inr ⟨g, he⟩
  · rintro (g | ⟨g, _⟩)
    · exact .inl g
    · exact .inr g
/-! ### Merges of merges -/
theorem best_best {cs ds R : List Clm} (h : ∀ x, x ∈ R ↔ bestIn cs x) (x : Clm) : bestIn (R ++ ds) x ↔ bestIn (cs ++ ds) x := by
  constructor
  · rintro ⟨h1, h2⟩
    refine ⟨?_, fun y hy hyi => ?_⟩
    · rcases List.mem_append.1 h1 with h1 | h1
      · exact List.mem_append_left _ ((h x).1 h1).1
      · exact List.mem_append_right _ h1
    · rcases List.mem_append.1 hy with hy | hy
      · obtain ⟨r, r1, r2⟩ := best_ex hy
        have h3 := h2 r (List.mem_append_left _ ((h r).2 r1)) (r2.trans hyi)
        cases hb : betterC y x
        · rfl
        · rw [bet_le (r1.2 y hy r2.symm) r2 hb] at h3; cases h3
      · exact h2 y (List.mem_append_right _ hy) hyi
  · rintro ⟨h1, h2⟩
    refine ⟨?_, fun y hy hyi => ?_⟩
    · rcases List.mem_append.1 h1 with h1 | h1
      · exact List.mem_append_left _ ((h x).2 ⟨h1, fun y hy => h2 y (List.mem_append_left _ hy)⟩)
      · exact List.mem_append_right _ h1
    · rcases List.mem_append.1 hy with hy | hy
      · exact h2 y (List.mem_append_left _ ((h y).1 hy).1) hyi
      · exact h2 y (List.mem_append_right _ hy) hyi
/-! ### One round of a pass -/
theorem MrgOK.sub {cs R L : List Clm} (h : MrgOK cs R L) : (∀ x ∈ R, x ∈ cs) ∧ ∀ x ∈ L, x ∈ cs := ⟨fun x hx => ((h.rm x).1 hx).1, fun x hx => ((h.lm x).1 hx).1⟩
theorem pw_last {α : Type} [Inhabited α] {R : α → α → Prop} {l : List α} (h : l.Pairwise R) {x : α} (hx : x ∈ l) : x = gt l (l.length - 1) ∨ R x (gt l (l.length - 1)) := by
  obtain ⟨i, hi, rfl⟩ := mem_gt hx
  by_cases e : i = l.length - 1
  · left; rw [← e]
  · right
    rw [List.pairwise_iff_getElem] at h
    rw [gt_eq hi, gt_eq (by omega)]
    exact h i (l.length - 1) hi (by omega) (by omega)
theorem srt_before {w : List Clm} {k : Nat} (hk : k < w.length) (hs : Srt cmpC w 0 w.length) {y : Clm} (hy : y ∈ w.take k) : cmpC y (gt w k) ≤ 0 := by
  obtain ⟨i, hi, rfl⟩ := mem_gt hy
  rw [List.length_take] at hi
  have e : gt (w.take k) i = gt w i := by rw [gt_eq (by rw [List.length_take]; omega), gt_eq (by omega), List.getElem_take]
  rw [e]
  exact hs i k (Nat.zero_le _) (by omega) hk
theorem cmpC_ip {x y : Clm} (h : cmpC x y ≤ 0) : cmpIP x.ip y.ip < 0 ∨ x.ip = y.ip := by
  by_cases e : x.ip = y.ip
  · exact .inr e
  · left
    have h1 : cmpC x y ≠ 0 := fun h2 => e (by rw [cmpC_zero.1 h2])
    rcases cmpC_lt.1 (show cmpC x y < 0 by omega) with h2 | h2
    · exact h2
    · exact absurd h2.1 e
theorem cmpC_bet {x y : Clm} (h : cmpC x y ≤ 0) (e : x.ip = y.ip) : betterC y x = false := by
  cases hb : betterC y x
  · rfl
  · have h1 : cmpC y x < 0 := cmpC_lt.2 (.inr ⟨e.symm, hb⟩)
    have := cmpC_anti x y
    omega
theorem MrgOK.new {w R L : List Clm} {k : Nat} (hk : k < w.length) (hs : Srt cmpC w 0 w.length) (h : MrgOK (w.take k) R L) (hn : R = [] ∨ (gt R (R.length - 1)).ip ≠ (gt w k).ip) : MrgOK (w.take (k + 1)) (R ++ [gt w k]) L := by
  rw [take_gt hk]
  refine h.fresh fun y hy => ?_
  have h1 := srt_before hk hs hy
  rcases cmpC_ip h1 with h2 | h2
  · exact h2
  · exfalso
    obtain ⟨r, r1, r2⟩ := h.has hy
    rcases hn with hn | hn
    · rw [hn] at r1; simp at r1
    · have hR : R.length ≠ 0 := fun e => by rw [List.length_eq_zero_iff] at e; rw [e] at r1; simp at r1
      have hlast : gt R (R.length - 1) ∈ R := gt_mem (by omega)
      have h3 := cmpC_ip (srt_before hk hs (h.sub.1 _ hlast))
      rcases h3 with h3 | h3
      · rcases pw_last h.rs r1 with e | e
        · exact hn (by rw [← e, r2, h2])
        · unfold byIP at e
          rw [r2, h2] at e
          have := cmpIP_anti (gt w k).ip (gt R (R.length - 1)).ip
          omega
      · exact hn h3
theorem MrgOK.more {w R L : List Clm} {k : Nat} (hk : k < w.length) (hs : Srt cmpC w 0 w.length) (h : MrgOK (w.take k) R L) (hR : 0 < R.length) (hi : (gt R (R.length - 1)).ip = (gt w k).ip) (he : (gt R (R.length - 1)).eui ≠ (gt w k).eui) (hl : L = [] ∨ gt L (L.length - 1) ≠ gt w k) : MrgOK (w.take (k + 1)) R (L ++ [gt w k]) := by
  rw [take_gt hk]
  have hlast : gt R (R.length - 1) ∈ R := gt_mem (by omega)
  refine h.lose hlast hi (cmpC_bet (srt_before hk hs (h.sub.1 _ hlast)) hi) he fun x hx => ?_
  have h1 := srt_before hk hs (h.sub.2 _ hx)
  by_cases h2 : cmpC x (gt w k) = 0
  · exfalso
    have h3 := cmpC_zero.1 h2
    rcases hl with hl | hl
    · rw [hl] at hx; simp at hx
    · have hL : 0 < L.length := List.length_pos_of_mem hx
      have h4 := srt_before hk hs (h.sub.2 _ (gt_mem (l := L) (i := L.length - 1) (by omega)))
      rcases pw_last h.ls hx with e | e
      · exact hl (by rw [← e, h3])
      · unfold byC at e
        rw [h3] at e
        have := cmpC_anti (gt w k) (gt L (L.length - 1))
        omega
  · omega
theorem MrgOK.same {w R L : List Clm} {k : Nat} (hk : k < w.length) (hs : Srt cmpC w 0 w.length) (h : MrgOK (w.take k) R L) (hR : 0 < R.length) (hi : (gt R (R.length - 1)).ip = (gt w k).ip) (he : (gt R (R.length - 1)).eui = (gt w k).eui ∨ 0 < L.length ∧ gt L (L.length - 1) = gt w k) : MrgOK (w.take (k + 1)) R L := by
  rw [take_gt hk]
  have hlast : gt R (R.length - 1) ∈ R := gt_mem (by omega)
  refine h.keep hlast hi (cmpC_bet (srt_before hk hs (h.sub.1 _ hlast)) hi) (he.imp id fun ⟨h1, h2⟩ => ?_)
  rw [← h2]
  exact gt_mem (by omega)
/-! ### The merge of a list of claims -/
open Classical in
noncomputable def mrgP (cs : List Clm) : List Clm × List Clm := if h : ∃ p : List Clm × List Clm, MrgOK cs p.1 p.2 then h.choose else ([], [])
theorem mrgP_eq {cs R L : List Clm} (h : MrgOK cs R L) : mrgP cs = (R, L) := by
  have hx : ∃ p : List Clm × List Clm, MrgOK cs p.1 p.2 := ⟨(R, L), h⟩
  unfold mrgP
  rw [dif_pos hx]
  have := MrgOK.unique hx.choose_spec h
  exact Prod.ext this.1 this.2
/-- Merge: the registry, the lost claims, the error. -/
noncomputable def mrgE (p : List Clm × List Clm) : List Clm × List Clm × Int := if p.1.length > 64 then ([], [], 10) else (p.1, p.2, 0)
/-! ### The reference's pass -/
/-- Of the claims seen so far the best and the lost ones of all. -/
structure PasOK (s out lost : List Clm) (k : Nat) : Prop where
  rs : out.Pairwise byIP
  rm : ∀ x, x ∈ out ↔ bestIn s x ∧ ∃ y ∈ s.take k, y.ip = x.ip
  ls : lost.Pairwise byC
  lm : ∀ x, x ∈ lost ↔ lostIn s x ∧ x ∈ s.take k
theorem PasOK.start (s : List Clm) : PasOK s [] [] 0 := ⟨.nil, fun x => by simp, .nil, fun x => by simp⟩
theorem PasOK.done {s out lost : List Clm} (h : PasOK s out lost s.length) : MrgOK s out lost := by
  refine ⟨h.rs, fun x => ?_, h.ls, fun x => ?_⟩
  · rw [h.rm, List.take_length]
    exact ⟨fun g => g.1, fun g => ⟨g, x, g.1, rfl⟩⟩
  · rw [h.lm, List.take_length]
    exact ⟨fun g => g.1, fun g => ⟨g, g.1⟩⟩
theorem PasOK.known {s out lost : List Clm} {k : Nat} (h : PasOK s out lost k) (hk : k < s.length) : (∃ x ∈ out, x.ip = (gt s k).ip) → ∀ x, (∃ y ∈ s.take (k + 1), y.ip = x.ip) ∧ bestIn s x ↔ (∃ y ∈ s.take k, y.ip = x.ip) ∧ bestIn s x := by
  rintro ⟨z, z1, z2⟩ x
  obtain ⟨_, y, y1, y2⟩ := (h.rm z).1 z1
  rw [take_gt hk]
  constructor
  · rintro ⟨⟨v, v1, v2⟩, hb⟩
    rcases List.mem_append.1 v1 with v1 | v1
    · exact ⟨⟨v, v1, v2⟩, hb⟩
    · rw [List.mem_singleton.1 v1] at v2
      exact ⟨⟨y, y1, by rw [y2, z2, v2]⟩, hb⟩
  · rintro ⟨⟨v, v1, v2⟩, hb⟩
    exact ⟨⟨v, List.mem_append_left _ v1, v2⟩, hb⟩
/-- The list of the best, after a claim with its best one. -/
def outM (out : List Clm) (c best : Clm) : List Clm := if out.any (fun x => decide (x.ip = c.ip)) = true then out else insM out best
def lostM (lost : List Clm) (c best : Clm) : List Clm := if c.eui = best.eui then lost else (lost.filter fun x => !decide (x = c) && decide (cmpC x c < 0)) ++ [c] ++ lost.filter fun x => !decide (x = c) && !decide (cmpC x c < 0)
theorem insM_mem (r : List Clm) (c x : Clm) : x ∈ insM r c ↔ x ∈ r ∨ x = c := by
  unfold insM
  conv => rhs; rw [← List.take_append_drop (pos (insQ c) r) r]
  simp only [List.mem_append, List.mem_singleton]
  constructor
  · rintro ((h | h) | h)
    · exact .inl (.inl h)
    · exact .inr h
    · exact .inl (.inr h)
  · rintro ((h | h) | h)
    · exact .inl (.inl h)
    · exact .inr h
    · exact .inl (.inr h)
theorem insM_pw {r : List Clm} {c : Clm} (h : r.Pairwise byIP) (hn : ∀ x ∈ r, x.ip ≠ c.ip) : (insM r c).Pairwise byIP := by
  have hlt : ∀ x ∈ r.take (pos (insQ c) r), byIP x c := fun x hx => by
    have h1 : insQ c x = true := by
      unfold pos at hx
      have e : r.take (r.takeWhile (insQ c)).length = r.takeWhile (insQ c) := by
        conv => lhs; arg 2; rw [← List.takeWhile_append_dropWhile (p := insQ c) (l := r)]
        rw [List.take_left]
      rw [e] at hx
      exact List.all_eq_true.1 (List.all_takeWhile) x hx
    have h2 : ¬ cmpIP c.ip x.ip < 0 := by simpa [insQ] using h1
    have h3 : cmpIP x.ip c.ip ≠ 0 := fun h4 => hn x (List.mem_of_mem_take hx) (cmpIP_zero h4)
    have h4 := cmpIP_anti x.ip c.ip
    unfold byIP
    omega
  have hgt : ∀ x ∈ r.drop (pos (insQ c) r), byIP c x := by
    have e : r.drop (r.takeWhile (insQ c)).length = r.dropWhile (insQ c) := by
      conv => lhs; arg 2; rw [← List.takeWhile_append_dropWhile (p := insQ c) (l := r)]
      rw [List.drop_left]
    unfold pos
    rw [e]
    have hp : (r.dropWhile (insQ c)).Pairwise byIP := h.sublist (List.dropWhile_sublist _)
    intro x hx
    cases hd : r.dropWhile (insQ c) with
    | nil => rw [hd] at hx; simp at hx
    | cons y l =>
      have hy : insQ c y = false := by
        have h5 := List.head?_dropWhile_not (insQ c) r
        rw [hd] at h5
        simpa using h5
      have h6 : byIP c y := by unfold byIP; simpa [insQ] using hy
      rw [hd] at hx hp
      rcases List.mem_cons.1 hx with rfl | hx
      · exact h6
      · exact cmpIP_trans h6 ((List.pairwise_cons.1 hp).1 x hx)
  unfold insM
  refine List.pairwise_append.2 ⟨List.pairwise_append.2 ⟨h.sublist (List.take_sublist _ _), by simp, fun a ha b hb => by rw [List.mem_singleton.1 hb]; exact hlt a ha⟩, h.sublist (List.drop_sublist _ _), fun a ha b hb => ?_⟩
  rcases List.mem_append.1 ha with ha | ha
  · exact cmpIP_trans (hlt a ha) (hgt b hb)
  · rw [List.mem_singleton.1 ha]; exact hgt b hb
theorem PasOK.step {s out lost : List Clm} {k : Nat} {best : Clm} (h : PasOK s out lost k) (hk : k < s.length) (hb : bestIn s best) (hi : best.ip = (gt s k).ip) : PasOK s (outM out (gt s k) best) (lostM lost (gt s k) best) (k + 1) := by
  refine ⟨?_, fun x => ?_, ?_, fun x => ?_⟩
  · unfold outM
    split
    · exact h.rs
    · next hn =>
      refine insM_pw h.rs fun x hx e => hn ?_
      rw [List.any_eq_true]
      exact ⟨x, hx, by rw [e, hi]; simp⟩
  · unfold outM
    split
    · next hn =>
      rw [List.any_eq_true] at hn
      obtain ⟨z, z1, z2⟩ := hn
      have := h.known hk ⟨z, z1, by simpa using z2⟩ x
      rw [h.rm]
      constructor
      · exact fun ⟨g1, g2⟩ => ⟨g1, (this.2 ⟨g2, g1⟩).1⟩
      · exact fun ⟨g1, g2⟩ => ⟨g1, (this.1 ⟨g2, g1⟩).1⟩
    · rw [insM_mem, h.rm, take_gt hk]
      constructor
      · rintro (⟨g1, y, y1, y2⟩ | e)
        · exact ⟨g1, y, List.mem_append_left _ y1, y2⟩
        · rw [e]; exact ⟨hb, gt s k, by simp, hi.symm⟩
      · rintro ⟨g1, y, y1, y2⟩
        rcases List.mem_append.1 y1 with y1 | y1
        · exact .inl ⟨g1, y, y1, y2⟩
        · rw [List.mem_singleton.1 y1] at y2
          exact .inr (best_one g1 hb (by rw [hi, y2]))
  · unfold lostM
    split
    · exact h.ls
    · refine List.pairwise_append.2 ⟨List.pairwise_append.2 ⟨h.ls.filter _, by simp, fun a ha b hb => ?_⟩, h.ls.filter _, fun a ha b hb => ?_⟩
      · rw [List.mem_singleton.1 hb]
        have := (List.mem_filter.1 ha).2
        simp only [Bool.and_eq_true, decide_eq_true_eq] at this
        exact this.2
      · have g2 := (List.mem_filter.1 hb).2
        simp only [Bool.and_eq_true, Bool.not_eq_true', decide_eq_false_iff_not] at g2
        have g3 : byC (gt s k) b := by
          have h1 : cmpC b (gt s k) ≠ 0 := fun e => g2.1 (cmpC_zero.1 e)
          have h2 := cmpC_anti b (gt s k)
          unfold byC
          omega
        rcases List.mem_append.1 ha with ha | ha
        · have g1 := (List.mem_filter.1 ha).2
          simp only [Bool.and_eq_true, decide_eq_true_eq] at g1
          exact cmpC_trans g1.2 g3
        · rw [List.mem_singleton.1 ha]; exact g3
  · have hlost : lostIn s (gt s k) ↔ (gt s k).eui ≠ best.eui := by
      constructor
      · rintro ⟨_, r, r1, r2, r3⟩ e
        exact r3 (by rw [best_one r1 hb (r2.trans hi.symm), e])
      · exact fun e => ⟨gt_mem hk, best, hb, hi, fun g => e g.symm⟩
    rw [take_gt hk, List.mem_append, List.mem_singleton]
    unfold lostM
    split
    · next he =>
      rw [h.lm]
      constructor
      · exact fun g => ⟨g.1, .inl g.2⟩
      · rintro ⟨g1, g2 | g2⟩
        · exact ⟨g1, g2⟩
        · rw [g2] at g1; exact absurd he (hlost.1 g1)
    · next he =>
      have hm : x ∈ (lost.filter fun x => !decide (x = gt s k) && decide (cmpC x (gt s k) < 0)) ++ [gt s k] ++ (lost.filter fun x => !decide (x = gt s k) && !decide (cmpC x (gt s k) < 0)) ↔ x ∈ lost ∨ x = gt s k := by
        simp only [List.mem_append, List.mem_filter, List.mem_singleton, Bool.and_eq_true, Bool.not_eq_true', decide_eq_true_eq, decide_eq_false_iff_not]
        by_cases e1 : x = gt s k
        · simp [e1]
        · by_cases e2 : cmpC x (gt s k) < 0 <;> simp [e1, e2]
      rw [hm, h.lm]
      constructor
      · rintro (g | g)
        · exact ⟨g.1, .inl g.2⟩
        · rw [g]; exact ⟨hlost.2 he, .inr rfl⟩
      · rintro ⟨g1, g2 | g2⟩
        · exact .inl ⟨g1, g2⟩
        · exact .inr g2
theorem outM_len (out : List Clm) (c best : Clm) : (outM out c best).length ≤ out.length + 1 := by
  unfold outM insM
  split
  · omega
  · simp; omega
theorem filt2_len {α : Type} (p q : α → Bool) (h : ∀ x, p x = true → q x = false) : ∀ l : List α, (l.filter p).length + (l.filter q).length ≤ l.length
  | [] => by simp
  | a :: l => by
    have ih := filt2_len p q h l
    have ha := h a
    rw [List.filter_cons, List.filter_cons, List.length_cons]
    cases hp : p a
    · cases hq : q a
      · simp; omega
      · simp; omega
    · rw [ha hp]; simp; omega
theorem lostM_len (lost : List Clm) (c best : Clm) : (lostM lost c best).length ≤ lost.length + 1 := by
  unfold lostM
  split
  · omega
  · have h1 := filt2_len (fun x => !decide (x = c) && decide (cmpC x c < 0)) (fun x => !decide (x = c) && !decide (cmpC x c < 0)) (fun x hx => by
      simp only [Bool.and_eq_true, decide_eq_true_eq] at hx
      simp [hx.2]) lost
    simp only [List.length_append, List.length_singleton]
    omega
/-! ### The best one, step by step -/
theorem best_new {cs : List Clm} {c : Clm} {ip : IP} (h : ∀ y ∈ cs, y.ip ≠ ip) (hc : c.ip = ip) : bestIn (cs ++ [c]) c := by
  refine ⟨by simp, fun y hy hyi => ?_⟩
  rcases List.mem_append.1 hy with hy | hy
  · exact absurd (hyi.trans hc) (h y hy)
  · rw [List.mem_singleton.1 hy]; exact bet_irr c
theorem best_up {cs : List Clm} {c x : Clm} (h : bestIn cs x) (hi : x.ip = c.ip) (hb : betterC c x = true) : bestIn (cs ++ [c]) c := by
  refine ⟨by simp, fun y hy hyi => ?_⟩
  rcases List.mem_append.1 hy with hy | hy
  · cases hy2 : betterC y c
    · rfl
    · have h1 := h.2 y hy (by rw [hyi, hi])
      rw [bet_trans hy2 hb] at h1; cases h1
  · rw [List.mem_singleton.1 hy]; exact bet_irr c
theorem best_other {cs : List Clm} {c x : Clm} (h : bestIn cs x) (hi : c.ip ≠ x.ip) : bestIn (cs ++ [c]) x := by
  refine ⟨List.mem_append_left _ h.1, fun y hy hyi => ?_⟩
  rcases List.mem_append.1 hy with hy | hy
  · exact h.2 y hy hyi
  · rw [List.mem_singleton.1 hy] at hyi; exact absurd hyi hi
end Go.Fw
