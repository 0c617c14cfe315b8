/- Registries: Better, current, Owner. -/
import Derived.Test.YtpmiaggdjgfjgaaDetA
namespace Go.Fw
set_option maxRecDepth 4000
open Go.Proofs
set_option maxHeartbeats 4000000
/-- detection.Better -/
def betterC (a b : Clm) : Bool := decide (a.since < b.since ∨ (a.since = b.since ∧ (a.eui < b.eui ∨ (a.eui = b.eui ∧ (a.seq > b.seq ∨ (a.seq = b.seq ∧ a.upto > b.upto))))))
theorem k_Better (a b : Clm) : Con Try.prog 71 [clmV a, clmV b] [] (bool (betterC a b)) [] := by
  refine spec_of_run ttok mixed (T0 := 63) (ts := [.tmp 4]) 30 rfl rfl rfl rfl (by simp) rfl ?_
  conv => whnf
  repeat' (first | ((first | ((with_reducible apply Nm.mk); focus ((try simp only [lns, ipRows_take]); exact rfl)) | ((with_reducible apply Need.mk); focus first | (simp only [lns, ipRows_take]; omega) | exact CleanP.nil rfl | kernel_rfl) | (apply CallN.mk (k_cmp_int _ _)) | (apply CallN.mk (k_cmp_EUI _ _)) | (apply CallN.mk (k_Or [cmpI a.since b.since, cmpI a.eui b.eui, cmpI b.seq a.seq, cmpI b.upto a.upto] .no (by simp))) | (with_reducible apply GiveN.lend)) <;> conv => whnf) | fail)
  apply Same.bool
  · rw [betterC]
    apply decide_eq_decide.2
    simp only [orL, cmpI]
    (repeat' split) <;> omega
  conv => whnf
  repeat' (first | with_reducible apply True.intro | fail)
theorem k_refBetter (a b : Clm) : Con Try.prog 100 [clmV a, clmV b] [] (bool (betterC a b)) [] := by
  refine spec_of_run ttok mixed (T0 := 537395743) (ts := [.tmp 4]) 40 rfl rfl rfl rfl (by simp) rfl ?_
  conv => whnf
  repeat' (first | (((with_reducible apply Bif.bne) <;> intro h <;> (try simp only [lns, ipRows_take] at h)) <;> conv => whnf) | fail)
  all_goals (apply Same.bool (by rw [Bool.eq_iff_iff]; simp only [betterC, decide_eq_true_eq, Bool.false_eq_true, false_iff, true_iff, Bool.and_eq_true, Bool.or_eq_true, Bool.not_eq_true', decide_eq_false_iff_not, ne_eq]; omega); (conv => whnf); repeat' (first | with_reducible apply True.intro | fail))
/-- detection.current -/
def cur (r : List Clm) (now : Int) : List Clm := r.filter fun c => !decide (c.upto ≤ now)
theorem k_current1 (now : Int) (a : Clm) : Con Try.prog 93 [clmV a, .pb 0 []] [.cells (int now)] (bool (decide (a.upto ≤ now))) [.cells (int now)] := by
  refine spec_of_run ttok mixed (T0 := 15) (ts := [.tmp 3]) 8 rfl rfl rfl rfl (by simp) rfl ?_
  conv => whnf
  repeat' (first | with_reducible apply True.intro | ((first | (with_reducible apply Same.rfl) | (apply Same.bool; focus (with_reducible rfl))) <;> conv => whnf) | fail)
theorem k_current (r : List Clm) (t : Tg) (now : Int) (hl : r.length ≤ 1000000) : Con Try.prog 68 [.fs t 20 (lst clmV r), int now] [] (.ov 20 0 0 (cur r now).length) [.arr none 20 (lst clmV (cur r now))] := by
  refine spec_of_run ttok mixed (T0 := 27) (ts := [.tmp 4]) 9 rfl rfl rfl rfl (by simp) rfl ?_
  conv => whnf
  repeat' (first | with_reducible apply True.intro | ((with_reducible apply GiveN.mk [0]); (conv => whnf)) | ((first | (apply CallN.mk (k_Clone_Clm r t hl)) | (apply CallN.mk (k_DeleteFunc_Clm 93 now (fun c => decide (c.upto ≤ now)) (k_current1 now) r hl)) | (with_reducible apply Same.rfl) | (apply Same.rfl) | (with_reducible apply Cut.l)) <;> conv => whnf) | fail)
theorem cur_snoc {r : List Clm} {now : Int} {k : Nat} (hk : k < r.length) : cur (r.take (k + 1)) now = cur (r.take k) now ++ if (gt r k).upto > now then [gt r k] else [] := by
  rw [cur, filter_snoc hk]
  congr 1
  by_cases h : (gt r k).upto > now
  · have : ¬ (gt r k).upto ≤ now := by omega
    simp [h, this]
  · have : (gt r k).upto ≤ now := by omega
    simp [h, this]
theorem cur_len (r : List Clm) (now : Int) : (cur r now).length ≤ r.length := List.length_filter_le _ _
theorem k_refCurrent (r : List Clm) (t : Tg) (now : Int) (hl : r.length ≤ 1000000) : Con Try.prog 27 [.fs t 20 (lst clmV r), int now] [] (.ov 20 0 0 (cur r now).length) [.arr none 20 (lst clmV (cur r now))] := by
  refine spec_of_run ttok mixed (T0 := 135091) (ts := [.tmp 4]) 24 rfl rfl rfl rfl (by simp) rfl ?_
  conv => whnf
  repeat' (first | (((with_reducible apply Nm.mk); focus ((try simp only [lns, ipRows_take]); exact rfl)) <;> conv => whnf) | fail)
  refine LoopN.adopt 5 20 rfl (by simp) ?_
  refine loop_keep ttok mixed (T0 := 135091) [1, 8, 9] (ι := {k : Nat // k ≤ r.length})
    (fun k => [(5, .ov 20 0 0 (cur (r.take k.1) now).length), (10, int (k.1 : Int))]) (fun k => [.arr none 20 (lst clmV (cur (r.take k.1) now))]) (fun k => r.length - k.1) ⟨0, by omega⟩ ?_
  conv => whnf
  repeat' (first | ((first | (with_reducible apply Same.rfl) | (apply Same.int; focus rfl) | (apply Same.ov; (focus rfl); focus rfl) | (apply Same.rfl)) <;> conv => whnf) | fail)
  rintro ⟨k, hk⟩
  dsimp only
  have hc := cur_len (r.take k) now
  rw [List.length_take] at hc
  conv => whnf
  by_cases hkl : k < r.length
  · have hs := cur_snoc (now := now) hkl
    by_cases hu : (gt r k).upto > now
    · rw [if_pos hu] at hs
      repeat' (first | ((first | (with_reducible apply Nm.snoc _ (clm_mk _ _ _ _ _)) | ((with_reducible apply Nm.mk); focus ((try simp only [lns, ipRows_take]); exact rfl)) | ((with_reducible apply Wr.i64); focus omega) | ((with_reducible apply Need.mk); focus first | (simp only [lns, ipRows_take]; omega) | (unfold roomOK; simp only [lns, ipRows_take]; omega)) | ((with_reducible apply Elem.lst); focus omega) | ((with_reducible apply Bif.dec) <;> intro h <;> (try simp only [lns, ipRows_take] at h) <;> (try (exfalso; omega))) | (with_reducible apply Alt.l)) <;> conv => whnf) | fail)
      (refine ⟨⟨k + 1, by omega⟩, ?_⟩; (try dsimp only); conv => whnf); repeat' (first | with_reducible apply True.intro | ((apply Same.ov rfl (by rw [hs]; simp)); (conv => whnf)) | ((apply Same.lst hs.symm); (conv => whnf)) | ((first | ((with_reducible apply Need.mk); focus omega) | (with_reducible apply Same.rfl) | (apply Same.int; focus rfl) | (with_reducible apply Turn.l)) <;> conv => whnf) | fail)
    · rw [if_neg hu, List.append_nil] at hs
      repeat' (first | ((first | ((with_reducible apply Nm.mk); focus ((try simp only [lns, ipRows_take]); exact rfl)) | ((with_reducible apply Wr.i64); focus omega) | ((with_reducible apply Need.mk); focus (simp only [lns, ipRows_take]; omega)) | ((with_reducible apply Elem.lst); focus omega) | ((with_reducible apply Bif.dec) <;> intro h <;> (try simp only [lns, ipRows_take] at h) <;> (try (exfalso; omega)))) <;> conv => whnf) | fail)
      (refine ⟨⟨k + 1, by omega⟩, ?_⟩; (try dsimp only); conv => whnf); repeat' (first | with_reducible apply True.intro | ((apply Same.ov rfl (by rw [hs])); (conv => whnf)) | ((apply Same.lst hs.symm); (conv => whnf)) | ((first | ((with_reducible apply Need.mk); focus omega) | (with_reducible apply Same.rfl) | (apply Same.int; focus rfl) | (with_reducible apply Turn.l)) <;> conv => whnf) | fail)
  · have e : r.take k = r := List.take_of_length_le (by omega)
    rw [e]
    repeat' (first | with_reducible apply True.intro | ((first | ((with_reducible apply Bif.dec) <;> intro h <;> (try simp only [lns, ipRows_take] at h) <;> (try (exfalso; omega))) | (with_reducible apply Same.rfl) | (with_reducible apply Cut.l)) <;> conv => whnf) | fail)
end Go.Fw
