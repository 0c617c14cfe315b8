/- Slices of numbers: slices.Equal. -/
import Derived.Test.YtkmcmhohelgjfaaTape
namespace Go.Fw
set_option maxRecDepth 4000
open Go.Proofs
set_option maxHeartbeats 1000000
theorem ints_get {l : List Int} {k : Nat} (h : k < l.length) : (ints l)[k]? = some (int l[k]) := by simp [ints, lst, List.getElem?_eq_getElem h]
theorem wds_ints (l : List Int) : (ints l).all (fun s => Nat.beq (wd s) 1) = true := by
  simp only [ints, lst, List.all_map, List.all_eq_true]
  intro x _; rfl
theorem take_eq_succ {a b : List Int} {k : Nat} (ha : k < a.length) (hb : k < b.length) (h : a.take k = b.take k) (e : gt a k = gt b k) : a.take (k + 1) = b.take (k + 1) := by
  rw [gt_eq ha, gt_eq hb] at e
  rw [List.take_succ_eq_append_getElem ha, List.take_succ_eq_append_getElem hb, h, e]
theorem k_Equal (a b : List Int) (t1 t2 : Tg) (hl : a.length < 4611686018427387904) :
    Con Try.prog 11 [.fs t1 1 (ints a), .fs t2 1 (ints b)] [] (bool (decide (a = b))) [] := by
  by_cases hab : a.length = b.length
  case neg =>
    rw [decide_eq_false (fun e => hab (by rw [e]))]
    refine spec_of_run ttok mixed (T0 := 16806963) (ts := [.tmp 4]) 26 rfl rfl rfl rfl (by simp) rfl ?_
    conv => whnf
    repeat' (first | with_reducible apply True.intro | ((first | ((with_reducible apply Nm.mk); focus ((try simp only [lns]); exact rfl)) | ((with_reducible apply Bif.bne) <;> intro h <;> (try simp only [lns] at h) <;> (try (exfalso; omega))) | (apply Same.bool; focus (with_reducible rfl)) | (with_reducible apply Frz.l)) <;> conv => whnf) | fail)
  refine spec_of_run ttok mixed (T0 := 16806963) (ts := [.tmp 4]) 26 rfl rfl rfl rfl (by simp) rfl ?_
  conv => whnf
  repeat' (first | ((first | ((with_reducible apply Nm.mk); focus ((try simp only [lns]); exact rfl)) | ((with_reducible apply Bif.bne) <;> intro h <;> (try simp only [lns] at h) <;> (try (exfalso; omega))) | (with_reducible apply Frz.l)) <;> conv => whnf) | fail)
  refine loop_keep ttok mixed (T0 := 16806963) [0, 1, 12] (ι := {k : Nat // k ≤ a.length ∧ a.take k = b.take k})
    (fun k => [(13, int (k.1 : Int))]) (fun _ => []) (fun k => a.length - k.1) ⟨0, by simp⟩ ?_
  conv => whnf
  repeat' (first | ((first | (with_reducible apply Same.rfl) | (apply Same.int; focus rfl) | (with_reducible apply Frz.l)) <;> conv => whnf) | fail)
  rintro ⟨k, hk, he⟩
  dsimp only
  conv => whnf
  by_cases hka : k < a.length
  · by_cases hg : gt a k = gt b k
    · repeat' (first | ((first | ((with_reducible apply Nm.mk); focus ((try simp only [lns]); exact rfl)) | ((with_reducible apply Wr.i64); focus omega) | ((with_reducible apply Need.mk); focus first | (simp only [lns]; omega) | kernel_rfl) | ((with_reducible apply Elem.lst); focus omega) | ((with_reducible first | apply Bif.dec | apply Bif.bne) <;> intro h <;> (try simp only [lns] at h) <;> (try (exfalso; omega))) | (with_reducible apply Frz.l)) <;> conv => whnf) | fail)
      (refine ⟨⟨k + 1, hka, take_eq_succ hka (by omega) he hg⟩, ?_⟩; (try dsimp only); conv => whnf); repeat' (first | with_reducible apply True.intro | ((first | ((with_reducible apply Need.mk); focus omega) | (with_reducible apply Same.rfl) | (apply Same.int; focus rfl) | (with_reducible apply Turn.l) | (with_reducible apply Frz.l)) <;> conv => whnf) | fail)
    · have hne : a ≠ b := fun e => hg (by rw [e])
      rw [decide_eq_false hne]
      repeat' (first | with_reducible apply True.intro | ((first | ((with_reducible apply Nm.mk); focus ((try simp only [lns]); exact rfl)) | ((with_reducible apply Need.mk); focus first | (simp only [lns]; omega) | kernel_rfl) | ((with_reducible apply Elem.lst); focus omega) | ((with_reducible first | apply Bif.dec | apply Bif.bne) <;> intro h <;> (try simp only [lns] at h) <;> (try (exfalso; omega))) | (apply Same.bool; focus (with_reducible rfl)) | (with_reducible apply Frz.l)) <;> conv => whnf) | fail)
  · have e : a = b := by
      have e1 := List.take_of_length_le (l := a) (i := k) (by omega)
      have e2 := List.take_of_length_le (l := b) (i := k) (by omega)
      rw [← e1, ← e2, he]
    rw [decide_eq_true e]
    repeat' (first | with_reducible apply True.intro | ((first | ((with_reducible apply Bif.dec) <;> intro h <;> (try simp only [lns] at h) <;> (try (exfalso; omega))) | (apply Same.bool; focus (with_reducible rfl)) | (with_reducible apply Frz.l)) <;> conv => whnf) | fail)
end Go.Fw
