/- Valid lists of buffers, both sides. -/
import Derived.Test.YteebplkhnhpiiaaSlBuf
namespace Go.Fw
set_option maxRecDepth 4000
open Go.Proofs
set_option maxHeartbeats 8000000
theorem keyB_iff {a b : Buf} : keyB a b = true ↔ a.src = b.src ∧ a.dst = b.dst ∧ a.tag = b.tag ∧ a.size = b.size := by rw [keyB, decide_eq_true_eq]
theorem keyB_comm (a b : Buf) : keyB a b = keyB b a := by
  rw [Bool.eq_iff_iff, keyB_iff, keyB_iff]
  exact ⟨fun ⟨h1, h2, h3, h4⟩ => ⟨h1.symm, h2.symm, h3.symm, h4.symm⟩, fun ⟨h1, h2, h3, h4⟩ => ⟨h1.symm, h2.symm, h3.symm, h4.symm⟩⟩
theorem idxF_any {α : Type} [Inhabited α] (p : α → Bool) (l : List α) : decide (idxF p l ≥ 0) = l.any p := by
  rcases idxF_cases p l with ⟨hi, he⟩ | ⟨k, hk, hi, hp, he⟩
  · rw [hi]
    have : l.any p = false := by
      rw [List.any_eq_false]
      intro x hx
      obtain ⟨j, hj, rfl⟩ := List.mem_iff_getElem.1 hx
      have := he j hj
      rw [gt_eq hj] at this
      simp [this]
    rw [this]; rfl
  · rw [hi, List.any_eq_true.2 ⟨_, gt_mem hk, hp⟩]
    simp
theorem validL_iff {l : List Buf} : validL l = true ↔ l.length ≤ 4 ∧ ∀ i, i < l.length → validB (gt l i) = true ∧ ∀ j, j < i → keyB (gt l j) (gt l i) = false := by
  rw [validL, decide_eq_true_eq]
  constructor
  · rintro ⟨h1, h2, h3⟩
    refine ⟨h1, fun i hi => ⟨h2 _ (gt_mem hi), fun j hj => ?_⟩⟩
    rw [gt_eq (by omega), gt_eq hi]
    exact List.pairwise_iff_getElem.1 h3 j i (by omega) hi hj
  · rintro ⟨h1, h2⟩
    refine ⟨h1, fun b hb => ?_, List.pairwise_iff_getElem.2 fun j i hj hi hji => ?_⟩
    · obtain ⟨i, hi, rfl⟩ := List.mem_iff_getElem.1 hb
      rw [← gt_eq hi]; exact (h2 i hi).1
    · rw [← gt_eq hj, ← gt_eq hi]; exact (h2 i hi).2 j hji
theorem validL_ff {l : List Buf} {i : Nat} (hi : i < l.length) (h : ¬ (validB (gt l i) = true ∧ ∀ j, j < i → keyB (gt l j) (gt l i) = false)) : validL l = false := by
  cases hv : validL l with
  | false => rfl
  | true => exact absurd ((validL_iff.1 hv).2 i hi) h
theorem validL_long {l : List Buf} (h : 4 < l.length) : validL l = false := by
  cases hv : validL l with
  | false => rfl
  | true => have := (validL_iff.1 hv).1; omega
theorem any_take {α : Type} [Inhabited α] {p : α → Bool} {l : List α} {i : Nat} (hi : i ≤ l.length) : (l.take i).any p = false ↔ ∀ j, j < i → p (gt l j) = false := by
  rw [List.any_eq_false]
  constructor
  · intro h j hj
    have := h (gt (l.take i) j) (gt_mem (by rw [List.length_take]; omega))
    rw [gt_take hj] at this
    simpa using this
  · intro h x hx
    obtain ⟨j, hj, rfl⟩ := List.mem_iff_getElem.1 hx
    have hj2 : j < i := by rw [List.length_take] at hj; omega
    rw [← gt_eq hj, gt_take hj2, h j hj2]; simp
def sizL (l : List Buf) : Prop := l.length ≤ 9223372036854775807 ∧ ∀ b ∈ l, sizB b
theorem k_Valid1 (a b : Buf) : Con Try.prog 53 [bufV a, .pb 0 []] [.cells (bufV b)] (bool (keyB a b)) [.cells (bufV b)] := by
  have hm := k_matches a .no (lst frgV a.parts) b.src b.dst b.tag b.size
  refine spec_of_run ttok mixed (T0 := 15) (ts := [.tmp 3]) 14 rfl rfl rfl rfl (by simp) rfl ?_
  conv => whnf
  repeat' (first | with_reducible apply True.intro | ((apply Same.mk rfl); (conv => whnf)) | ((first | (apply CallN.mk (hm)) | (with_reducible apply Frz.l)) <;> conv => whnf) | fail)
theorem k_ContV (l : List Buf) (b : Buf) (t : Tg) (hl : l.length ≤ 1000000) : Con Try.prog 55 [.fs t 10 (lst bufV l), .clo 53 [.pb 0 []]] [.cells (bufV b)] (bool (l.any (keyB · b))) [.cells (bufV b)] := by
  have hk := k_IndexFunc_Buf 53 b (keyB · b) (fun a => k_Valid1 a b) l
  refine spec_of_run ttok mixed (T0 := 19) (ts := [.tmp 4]) 9 rfl rfl rfl rfl (by simp) rfl ?_
  conv => whnf
  repeat' (first | with_reducible apply True.intro | ((apply Same.bool (idxF_any _ _)); (conv => whnf)) | ((first | (apply CallN.mk (hk _ hl)) | (with_reducible apply Same.rfl) | (with_reducible apply Frz.l)) <;> conv => whnf) | fail)
theorem k_Valid (l : List Buf) (t : Tg) (hl : sizL l) : Con Try.prog 31 [.fs t 10 (lst bufV l)] [] (bool (validL l)) [] := by
  obtain ⟨hl, hs⟩ := hl
  refine spec_of_run ttok mixed (T0 := 67116861) (ts := [.tmp 2]) 28 rfl rfl rfl rfl (by simp) rfl ?_
  conv => whnf
  by_cases hn : 4 < l.length
  · rw [validL_long hn]
    repeat' (first | with_reducible apply True.intro | ((first | ((with_reducible apply Nm.mk); focus ((try simp only [lns]); exact rfl)) | ((with_reducible apply Bif.dec) <;> intro h <;> (try simp only [lns] at h) <;> (try (exfalso; omega))) | (apply Same.bool; focus (with_reducible rfl)) | (with_reducible apply Frz.l)) <;> conv => whnf) | fail)
  repeat' (first | ((first | ((with_reducible apply Nm.mk); focus ((try simp only [lns]); exact rfl)) | ((with_reducible apply Bif.dec) <;> intro h <;> (try simp only [lns] at h) <;> (try (exfalso; omega))) | (with_reducible apply Frz.l)) <;> conv => whnf) | fail)
  refine loop_keep ttok mixed (T0 := 67116861) [0, 9, 10] (ι := {k : Nat // k ≤ l.length ∧ ∀ i, i < k → validB (gt l i) = true ∧ ∀ j, j < i → keyB (gt l j) (gt l i) = false})
    (fun k => [(11, int (k.1 : Int))]) (fun _ => []) (fun k => l.length - k.1) ⟨0, by omega, none_lt⟩ ?_
  conv => whnf
  repeat' (first | ((first | (with_reducible apply Same.rfl) | (apply Same.int; focus rfl) | (with_reducible apply Frz.l)) <;> conv => whnf) | fail)
  rintro ⟨k, hk, he⟩
  dsimp only
  conv => whnf
  by_cases hkl : k < l.length
  · have hv := k_validBuffer (gt l k) (hs _ (gt_mem hkl))
    have hc := fun t => k_ContV (l.take k) (gt l k) t (by rw [List.length_take]; omega)
    by_cases hx : validB (gt l k) = true ∧ ∀ j, j < k → keyB (gt l j) (gt l k) = false
    · have ha := (any_take (p := (keyB · (gt l k))) (by omega)).2 hx.2
      rw [hx.1] at hv
      simp only [ha] at hc
      repeat' (first | ((first | ((with_reducible apply Nm.mk); focus ((try simp only [lns]); exact rfl)) | ((with_reducible apply Wr.i64); focus omega) | ((with_reducible apply Need.mk); focus (simp only [lns]; omega)) | ((with_reducible apply Elem.lst); focus omega) | (apply CallN.mk (hv)) | (apply CallN.mk (hc _)) | (with_reducible first | apply Bif.T | apply Bif.F) | ((with_reducible apply Bif.dec) <;> intro h <;> (try simp only [lns] at h) <;> (try (exfalso; omega))) | (with_reducible apply Bif.not) | (with_reducible apply Frz.l)) <;> conv => whnf) | fail)
      (refine ⟨⟨k + 1, hkl, step_lt he hx⟩, ?_⟩; (try dsimp only); conv => whnf); repeat' (first | with_reducible apply True.intro | ((first | ((with_reducible apply Need.mk); focus omega) | (with_reducible apply Same.rfl) | (apply Same.int; focus rfl) | (with_reducible apply Turn.l) | (with_reducible apply Frz.l)) <;> conv => whnf) | fail)
    · rw [validL_ff hkl hx]
      cases hb : validB (gt l k)
      · rw [hb] at hv
        repeat' (first | with_reducible apply True.intro | ((first | ((with_reducible apply Nm.mk); focus ((try simp only [lns]); exact rfl)) | ((with_reducible apply Need.mk); focus (simp only [lns]; omega)) | ((with_reducible apply Elem.lst); focus omega) | (apply CallN.mk (hv)) | (with_reducible first | apply Bif.T | apply Bif.F) | ((with_reducible apply Bif.dec) <;> intro h <;> (try simp only [lns] at h) <;> (try (exfalso; omega))) | (with_reducible apply Bif.not) | (apply Same.bool; focus (with_reducible rfl)) | (with_reducible apply Frz.l)) <;> conv => whnf) | fail)
      · have ha : (l.take k).any (keyB · (gt l k)) = true := by
          cases h : (l.take k).any (keyB · (gt l k)) with
          | true => rfl
          | false => exact absurd ⟨hb, (any_take (p := (keyB · (gt l k))) (by omega)).1 h⟩ hx
        rw [hb] at hv
        simp only [ha] at hc
        repeat' (first | with_reducible apply True.intro | ((first | ((with_reducible apply Nm.mk); focus ((try simp only [lns]); exact rfl)) | ((with_reducible apply Need.mk); focus (simp only [lns]; omega)) | ((with_reducible apply Elem.lst); focus omega) | (apply CallN.mk (hv)) | (apply CallN.mk (hc _)) | (with_reducible first | apply Bif.T | apply Bif.F) | ((with_reducible apply Bif.dec) <;> intro h <;> (try simp only [lns] at h) <;> (try (exfalso; omega))) | (with_reducible apply Bif.not) | (apply Same.bool; focus (with_reducible rfl)) | (with_reducible apply Frz.l)) <;> conv => whnf) | fail)
  · have : validL l = true := validL_iff.2 ⟨by omega, fun i hi => he i (by omega)⟩
    rw [this]
    repeat' (first | with_reducible apply True.intro | ((first | ((with_reducible apply Bif.dec) <;> intro h <;> (try simp only [lns] at h) <;> (try (exfalso; omega))) | (apply Same.bool; focus (with_reducible rfl)) | (with_reducible apply Frz.l)) <;> conv => whnf) | fail)
end Go.Fw
