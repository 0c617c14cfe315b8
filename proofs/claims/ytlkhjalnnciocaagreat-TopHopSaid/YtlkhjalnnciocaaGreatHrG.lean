/- Valid lists of buffers, both sides. -/
import Derived.Test.YtlkhjalnnciocaaGreatHrS

namespace Go.Fw
set_option maxRecDepth 4000
open Go.Proofs
set_option maxHeartbeats 8000000
theorem keyB_iff {a b : Buf} : keyB a b = true ↔ a.src = b.src ∧ a.dst = b.dst ∧ a.tag = b.tag ∧ a.size = b.size := by rw [keyB, decide_eq_true_eq]
theorem idxF_any {α : Type} [Inhabited α] (p : α → Bool) (l : List α) : decide (idxF p l ≥ 0) = l.any p := by
  rcases idxF_cases p l with ⟨hi, he⟩ | ⟨k, hk, hi, hp, he⟩
  · rw [hi]
    have : l.any p = false := by
      rw [List.any_eq_false]
      intro x hx
      obtain ⟨j, hj, rfl⟩ := List.mem_iff_getElem.1 hx
      have := he j hj
      rw [gt_eq hj] at this
      simp [this]
    rw [this]; rfl
  · rw [hi, List.any_eq_true.2 ⟨_, gt_mem hk, hp⟩]
    simp
theorem validL_iff {l : List Buf} : validL l = true ↔ l.length ≤ 4 ∧ ∀ i, i < l.length → validB (gt l i) = true ∧ ∀ j, j < i → keyB (gt l j) (gt l i) = false := by
  rw [validL, decide_eq_true_eq]
  constructor
  · rintro ⟨h1, h2, h3⟩
    refine ⟨h1, fun i hi => ⟨h2 _ (gt_mem hi), fun j hj => ?_⟩⟩
    rw [gt_eq (by omega), gt_eq hi]
    exact List.pairwise_iff_getElem.1 h3 j i (by omega) hi hj
  · rintro ⟨h1, h2⟩
    refine ⟨h1, fun b hb => ?_, List.pairwise_iff_getElem.2 fun j i hj hi hji => ?_⟩
    · obtain ⟨i, hi, rfl⟩ := List.mem_iff_getElem.1 hb
      rw [← gt_eq hi]; exact (h2 i hi).1
    · rw [← gt_eq hj, ← gt_eq hi]; exact (h2 i hi).2 j hji
theorem validL_ff {l : List Buf} {i : Nat} (hi : i < l.length) (h : ¬ (validB (gt l i) = true ∧ ∀ j, j < i → keyB (gt l j) (gt l i) = false)) : validL l = false := by
  cases hv : validL l with
  | false => rfl
  | true => exact absurd ((validL_iff.1 hv).2 i hi) h
theorem validL_long {l : List Buf} (h : 4 < l.length) : validL l = false := by
  cases hv : validL l with
  | false => rfl
  | true => have := (validL_iff.1 hv).1; omega
theorem any_take {α : Type} [Inhabited α] {p : α → Bool} {l : List α} {i : Nat} (hi : i ≤ l.length) : (l.take i).any p = false ↔ ∀ j, j < i → p (gt l j) = false := by
  rw [List.any_eq_false]
  constructor
  · intro h j hj
    have := h (gt (l.take i) j) (gt_mem (by rw [List.length_take]; omega))
    rw [gt_take hj] at this
    simpa using this
  · intro h x hx
    obtain ⟨j, hj, rfl⟩ := List.mem_iff_getElem.1 hx
    have hj2 : j < i := by rw [List.length_take] at hj; omega
    rw [← gt_eq hj, gt_take hj2, h j hj2]; simp
def sizL (l : List Buf) : Prop := l.length ≤ 9223372036854775807 ∧ ∀ b ∈ l, sizB b
theorem k_Valid1 (a b : Buf) : Con Tryz.prog 169 [bufV a, .pb 0 []] [.cells (bufV b)] (bool (keyB a b)) [.cells (bufV b)] := by
  have hm := k_matches a .no (lst frgV a.parts) b.src b.dst b.tag b.size
  refine spec_of_run ttok mixed (T0 := 15) (ts := [.tmp 3]) 14 rfl rfl rfl rfl (by simp) rfl ?_
  conv => whnf
  repeat' (first | with_reducible apply True.intro | ((apply Same.mk rfl); (conv => whnf)) | ((first | (apply CallN.mk (hm)) | (with_reducible apply Frz.l)) <;> conv => whnf) | fail)
theorem k_ContV (l : List Buf) (b : Buf) (t : Tg) (hl : l.length ≤ 1000000) : Con Tryz.prog 171 [.fs t 10 (lst bufV l), .clo 169 [.pb 0 []]] [.cells (bufV b)] (bool (l.any (keyB · b))) [.cells (bufV b)] := by
  have hk := k_IndexFunc_Buf 169 rfl b (keyB · b) (fun a => k_Valid1 a b) l
  refine spec_of_run ttok mixed (T0 := 19) (ts := [.tmp 4]) 9 rfl rfl rfl rfl (by simp) rfl ?_
  conv => whnf
  repeat' (first | with_reducible apply True.intro | ((apply Same.bool (idxF_any _ _)); (conv => whnf)) | ((first | (apply CallN.mk (hk _ hl)) | (with_reducible apply Same.rfl) | (with_reducible apply Frz.l)) <;> conv => whnf) | fail)
theorem k_Valid (l : List Buf) (t : Tg) (hl : sizL l) : Con Tryz.prog 96 [.fs t 10 (lst bufV l)] [] (bool (validL l)) [] := by
  obtain ⟨hl, hs⟩ := hl
  refine spec_of_run ttok mixed (T0 := 67116861) (ts := [.tmp 2]) 28 rfl rfl rfl rfl (by simp) rfl ?_
  conv => whnf
  by_cases hn : 4 < l.length
  · rw [validL_long hn]
    repeat' (first | with_reducible apply True.intro | ((first | ((with_reducible apply Nm.mk); focus ((try simp only [lns]); exact rfl)) | ((with_reducible apply Bif.dec) <;> intro h <;> (try simp only [lns] at h) <;> (try (exfalso; omega))) | (apply Same.bool; focus (with_reducible rfl)) | (with_reducible apply Frz.l)) <;> conv => whnf) | fail)
  repeat' (first | ((first | ((with_reducible apply Nm.mk); focus ((try simp only [lns]); exact rfl)) | ((with_reducible apply Bif.dec) <;> intro h <;> (try simp only [lns] at h) <;> (try (exfalso; omega))) | (with_reducible apply Frz.l)) <;> conv => whnf) | fail)
  refine loop_keep ttok mixed (T0 := 67116861) [0, 9, 10] (ι := {k : Nat // k ≤ l.length ∧ ∀ i, i < k → validB (gt l i) = true ∧ ∀ j, j < i → keyB (gt l j) (gt l i) = false})
    (fun k => [(11, int (k.1 : Int))]) (fun _ => []) (fun k => l.length - k.1) ⟨0, by omega, none_lt⟩ ?_
  conv => whnf
  repeat' (first | ((first | (with_reducible apply Same.rfl) | (apply Same.int; focus rfl) | (with_reducible apply Frz.l)) <;> conv => whnf) | fail)
  rintro ⟨k, hk, he⟩
  dsimp only
  conv => whnf
  by_cases hkl : k < l.length
  · have hv := k_validBuffer (gt l k) (hs _ (gt_mem hkl))
    have hc := fun t => k_ContV (l.take k) (gt l k) t (by rw [List.length_take]; omega)
    by_cases hx : validB (gt l k) = true ∧ ∀ j, j < k → keyB (gt l j) (gt l k) = false
    · have ha := (any_take (p := (keyB · (gt l k))) (by omega)).2 hx.2
      rw [hx.1] at hv
      simp only [ha] at hc
      repeat' (first | ((first | ((with_reducible apply Nm.mk); focus ((try simp only [lns]); exact rfl)) | ((with_reducible apply Wr.i64); focus omega) | ((with_reducible apply Need.mk); focus (simp only [lns]; omega)) | ((with_reducible apply Elem.lst); focus omega) | (apply CallN.mk (hv)) | (apply CallN.mk (hc _)) | (with_reducible first | apply Bif.T | apply Bif.F) | ((with_reducible apply Bif.dec) <;> intro h <;> (try simp only [lns] at h) <;> (try (exfalso; omega))) | (with_reducible apply Bif.not) | (with_reducible apply Frz.l)) <;> conv => whnf) | fail)
      (refine ⟨⟨k + 1, hkl, step_lt he hx⟩, ?_⟩; (try dsimp only); conv => whnf); repeat' (first | with_reducible apply True.intro | ((first | ((with_reducible apply Need.mk); focus omega) | (with_reducible apply Same.rfl) | (apply Same.int; focus rfl) | (with_reducible apply Turn.l) | (with_reducible apply Frz.l)) <;> conv => whnf) | fail)
    · rw [validL_ff hkl hx]
      cases hb : validB (gt l k)
      · rw [hb] at hv
        repeat' (first | with_reducible apply True.intro | ((first | ((with_reducible apply Nm.mk); focus ((try simp only [lns]); exact rfl)) | ((with_reducible apply Need.mk); focus (simp only [lns]; omega)) | ((with_reducible apply Elem.lst); focus omega) | (apply CallN.mk (hv)) | (with_reducible first | apply Bif.T | apply Bif.F) | ((with_reducible apply Bif.dec) <;> intro h <;> (try simp only [lns] at h) <;> (try (exfalso; omega))) | (with_reducible apply Bif.not) | (apply Same.bool; focus (with_reducible rfl)) | (with_reducible apply Frz.l)) <;> conv => whnf) | fail)
      · have ha : (l.take k).any (keyB · (gt l k)) = true := by
          cases h : (l.take k).any (keyB · (gt l k)) with
          | true => rfl
          | false => exact absurd ⟨hb, (any_take (p := (keyB · (gt l k))) (by omega)).1 h⟩ hx
        rw [hb] at hv
        simp only [ha] at hc
        repeat' (first | with_reducible apply True.intro | ((first | ((with_reducible apply Nm.mk); focus ((try simp only [lns]); exact rfl)) | ((with_reducible apply Need.mk); focus (simp only [lns]; omega)) | ((with_reducible apply Elem.lst); focus omega) | (apply CallN.mk (hv)) | (apply CallN.mk (hc _)) | (with_reducible first | apply Bif.T | apply Bif.F) | ((with_reducible apply Bif.dec) <;> intro h <;> (try simp only [lns] at h) <;> (try (exfalso; omega))) | (with_reducible apply Bif.not) | (apply Same.bool; focus (with_reducible rfl)) | (with_reducible apply Frz.l)) <;> conv => whnf) | fail)
  · have : validL l = true := validL_iff.2 ⟨by omega, fun i hi => he i (by omega)⟩
    rw [this]
    repeat' (first | with_reducible apply True.intro | ((first | ((with_reducible apply Bif.dec) <;> intro h <;> (try simp only [lns] at h) <;> (try (exfalso; omega))) | (apply Same.bool; focus (with_reducible rfl)) | (with_reducible apply Frz.l)) <;> conv => whnf) | fail)
end Go.Fw

/- Expire, both sides. -/
namespace Go.Fw
open Go.Proofs
set_option maxHeartbeats 8000000
set_option maxRecDepth 4000
/-- With slices of which the room is known. -/
abbrev frgC (f : Frg) : SV := frgT ⟨some f.data.length, false⟩ f
abbrev bufC (b : Buf) : SV := bufT ⟨some b.parts.length, false⟩ b (lst frgC b.parts)
theorem k_cloned (f : Frg) (t : Tg) (hl : f.data.length ≤ 1000000) : Con Tryz.prog 100 [frgT t f] [] (.agg [int f.size, .v (.int .u16 f.tag), int f.off, .ov 1 0 0 f.data.length]) [.arr (some f.data.length) 1 (lst b8 f.data)] := by
  have e1 : List.take f.data.length f.data = f.data := List.take_length
  refine spec_of_run ttok mixed (T0 := 15) (ts := [.cell 2 120]) 15 rfl rfl rfl rfl (by simp) rfl ?_
  conv => whnf
  repeat' (first | with_reducible apply True.intro | ((apply Same.mk); (focus (simp [lst]; done)); (conv => whnf)) | ((first | (with_reducible apply Nm.rep _ (b8_zero)) | ((with_reducible apply Nm.mk); focus ((try simp only [lns, e1, Nat.min_self]); exact rfl)) | ((with_reducible apply Need.mk); focus first | (simp only [lns, e1, Nat.min_self]; omega) | (unfold roomOK; simp only [lns, e1, Nat.min_self]; omega)) | (with_reducible apply Frz.l)) <;> conv => whnf) | fail)
/-- What lies in the array while the parts are copied. -/
def zF : SV := .agg [int 0, .v (.int .u16 0), int 0, .v (.slice none 0 0)]
def rowsI (l : List Frg) (i : Nat) : List SV := lst frgC (l.take i) ++ List.replicate (l.length - i) zF
theorem rowsI_len (l : List Frg) {i : Nat} (h : i ≤ l.length) : (rowsI l i).length = l.length := by simp [rowsI, lst]; omega
theorem rowsI_zero (l : List Frg) : rowsI l 0 = List.replicate l.length zF := by simp [rowsI, lst]
theorem rowsI_all (l : List Frg) : rowsI l l.length = lst frgC l := by simp [rowsI]
theorem rowsI_get (l : List Frg) {i : Nat} (h : i < l.length) : (rowsI l i)[i]? = some zF := by
  have e1 : (lst frgC (l.take i)).length = i := by simp [lst]; omega
  rw [rowsI, List.getElem?_append_right (by omega), e1, Nat.sub_self, List.getElem?_replicate, if_pos (by omega)]
theorem rowsI_set (l : List Frg) {i : Nat} (h : i < l.length) : (rowsI l i).set i (frgC (gt l i)) = rowsI l (i + 1) := by
  have e1 : (lst frgC (l.take i)).length = i := by simp [lst]; omega
  rw [rowsI, List.set_append_right _ _ (by omega), e1, Nat.sub_self, show l.length - i = (l.length - (i + 1)) + 1 by omega, List.replicate_succ, List.set_cons_zero, rowsI, take_gt h, ← lst_snoc]
  simp
theorem expB_snoc {l : List Buf} {k : Nat} (h : k < l.length) (now : Int) : expB (l.take (k + 1)) now = expB (l.take k) now ++ if (gt l k).upto > now then [gt l k] else [] := by
  rw [expB, filter_snoc h]
  simp only [decide_eq_true_eq]
  rfl
theorem expB_len (l : List Buf) (now : Int) : (expB l now).length ≤ l.length := List.length_filter_le _ _
theorem validB_parts {b : Buf} (h : validB b = true) : b.parts.length ≤ 2047 ∧ ∀ f ∈ b.parts, okF f = true ∧ f.data.length ≤ 2047 := by
  simp only [validB, Bool.and_eq_true] at h
  have hp := (partsOK_iff.1 h.2.2.2.2).1
  refine ⟨hp.len, fun f hf => ?_⟩
  have := okF_iff.1 (hp.all f hf).1
  exact ⟨(hp.all f hf).1, by omega⟩
theorem k_xExpire (l : List Buf) (t : Tg) (hl : sizL l) (now : Int) : Con Tryz.prog 98 [.fs t 10 (lst bufV l), int now] [] (.tup [.ov 10 0 0 (expM l now).1.length, int (expM l now).2]) [.arr none 10 (lst bufC (expM l now).1)] := by
  have cV := k_Valid l t hl
  cases hv : validL l
  · rw [hv] at cV
    rw [show expM l now = ([], 1) by rw [expM, if_neg (by rw [hv]; simp)]]
    refine spec_of_run ttok mixed (T0 := 128987320179) (ts := [.tmp 4, .tmp 5]) 54 rfl rfl rfl rfl (by simp) rfl ?_
    conv => whnf
    repeat' (first | with_reducible apply True.intro | ((first | (apply CallN.mk (cV)) | (with_reducible apply Bif.F) | (with_reducible apply Bif.not) | (with_reducible apply Same.rfl) | (apply Same.int; focus rfl) | (apply Same.rfl) | (with_reducible apply Frz.l)) <;> conv => whnf) | fail)
  rw [hv] at cV
  have cT := k_rtime now
  by_cases hn : isTm now
  case neg =>
    rw [decide_eq_false hn] at cT
    rw [show expM l now = ([], 2) by rw [expM, if_pos hv, if_neg hn]]
    refine spec_of_run ttok mixed (T0 := 128987320179) (ts := [.tmp 4, .tmp 5]) 54 rfl rfl rfl rfl (by simp) rfl ?_
    conv => whnf
    repeat' (first | with_reducible apply True.intro | ((first | (apply CallN.mk (cV)) | (apply CallN.mk (cT)) | (with_reducible first | apply Bif.T | apply Bif.F) | (with_reducible apply Bif.not) | (with_reducible apply Same.rfl) | (apply Same.int; focus rfl) | (apply Same.rfl) | (with_reducible apply Frz.l)) <;> conv => whnf) | fail)
  rw [decide_eq_true hn] at cT
  rw [show expM l now = (expB l now, 0) by rw [expM, if_pos hv, if_pos hn]]
  have hvl := validL_iff.1 hv
  refine spec_of_run ttok mixed (T0 := 128987320179) (ts := [.tmp 4, .tmp 5]) 54 rfl rfl rfl rfl (by simp) rfl ?_
  conv => whnf
  repeat' (first | ((first | ((with_reducible apply Nm.mk); focus ((try simp only [lns]); exact rfl)) | (apply CallN.mk (cV)) | (apply CallN.mk (cT)) | (with_reducible apply Bif.T) | (with_reducible apply Bif.not) | (with_reducible apply Frz.l)) <;> conv => whnf) | fail)
  refine LoopN.adopt 6 10 rfl (by simp) ?_
  refine loop_keep ttok mixed (T0 := 128987320179) [1, 18, 19] (ι := {k : Nat // k ≤ l.length})
    (fun k => [(6, .ov 10 0 0 (expB (l.take k.1) now).length), (20, int (k.1 : Int))]) (fun k => [.arr none 10 (lst bufC (expB (l.take k.1) now))]) (fun k => l.length - k.1) ⟨0, by omega⟩ ?_
  conv => whnf
  repeat' (first | ((first | (with_reducible apply Same.rfl) | (apply Same.int; focus rfl) | (apply Same.ov; (focus rfl); focus rfl) | (apply Same.rfl) | (with_reducible apply Frz.l)) <;> conv => whnf) | fail)
  rintro ⟨k, hk⟩
  dsimp only
  have hck := expB_len (l.take k) now
  rw [List.length_take] at hck
  conv => whnf
  by_cases hkl : k < l.length
  · have e1 := expB_snoc hkl now
    obtain ⟨hp, hpf⟩ := validB_parts (hvl.2 k hkl).1
    by_cases hu : (gt l k).upto > now
    · rw [if_pos hu] at e1
      have e2 := congrArg List.length e1
      rw [List.length_append] at e2
      simp only [List.length_cons, List.length_nil] at e2
      generalize expB (l.take k) now = E at *
      repeat' (first | ((apply Nm.mk (rowsI_zero (gt l k).parts).symm); (conv => whnf)) | ((first | ((with_reducible apply Nm.mk); focus ((try simp only [lns]); exact rfl)) | ((with_reducible apply Need.mk); focus first | (simp only [lns]; omega) | (unfold roomOK; simp only [lns]; omega)) | ((with_reducible apply Elem.lst); focus omega) | ((with_reducible apply Bif.dec) <;> intro h <;> (try simp only [lns] at h) <;> (try (exfalso; omega))) | (with_reducible apply Frz.l)) <;> conv => whnf) | fail)
      refine loop_keep ttok mixed (T0 := 128987320179) [1, 18, 19, 20, 33, 34] (ι := {i : Nat // i ≤ (gt l k).parts.length})
        (fun i => [(6, .ov 10 0 0 E.length), (8, .pb 1 []), (9, .ov 4 2 0 (gt l k).parts.length), (35, int (i.1 : Int))]) (fun i => [.arr none 10 (lst bufC E), .cells (bufV (gt l k)), .arr (some (gt l k).parts.length) 4 (rowsI (gt l k).parts i.1)]) (fun i => (gt l k).parts.length - i.1) ⟨0, by omega⟩ ?_
      conv => whnf
      repeat' (first | ((apply Same.mk (rowsI_zero (gt l k).parts).symm); (conv => whnf)) | ((apply Same.mk rfl); (conv => whnf)) | ((with_reducible apply Frz.l) <;> conv => whnf) | fail)
      rintro ⟨i, hi⟩
      dsimp only
      have hri := rowsI_len (gt l k).parts hi
      conv => whnf
      by_cases hil : i < (gt l k).parts.length
      · obtain ⟨hf1, hf2⟩ := hpf _ (gt_mem hil)
        have cC := k_cloned (gt (gt l k).parts i) .no (by omega)
        repeat' (first | ((apply Elem.mk _ (rowsI_get _ hil)); (conv => whnf)) | ((first | ((with_reducible apply Nm.mk); focus ((try simp only [lns, hri]); exact rfl)) | ((with_reducible apply Wr.i64); focus omega) | ((with_reducible apply Need.mk); focus first | omega | (simp only [lns, hri]; omega)) | ((with_reducible apply Elem.lst); focus omega) | (apply CallN.mk (cC)) | ((with_reducible apply Bif.dec) <;> intro h <;> (try simp only [lns, hri] at h) <;> (try (exfalso; omega))) | (with_reducible apply Frz.l)) <;> conv => whnf) | fail)
        (refine ⟨⟨i + 1, hil⟩, ?_⟩; (try dsimp only); conv => whnf); repeat' (first | with_reducible apply True.intro | ((apply Same.mk (rowsI_set _ hil)); (conv => whnf)) | ((first | ((with_reducible apply Need.mk); focus omega) | (with_reducible apply Same.rfl) | (apply Same.int; focus rfl) | (with_reducible apply Turn.l) | (with_reducible apply Frz.l)) <;> conv => whnf) | fail)
      · have hii : i = (gt l k).parts.length := by omega
        subst hii
        rw [rowsI_all]
        have e3 : lst bufC E ++ [bufC (gt l k)] = lst bufC (expB (l.take (k + 1)) now) := by rw [e1]; simp [lst]
        repeat' (first | ((first | ((with_reducible apply Nm.mk); focus ((try simp only [lns]); exact rfl)) | ((with_reducible apply Wr.i64); focus omega) | ((with_reducible apply Need.mk); focus first | (simp only [lns]; omega) | (unfold roomOK; simp only [lns]; omega)) | ((with_reducible apply Bif.dec) <;> intro h <;> (try simp only [lns] at h) <;> (try (exfalso; omega))) | (with_reducible apply Alt.l) | (with_reducible apply Frz.l)) <;> conv => whnf) | fail)
        (refine ⟨⟨k + 1, by omega⟩, ?_⟩; (try dsimp only); conv => whnf); repeat' (first | with_reducible apply True.intro | ((apply Same.mk e3); (conv => whnf)) | ((apply Same.ov rfl e2.symm); (conv => whnf)) | ((first | ((with_reducible apply Need.mk); focus omega) | (with_reducible apply Same.rfl) | (apply Same.int; focus rfl) | (with_reducible apply Turn.l) | (with_reducible apply Frz.l)) <;> conv => whnf) | fail)
    · rw [if_neg hu, List.append_nil] at e1
      repeat' (first | ((first | ((with_reducible apply Nm.mk); focus ((try simp only [lns]); exact rfl)) | ((with_reducible apply Wr.i64); focus omega) | ((with_reducible apply Need.mk); focus (simp only [lns]; omega)) | ((with_reducible apply Elem.lst); focus omega) | ((with_reducible apply Bif.dec) <;> intro h <;> (try simp only [lns] at h) <;> (try (exfalso; omega))) | (with_reducible apply Frz.l)) <;> conv => whnf) | fail)
      (refine ⟨⟨k + 1, by omega⟩, ?_⟩; (try dsimp only); conv => whnf); repeat' (first | with_reducible apply True.intro | ((apply Same.mk (by rw [e1])); (conv => whnf)) | ((first | ((with_reducible apply Need.mk); focus omega) | (with_reducible apply Same.rfl) | (apply Same.int; focus rfl) | (with_reducible apply Turn.l) | (with_reducible apply Frz.l)) <;> conv => whnf) | fail)
  · have ek : l.take k = l := List.take_of_length_le (by omega)
    rw [ek]
    repeat' (first | with_reducible apply True.intro | ((first | ((with_reducible apply Bif.dec) <;> intro h <;> (try simp only [lns] at h) <;> (try (exfalso; omega))) | (with_reducible apply Same.rfl) | (apply Same.int; focus rfl) | (with_reducible apply Cut.l) | (with_reducible apply Frz.l)) <;> conv => whnf) | fail)
end Go.Fw
