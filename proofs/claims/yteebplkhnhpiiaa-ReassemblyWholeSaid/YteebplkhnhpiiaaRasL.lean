/- The reference's with. -/
import Derived.Test.YteebplkhnhpiiaaRasK
namespace Go.Fw
open Go.Proofs
set_option maxHeartbeats 8000000
set_option maxRecDepth 4000
theorem eqP_same {s g b : Int} {l : List Frg} (hP : Parts s g b l) {f : Frg} (hs : f.size = s) (hg : f.tag = g) {i : Nat} (hi : i < l.length) : decide (gt l i = f) = eqP (gt l i) f := by
  have h := hP.all _ (gt_mem hi)
  rw [Bool.eq_iff_iff, decide_eq_true_eq, eqP, decide_eq_true_eq, frg_iff]
  exact ⟨fun h => ⟨h.2.2.1, h.2.2.2⟩, fun h2 => ⟨by rw [h.2.1, hs], by rw [h.2.2.1, hg], h2.1, h2.2⟩⟩
theorem any_snoc {α : Type} [Inhabited α] {p : α → Bool} {l : List α} {k : Nat} (h : k < l.length) : (l.take (k + 1)).any p = ((l.take k).any p || p (gt l k)) := by
  rw [take_gt h, List.any_append]; simp
abbrev bufO (b : Buf) (k : Nat) : SV := .agg [adrV b.src, adrV b.dst, .v (.int .u16 b.tag), int b.size, .ov 4 k 0 b.parts.length, int b.upto]
/-- The zero buffer. -/
abbrev zB : SV := .agg [adrV ⟨0, 0, 0⟩, adrV ⟨0, 0, 0⟩, .v (.int .u16 0), int 0, .v (.slice none 0 0), int 0]
section
variable (b fr : Buf) (f : Frg) (hP : Parts f.size f.tag 0 b.parts) (hf : okF f = true)
include hP hf
theorem k_withSame (hc : b.parts.any (eqP · f) = true) : Con Try.prog 48 [bufV b, frgV f, bufO fr 0] [.arr (some 1) 4 (lst frgV fr.parts)] (bufV b) [] := by
  have hl := hP.len
  have hff := okF_iff.1 hf
  refine spec_of_run ttok mixed (T0 := 17184072191) (ts := [.cell 6 41]) 42 rfl rfl rfl rfl (by simp) rfl ?_
  conv => whnf
  repeat' (first | ((with_reducible apply Frz.l) <;> conv => whnf) | fail)
  refine loop_keep ttok mixed (T0 := 17184072191) [] (ι := {k : Nat // k ≤ b.parts.length ∧ ∀ j, j < k → eqP (gt b.parts j) f = false})
    (fun k => [(3, .pb 1 []), (4, .pb 2 []), (5, .pb 3 []), (6, .pb 4 []), (7, bool ((b.parts.take k.1).any (ovl · f))), (8, int (k.1 : Int))]) (fun _ => [.arr (some 1) 4 (lst frgV fr.parts), .cells (bufV b), .cells (frgV f), .cells (bufO fr 0), .cells zB]) (fun k => b.parts.length - k.1) ⟨0, by omega, none_lt⟩ ?_
  conv => whnf
  repeat' (first | ((apply Same.mk rfl); (conv => whnf)) | ((with_reducible apply Frz.l) <;> conv => whnf) | fail)
  rintro ⟨k, hk, he⟩
  dsimp only
  conv => whnf
  by_cases hkl : k < b.parts.length
  · have hpk := hP.ok hkl
    have cS := k_fSame (gt b.parts k) f .no .no (by have := okF_iff.1 hpk; omega)
    have cO := k_overlap (gt b.parts k) f .no .no (okF.rng hpk) (okF.rng hf)
    have ha := any_snoc (p := (ovl · f)) hkl
    rw [eqP_same hP rfl rfl hkl] at cS
    cases heq : eqP (gt b.parts k) f
    · rw [heq] at cS
      repeat' (first | ((first | ((with_reducible apply Nm.mk); focus ((try simp only [lns]); exact rfl)) | ((with_reducible apply Wr.i64); focus omega) | ((with_reducible apply Need.mk); focus first | (simp only [lns]; omega) | kernel_rfl) | ((with_reducible apply Elem.lst); focus omega) | (apply CallN.mk (cS)) | (apply CallN.mk (cO)) | (with_reducible first | apply Bif.T | apply Bif.F) | ((with_reducible apply Bif.dec) <;> intro h <;> (try simp only [lns] at h) <;> (try (exfalso; omega))) | ((with_reducible apply Bif.mk) <;> intro h) | (with_reducible apply Frz.l)) <;> conv => whnf) | fail)
      all_goals ((refine ⟨⟨k + 1, hkl, step_lt he heq⟩, ?_⟩; (try dsimp only); conv => whnf); repeat' (first | with_reducible apply True.intro | ((apply Same.bool (by rw [ha]; simp_all)); (conv => whnf)) | ((first | ((with_reducible apply Need.mk); focus omega) | (with_reducible apply Same.rfl) | (apply Same.int; focus rfl) | (with_reducible apply Turn.l) | (with_reducible apply Frz.l)) <;> conv => whnf) | fail))
    · rw [heq] at cS
      repeat' (first | with_reducible apply True.intro | ((first | ((with_reducible apply Nm.mk); focus ((try simp only [lns]); exact rfl)) | ((with_reducible apply Need.mk); focus first | (simp only [lns]; omega) | kernel_rfl) | ((with_reducible apply Elem.lst); focus omega) | (apply CallN.mk (cS)) | (with_reducible apply Bif.T) | ((with_reducible apply Bif.dec) <;> intro h <;> (try simp only [lns] at h) <;> (try (exfalso; omega))) | (with_reducible apply Same.rfl) | (with_reducible apply Frz.l)) <;> conv => whnf) | fail)
  · have hkn : k = b.parts.length := by omega
    subst hkn
    rw [List.take_length]
    obtain ⟨p, hp, hq⟩ := List.any_eq_true.1 hc
    obtain ⟨j, hj, rfl⟩ := List.mem_iff_getElem.1 hp
    rw [← gt_eq hj, he j hj] at hq
    cases hq
theorem k_withClash (hn : b.parts.any (eqP · f) = false) (hc : b.parts.any (ovl · f) = true) : Con Try.prog 48 [bufV b, frgV f, bufO fr 0] [.arr (some 1) 4 (lst frgV fr.parts)] (bufO fr 0) [.arr (some 1) 4 (lst frgV fr.parts)] := by
  have hl := hP.len
  have hff := okF_iff.1 hf
  refine spec_of_run ttok mixed (T0 := 17184072191) (ts := [.cell 6 41]) 42 rfl rfl rfl rfl (by simp) rfl ?_
  conv => whnf
  repeat' (first | ((with_reducible apply Frz.l) <;> conv => whnf) | fail)
  refine loop_keep ttok mixed (T0 := 17184072191) [] (ι := {k : Nat // k ≤ b.parts.length ∧ ∀ j, j < k → eqP (gt b.parts j) f = false})
    (fun k => [(3, .pb 1 []), (4, .pb 2 []), (5, .pb 3 []), (6, .pb 4 []), (7, bool ((b.parts.take k.1).any (ovl · f))), (8, int (k.1 : Int))]) (fun _ => [.arr (some 1) 4 (lst frgV fr.parts), .cells (bufV b), .cells (frgV f), .cells (bufO fr 0), .cells zB]) (fun k => b.parts.length - k.1) ⟨0, by omega, none_lt⟩ ?_
  conv => whnf
  repeat' (first | ((apply Same.mk rfl); (conv => whnf)) | ((with_reducible apply Frz.l) <;> conv => whnf) | fail)
  rintro ⟨k, hk, he⟩
  dsimp only
  conv => whnf
  by_cases hkl : k < b.parts.length
  · have hpk := hP.ok hkl
    have cS := k_fSame (gt b.parts k) f .no .no (by have := okF_iff.1 hpk; omega)
    have cO := k_overlap (gt b.parts k) f .no .no (okF.rng hpk) (okF.rng hf)
    have ha := any_snoc (p := (ovl · f)) hkl
    rw [eqP_same hP rfl rfl hkl] at cS
    cases heq : eqP (gt b.parts k) f
    · rw [heq] at cS
      repeat' (first | ((first | ((with_reducible apply Nm.mk); focus ((try simp only [lns]); exact rfl)) | ((with_reducible apply Wr.i64); focus omega) | ((with_reducible apply Need.mk); focus first | (simp only [lns]; omega) | kernel_rfl) | ((with_reducible apply Elem.lst); focus omega) | (apply CallN.mk (cS)) | (apply CallN.mk (cO)) | (with_reducible first | apply Bif.T | apply Bif.F) | ((with_reducible apply Bif.dec) <;> intro h <;> (try simp only [lns] at h) <;> (try (exfalso; omega))) | ((with_reducible apply Bif.mk) <;> intro h) | (with_reducible apply Frz.l)) <;> conv => whnf) | fail)
      all_goals ((refine ⟨⟨k + 1, hkl, step_lt he heq⟩, ?_⟩; (try dsimp only); conv => whnf); repeat' (first | with_reducible apply True.intro | ((apply Same.bool (by rw [ha]; simp_all)); (conv => whnf)) | ((first | ((with_reducible apply Need.mk); focus omega) | (with_reducible apply Same.rfl) | (apply Same.int; focus rfl) | (with_reducible apply Turn.l) | (with_reducible apply Frz.l)) <;> conv => whnf) | fail))
    · rw [heq] at cS
      rw [List.any_eq_false] at hn
      exact absurd heq (by simpa using hn _ (gt_mem hkl))
  · have hkn : k = b.parts.length := by omega
    subst hkn
    rw [List.take_length]
    rw [hc]
    repeat' (first | with_reducible apply True.intro | ((first | ((with_reducible apply Nm.mk); focus ((try simp only [lns]); exact rfl)) | (with_reducible apply Bif.T) | ((with_reducible apply Bif.dec) <;> intro h <;> (try simp only [lns] at h) <;> (try (exfalso; omega))) | (with_reducible apply Same.rfl) | (with_reducible apply Frz.l)) <;> conv => whnf) | fail)
theorem k_withIns (hn : b.parts.any (eqP · f) = false) (hc : b.parts.any (ovl · f) = false) : Con Try.prog 48 [bufV b, frgV f, bufO fr 0] [.arr (some 1) 4 (lst frgV fr.parts)] (bufO ⟨b.src, b.dst, b.tag, b.size, insF f b.parts, b.upto⟩ 0) [.arr none 4 (lst frgV (insF f b.parts))] := by
  have hl := hP.len
  have hff := okF_iff.1 hf
  refine spec_of_run ttok mixed (T0 := 17184072191) (ts := [.cell 6 41]) 42 rfl rfl rfl rfl (by simp) rfl ?_
  conv => whnf
  repeat' (first | ((with_reducible apply Frz.l) <;> conv => whnf) | fail)
  refine loop_keep ttok mixed (T0 := 17184072191) [] (ι := {k : Nat // k ≤ b.parts.length ∧ ∀ j, j < k → eqP (gt b.parts j) f = false})
    (fun k => [(3, .pb 1 []), (4, .pb 2 []), (5, .pb 3 []), (6, .pb 4 []), (7, bool ((b.parts.take k.1).any (ovl · f))), (8, int (k.1 : Int))]) (fun _ => [.arr (some 1) 4 (lst frgV fr.parts), .cells (bufV b), .cells (frgV f), .cells (bufO fr 0), .cells zB]) (fun k => b.parts.length - k.1) ⟨0, by omega, none_lt⟩ ?_
  conv => whnf
  repeat' (first | ((apply Same.mk rfl); (conv => whnf)) | ((with_reducible apply Frz.l) <;> conv => whnf) | fail)
  rintro ⟨k, hk, he⟩
  dsimp only
  conv => whnf
  by_cases hkl : k < b.parts.length
  · have hpk := hP.ok hkl
    have cS := k_fSame (gt b.parts k) f .no .no (by have := okF_iff.1 hpk; omega)
    have cO := k_overlap (gt b.parts k) f .no .no (okF.rng hpk) (okF.rng hf)
    have ha := any_snoc (p := (ovl · f)) hkl
    rw [eqP_same hP rfl rfl hkl] at cS
    cases heq : eqP (gt b.parts k) f
    · rw [heq] at cS
      repeat' (first | ((first | ((with_reducible apply Nm.mk); focus ((try simp only [lns]); exact rfl)) | ((with_reducible apply Wr.i64); focus omega) | ((with_reducible apply Need.mk); focus first | (simp only [lns]; omega) | kernel_rfl) | ((with_reducible apply Elem.lst); focus omega) | (apply CallN.mk (cS)) | (apply CallN.mk (cO)) | (with_reducible first | apply Bif.T | apply Bif.F) | ((with_reducible apply Bif.dec) <;> intro h <;> (try simp only [lns] at h) <;> (try (exfalso; omega))) | ((with_reducible apply Bif.mk) <;> intro h) | (with_reducible apply Frz.l)) <;> conv => whnf) | fail)
      all_goals ((refine ⟨⟨k + 1, hkl, step_lt he heq⟩, ?_⟩; (try dsimp only); conv => whnf); repeat' (first | with_reducible apply True.intro | ((apply Same.bool (by rw [ha]; simp_all)); (conv => whnf)) | ((first | ((with_reducible apply Need.mk); focus omega) | (with_reducible apply Same.rfl) | (apply Same.int; focus rfl) | (with_reducible apply Turn.l) | (with_reducible apply Frz.l)) <;> conv => whnf) | fail))
    · rw [heq] at cS
      rw [List.any_eq_false] at hn
      exact absurd heq (by simpa using hn _ (gt_mem hkl))
  · have hkn : k = b.parts.length := by omega
    subst hkn
    rw [List.take_length]
    rw [hc]
    have hno : ∀ j, j < b.parts.length → ovl (gt b.parts j) f = false := fun j hj => by
      rw [List.any_eq_false] at hc
      simpa using hc _ (gt_mem hj)
    have cI := k_rInsert b.parts f .no hP hf hP.len hno
    have hpl := posF_le f b.parts
    have hil : (insF f b.parts).length = b.parts.length + 1 := by simp [insF]; omega
    repeat' (first | with_reducible apply True.intro | ((first | ((with_reducible apply Nm.mk); focus ((try simp only [lns]); exact rfl)) | (apply CallN.mk (cI)) | (with_reducible apply Bif.F) | ((with_reducible apply Bif.dec) <;> intro h <;> (try simp only [lns] at h) <;> (try (exfalso; omega))) | (with_reducible apply Same.rfl) | ((with_reducible apply Same.mk); focus (simp only [lns]; omega)) | (with_reducible apply Cut.l) | (with_reducible apply Frz.l)) <;> conv => whnf) | fail)
end
end Go.Fw
