/- What the reference's Add calls. -/
import Derived.Test.YteebplkhnhpiiaaRasJ
namespace Go.Fw
open Go.Proofs
set_option maxHeartbeats 8000000
set_option maxRecDepth 4000
theorem k_copiedO (l : List Frg) (c : Nat) (hl : l.length ≤ 1000000) (hd : ∀ f ∈ l, f.data.length ≤ 1000000) : Con Try.prog 45 [.ov 4 0 0 l.length] [.arr (some c) 4 (lst frgV l)] (.ov 4 0 0 l.length) [.arr none 4 (lst frgV l)] := by
  refine spec_of_run ttok mixed (T0 := 573) (ts := [.tmp 2]) 26 rfl rfl rfl rfl (by simp) rfl ?_
  conv => whnf
  repeat' (first | ((with_reducible apply Frz.l) <;> conv => whnf) | fail)
  refine LoopN.adopt 3 4 rfl (by simp) ?_
  refine loop_keep ttok mixed (T0 := 573) [] (ι := {k : Nat // k ≤ l.length})
    (fun k => [(0, .ov 4 0 0 l.length), (3, .ov 4 1 0 k.1), (4, int (k.1 : Int))]) (fun k => [.arr (some c) 4 (lst frgV l), .arr none 4 (lst frgV (l.take k.1))]) (fun k => l.length - k.1) ⟨0, by omega⟩ ?_
  conv => whnf
  repeat' (first | ((apply Same.mk rfl); (conv => whnf)) | ((with_reducible apply Frz.l) <;> conv => whnf) | fail)
  rintro ⟨k, hk⟩
  dsimp only
  conv => whnf
  by_cases hkl : k < l.length
  · have hf := hd _ (gt_mem hkl)
    have e3 : lst frgV (l.take k) ++ [SV.agg [int (gt l k).size, .v (.int .u16 (gt l k).tag), int (gt l k).off, .fs ⟨none, false⟩ 1 (List.take (gt l k).data.length ([] ++ lst b8 (gt l k).data))]] = lst frgV (l.take (k + 1)) := by
      rw [List.nil_append, lst_take, List.take_length, take_gt hkl, ← lst_snoc]; rfl
    repeat' (first | ((first | ((with_reducible apply Nm.mk); focus ((try simp only [lns]); exact rfl)) | ((with_reducible apply Wr.i64); focus omega) | ((with_reducible apply Need.mk); focus first | omega | (simp only [lns]; omega) | (unfold roomOK; simp only [lns]; omega)) | ((with_reducible apply Elem.lst); focus omega) | ((with_reducible apply Bif.dec) <;> intro h <;> (try simp only [lns] at h) <;> (try (exfalso; omega))) | (with_reducible apply Alt.l) | (with_reducible apply Frz.l)) <;> conv => whnf) | fail)
    (refine ⟨⟨k + 1, by omega⟩, ?_⟩; (try dsimp only); conv => whnf); repeat' (first | with_reducible apply True.intro | ((apply Same.mk e3); (conv => whnf)) | ((apply Same.mk rfl); (conv => whnf)) | ((first | ((with_reducible apply Need.mk); focus omega) | (apply Same.ov; (focus rfl); focus omega) | (with_reducible apply Turn.l) | (with_reducible apply Frz.l)) <;> conv => whnf) | fail)
  · have ek : k = l.length := by omega
    subst ek
    rw [show l.take l.length = l from List.take_length]
    repeat' (first | with_reducible apply True.intro | ((first | ((with_reducible apply Bif.dec) <;> intro h <;> (try simp only [lns] at h) <;> (try (exfalso; omega))) | (with_reducible apply Same.rfl) | (with_reducible apply Cut.l) | (with_reducible apply Frz.l)) <;> conv => whnf) | fail)
theorem k_rInsert (l : List Frg) (f : Frg) (t : Tg) {s g b : Int} (hP : Parts s g b l) (hf : okF f = true) (hl : l.length ≤ 2047) (hno : ∀ j, j < l.length → ovl (gt l j) f = false) :
    Con Try.prog 64 [.fs t 4 (lst frgV l), frgV f] [] (.ov 4 0 0 (l.length + 1)) [.arr none 4 (lst frgV (insF f l))] := by
  have hpl := posF_le f l
  have hpi := fun i hi => @posF_iff s g b l hP f i hi
  have hins : insF f l = l.take (posF f l) ++ [f] ++ l.drop (posF f l) := rfl
  have hne : ∀ j, j < l.length → (gt l j).off ≠ f.off := fun j hj e => by
    have := hno j hj
    rw [ovl_ff] at this
    have h1 := okF_iff.1 (hP.ok hj)
    have h2 := okF_iff.1 hf
    omega
  generalize posF f l = a at *
  have hOI := outR_ins (l := l) (x := f) hpl
  refine spec_of_run ttok mixed (T0 := 274911463675) (ts := [.tmp 4]) 44 rfl rfl rfl rfl (by simp) rfl ?_
  conv => whnf
  repeat' (first | ((with_reducible apply Frz.l) <;> conv => whnf) | fail)
  refine LoopN.adopt 5 4 rfl (by simp) ?_
  refine loop_keep ttok mixed (T0 := 274911463675) [0] (ι := {k : Nat // k ≤ l.length})
    (fun k => [(3, .pb 0 []), (5, .ov 4 1 0 (outR l a false f k.1).length), (6, bool (decide (a < k.1))), (7, int (k.1 : Int))]) (fun k => [.cells (frgV f), .arr none 4 (lst frgV (outR l a false f k.1))]) (fun k => l.length - k.1) ⟨0, by omega⟩ ?_
  conv => whnf
  repeat' (first | ((apply Same.mk (by rw [outR_le (Nat.zero_le a)]; rfl)); (conv => whnf)) | ((apply Same.bool (by simp)); (conv => whnf)) | ((apply Same.mk rfl); (conv => whnf)) | ((with_reducible apply Frz.l) <;> conv => whnf) | fail)
  rintro ⟨k, hk⟩
  dsimp only
  have hol := outR_len (x := f) (f := false) hpl hk
  conv => whnf
  by_cases hkl : k < l.length
  · have hki := hpi k hkl
    have hnk := hne k hkl
    rcases Nat.lt_trichotomy k a with hka | hka | hka
    · have e1 := outR_lo (f := false) (x := f) hka hkl
      have e2 := congrArg List.length e1
      rw [List.length_append] at e2
      simp only [List.length_cons, List.length_nil] at e2
      have hlt := hki.1 hka
      repeat' (first | ((first | ((with_reducible apply Nm.mk); focus ((try simp only [lns]); exact rfl)) | ((with_reducible apply Wr.i64); focus omega) | ((with_reducible apply Need.mk); focus first | (simp only [lns]; omega) | kernel_rfl | (unfold roomOK; simp only [lns]; omega)) | ((with_reducible apply Elem.lst); focus omega) | (with_reducible apply Bif.T) | ((with_reducible apply Bif.dec) <;> intro h <;> (try simp only [lns] at h) <;> (try (exfalso; omega))) | (with_reducible apply Bif.not) | (with_reducible apply Alt.l) | (with_reducible apply Frz.l)) <;> conv => whnf) | fail)
      all_goals ((refine ⟨⟨k + 1, hkl⟩, ?_⟩; (try dsimp only); conv => whnf); repeat' (first | with_reducible apply True.intro | ((apply Same.mk (by rw [e1]; simp [lst]; rfl)); (conv => whnf)) | ((apply Same.ov rfl e2.symm); (conv => whnf)) | ((apply Same.bool (by simp; omega)); (conv => whnf)) | ((first | ((with_reducible apply Need.mk); focus omega) | (with_reducible apply Same.rfl) | (apply Same.int; focus rfl) | (with_reducible apply Turn.l) | (with_reducible apply Frz.l)) <;> conv => whnf) | fail))
    · subst hka
      have e1 := outR_mid0 (x := f) hkl
      have e2 := congrArg List.length e1
      rw [List.length_append, List.length_append] at e2
      simp only [List.length_cons, List.length_nil] at e2
      have hlt : ¬ (gt l k).off < f.off := fun h => absurd (hki.2 h) (by omega)
      repeat' (first | ((first | ((with_reducible apply Nm.mk); focus ((try simp only [lns]); exact rfl)) | ((with_reducible apply Wr.i64); focus omega) | ((with_reducible apply Need.mk); focus first | (simp only [lns]; omega) | kernel_rfl | (unfold roomOK; simp only [lns]; omega)) | ((with_reducible apply Elem.lst); focus omega) | (with_reducible apply Bif.T) | ((with_reducible apply Bif.dec) <;> intro h <;> (try simp only [lns] at h) <;> (try (exfalso; omega))) | (with_reducible apply Bif.not) | (with_reducible apply Alt.l) | (with_reducible apply Frz.l)) <;> conv => whnf) | fail)
      all_goals ((refine ⟨⟨k + 1, hkl⟩, ?_⟩; (try dsimp only); conv => whnf); repeat' (first | with_reducible apply True.intro | ((apply Same.mk (by rw [e1]; simp [lst]; exact ⟨rfl, rfl⟩)); (conv => whnf)) | ((apply Same.ov rfl (by omega)); (conv => whnf)) | ((apply Same.bool (by simp)); (conv => whnf)) | ((first | ((with_reducible apply Need.mk); focus omega) | (with_reducible apply Same.rfl) | (apply Same.int; focus rfl) | (with_reducible apply Turn.l) | (with_reducible apply Frz.l)) <;> conv => whnf) | fail))
    · have e1 := outR_hi (f := false) (x := f) hka hkl
      have e2 := congrArg List.length e1
      rw [List.length_append] at e2
      simp only [List.length_cons, List.length_nil] at e2
      repeat' (first | ((first | ((with_reducible apply Nm.mk); focus ((try simp only [lns]); exact rfl)) | ((with_reducible apply Wr.i64); focus omega) | ((with_reducible apply Need.mk); focus first | (simp only [lns]; omega) | kernel_rfl | (unfold roomOK; simp only [lns]; omega)) | ((with_reducible apply Elem.lst); focus omega) | (with_reducible apply Bif.F) | ((with_reducible apply Bif.dec) <;> intro h <;> (try simp only [lns] at h) <;> (try (exfalso; omega))) | (with_reducible apply Bif.not) | (with_reducible apply Alt.l) | (with_reducible apply Frz.l)) <;> conv => whnf) | fail)
      all_goals ((refine ⟨⟨k + 1, hkl⟩, ?_⟩; (try dsimp only); conv => whnf); repeat' (first | with_reducible apply True.intro | ((apply Same.mk (by rw [e1]; simp [lst]; rfl)); (conv => whnf)) | ((apply Same.ov rfl e2.symm); (conv => whnf)) | ((apply Same.bool (by simp; omega)); (conv => whnf)) | ((first | ((with_reducible apply Need.mk); focus omega) | (with_reducible apply Same.rfl) | (apply Same.int; focus rfl) | (with_reducible apply Turn.l) | (with_reducible apply Frz.l)) <;> conv => whnf) | fail))
  · have hkn : k = l.length := by omega
    subst hkn
    have hlen : (l.take a ++ [f] ++ l.drop a).length = l.length + 1 := by simp; omega
    rw [hins, ← hOI]
    by_cases hal : l.length ≤ a
    · rw [if_pos hal] at hOI ⊢
      have e2 := congrArg List.length hOI
      rw [hlen, List.length_append] at e2
      simp only [List.length_cons, List.length_nil] at e2
      repeat' (first | with_reducible apply True.intro | ((apply Same.mk e2); (conv => whnf)) | ((apply Same.mk (by simp [lst]; rfl)); (conv => whnf)) | ((first | ((with_reducible apply Nm.mk); focus ((try simp only [lns]); exact rfl)) | ((with_reducible apply Need.mk); focus first | (simp only [lns]; omega) | (unfold roomOK; simp only [lns]; omega)) | ((with_reducible apply Bif.dec) <;> intro h <;> (try simp only [lns] at h) <;> (try (exfalso; omega))) | (with_reducible apply Bif.not) | (with_reducible apply Same.rfl) | (with_reducible first | apply Alt.l | apply Cut.l) | (with_reducible apply Frz.l)) <;> conv => whnf) | fail)
    · rw [if_neg hal] at hOI ⊢
      have e2 := congrArg List.length hOI
      rw [hlen] at e2
      repeat' (first | with_reducible apply True.intro | ((apply Same.mk e2); (conv => whnf)) | ((first | ((with_reducible apply Nm.mk); focus ((try simp only [lns]); exact rfl)) | ((with_reducible apply Bif.dec) <;> intro h <;> (try simp only [lns] at h) <;> (try (exfalso; omega))) | (with_reducible apply Bif.not) | (with_reducible apply Same.rfl) | (with_reducible apply Cut.l) | (with_reducible apply Frz.l)) <;> conv => whnf) | fail)
end Go.Fw
