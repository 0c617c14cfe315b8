/- The plain law of oracle.Cycle: marking a circle. -/
import Derived.Test.YtkmcmhohelgjfaaOraF
namespace Go.Fw
set_option maxRecDepth 4000
set_option maxHeartbeats 1000000
theorem onC_nx {l : List Int} {y : Int} (hy : inN y l.length) (h : onC l y = true) : inN (nx l y) l.length ∧ onC l (nx l y) = true := by
  obtain ⟨p, hp⟩ := of_onC hy h
  have h1 : inN (nx l y) l.length := cyc_in hy hp 1
  refine ⟨h1, onC_of (p := p) h1 ?_⟩
  have e : itx l (1 + (p + 1)) y = itx l (p + 1) (itx l 1 y) := itx_add l 1 (p + 1) y
  have e2 : itx l ((p + 1) + 1) y = itx l 1 (itx l (p + 1) y) := itx_add l (p + 1) 1 y
  rw [hp] at e2
  rw [show 1 + (p + 1) = (p + 1) + 1 by omega, e2] at e
  exact e.symm
structure CyC (l : List Int) (C0 C : List Bool) (i0 i : Int) : Prop where
  lc : C.length = l.length
  inn : inN i l.length
  re : ∃ k, itx l k i0 = i
  m1 : ∀ y, cAt C y = true → cAt C0 y = true ∨ ∃ k, itx l k i0 = y
  m2 : ∀ y, cAt C0 y = true → cAt C y = true
  cl : ∀ y, cAt C y = true → cAt C (nx l y) = true ∨ nx l y = i
  st : cAt C i0 = true ∨ i = i0
theorem CyC.start {l : List Int} {a : Nat} {W0 : List Int} {C : List Bool} {i0 : Int} (o : CyO l a W0 C) (hi : inN i0 l.length) : CyC l C C i0 i0 where
  lc := o.lc
  inn := hi
  re := ⟨0, rfl⟩
  m1 y h := .inl h
  m2 y h := h
  cl y h := by
    have hy : inN y l.length := by rw [← o.lc]; exact cAt_in h
    obtain ⟨h1, h2⟩ := (o.ci y).1 h
    obtain ⟨h3, h4⟩ := onC_nx hy h2
    exact .inl ((o.ci _).2 ⟨o.cl y h1 h3, h4⟩)
  st := .inr rfl
theorem CyC.next {l : List Int} {C0 C : List Bool} {i0 : Int} {k p : Nat} (c : CyC l C0 C i0 (k : Int)) (hk : k < l.length) (hi : inN i0 l.length) (hp : itx l (p + 1) i0 = i0) :
    CyC l C0 (C.set k true) i0 (nx l (k : Int)) := by
  have hs := fun y => cAt_set (C := C) (k := k) (by rw [c.lc]; exact hk) true y
  obtain ⟨m, hm⟩ := c.re
  have hn : itx l (m + 1) i0 = nx l (k : Int) := by show nx l (itx l m i0) = _; rw [hm]
  refine ⟨by rw [List.length_set]; exact c.lc, by rw [← hn]; exact cyc_in hi hp _, ⟨m + 1, hn⟩, fun y h => ?_, fun y h => ?_, fun y h => ?_, ?_⟩
  · rw [hs] at h
    by_cases e : y = (k : Int)
    · right; rw [e]; exact ⟨m, hm⟩
    · rw [if_neg e] at h; exact c.m1 y h
  · rw [hs]; split
    · rfl
    · exact c.m2 y h
  · rw [hs] at h ⊢
    by_cases e : y = (k : Int)
    · right; rw [e]
    · rw [if_neg e] at h
      left; split
      · rfl
      · rename_i hne
        rcases c.cl y h with h1 | h1
        · exact h1
        · exact absurd h1 hne
  · rw [hs]; left; split
    · rfl
    · rename_i hne
      rcases c.st with h1 | h1
      · exact h1
      · exact absurd h1.symm hne
theorem CyC.finish {l : List Int} {a : Nat} {W0 W : List Int} {C0 C : List Bool} {i0 i : Int} {p : Nat} (o : CyO l a W0 C0) (w : CyW l a W0 W i0) (ha : a < l.length)
    (hw : wAt W i0 = a + 1) (hp : itx l (p + 1) i0 = i0) (c : CyC l C0 C i0 i) (hc : cAt C i = true) : CyO l (a + 1) W C := by
  have hi0 : inN i0 l.length := by rw [← w.lw]; exact wAt_in (by omega)
  have wcl : ∀ y, wAt W y ≠ 0 → inN (nx l y) l.length → wAt W (nx l y) ≠ 0 := fun y h1 h2 => by
    rcases w.cl y h1 h2 with h | h
    · exact h
    · rw [h]; omega
  have ccl : ∀ y, cAt C y = true → cAt C (nx l y) = true := fun y h => by
    rcases c.cl y h with h1 | h1
    · exact h1
    · rw [h1]; exact hc
  have c0 : cAt C i0 = true := by
    rcases c.st with h | h
    · exact h
    · rw [← h]; exact hc
  have corb : ∀ m, cAt C (itx l m i0) = true := by
    intro m
    induction m with
    | zero => exact c0
    | succ m ih => exact ccl _ ih
  refine ⟨w.lw, c.lc, fun y => ?_, wcl, fun y h0 h1 => ?_, fun y => ⟨fun h => ?_, fun ⟨h1, h2⟩ => ?_⟩⟩
  · have := w.base y; have := o.lo y; omega
  · by_cases e : y < a
    · have h2 := o.al y h0 e
      rcases w.base y with h3 | h3
      · rw [h3]; exact h2
      · exact absurd h3.1 h2
    · have e : y = (a : Int) := by omega
      subst e
      rcases w.st with h3 | h3
      · exact h3
      · subst h3; omega
  · rcases c.m1 y h with h1 | ⟨k, h1⟩
    · obtain ⟨h2, h3⟩ := (o.ci y).1 h1
      refine ⟨?_, h3⟩
      rcases w.base y with h4 | h4
      · rw [h4]; exact h2
      · exact absurd h4.1 h2
    · have hy : inN y l.length := by rw [← h1]; exact cyc_in hi0 hp k
      refine ⟨by rw [← h1]; exact closed_itx w.lw wcl (by omega) k (by rw [h1]; exact hy), ?_⟩
      obtain ⟨m, hm⟩ := cyc_back hp h1
      refine onC_of (p := m + p + k) hy ?_
      rw [show m + p + k + 1 = m + ((p + 1) + k) by omega, itx_add, hm, itx_add, hp, h1]
  · have hy : inN y l.length := by rw [← w.lw]; exact wAt_in h1
    rcases w.base y with h3 | h3
    · exact c.m2 y ((o.ci y).2 ⟨by rw [← h3]; exact h1, h2⟩)
    · obtain ⟨k, hk⟩ := w.rc y h3.2
      obtain ⟨q, hq⟩ := of_onC hy h2
      obtain ⟨m, hm⟩ := cyc_back hq hk
      rw [← hm]; exact corb m
end Go.Fw
