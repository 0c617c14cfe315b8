/- The plain law of oracle.Cycle: its walks. -/
import Derived.Test.YtkmcmhohelgjfaaOraE
namespace Go.Fw
set_option maxRecDepth 4000
set_option maxHeartbeats 1000000
/-- what stands at a node -/
def wAt (W : List Int) (y : Int) : Int := if inN y W.length then W.getD y.toNat 0 else 0
def cAt (C : List Bool) (y : Int) : Bool := if inN y C.length then C.getD y.toNat false else false
theorem wAt_set {W : List Int} {k : Nat} (hk : k < W.length) (v y : Int) : wAt (W.set k v) y = if y = (k : Int) then v else wAt W y := by
  unfold wAt
  rw [List.length_set]
  by_cases h : inN y W.length
  · rw [if_pos h, if_pos h]
    obtain ⟨j, rfl⟩ : ∃ j : Nat, y = (j : Int) := ⟨y.toNat, by have := h.1; omega⟩
    simp only [Int.toNat_natCast, List.getD_eq_getElem?_getD, List.getElem?_set]
    by_cases e : k = j
    · subst e; simp [hk]
    · rw [if_neg e, if_neg (by omega)]
  · rw [if_neg h, if_neg h, if_neg (fun e => h ⟨by omega, by omega⟩)]
theorem cAt_set {C : List Bool} {k : Nat} (hk : k < C.length) (v : Bool) (y : Int) : cAt (C.set k v) y = if y = (k : Int) then v else cAt C y := by
  unfold cAt
  rw [List.length_set]
  by_cases h : inN y C.length
  · rw [if_pos h, if_pos h]
    obtain ⟨j, rfl⟩ : ∃ j : Nat, y = (j : Int) := ⟨y.toNat, by have := h.1; omega⟩
    simp only [Int.toNat_natCast, List.getD_eq_getElem?_getD, List.getElem?_set]
    by_cases e : k = j
    · subst e; simp [hk]
    · rw [if_neg e, if_neg (by omega)]
  · rw [if_neg h, if_neg h, if_neg (fun e => h ⟨by omega, by omega⟩)]
theorem wAt_in {W : List Int} {y : Int} (h : wAt W y ≠ 0) : inN y W.length := by
  unfold wAt at h; split at h
  · assumption
  · exact absurd rfl h
theorem cAt_in {C : List Bool} {y : Int} (h : cAt C y = true) : inN y C.length := by
  unfold cAt at h; split at h
  · assumption
  · cases h
/-- behind the walks from the first a nodes -/
structure CyO (l : List Int) (a : Nat) (W : List Int) (C : List Bool) : Prop where
  lw : W.length = l.length
  lc : C.length = l.length
  lo : ∀ y, wAt W y ≤ a
  cl : ∀ y, wAt W y ≠ 0 → inN (nx l y) l.length → wAt W (nx l y) ≠ 0
  al : ∀ y : Int, 0 ≤ y → y < a → wAt W y ≠ 0
  ci : ∀ y, cAt C y = true ↔ wAt W y ≠ 0 ∧ onC l y = true
/-- along one walk -/
structure CyW (l : List Int) (a : Nat) (W0 W : List Int) (i : Int) : Prop where
  lw : W.length = l.length
  base : ∀ y, wAt W y = wAt W0 y ∨ (wAt W0 y = 0 ∧ wAt W y = a + 1)
  cl : ∀ y, wAt W y ≠ 0 → inN (nx l y) l.length → wAt W (nx l y) ≠ 0 ∨ nx l y = i
  rc : ∀ y, wAt W y = a + 1 → ∃ k, itx l (k + 1) y = i
  st : wAt W a ≠ 0 ∨ i = a
theorem CyW.start {l : List Int} {a : Nat} {W : List Int} {C : List Bool} (o : CyO l a W C) : CyW l a W W a where
  lw := o.lw
  base _ := .inl rfl
  cl y h1 h2 := .inl (o.cl y h1 h2)
  rc y h := by have := o.lo y; omega
  st := .inr rfl
theorem CyW.next {l : List Int} {a : Nat} {W0 W : List Int} {k : Nat} (o : CyW l a W0 W (k : Int)) (hk : k < l.length) (hz : wAt W (k : Int) = 0) : CyW l a W0 (W.set k (a + 1)) (nx l (k : Int)) where
  lw := by rw [List.length_set]; exact o.lw
  base y := by
    rw [wAt_set (by rw [o.lw]; exact hk)]
    split
    · rename_i h; subst h
      have := o.base (k : Int)
      right; omega
    · exact o.base y
  cl y h1 h2 := by
    rw [wAt_set (by rw [o.lw]; exact hk)] at h1 ⊢
    by_cases e : y = (k : Int)
    · right; rw [e]
    · rw [if_neg e] at h1
      left
      split
      · omega
      · rename_i hne
        rcases o.cl y h1 h2 with h | h
        · exact h
        · exact absurd h hne
  rc y h := by
    rw [wAt_set (by rw [o.lw]; exact hk)] at h
    by_cases e : y = (k : Int)
    · exact ⟨0, by rw [e]; rfl⟩
    · rw [if_neg e] at h
      obtain ⟨m, hm⟩ := o.rc y h
      exact ⟨m + 1, by show nx l (itx l (m + 1) y) = _; rw [hm]⟩
  st := by
    rw [wAt_set (by rw [o.lw]; exact hk)]
    left
    split
    · omega
    · rename_i hne
      rcases o.st with h | h
      · exact h
      · exact absurd h.symm hne
theorem closed_itx {l W : List Int} (_ : W.length = l.length) (cl : ∀ y, wAt W y ≠ 0 → inN (nx l y) l.length → wAt W (nx l y) ≠ 0) {z : Int} (hz : wAt W z ≠ 0) (m : Nat) (hi : inN (itx l m z) l.length) : wAt W (itx l m z) ≠ 0 := by
  induction m with
  | zero => exact hz
  | succ m ih =>
    by_cases h : inN (itx l m z) l.length
    · exact cl _ (ih h) hi
    · have : itx l (m + 1) z = itx l m z := nx_out h
      rw [this] at hi; exact absurd hi h
/-- The walk ends elsewhere than in itself: no new circle. -/
theorem CyW.skip {l : List Int} {a : Nat} {W0 W : List Int} {C : List Bool} {i : Int} (o : CyO l a W0 C) (w : CyW l a W0 W i) (ha : a < l.length)
    (h : ¬ inN i l.length ∨ (inN i l.length ∧ wAt W i ≠ 0 ∧ wAt W i ≠ a + 1)) : CyO l (a + 1) W C where
  lw := w.lw
  lc := o.lc
  lo y := by have := w.base y; have := o.lo y; omega
  cl y h1 h2 := by
    rcases w.cl y h1 h2 with h3 | h3
    · exact h3
    · rcases h with h | h
      · rw [h3] at h2; exact absurd h2 h
      · rw [h3]; exact h.2.1
  al y h0 h1 := by
    by_cases e : y < a
    · have h2 := o.al y h0 e
      rcases w.base y with h3 | h3
      · rw [h3]; exact h2
      · exact absurd h3.1 h2
    · have e : y = (a : Int) := by omega
      subst e
      rcases w.st with h3 | h3
      · exact h3
      · subst h3
        rcases h with h | h
        · exact absurd ⟨by omega, by omega⟩ h
        · exact h.2.1
  ci y := by
    rw [o.ci y]
    constructor
    · rintro ⟨h1, h2⟩
      refine ⟨?_, h2⟩
      rcases w.base y with h3 | h3
      · rw [h3]; exact h1
      · exact absurd h3.1 h1
    · rintro ⟨h1, h2⟩
      refine ⟨fun h3 => ?_, h2⟩
      have h4 : wAt W y = a + 1 := by rcases w.base y with h5 | h5 <;> omega
      have hy : inN y l.length := by rw [← w.lw]; exact wAt_in h1
      obtain ⟨k, hk⟩ := w.rc y h4
      obtain ⟨p, hp⟩ := of_onC hy h2
      obtain ⟨m, hm⟩ := cyc_back hp hk
      rcases h with h | h
      · rw [itx_out h] at hm
        rw [hm] at h; exact h hy
      · have h5 : wAt W0 i ≠ 0 := by rcases w.base i with h6 | h6 <;> omega
        have := closed_itx o.lw o.cl h5 m (by rw [hm]; exact hy)
        rw [hm] at this
        exact this h3
end Go.Fw
