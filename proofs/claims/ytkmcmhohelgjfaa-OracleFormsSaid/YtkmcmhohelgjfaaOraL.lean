/- The plain law of Distances: Dijkstra's rounds. -/
import Derived.Test.YtkmcmhohelgjfaaOraK
namespace Go.Fw
set_option maxRecDepth 4000
set_option maxHeartbeats 1000000
structure Dij (m : List (List Int)) (to : Nat) (d : List Int) (D : List Bool) : Prop where
  ld : d.length = m.length
  lD : D.length = m.length
  range : ∀ i, i < m.length → 0 ≤ gt d i ∧ gt d i ≤ 65535
  zero : gt d to = 0
  rel : ∀ i k, i < m.length → k < m.length → gt D k = true → gt d i ≤ addM (costT m i k) (gt d k)
  ord : ∀ i j, i < m.length → j < m.length → gt D i = true → gt D j = false → gt d i ≤ gt d j
  par : ∀ i, i < m.length → i ≠ to → gt d i < 65535 → ∃ k, k < m.length ∧ gt D k = true ∧ gt d i = addM (costT m i k) (gt d k)
/-- No node is near any more. -/
theorem Dij.done {m : List (List Int)} {to : Nat} {d : List Int} {D : List Bool} (j : Dij m to d D) (h : ∀ i, i < m.length → gt D i = true ∨ gt d i = 65535) : Bell m to d where
  len := j.ld
  range := j.range
  zero := j.zero
  le i k hi hk := by
    rcases h k hk with h1 | h1
    · exact j.rel i k hi hk h1
    · rw [addM_cost (costT_range m i k) (j.range k hk), h1]
      have := costT_range m i k; have := j.range i hi
      omega
  eq i hi h0 h1 := by
    obtain ⟨k, hk, _, h2⟩ := j.par i hi h0 h1
    exact ⟨k, hk, h2⟩
/-- what the round makes of the distances -/
def relax (m : List (List Int)) (d : List Int) (D : List Bool) (near n : Nat) : List Int :=
  (List.range m.length).map fun i => if i < n ∧ gt D i = false then min (gt d i) (addM (costT m i near) (gt d near)) else gt d i
theorem relax_gd {m : List (List Int)} {d : List Int} {D : List Bool} {near n i : Nat} (hi : i < m.length) :
    gt (relax m d D near n) i = if i < n ∧ gt D i = false then min (gt d i) (addM (costT m i near) (gt d near)) else gt d i := by
  simp [gt, relax, hi]
theorem dn_set {D : List Bool} {k : Nat} (hk : k < D.length) (i : Nat) : gt (D.set k true) i = if i = k then true else gt D i := by
  simp only [gt, List.getD_eq_getElem?_getD, List.getElem?_set]
  by_cases e : k = i
  · subst e; simp [hk]
  · rw [if_neg e, if_neg (fun h => e h.symm)]
theorem Dij.next {m : List (List Int)} {to : Nat} {d : List Int} {D : List Bool} {near : Nat} (j : Dij m to d D) (hto : to < m.length) (hn : near < m.length) (hf : gt D near = false)
    (hmin : ∀ i, i < m.length → gt D i = false → gt d near ≤ gt d i) : Dij m to (relax m d (D.set near true) near m.length) (D.set near true) := by
  have hs := dn_set (D := D) (k := near) (by rw [j.lD]; exact hn)
  have rg := fun i hi => relax_gd (m := m) (d := d) (D := D.set near true) (near := near) (n := m.length) (i := i) hi
  have nr := j.range near hn
  have ad := fun i => addM_cost (costT_range m i near) nr
  have cr := fun i => costT_range m i near
  have same : ∀ i, i < m.length → gt (D.set near true) i = true → gt (relax m d (D.set near true) near m.length) i = gt d i := fun i hi h => by
    rw [rg i hi, if_neg (fun hc => by rw [h] at hc; cases hc.2)]
  have less : ∀ i, i < m.length → gt (relax m d (D.set near true) near m.length) i ≤ gt d i := fun i hi => by
    rw [rg i hi]; split <;> omega
  have old : ∀ i, i < m.length → gt (D.set near true) i = true → gt d i ≤ gt d near := fun i hi h => by
    rw [hs] at h
    split at h
    · rename_i e; subst e; exact Int.le_refl _
    · exact j.ord i near hi hn h hf
  refine ⟨by simp [relax], by rw [List.length_set]; exact j.lD, fun i hi => ?_, ?_, fun i k hi hk h => ?_, fun i k hi hk h1 h2 => ?_, fun i hi h0 h1 => ?_⟩
  · rw [rg i hi, ad]
    have := j.range i hi; have := cr i
    split <;> omega
  · rw [rg to hto, ad]
    have := j.zero; have := cr to
    split <;> omega
  · rw [same k hk h]
    have hk2 := h
    rw [hs] at h
    split at h
    · rename_i e; subst e
      by_cases hd : gt (D.set k true) i = true
      · rw [same i hi hd, ad]
        have := old i hi hd; have := cr i; have := j.range i hi
        omega
      · rw [rg i hi, if_pos ⟨hi, by simpa using hd⟩]; omega
    · exact Int.le_trans (less i hi) (j.rel i k hi hk h)
  · rw [same i hi h1, rg k hk, if_pos ⟨hk, h2⟩, ad]
    have h3 := old i hi h1
    have h4 : gt D k = false := by
      rw [hs] at h2; split at h2
      · cases h2
      · exact h2
    have := hmin k hk h4; have := cr k; have := j.range i hi
    omega
  · by_cases e : gt (relax m d (D.set near true) near m.length) i = gt d i
    · rw [e] at h1 ⊢
      obtain ⟨k, hk, h2, h3⟩ := j.par i hi h0 h1
      have h4 : gt (D.set near true) k = true := by rw [hs]; split <;> first | rfl | exact h2
      exact ⟨k, hk, h4, by rw [same k hk h4]; exact h3⟩
    · have h4 : gt (D.set near true) near = true := by rw [hs]; simp
      refine ⟨near, hn, h4, ?_⟩
      rw [same near hn h4]
      rw [rg i hi] at e ⊢
      split at e
      · rename_i h5; rw [if_pos h5]; omega
      · exact absurd rfl e
end Go.Fw
