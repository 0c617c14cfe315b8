/- The plain law of Distances: Bellman's equations have one solution. -/
import Derived.Test.YtkmcmhohelgjfaaOraJ
namespace Go.Fw
set_option maxRecDepth 4000
set_option maxHeartbeats 1000000
theorem costT_range (m : List (List Int)) (i k : Nat) : 1 ≤ costT m i k ∧ costT m i k ≤ 65535 := by
  unfold costT linkM
  split
  · omega
  · split
    · rename_i h
      have h1 := (okM_iff _).1 h.2.1
      have h2 := (okM_iff _).1 h.1
      omega
    · omega
theorem addM_cost {c d : Int} (hc : 1 ≤ c ∧ c ≤ 65535) (hd : 0 ≤ d ∧ d ≤ 65535) : addM c d = min (c + d) 65535 := by
  unfold addM
  have h1 := (okM_iff c).2 (by omega)
  have h2 := (okM_iff d).2 hd
  by_cases h : c + d < 65535
  · rw [if_pos ⟨h1, h2, h⟩]; omega
  · rw [if_neg (fun hc => h hc.2.2)]; omega
structure Bell (m : List (List Int)) (to : Nat) (d : List Int) : Prop where
  len : d.length = m.length
  range : ∀ i, i < m.length → 0 ≤ gt d i ∧ gt d i ≤ 65535
  zero : gt d to = 0
  le : ∀ i k, i < m.length → k < m.length → gt d i ≤ addM (costT m i k) (gt d k)
  eq : ∀ i, i < m.length → i ≠ to → gt d i < 65535 → ∃ k, k < m.length ∧ gt d i = addM (costT m i k) (gt d k)
theorem Bell.up {m : List (List Int)} {to : Nat} {d e : List Int} (hd : Bell m to d) (he : Bell m to e) : ∀ (v : Nat) (i : Nat), i < m.length → gt d i ≤ v → gt e i ≤ gt d i := by
  intro v
  induction v using Nat.strongRecOn with
  | _ v ih =>
    intro i hi hv
    by_cases h0 : i = to
    · subst h0; rw [hd.zero, he.zero]; exact Int.le_refl _
    · by_cases h1 : gt d i < 65535
      · obtain ⟨k, hk, h2⟩ := hd.eq i hi h0 h1
        have r := hd.range k hk
        have c := costT_range m i k
        have h3 := addM_cost c r
        have h4 := he.le i k hi hk
        have r2 := he.range k hk
        rw [addM_cost c r2] at h4
        have h5 : gt e k ≤ gt d k := ih (gt d k).toNat (by omega) k hk (by omega)
        omega
      · have := (he.range i hi).2; omega
theorem Bell.one {m : List (List Int)} {to : Nat} {d e : List Int} (hd : Bell m to d) (he : Bell m to e) : d = e := by
  apply List.ext_getElem
  · rw [hd.len, he.len]
  · intro i h1 h2
    have hi : i < m.length := by rw [← hd.len]; exact h1
    have a := hd.up he (gt d i).toNat i hi (by have := hd.range i hi; omega)
    have b := he.up hd (gt e i).toNat i hi (by have := he.range i hi; omega)
    have e1 : gt d i = d[i] := by simp [gt, h1]
    have e2 : gt e i = e[i] := by simp [gt, h2]
    omega
end Go.Fw
