/- Connection: the plain law. -/
import Derived.Test.YtkmcmhohelgjfaaOraR
namespace Go.Fw
set_option maxRecDepth 4000
set_option maxHeartbeats 1000000
def lnk (m : List (List Int)) (i k : Nat) : Prop := costT m i k < 65535
theorem linkM_lt (a b : Int) : linkM a b < 65535 ↔ okM a = true ∧ okM b = true ∧ a ≠ 65535 ∧ b ≠ 65535 := by
  unfold linkM
  split
  · rename_i h
    have := (okM_iff b).1 h.2.1
    refine ⟨fun _ => h, fun _ => by omega⟩
  · rename_i h
    exact ⟨fun h2 => by omega, fun h2 => absurd h2 h⟩
theorem lnk_symm {m : List (List Int)} {i k : Nat} (h : lnk m i k) : lnk m k i := by
  unfold lnk costT at h ⊢
  by_cases e : i = k
  · subst e; exact h
  · rw [if_neg e, linkM_lt] at h
    rw [if_neg (fun x => e x.symm), linkM_lt]
    exact ⟨h.2.1, h.1, h.2.2.2, h.2.2.1⟩
theorem lnk_ne {m : List (List Int)} {i k : Nat} (h : lnk m i k) : i ≠ k := fun e => by subst e; simp [lnk, costT] at h
/-- connected, over so many links -/
inductive CN (m : List (List Int)) : Nat → Nat → Nat → Prop where
  | refl (i : Nat) : i < m.length → CN m 0 i i
  | step {r i k j : Nat} : i < m.length → lnk m i k → CN m r k j → CN m (r + 1) i j
def conn (m : List (List Int)) (i j : Nat) : Prop := ∃ r, CN m r i j
theorem CN.lt {m : List (List Int)} {r i j : Nat} (h : CN m r i j) : i < m.length := by cases h <;> assumption
theorem CN.lt2 {m : List (List Int)} {r i j : Nat} (h : CN m r i j) : j < m.length := by
  induction h with
  | refl _ h => exact h
  | step _ _ _ ih => exact ih
theorem CN.snoc {m : List (List Int)} {r i j k : Nat} (h : CN m r i j) (hk : k < m.length) (hl : lnk m j k) : CN m (r + 1) i k := by
  induction h with
  | refl i hi => exact .step hi hl (.refl k hk)
  | step hi h1 _ ih => exact .step hi h1 (ih hl)
theorem CN.symm {m : List (List Int)} {r i j : Nat} (h : CN m r i j) : CN m r j i := by
  induction h with
  | refl i hi => exact .refl i hi
  | step hi h1 _ ih => exact ih.snoc hi (lnk_symm h1)
theorem CN.trans {m : List (List Int)} {r s i j k : Nat} (h : CN m r i j) (g : CN m s j k) : CN m (r + s) i k := by
  induction h with
  | refl i hi => rwa [Nat.zero_add]
  | @step r _ _ _ hi h1 _ ih => rw [show r + 1 + s = r + s + 1 by omega]; exact .step hi h1 (ih g)
/-- The list of components. -/
structure Comp (m : List (List Int)) (c : List Int) : Prop where
  len : c.length = m.length
  lo : ∀ i, i < m.length → 0 ≤ gt c i ∧ gt c i ≤ i
  con : ∀ i, i < m.length → conn m i (gt c i).toNat
  link : ∀ i k, i < m.length → k < m.length → lnk m i k → gt c i = gt c k
theorem Comp.same {m : List (List Int)} {c : List Int} (h : Comp m c) {i j : Nat} (hc : conn m i j) : gt c i = gt c j := by
  obtain ⟨r, hr⟩ := hc
  induction hr with
  | refl => rfl
  | step hi h1 h2 ih => rw [h.link _ _ hi h2.lt h1, ih]
theorem Comp.one {m : List (List Int)} {c d : List Int} (hc : Comp m c) (hd : Comp m d) : c = d := by
  have le : ∀ {c d : List Int}, Comp m c → Comp m d → ∀ i, i < m.length → gt d i ≤ gt c i := by
    intro c d hc hd i hi
    obtain ⟨r, hr⟩ := hc.con i hi
    rw [hd.same ⟨r, hr⟩]
    have h1 := hd.lo _ hr.lt2
    have h2 := hc.lo i hi
    omega
  refine ext_gt (by rw [hc.len, hd.len]) fun i hi => ?_
  rw [hc.len] at hi
  have := le hc hd i hi
  have := le hd hc i hi
  omega
/-- The distance from node p. -/
def DI (m : List (List Int)) (p r i : Nat) : Prop := CN m r i p ∧ ∀ s, s < r → ¬ CN m s i p
theorem DI.ex {m : List (List Int)} {p i : Nat} (h : conn m i p) : ∃ r, DI m p r i := by
  obtain ⟨r, hr⟩ := h
  induction r using Nat.strongRecOn with
  | _ r ih =>
    by_cases hx : ∃ s, s < r ∧ CN m s i p
    · obtain ⟨s, h1, h2⟩ := hx
      exact ih s h1 h2
    · exact ⟨r, hr, fun s h1 h2 => hx ⟨s, h1, h2⟩⟩
theorem DI.next {m : List (List Int)} {p r i : Nat} (h : DI m p (r + 1) i) : ∃ k, k < m.length ∧ lnk m i k ∧ DI m p r k := by
  obtain ⟨h1, h2⟩ := h
  cases h1 with
  | step hi hl hc => exact ⟨_, hc.lt, hl, hc, fun s hs hk => h2 (s + 1) (by omega) (.step hi hl hk)⟩
theorem DI.list {m : List (List Int)} {p : Nat} : ∀ {r i : Nat}, DI m p r i → ∃ a : List Int, a.length = r + 1 ∧ a.Nodup ∧ (∀ x ∈ a, inN x m.length) ∧ ∀ x ∈ a, ∃ s, s ≤ r ∧ DI m p s x.toNat
  | 0, i, h => ⟨[(i : Int)], rfl, by simp, fun x hx => by have := h.1.lt; simp at hx; subst hx; exact ⟨by omega, by omega⟩, fun x hx => by simp at hx; subst hx; exact ⟨0, Nat.le_refl _, by simpa using h⟩⟩
  | r + 1, i, h => by
    obtain ⟨k, hk, hl, hd⟩ := h.next
    obtain ⟨a, h1, h2, h3, h4⟩ := DI.list hd
    refine ⟨(i : Int) :: a, by simp [h1], ?_, fun x hx => ?_, fun x hx => ?_⟩
    · rw [List.nodup_cons]
      refine ⟨fun hm => ?_, h2⟩
      obtain ⟨s, hs, hds⟩ := h4 _ hm
      rw [Int.toNat_natCast] at hds
      exact h.2 s (by omega) hds.1
    · rcases List.mem_cons.1 hx with rfl | hx
      · have := h.1.lt; exact ⟨by omega, by omega⟩
      · exact h3 x hx
    · rcases List.mem_cons.1 hx with rfl | hx
      · exact ⟨r + 1, Nat.le_refl _, by simpa using h⟩
      · obtain ⟨s, hs, hds⟩ := h4 x hx; exact ⟨s, by omega, hds⟩
theorem DI.top {m : List (List Int)} {p r i : Nat} (h : DI m p r i) : r < m.length := by
  obtain ⟨a, h1, h2, h3, _⟩ := h.list
  have := nodup_len _ a h2 h3
  omega
end Go.Fw
