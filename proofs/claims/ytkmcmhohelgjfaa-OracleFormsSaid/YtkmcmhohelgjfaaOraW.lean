/- Flooding: the plain law of oracle.Components. -/
import Derived.Test.YtkmcmhohelgjfaaOraV
namespace Go.Fw
set_option maxRecDepth 4000
set_option maxHeartbeats 1000000
/-- Ahead of node f. -/
structure FL (m : List (List Int)) (c : List Int) (f : Nat) : Prop where
  len : c.length = m.length
  neg : ∀ j, j < m.length → gt c j = -1 ∨ (0 ≤ gt c j ∧ gt c j ≤ j)
  con : ∀ j, j < m.length → 0 ≤ gt c j → conn m j (gt c j).toNat
  clo : ∀ j k, j < m.length → k < m.length → 0 ≤ gt c j → lnk m j k → gt c k = gt c j
  done : ∀ j, j < f → 0 ≤ gt c j
/-- While the component of f is flooded: i is being looked at, its neighbours below k have been; st: the open nodes. -/
structure FN (m : List (List Int)) (c : List Int) (f : Nat) (st : List Int) (i : Option Nat) (k : Nat) : Prop where
  len : c.length = m.length
  neg : ∀ j, j < m.length → gt c j = -1 ∨ (0 ≤ gt c j ∧ gt c j ≤ j)
  con : ∀ j, j < m.length → 0 ≤ gt c j → conn m j (gt c j).toNat
  done : ∀ j, j < f → 0 ≤ gt c j
  lab : gt c f = f
  stk : ∀ x ∈ st, inN x m.length ∧ gt c x.toNat = f
  cur : ∀ a, i = some a → a < m.length ∧ gt c a = f
  clo : ∀ j k, j < m.length → k < m.length → 0 ≤ gt c j → lnk m j k → gt c k = gt c j ∨ (j : Int) ∈ st ∨ i = some j
  now : ∀ a, i = some a → ∀ j, j < k → j < m.length → lnk m a j → gt c j = f
theorem FL.start (m : List (List Int)) {c : List Int} (hl : c.length = m.length) (h : ∀ j, j < m.length → gt c j = -1) : FL m c 0 where
  len := hl
  neg j hj := .inl (h j hj)
  con j hj h0 := by rw [h j hj] at h0; omega
  clo j k hj _ h0 := by rw [h j hj] at h0; omega
  done := none_lt
theorem FL.comp {m : List (List Int)} {c : List Int} (s : FL m c m.length) : Comp m c where
  len := s.len
  lo i hi := by
    have h1 := s.done i hi
    have h2 := s.neg i hi
    omega
  con i hi := s.con i hi (s.done i hi)
  link i k hi hk hl := (s.clo i k hi hk (s.done i hi) hl).symm
theorem FL.skip {m : List (List Int)} {c : List Int} {f : Nat} (s : FL m c f) (h : 0 ≤ gt c f) : FL m c (f + 1) :=
  ⟨s.len, s.neg, s.con, s.clo, step_lt s.done h⟩
theorem FL.enter {m : List (List Int)} {c : List Int} {f : Nat} (s : FL m c f) (hf : f < m.length) (h : gt c f < 0) : FN m (c.set f (f : Int)) f [(f : Int)] none 0 := by
  have hg : ∀ j, gt (c.set f (f : Int)) j = if j = f then (f : Int) else gt c j := fun j => gt_set (by rw [s.len]; exact hf)
  refine ⟨by simp [s.len], fun j hj => ?_, fun j hj h0 => ?_, fun j hj => ?_, by rw [hg, if_pos rfl], fun x hx => ?_, fun a ha => (by cases ha), fun j k hj hk h0 hl => ?_, fun a ha => (by cases ha)⟩
  · rw [hg]; split
    · rename_i e; subst e; right; omega
    · exact s.neg j hj
  · rw [hg] at h0 ⊢; split
    · rename_i e; subst e; exact ⟨0, by rw [Int.toNat_natCast]; exact .refl j hj⟩
    · rename_i e; rw [if_neg e] at h0; exact s.con j hj h0
  · rw [hg]; split
    · omega
    · exact s.done j hj
  · rw [List.mem_singleton] at hx
    subst hx
    exact ⟨⟨by omega, by omega⟩, by rw [Int.toNat_natCast, hg, if_pos rfl]⟩
  · by_cases e : j = f
    · subst e; exact .inr (.inl (by simp))
    · left
      rw [hg, if_neg e] at h0
      have h1 := s.clo j k hj hk h0 hl
      rw [hg, hg, if_neg e]
      split
      · rename_i e2; subst e2; omega
      · exact h1
theorem FN.leave {m : List (List Int)} {c : List Int} {f : Nat} (s : FN m c f [] none 0) (hf : f < m.length) : FL m c (f + 1) :=
  ⟨s.len, s.neg, s.con, fun j k hj hk h0 hl => by
    rcases s.clo j k hj hk h0 hl with h | h | h
    · exact h
    · simp at h
    · simp at h, step_lt s.done (by rw [s.lab]; omega)⟩
theorem FN.pop {m : List (List Int)} {c : List Int} {f : Nat} {st : List Int} {a : Nat} (s : FN m c f (st ++ [(a : Int)]) none 0) : FN m c f st (some a) 0 := by
  have h1 := s.stk (a : Int) (by simp)
  rw [Int.toNat_natCast] at h1
  refine ⟨s.len, s.neg, s.con, s.done, s.lab, fun x hx => s.stk x (by simp [hx]), fun b hb => ?_, fun j k hj hk h0 hl => ?_, fun b hb => none_lt⟩
  · cases hb; have := h1.1.2; exact ⟨by omega, h1.2⟩
  · rcases s.clo j k hj hk h0 hl with h | h | h
    · exact .inl h
    · rcases List.mem_append.1 h with h | h
      · exact .inr (.inl h)
      · rw [List.mem_singleton] at h
        exact .inr (.inr (by rw [show j = a by omega]))
    · cases h
theorem FN.same {m : List (List Int)} {c : List Int} {f : Nat} {st : List Int} {a k : Nat} (s : FN m c f st (some a) k) (hk : k < m.length) (h : 0 ≤ gt c k ∨ ¬ lnk m a k) : FN m c f st (some a) (k + 1) := by
  obtain ⟨ha, hc⟩ := s.cur a rfl
  refine ⟨s.len, s.neg, s.con, s.done, s.lab, s.stk, s.cur, s.clo, fun b hb => ?_⟩
  cases hb
  refine step_lt (p := fun j => j < m.length → lnk m a j → gt c j = f) (s.now a rfl) fun _ hl => ?_
  rcases h with h | h
  · rcases s.clo k a hk ha h (lnk_symm hl) with h1 | h1 | h1
    · omega
    · have := (s.stk _ h1).2; rwa [Int.toNat_natCast] at this
    · cases h1; exact hc
  · exact absurd hl h
theorem FN.push {m : List (List Int)} {c : List Int} {f : Nat} {st : List Int} {a k : Nat} (s : FN m c f st (some a) k) (hf : f < m.length) (hk : k < m.length) (h : gt c k < 0) (hl : lnk m a k) :
    FN m (c.set k (f : Int)) f (st ++ [(k : Int)]) (some a) (k + 1) := by
  obtain ⟨ha, hc⟩ := s.cur a rfl
  have hg : ∀ j, gt (c.set k (f : Int)) j = if j = k then (f : Int) else gt c j := fun j => gt_set (by rw [s.len]; exact hk)
  have hfk : f ≤ k := by
    rcases Nat.lt_or_ge k f with h1 | h1
    · have := s.done k h1; omega
    · exact h1
  have hall : ∀ j, j < m.length → gt c j = f → gt (c.set k (f : Int)) j = f := fun j hj e => by rw [hg]; split <;> first | rfl | exact e
  refine ⟨by simp [s.len], fun j hj => ?_, fun j hj h0 => ?_, fun j hj => ?_, hall f hf s.lab, fun x hx => ?_, fun b hb => ?_, fun j k2 hj hk2 h0 hl2 => ?_, fun b hb => ?_⟩
  · rw [hg]; split
    · rename_i e; subst e; right; omega
    · exact s.neg j hj
  · rw [hg] at h0 ⊢; split
    · rename_i e; subst e
      obtain ⟨r, hr⟩ := s.con a ha (by omega)
      rw [hc, Int.toNat_natCast] at hr
      exact ⟨r + 1, by rw [Int.toNat_natCast]; exact .step hk (lnk_symm hl) hr⟩
    · rename_i e; rw [if_neg e] at h0; exact s.con j hj h0
  · rw [hg]; split
    · omega
    · exact s.done j hj
  · rcases List.mem_append.1 hx with hx | hx
    · obtain ⟨h1, h2⟩ := s.stk x hx
      exact ⟨h1, hall _ (by have := h1.2; have := h1.1; omega) h2⟩
    · rw [List.mem_singleton] at hx
      subst hx
      exact ⟨⟨by omega, by omega⟩, by rw [Int.toNat_natCast, hg, if_pos rfl]⟩
  · cases hb; exact ⟨ha, hall a ha hc⟩
  · by_cases e : j = k
    · subst e; exact .inr (.inl (by simp))
    · rw [hg, if_neg e] at h0
      rcases s.clo j k2 hj hk2 h0 hl2 with h1 | h1 | h1
      · left
        rw [hg, hg, if_neg e]
        split
        · rename_i e2; subst e2; omega
        · exact h1
      · exact .inr (.inl (by simp [h1]))
      · exact .inr (.inr h1)
  · cases hb
    refine step_lt (p := fun j => j < m.length → lnk m a j → gt (c.set k (f : Int)) j = f) (fun j hj hjm hlj => hall j hjm (s.now a rfl j hj hjm hlj)) fun _ _ => ?_
    rw [hg, if_pos rfl]
theorem FN.round {m : List (List Int)} {c : List Int} {f : Nat} {st : List Int} {a : Nat} (s : FN m c f st (some a) m.length) : FN m c f st none 0 := by
  obtain ⟨ha, hc⟩ := s.cur a rfl
  refine ⟨s.len, s.neg, s.con, s.done, s.lab, s.stk, fun b hb => (by cases hb), fun j k hj hk h0 hl => ?_, fun b hb => (by cases hb)⟩
  rcases s.clo j k hj hk h0 hl with h | h | h
  · exact .inl h
  · exact .inr (.inl h)
  · left
    have e : a = j := by simpa using h
    subst e
    rw [s.now a rfl k hk hk hl, hc]
end Go.Fw
