/- The executor is sound: calls. -/
import Derived.Test.YtgkkceoocaincaaFwAD
namespace Go.Fw

mutual
theorem refs_mem {k : Nat} : ∀ (s : SV) (acc : List Nat), (ment k s = true ∨ k ∈ acc) → k ∈ refs s acc
  | .v _, acc, h => h.resolve_left (by simp [ment])
  | .ba .., acc, h => h.resolve_left (by simp [ment])
  | .fs .., acc, h => h.resolve_left (by simp [ment])
  | .pf .., acc, h => h.resolve_left (by simp [ment])
  | .top, acc, h => h.resolve_left (by simp [ment])
  | .agg cs, acc, h => refss_mem cs acc (by simpa [ment] using h)
  | .tup cs, acc, h => refss_mem cs acc (by simpa [ment] using h)
  | .clo _ cs, acc, h => refss_mem cs acc (by simpa [ment] using h)
  | .pb j _, acc, h => addN_mem j acc (h.imp (fun h => (Nat.eq_of_beq_eq_true (by simpa [ment] using h)).symm) id)
  | .pe _ j _ _, acc, h => addN_mem j acc (h.imp (fun h => (Nat.eq_of_beq_eq_true (by simpa [ment] using h)).symm) id)
  | .ov _ j _ _, acc, h => addN_mem j acc (h.imp (fun h => (Nat.eq_of_beq_eq_true (by simpa [ment] using h)).symm) id)
  | .sb j _ _ _, acc, h => addN_mem j acc (h.imp (fun h => (Nat.eq_of_beq_eq_true (by simpa [ment] using h)).symm) id)
theorem refss_mem {k : Nat} : ∀ (cs : List SV) (acc : List Nat), (ments k cs = true ∨ k ∈ acc) → k ∈ refss cs acc
  | [], acc, h => h.resolve_left (by simp [ments])
  | s :: r, acc, h => by
    refine refss_mem r _ ?_
    rcases h with h | h
    · simp only [ments] at h
      split at h
      · exact .inr (refs_mem s acc (.inl (by assumption)))
      · exact .inl h
    · exact .inr (refs_mem s acc (.inr h))
theorem addN_mem {k : Nat} : ∀ (j : Nat) (acc : List Nat), (k = j ∨ k ∈ acc) → k ∈ addN j acc
  | j, [], h => by
    rcases h with rfl | h
    · simp [addN]
    · cases h
  | j, i :: r, h => by
    simp only [addN]
    split
    · rename_i hb
      have hb := Nat.eq_of_beq_eq_true hb
      rcases h with rfl | h
      · rw [hb]; exact List.mem_cons_self
      · exact h
    · rcases h with rfl | h
      · exact List.mem_cons_of_mem _ (addN_mem k r (.inl rfl))
      · rcases List.mem_cons.1 h with rfl | h
        · exact List.mem_cons_self
        · exact List.mem_cons_of_mem _ (addN_mem j r (.inr h))
end
theorem addN_inv {k : Nat} : ∀ (j : Nat) (acc : List Nat), k ∈ addN j acc → k = j ∨ k ∈ acc
  | j, [], h => by simpa [addN] using h
  | j, i :: r, h => by
    simp only [addN] at h
    split at h
    · exact .inr h
    · rcases List.mem_cons.1 h with rfl | h
      · exact .inr List.mem_cons_self
      · exact (addN_inv j r h).imp id (List.mem_cons_of_mem _)
theorem addN_nodup : ∀ (j : Nat) (acc : List Nat), acc.Nodup → (addN j acc).Nodup
  | j, [], _ => by simp [addN]
  | j, i :: r, h => by
    simp only [addN]
    split
    · exact h
    · rename_i hb
      rw [List.nodup_cons] at h ⊢
      refine ⟨fun hm => ?_, addN_nodup j r h.2⟩
      rcases addN_inv j r hm with rfl | hm
      · simp at hb
      · exact h.1 hm
mutual
theorem refs_nodup : ∀ (s : SV) (acc : List Nat), acc.Nodup → (refs s acc).Nodup
  | .v _, _, h => h
  | .ba .., _, h => h
  | .fs .., _, h => h
  | .pf .., _, h => h
  | .top, _, h => h
  | .agg cs, acc, h => refss_nodup cs acc h
  | .tup cs, acc, h => refss_nodup cs acc h
  | .clo _ cs, acc, h => refss_nodup cs acc h
  | .pb j _, acc, h => addN_nodup j acc h
  | .pe _ j _ _, acc, h => addN_nodup j acc h
  | .ov _ j _ _, acc, h => addN_nodup j acc h
  | .sb j _ _ _, acc, h => addN_nodup j acc h
theorem refss_nodup : ∀ (cs : List SV) (acc : List Nat), acc.Nodup → (refss cs acc).Nodup
  | [], _, h => h
  | s :: r, acc, h => refss_nodup r _ (refs_nodup s acc h)
end
theorem idx_get : ∀ (ks : List Nat) (k : Nat), k ∈ ks → ks[idx ks k]? = some k
  | [], k, h => by cases h
  | j :: r, k, h => by
    simp only [idx]
    split
    · rename_i hb; rw [Nat.eq_of_beq_eq_true hb]; rfl
    · rename_i hb
      rcases List.mem_cons.1 h with rfl | h
      · simp at hb
      · simpa using idx_get r k h

/-- The same value under other names of the owned blocks. -/
structure Ren (g : Nat → Nat) (M : Nat → Prop) (cx : Cx) (w : World) (cx' : Cx) : Prop where
  bl : ∀ k x, M k → cx.bl k = some x → cx'.bl (g k) = some x
  own : ∀ b, b < w.heap.size → cx'.O b → cx.O b

theorem RelC.ren {cx w s vs} (h : RelC cx w s vs) : ∀ {g : Nat → Nat} {cx' : Cx}, Ren g (fun k => ment k s = true) cx w cx' → RelC cx' w (Fw.ren g s) vs := by
  induction h with
  | v h => intro _ _ _; exact .v h
  | top h => intro _ _ _; exact .top h
  | nil => intro _ _ _; exact .nil
  | @cons cx w s cs vs us _ _ ih1 ih2 =>
    intro g cx' e
    refine .cons (ih1 ⟨fun k x hm => e.bl k x (by simp [ment, ments, hm]), e.own⟩) (ih2 ⟨fun k x hm => e.bl k x ?_, e.own⟩)
    simp only [ment] at hm
    simp only [ment, ments]
    split
    · rfl
    · exact hm
  | ba h => intro _ _ _; exact .ba h
  | fs0 h => intro _ _ _; exact .fs0 h
  | fs f hb hO hc ht hr hl hx ih =>
    intro g cx' e
    have hlt := lt_of_getElem? hb
    exact .fs f hb (fun h => hO (e.own _ hlt h)) hc ht (fun i s hs => (hr i s hs).mono ⟨fun _ _ h => (by cases h), fun _ _ _ => rfl, fun b h => by
      rcases Nat.lt_or_ge b _ with hb' | hb'
      · exact .inl (e.own b hb' h)
      · exact .inr hb'⟩) hl hx
  | ov h1 h2 => intro _ _ e; exact .ov (e.bl _ _ (by simp [ment]) h1) h2
  | ov0 h1 => intro _ _ e; exact .ov0 (e.bl _ _ (by simp [ment]) h1)
  | ovz h1 => intro _ _ e; exact .ovz (e.bl _ _ (by simp [ment]) h1)
  | sb h1 h2 => intro _ _ e; exact .sb (e.bl _ _ (by simp [ment]) h1) h2
  | pb h1 => intro _ _ e; exact .pb (e.bl _ _ (by simp [ment]) h1)
  | pe h1 => intro _ _ e; exact .pe (e.bl _ _ (by simp [ment]) h1)
  | pf _ ih => intro g _ e; exact .pf (ih (g := g) ⟨fun k x hm => by simp [ment] at hm, e.own⟩)
  | @clo cx w f caps vs hl _ ih =>
    intro g cx' e
    have hlen : ∀ (l : List SV), (Fw.rens g l).length = l.length := by intro l; induction l <;> simp [Fw.rens, *]
    have hget : ∀ (l : List SV) (i : Nat), (Fw.rens g l)[i]? = (l[i]?).map (Fw.ren g) := by
      intro l
      induction l with
      | nil => intro i; simp [Fw.rens]
      | cons s l ihl => intro i; cases i <;> simp [Fw.rens, ihl]
    refine .clo vs (by rw [hlen, hl]) fun i s x h1 h2 => ?_
    rw [hget] at h1
    cases hc : caps[i]? with
    | none => rw [hc] at h1; cases h1
    | some s0 =>
      rw [hc] at h1
      simp only [Option.map_some, Option.some.injEq] at h1
      subst h1
      refine ih i s0 x hc h2 ⟨fun k y hm => e.bl k y ?_, e.own⟩
      simp only [ment]
      have : ∀ (l : List SV) (i : Nat), l[i]? = some s0 → ment k s0 = true → ments k l = true := by
        intro l
        induction l with
        | nil => intro i h; simp at h
        | cons s l ihl =>
          intro i h hm
          simp only [ments]
          split
          · rfl
          · rename_i hne
            cases i with
            | zero => simp at h; subst h; rw [hm] at hne; cases hne
            | succ i => exact ihl i (by simpa using h) hm
      exact this caps i hc hm

theorem RelV1.ren {cx w s v} (h : RelV1 cx w s v) {g : Nat → Nat} {cx' : Cx} (e : Ren g (fun k => ment k s = true) cx w cx') : RelV1 cx' w (Fw.ren g s) v := by
  cases s <;> simp only [RelV1] at h <;> first
    | exact h
    | exact RelC.ren h e
    | exact h.elim
    | (obtain ⟨vs, h1, h2⟩ := h; exact ⟨vs, h1, h2.ren e⟩)
theorem RelVL.ren {cx w l vs} (h : RelVL cx w l vs) {g : Nat → Nat} {cx' : Cx} (e : Ren g (fun k => ments k l = true) cx w cx') : RelVL cx' w (Fw.rens g l) vs := by
  induction h with
  | nil => exact .nil
  | @cons s v l vs h _ ih =>
    refine .cons (h.ren ⟨fun k x hm => e.bl k x (by simp [ments, hm]), e.own⟩) (ih ⟨fun k x hm => e.bl k x ?_, e.own⟩)
    simp only [ments]
    split
    · rfl
    · exact hm
theorem RelV.ren {cx w s v} (h : RelV cx w s v) {g : Nat → Nat} {cx' : Cx} (e : Ren g (fun k => ment k s = true) cx w cx') : RelV cx' w (Fw.ren g s) v := by
  cases s <;> simp only [RelV] at h <;> first
    | exact RelV1.ren h e
    | (obtain ⟨vs, h1, h2⟩ := h; exact ⟨vs, h1, h2.ren ⟨fun k x hm => e.bl k x (by simpa [ment] using hm), e.own⟩⟩)

/-- What is clean hangs on no memory but the owned blocks that it names. -/
theorem RelC.clean {cx w s vs} (h : RelC cx w s vs) : cl2 s = true → ∀ {cx' w'}, (∀ k x, cx.bl k = some x → cx'.bl k = some x) → RelC cx' w' s vs := by
  induction h with
  | v h => intro _ _ _ _; exact .v h
  | top h => intro hc; simp [cl2] at hc
  | nil => intro _ _ _ _; exact .nil
  | cons _ _ ih1 ih2 =>
    intro hc _ _ e
    simp only [cl2, cl2s] at hc
    split at hc
    · exact .cons (ih1 (by assumption) e) (ih2 (by simpa [cl2] using hc) e)
    · cases hc
  | ba h => intro _ _ _ _; exact .ba h
  | ov h1 h2 => intro _ _ _ e; exact .ov (e _ _ h1) h2
  | ov0 h1 => intro _ _ _ e; exact .ov0 (e _ _ h1)
  | ovz h1 => intro _ _ _ e; exact .ovz (e _ _ h1)
  | _ => intro hc; simp [cl2] at hc
theorem cl_cl2 : ∀ {s : SV}, cl s = true → cl2 s = true
  | .v _, _ => rfl
  | .ba .., _ => rfl
  | .agg cs, h => cls_cl2 (cs := cs) h
  | .tup cs, h => cls_cl2 (cs := cs) h
  | .fs .., h => by simp [cl] at h
  | .ov .., _ => rfl
  | .sb .., h => by simp [cl] at h
  | .pb .., h => by simp [cl] at h
  | .pe .., h => by simp [cl] at h
  | .pf .., h => by simp [cl] at h
  | .clo .., h => by simp [cl] at h
  | .top, h => by simp [cl] at h
where cls_cl2 : ∀ {cs : List SV}, cls cs = true → cl2s cs = true
  | [], _ => rfl
  | s :: r, h => by
    simp only [cls] at h
    split at h
    · simp only [cl2s, cl_cl2 (by assumption), cls_cl2 h]
    · cases h
theorem RelV1.clean {cx w s v} (h : RelV1 cx w s v) (hc : cl2 s = true) {cx' w'} (e : ∀ k x, cx.bl k = some x → cx'.bl k = some x) : RelV1 cx' w' s v := by
  cases s <;> simp only [RelV1] at h ⊢ <;> first | exact h.clean hc e | exact h | (obtain ⟨vs, h1, h2⟩ := h; exact ⟨vs, h1, h2.clean hc e⟩)
theorem RelVL.clean {cx w l vs} (h : RelVL cx w l vs) (hc : cl2s l = true) {cx' w'} (e : ∀ k x, cx.bl k = some x → cx'.bl k = some x) : RelVL cx' w' l vs := by
  induction h with
  | nil => exact .nil
  | cons h _ ih =>
    simp only [cl2s] at hc
    split at hc
    · exact .cons (h.clean (by assumption) e) (ih hc)
    · cases hc
theorem RelV.clean {cx w s v} (h : RelV cx w s v) (hc : cl2 s = true) {cx' w'} (e : ∀ k x, cx.bl k = some x → cx'.bl k = some x) : RelV cx' w' s v := by
  cases s <;> simp only [RelV] at h ⊢ <;> first | exact h.clean hc e | (obtain ⟨vs, h1, h2⟩ := h; exact ⟨vs, h1, h2.clean (by simpa [cl2] using hc) e⟩)
end Go.Fw
