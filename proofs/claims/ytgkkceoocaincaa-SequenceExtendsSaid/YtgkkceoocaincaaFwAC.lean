/- The executor is sound: append, whole; calls. -/
import Derived.Test.YtgkkceoocaincaaFwAB
namespace Go.Fw

structure ExtX (k : Nat) (cx : Cx) (w : World) (cx' : Cx) (w' : World) : Prop where
  bl : ∀ j x, j ≠ k → cx.bl j = some x → cx'.bl j = some x
  same : ∀ b, b < w.heap.size → ¬ cx.O b → w'.heap[b]? = w.heap[b]?
  own : ∀ b, cx'.O b → cx.O b ∨ w.heap.size ≤ b
theorem ExtX.bare {k cx w cx' w'} (h : ExtX k cx w cx' w') : Ext ⟨fun _ => none, cx.O⟩ w ⟨fun _ => none, cx'.O⟩ w' := ⟨fun _ _ h => (by cases h), h.same, h.own⟩

mutual
theorem kill_id (k : Nat) : ∀ {s : SV}, ment k s = false → kill k s = s
  | .v _, _ => rfl
  | .ba .., _ => rfl
  | .fs .., _ => rfl
  | .pf .., _ => rfl
  | .top, _ => rfl
  | .agg cs, h => by simp only [kill]; rw [kills_id k (cs := cs) (by simpa [ment] using h)]
  | .tup cs, h => by simp only [kill]; rw [kills_id k (cs := cs) (by simpa [ment] using h)]
  | .clo f cs, h => by simp only [ment] at h; simp only [kill, h]
  | .ov E j o m, h => by simp only [ment] at h; simp only [kill, h]
  | .sb j p o m, h => by simp only [ment] at h; simp only [kill, h]
  | .pb j p, h => by simp only [ment] at h; simp only [kill, h]
  | .pe E j i p, h => by simp only [ment] at h; simp only [kill, h]
theorem kills_id (k : Nat) : ∀ {cs : List SV}, ments k cs = false → kills k cs = cs
  | [], _ => rfl
  | s :: r, h => by
    simp only [ments] at h
    split at h
    · cases h
    · simp only [kills]; rw [kill_id k (by assumption), kills_id k h]
end
theorem ments_get (k : Nat) : ∀ {cs : List SV}, ments k cs = false → ∀ (i : Nat) s, cs[i]? = some s → ment k s = false
  | [], _, i, s, h => by simp at h
  | x :: r, hm, i, s, h => by
    simp only [ments] at hm
    split at hm
    · cases hm
    · cases i with
      | zero => simp at h; subst h; assumption
      | succ i => exact ments_get k hm i s (by simpa using h)

theorem RelC.kill {cx w s vs} (h : RelC cx w s vs) : ∀ {k cx' w'}, ExtX k cx w cx' w' → RelC cx' w' (Fw.kill k s) vs := by
  induction h with
  | v h => intro _ _ _ _; exact .v h
  | top h => intro _ _ _ _; exact .top h
  | nil => intro _ _ _ _; exact .nil
  | cons _ _ ih1 ih2 => intro k _ _ e; exact .cons (ih1 e) (ih2 e)
  | ba h => intro _ _ _ _; exact .ba h
  | fs0 h => intro _ _ _ _; exact .fs0 h
  | fs f hb hO hc ht hr hl hx ih =>
    intro k cx' w' e
    have hlt := lt_of_getElem? hb
    refine .fs f (by rw [e.same _ hlt hO]; exact hb) (fun h => ?_) hc ht (fun i s hs => (hr i s hs).mono e.bare) hl hx
    rcases e.own _ h with h | h
    · exact hO h
    · omega
  | @ov cx w E k0 off m b C h1 h2 =>
    intro k cx' w' e
    simp only [Fw.kill]
    split
    · exact .top rfl
    · rename_i hne
      exact .ov (e.bl _ _ (fun h => by subst h; simp at hne) h1) h2
  | @ov0 cx w E k0 a h1 =>
    intro k cx' w' e
    simp only [Fw.kill]
    split
    · exact .top rfl
    · rename_i hne
      exact .ov0 (e.bl _ _ (fun h => by subst h; simp at hne) h1)
  | @ovz cx w E k0 a b C h1 =>
    intro k cx' w' e
    simp only [Fw.kill]
    split
    · exact .top rfl
    · rename_i hne
      exact .ovz (e.bl _ _ (fun h => by subst h; simp at hne) h1)
  | @sb cx w k0 p off m b C cap h1 h2 =>
    intro k cx' w' e
    simp only [Fw.kill]
    split
    · exact .top rfl
    · rename_i hne
      exact .sb (e.bl _ _ (fun h => by subst h; simp at hne) h1) h2
  | @pb cx w k0 p b C h1 =>
    intro k cx' w' e
    simp only [Fw.kill]
    split
    · exact .top rfl
    · rename_i hne
      exact .pb (e.bl _ _ (fun h => by subst h; simp at hne) h1)
  | @pe cx w E k0 i p b C h1 =>
    intro k cx' w' e
    simp only [Fw.kill]
    split
    · exact .top rfl
    · rename_i hne
      exact .pe (e.bl _ _ (fun h => by subst h; simp at hne) h1)
  | pf _ ih => intro k cx' w' e; exact .pf (ih e)
  | clo vs hl _ ih =>
    intro k cx' w' e
    simp only [Fw.kill]
    split
    · exact .top rfl
    · rename_i hne
      exact .clo vs hl fun i s x h1 h2 => by
        have := ih i s x h1 h2 e
        rwa [kill_id k (ments_get k hne i s h1)] at this

theorem RelC.nomen {cx w s vs k cx' w'} (h : RelC cx w s vs) (hm : ment k s = false) (e : ExtX k cx w cx' w') : RelC cx' w' s vs := by
  have := h.kill e
  rwa [kill_id k hm] at this
theorem RelV1.nomen {cx w s v k cx' w'} (h : RelV1 cx w s v) (hm : ment k s = false) (e : ExtX k cx w cx' w') : RelV1 cx' w' s v := by
  cases s <;> simp only [RelV1] at h ⊢ <;> first | exact h | exact h.nomen hm e | (obtain ⟨vs, h1, h2⟩ := h; exact ⟨vs, h1, h2.nomen hm e⟩)
theorem RelVL.nomen {cx w l vs k cx' w'} (h : RelVL cx w l vs) (hm : ments k l = false) (e : ExtX k cx w cx' w') : RelVL cx' w' l vs := by
  induction h with
  | nil => exact .nil
  | cons h _ ih =>
    simp only [ments] at hm
    split at hm
    · cases hm
    · exact .cons (h.nomen (by assumption) e) (ih hm)
theorem RelV.nomen {cx w s v k cx' w'} (h : RelV cx w s v) (hm : ment k s = false) (e : ExtX k cx w cx' w') : RelV cx' w' s v := by
  cases s <;> simp only [RelV] at h ⊢ <;> first
    | exact h.nomen hm e
    | (obtain ⟨vs, h1, h2⟩ := h; exact ⟨vs, h1, h2.nomen (by simpa [ment] using hm) e⟩)

def killHp (k : Nat) (hp : Nat → Option OB) (j : Nat) : Option OB :=
  match hp j with
  | some (.cells s) => some (.cells (kill k s))
  | x => x
theorem updHp_killsH (k : Nat) : ∀ (h : List OB) (i : Nat) (f : Nat → Option OB), updHp f (killsH k h i) = fun j => if i ≤ j then (match nthB h (j - i) with
      | some (.cells s) => if ment k s = true then some (.cells (kill k s)) else f j
      | _ => f j) else f j
  | [], i, f => by funext j; simp [killsH, updHp, nthB]
  | ob :: r, i, f => by
    have step : ∀ (g : Nat → Option OB), updHp g (killsH k r (i + 1)) = fun j => if i + 1 ≤ j then (match nthB r (j - (i + 1)) with
        | some (.cells s) => if ment k s = true then some (.cells (kill k s)) else g j
        | _ => g j) else g j := fun g => updHp_killsH k r (i + 1) g
    funext j
    by_cases hj : j = i
    · subst hj
      cases ob with
      | cells s =>
        simp only [killsH]
        cases hm : ment k s <;> simp [updHp, step, nthB, hm] <;> intro h <;> omega
      | arr => simp [killsH, step, nthB]; intro h; omega
      | gone => simp [killsH, step, nthB]; intro h; omega
    · have e1 : i ≤ j ↔ i + 1 ≤ j := by omega
      have e2 : i + 1 ≤ j → nthB (ob :: r) (j - i) = nthB r (j - (i + 1)) := fun h => by
        rw [show j - i = (j - (i + 1)) + 1 by omega]; rfl
      cases ob with
      | cells s =>
        simp only [killsH]
        cases hm : ment k s
        · simp only [step, e1]
          split
          · rename_i hle; rw [e2 hle]
          · rfl
        · simp only [updHp, step, e1, if_neg hj]
          split
          · rename_i hle; rw [e2 hle]
          · rfl
      | arr =>
        simp only [killsH, step, e1]
        split
        · rename_i hle; rw [e2 hle]
        · rfl
      | gone =>
        simp only [killsH, step, e1]
        split
        · rename_i hle; rw [e2 hle]
        · rfl
theorem killsH_hp (k : Nat) (h : List OB) (E : Nat) (rows : List SV) (E0 : Nat) (rows0 : List SV) (hk : nthB h k = some (.arr E0 rows0)) :
    updHp (nthB h) ((k, .arr E rows) :: killsH k h 0) = fun j => if j = k then some (.arr E rows) else killHp k (nthB h) j := by
  simp only [updHp, updHp_killsH]
  funext j
  simp only [Nat.zero_le, if_true, Nat.sub_zero, killHp]
  by_cases hj : j = k
  · subst hj; rw [hk]
  · simp only [if_neg hj]
    cases hh : nthB h j with
    | none => rfl
    | some ob =>
      cases ob with
      | cells s =>
        simp only
        cases hm : ment k s
        · simp [kill_id k hm]
        · rfl
      | arr => rfl
      | gone => rfl

theorem updSl_inv : ∀ (l : List (Nat × SV)) (sl : Nat → Option SV) (t : Nat) (s : SV), updSl sl l t = some s → (∃ s', (t, s') ∈ l ∧ s = s') ∨ (sl t = some s ∧ ∀ s', (t, s') ∉ l)
  | [], sl, t, s, h => .inr ⟨h, fun _ h => by cases h⟩
  | (t0, s0) :: r, sl, t, s, h => by
    rcases updSl_inv r _ t s h with ⟨s', h1, h2⟩ | ⟨h1, h2⟩
    · exact .inl ⟨s', List.mem_cons_of_mem _ h1, h2⟩
    · by_cases ht : t = t0
      · subst ht
        simp at h1
        subst h1
        exact .inl ⟨_, List.mem_cons_self, rfl⟩
      · simp [ht] at h1
        refine .inr ⟨h1, fun s' hs => ?_⟩
        rcases List.mem_cons.1 hs with hs | hs
        · cases hs; exact ht rfl
        · exact h2 s' hs
theorem killsE_mem {k t : Nat} {s : SV} : ∀ {e : List (Nat × SV)}, (t, s) ∈ killsE k e → s = .top
  | [], h => by cases h
  | (t0, s0) :: r, h => by
    simp only [killsE] at h
    split at h
    · rcases List.mem_cons.1 h with h | h
      · cases h; rfl
      · exact killsE_mem h
    · exact killsE_mem h
theorem killsE_not {k t : Nat} {s : SV} : ∀ {e : List (Nat × SV)}, lk e t = some s → (∀ s', (t, s') ∉ killsE k e) → ment k s = false
  | [], h, _ => by cases h
  | (t0, s0) :: r, h, hn => by
    rw [lk_cons] at h
    by_cases ht : t = t0
    · subst ht
      simp at h
      subst h
      cases hm : ment k s0 with
      | false => rfl
      | true => exact absurd (by simp only [killsE, hm]; exact List.mem_cons_self) (hn .top)
    · simp [ht] at h
      refine killsE_not (e := r) h fun s' hs => hn s' ?_
      simp only [killsE]
      split
      · exact List.mem_cons_of_mem _ hs
      · exact hs

theorem killsE_some {k t : Nat} {s : SV} : ∀ {e : List (Nat × SV)}, (t, s) ∈ killsE k e → ∃ s0, lk e t = some s0
  | [], h => by cases h
  | (t0, s0) :: r, h => by
    rw [lk_cons]
    by_cases ht : t = t0
    · exact ⟨s0, by simp [ht]⟩
    · simp only [if_neg ht]
      simp only [killsE] at h
      split at h
      · rcases List.mem_cons.1 h with h | h
        · cases h; exact absurd rfl ht
        · exact killsE_some h
      · exact killsE_some h
theorem updSl_snoc : ∀ (l : List (Nat × SV)) (sl : Nat → Option SV) (d : Nat) (x : SV), updSl sl (l ++ [(d, x)]) = fun i => if i = d then some x else updSl sl l i
  | [], _, _, _ => rfl
  | (_, _) :: r, sl, d, x => updSl_snoc r _ d x

/-- One owned array is laid anew, or its block is written; what names it elsewhere is forgotten. -/
theorem mem_rebind {cx : Cx} {w : World} {hp : Nat → Option OB} (hm : Mem cx w hp) {k : Nat} {ob ob' : OB} {cx' : Cx} {w' : World} (hx : ExtX k cx w cx' w') (hk : hp k = some ob) (hg : ob ≠ .gone) (hnc : ∀ s, ob ≠ .cells s)
    (hsame : ∀ j ob b C, j ≠ k → hp j = some ob → ob ≠ .gone → cx.bl j = some (.at b C) → w'.heap[b]? = w.heap[b]?)
    (hO : ∀ b, b < w.heap.size → cx.O b → cx'.O b) (hkb : ∀ b C, cx'.bl k = some (.at b C) → (∃ C', cx.bl k = some (.at b C')) ∨ w.heap.size ≤ b) (hbl : ∀ j, j ≠ k → cx'.bl j = cx.bl j)
    (hlt : ∀ b, cx'.O b → b < w'.heap.size) (hl : Live cx' w' k ob') : Mem cx' w' (fun j => if j = k then some ob' else killHp k hp j) where
  live j x hj := by
    by_cases h : j = k
    · subst h; simp at hj; subst hj; exact hl
    · simp only [if_neg h, killHp] at hj
      cases hh : hp j with
      | none => rw [hh] at hj; cases hj
      | some y =>
        rw [hh] at hj
        have hlj := hm.live j y hh
        cases y with
        | gone => simp at hj; subst hj; trivial
        | cells s =>
          simp at hj; subst hj
          rcases hlj with ⟨b, C, h1, h2, vs, T, h3, h4⟩ | ⟨_, E, h2⟩
          · exact .inl ⟨b, C, by rw [hbl j h]; exact h1, hO b (hm.lt b h2) h2, vs, T, by rw [hsame j _ b C h hh (by simp) h1]; exact h3, h4.kill hx⟩
          · cases h2
        | arr E rows =>
          simp at hj; subst hj
          rcases hlj with ⟨b, C, h1, h2, vs, T, h3, h4, h5, h6⟩ | ⟨h1, E', h2⟩
          · exact .inl ⟨b, C, by rw [hbl j h]; exact h1, hO b (hm.lt b h2) h2, vs, T, by rw [hsame j _ b C h hh (by simp) h1]; exact h3, h4, h5, fun i s hs => (h6 i s hs).mono hx.bare⟩
          · exact .inr ⟨by rw [hbl j h]; exact h1, E', h2⟩
  inj j j' ob1 ob2 b C1 C2 h1 h2 g1 g2 b1 b2 := by
    have hold : ∀ i x, i ≠ k → killHp k hp i = some x → x ≠ .gone → ∃ y, hp i = some y ∧ y ≠ .gone := by
      intro i x _ hi hx
      simp only [killHp] at hi
      cases hh : hp i with
      | none => rw [hh] at hi; cases hi
      | some y =>
        rw [hh] at hi
        cases y with
        | gone => simp at hi; subst hi; exact absurd rfl hx
        | cells s => exact ⟨_, rfl, by simp⟩
        | arr => exact ⟨_, rfl, by simp⟩
    have hblt : ∀ i y C, hp i = some y → y ≠ .gone → cx.bl i = some (.at b C) → b < w.heap.size := fun i y C hi hy hb => hm.lt b (live_at hm hi hb hy).1
    by_cases e1 : j = k <;> by_cases e2 : j' = k
    · rw [e1, e2]
    · exfalso
      simp only [if_neg e2] at h2
      obtain ⟨y, hy, hyg⟩ := hold j' ob2 e2 h2 g2
      rw [hbl j' e2] at b2
      subst e1
      rcases hkb b C1 b1 with ⟨C', hc⟩ | hc
      · exact e2 (hm.inj j' j y ob b C2 C' hy hk hyg hg b2 hc)
      · have := hblt j' y C2 hy hyg b2; omega
    · exfalso
      simp only [if_neg e1] at h1
      obtain ⟨y, hy, hyg⟩ := hold j ob1 e1 h1 g1
      rw [hbl j e1] at b1
      subst e2
      rcases hkb b C2 b2 with ⟨C', hc⟩ | hc
      · exact e1 (hm.inj j j' y ob b C1 C' hy hk hyg hg b1 hc)
      · have := hblt j y C1 hy hyg b1; omega
    · simp only [if_neg e1] at h1
      simp only [if_neg e2] at h2
      obtain ⟨y, hy, hyg⟩ := hold j ob1 e1 h1 g1
      obtain ⟨y', hy', hyg'⟩ := hold j' ob2 e2 h2 g2
      rw [hbl j e1] at b1
      rw [hbl j' e2] at b2
      exact hm.inj j j' y y' b C1 C2 hy hy' hyg hyg' b1 b2
  dom j hj := by
    by_cases h : j = k
    · simp [h] at hj
    · simp only [if_neg h, killHp] at hj
      rw [hbl j h]
      refine hm.dom j ?_
      cases hh : hp j with
      | none => rfl
      | some y => rw [hh] at hj; cases y <;> simp at hj
  lt := hlt
end Go.Fw
