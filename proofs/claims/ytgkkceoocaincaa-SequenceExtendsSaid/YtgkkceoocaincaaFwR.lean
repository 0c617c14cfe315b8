/- What an abstract state says of a world; what a contract says of a function. -/
import Derived.Test.YtgkkceoocaincaaFwB
import Derived.Laws.CopyRow
import Derived.WalkKit
import Derived.RowKit3

namespace Go.Fw

/-- Where an owned block lies: not made yet (an empty array), or at a block, with room for so many elements. -/
inductive BL where
  | virt
  | at (b C : Nat)

structure Cx where
  bl : Nat → Option BL
  O : Nat → Prop

def Cx.bare (cx : Cx) : Cx := ⟨fun _ => none, cx.O⟩

def Tg.ok (t : Tg) (a : Option Addr) (cap : Nat) : Prop := (t.nn = true → a ≠ none) ∧ ∀ c, t.cap = some c → cap = c
theorem Tg.ok_no {a : Option Addr} {cap : Nat} : Tg.no.ok a cap := And.intro (fun h => absurd h (by decide)) (fun c h => by simp [Tg.no] at h)

def offs : List PS → Nat
  | [] => 0
  | .fld _ off :: p => off + offs p
  | .ix E _ i :: p => i * E + offs p

inductive RelC : Cx → World → SV → List Value → Prop where
  | v {cx w x} : x.oneCell' = true → RelC cx w (.v x) [x]
  | top {cx w x} : x.oneCell' = true → RelC cx w .top [x]
  | nil {cx w} : RelC cx w (.agg []) []
  | cons {cx w s cs vs us} : RelC cx w s vs → RelC cx w (.agg cs) us → RelC cx w (.agg (s :: cs)) (vs ++ us)
  | ba {cx w n l} : l.length = n → RelC cx w (.ba n l) (l.map fun x => .int .u8 x)
  | fs0 {cx w t E a} : t.ok a 0 → RelC cx w (.fs t E []) [.slice a 0 0]
  | fs {cx : Cx} {w : World} {t : Tg} {E : Nat} {rows : List SV} {b off cap : Nat} {cs : Array Value} {T fz} (f : Nat → List Value) :
      w.heap[b]? = some (.cells cs T fz) → ¬ cx.O b → rows.length ≤ cap → t.ok (some ⟨b, off, none⟩) cap →
      (∀ i s, rows[i]? = some s → RelC ⟨fun _ => none, cx.O⟩ w s (f i)) →
      (∀ i, i < rows.length → (f i).length = E) → (∀ i, i < rows.length → ∀ (j : Nat) x, (f i)[j]? = some x → cs[off + i * E + j]? = some x) →
      RelC cx w (.fs t E rows) [.slice (some ⟨b, off, none⟩) rows.length cap]
  | ov {cx : Cx} {w E k off n b C} : cx.bl k = some (.at b C) → off + n ≤ C → RelC cx w (.ov E k off n) [.slice (some ⟨b, off * E, none⟩) n (C - off)]
  | ov0 {cx : Cx} {w E k a} : cx.bl k = some .virt → RelC cx w (.ov E k 0 0) [.slice a 0 0]
  | ovz {cx : Cx} {w E k a b C} : cx.bl k = some (.at b C) → RelC cx w (.ov E k C 0) [.slice a 0 0]
  | sb {cx : Cx} {w k p off n b C cap} : cx.bl k = some (.at b C) → n ≤ cap → RelC cx w (.sb k p off n) [.slice (some ⟨b, offs p + off, none⟩) n cap]
  | pb {cx : Cx} {w k p b C} : cx.bl k = some (.at b C) → RelC cx w (.pb k p) [.pointer (some ⟨b, offs p, none⟩)]
  | pe {cx : Cx} {w E k i p b C} : cx.bl k = some (.at b C) → RelC cx w (.pe E k i p) [.pointer (some ⟨b, i * E + offs p, none⟩)]
  | pf {cx w t E rows b off n cap i p} : RelC cx w (.fs t E rows) [.slice (some ⟨b, off, none⟩) n cap] →
      RelC cx w (.pf E rows i p) [.pointer (some ⟨b, off + i * E + offs p, none⟩)]
  | clo {cx : Cx} {w f caps} (vs : List Value) : vs.length = caps.length → (∀ (i : Nat) s x, caps[i]? = some s → vs[i]? = some x → RelC cx w s [x]) →
      RelC cx w (.clo f caps) [.func (.func f) #[] vs.toArray]

def RelV1 (cx : Cx) (w : World) (s : SV) (v : Value) : Prop :=
  match s with
  | .top => True
  | .agg cs => ∃ vs : List Value, v = .agg vs.toArray ∧ RelC cx w (.agg cs) vs
  | .ba n l => ∃ vs : List Value, v = .agg vs.toArray ∧ RelC cx w (.ba n l) vs
  | .tup _ => False
  | s => RelC cx w s [v]

inductive RelVL (cx : Cx) (w : World) : List SV → List Value → Prop where
  | nil : RelVL cx w [] []
  | cons {s v l vs} : RelV1 cx w s v → RelVL cx w l vs → RelVL cx w (s :: l) (v :: vs)

def RelV (cx : Cx) (w : World) (s : SV) (v : Value) : Prop :=
  match s with
  | .tup l => ∃ vs : List Value, v = .tuple vs.toArray ∧ RelVL cx w l vs
  | s => RelV1 cx w s v

/-- What an owned block holds. -/
def Holds (cx : Cx) (w : World) (b C : Nat) : OB → Prop
  | .cells s => ∃ (vs : List Value) (T : TypeId), w.heap[b]? = some (.cells vs.toArray T (0, 0)) ∧ RelC cx w s vs
  | .arr E rows => ∃ (vs : List Value) (T : TypeId), w.heap[b]? = some (.cells vs.toArray T (0, 0)) ∧ vs.length = C * E ∧ rows.length ≤ C ∧
      ∀ i s, rows[i]? = some s → RelC cx.bare w s ((vs.drop (i * E)).take E)
  | .gone => True

def Live (cx : Cx) (w : World) (k : Nat) (ob : OB) : Prop :=
  match ob with
  | .gone => True
  | ob => (∃ b C, cx.bl k = some (.at b C) ∧ cx.O b ∧ Holds cx w b C ob) ∨ (cx.bl k = some .virt ∧ ∃ E, ob = .arr E [])

structure Mem (cx : Cx) (w : World) (hp : Nat → Option OB) : Prop where
  live : ∀ k ob, hp k = some ob → Live cx w k ob
  inj : ∀ k k' ob ob' b C C', hp k = some ob → hp k' = some ob' → ob ≠ .gone → ob' ≠ .gone → cx.bl k = some (.at b C) → cx.bl k' = some (.at b C') → k = k'
  dom : ∀ k, hp k = none → cx.bl k = none
  lt : ∀ b, cx.O b → b < w.heap.size

/-- What is no memory stays, and what is frozen. -/
structure WK (w w' : World) : Prop where
  os : w'.os = w.os
  out : w'.output = w.output
  fz : ∀ a, w'.frozen? a = w.frozen? a
theorem WK.refl (w : World) : WK w w := ⟨rfl, rfl, fun _ => rfl⟩
theorem WK.trans {w w1 w2 : World} (h : WK w w1) (g : WK w1 w2) : WK w w2 := ⟨g.os.trans h.os, g.out.trans h.out, fun a => (g.fz a).trans (h.fz a)⟩

/-- How the world may have gone on: the owned blocks that were handed over may have changed, the others are as they were. -/
structure Fr (keep : Nat → Prop) (cx : Cx) (w : World) (cx' : Cx) (w' : World) : Prop where
  le : w.heap.size ≤ w'.heap.size
  same : ∀ b, b < w.heap.size → (∀ k C, cx.bl k ≠ some (.at b C)) → w'.heap[b]? = w.heap[b]?
  own : ∀ b, cx'.O b → cx.O b ∨ w.heap.size ≤ b
  old : ∀ b, b < w.heap.size → cx.O b → cx'.O b
  blk : ∀ k b C, cx'.bl k = some (.at b C) → cx.bl k = some (.at b C) ∨ w.heap.size ≤ b
  keep : ∀ k, keep k → cx'.bl k = cx.bl k
  wk : WK w w'

def isCells (hp : Nat → Option OB) (k : Nat) : Prop := ∃ s, hp k = some (.cells s)

/-- A contract: called with these arguments over these owned blocks, the function returns this, and leaves the blocks so. -/
def Spec (P : Program) (f : FuncId) (args : List SV) (hp : List OB) (r : SV) (hp' : List OB) : Prop :=
  ∀ (cx : Cx) (w : World) (vals : List Value), Mem cx w (nthB hp) → RelVL cx w args vals →
    Calls P f vals.toArray w fun e w' => ∃ cx' v, e = .returned v ∧ RelV cx' w' r v ∧ Mem cx' w' (nthB hp') ∧ Fr (isCells (nthB hp)) cx w cx' w'

/-! ### What lasts -/
structure Ext (cx : Cx) (w : World) (cx' : Cx) (w' : World) : Prop where
  bl : ∀ k x, cx.bl k = some x → cx'.bl k = some x
  same : ∀ b, b < w.heap.size → ¬ cx.O b → w'.heap[b]? = w.heap[b]?
  own : ∀ b, cx'.O b → cx.O b ∨ w.heap.size ≤ b

theorem lt_of_getElem? {α : Type} {xs : Array α} {i : Nat} {x : α} (h : xs[i]? = some x) : i < xs.size := by
  rcases Nat.lt_or_ge i xs.size with h' | h'
  · exact h'
  · rw [Array.getElem?_eq_none h'] at h; cases h

theorem Ext.bare {cx w cx' w'} (h : Ext cx w cx' w') : Ext ⟨fun _ => none, cx.O⟩ w ⟨fun _ => none, cx'.O⟩ w' :=
  ⟨fun _ _ h' => (by cases h'), h.same, h.own⟩

theorem RelC.mono {cx w s vs} (h : RelC cx w s vs) : ∀ {cx' w'}, Ext cx w cx' w' → RelC cx' w' s vs := by
  induction h with
  | v h => intro _ _ _; exact .v h
  | top h => intro _ _ _; exact .top h
  | nil => intro _ _ _; exact .nil
  | cons _ _ ih1 ih2 => intro _ _ e; exact .cons (ih1 e) (ih2 e)
  | ba h => intro _ _ _; exact .ba h
  | fs0 h => intro _ _ _; exact .fs0 h
  | fs f hb hO hc ht hr hl hx ih =>
    intro cx' w' e
    have hlt := lt_of_getElem? hb
    refine .fs f (by rw [e.same _ hlt hO]; exact hb) (fun h => ?_) hc ht (fun i s hs => ih i s hs e.bare) hl hx
    rcases e.own _ h with h | h
    · exact hO h
    · omega
  | ov h1 h2 => intro _ _ e; exact .ov (e.bl _ _ h1) h2
  | ov0 h1 => intro _ _ e; exact .ov0 (e.bl _ _ h1)
  | ovz h1 => intro _ _ e; exact .ovz (e.bl _ _ h1)
  | sb h1 h2 => intro _ _ e; exact .sb (e.bl _ _ h1) h2
  | pb h1 => intro _ _ e; exact .pb (e.bl _ _ h1)
  | pe h1 => intro _ _ e; exact .pe (e.bl _ _ h1)
  | pf _ ih => intro _ _ e; exact .pf (ih e)
  | clo vs hl _ ih => intro _ _ e; exact .clo vs hl fun i s x h1 h2 => ih i s x h1 h2 e

theorem RelV1.mono {cx w s v} (h : RelV1 cx w s v) {cx' w'} (e : Ext cx w cx' w') : RelV1 cx' w' s v := by
  cases s <;> simp only [RelV1] at h ⊢ <;> first | exact h | exact h.mono e | (obtain ⟨vs, h1, h2⟩ := h; exact ⟨vs, h1, h2.mono e⟩)
theorem RelVL.mono {cx w l vs} (h : RelVL cx w l vs) {cx' w'} (e : Ext cx w cx' w') : RelVL cx' w' l vs := by
  induction h with
  | nil => exact .nil
  | cons h _ ih => exact .cons (h.mono e) ih
theorem RelV.mono {cx w s v} (h : RelV cx w s v) {cx' w'} (e : Ext cx w cx' w') : RelV cx' w' s v := by
  cases s <;> simp only [RelV] at h ⊢ <;> first | exact h.mono e | (obtain ⟨vs, h1, h2⟩ := h; exact ⟨vs, h1, h2.mono e⟩)
theorem Holds.mono {cx w b C ob} (h : Holds cx w b C ob) {cx' w'} (e : Ext cx w cx' w') (hb : w'.heap[b]? = w.heap[b]?) : Holds cx' w' b C ob := by
  cases ob with
  | gone => trivial
  | cells s =>
    obtain ⟨vs, T, h1, h2⟩ := h
    exact ⟨vs, T, by rw [hb]; exact h1, h2.mono e⟩
  | arr E rows =>
    obtain ⟨vs, T, h1, h2, h3, h4⟩ := h
    exact ⟨vs, T, by rw [hb]; exact h1, h2, h3, fun i s hs => (h4 i s hs).mono e.bare⟩

theorem Ext.refl (cx : Cx) (w : World) : Ext cx w cx w := ⟨fun _ _ h => h, fun _ _ _ => rfl, fun _ h => .inl h⟩

/-- The width of a value is the number of its cells. -/
theorem RelC.width {cx w s vs} (h : RelC cx w s vs) : vs.length = wd s := by
  induction h with
  | cons _ _ ih1 ih2 => simp only [List.length_append, ih1, ih2, Fw.wd, Fw.wds]
  | nil => rfl
  | ba h => simpa [Fw.wd] using h
  | _ => rfl
end Go.Fw
