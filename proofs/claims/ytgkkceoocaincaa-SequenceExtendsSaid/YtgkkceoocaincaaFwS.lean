/- The executor is sound: first, what a step does to a state. -/
import Derived.Test.YtgkkceoocaincaaFwE
namespace Go.Fw

def updSl (sl : Nat → Option SV) : List (Nat × SV) → Nat → Option SV
  | [] => sl
  | (t, s) :: r => updSl (fun i => if i = t then some s else sl i) r
def updHp (hp : Nat → Option OB) : List (Nat × OB) → Nat → Option OB
  | [] => hp
  | (k, ob) :: r => updHp (fun i => if i = k then some ob else hp i) r

theorem lk_cons (t : Nat) (s : SV) (e : List (Nat × SV)) : lk ((t, s) :: e) = fun i => if i = t then some s else lk e i := by
  funext i
  simp only [lk]
  by_cases h : t = i
  · subst h; simp
  · have h' : Nat.beq t i = false := by
      cases hb : Nat.beq t i with
      | false => rfl
      | true => exact absurd (Nat.eq_of_beq_eq_true hb) h
    rw [h']; simp [Ne.symm h]
theorem putW_sound : ∀ (wr e : List (Nat × SV)) (K : List (Nat × SV) → Prop), putW wr e K → ∃ e', lk e' = updSl (lk e) wr ∧ K e'
  | [], e, _, h => ⟨e, rfl, h⟩
  | (t, s) :: r, e, K, h => by
    obtain ⟨e', h1, h2⟩ := putW_sound r ((t, s) :: e) K h
    exact ⟨e', by rw [h1, lk_cons]; rfl, h2⟩
theorem setH_sound : ∀ (h : List OB) (k : Nat) (ob : OB) (K : List OB → Prop), setH h k ob K → ∃ h', (nthB h' = fun i => if i = k then some ob else nthB h i) ∧ K h'
  | [], 0, ob, K, h => ⟨[ob], by funext i; cases i <;> simp [nthB], h⟩
  | [], _ + 1, _, _, h => h.elim
  | x :: r, 0, ob, K, h => ⟨ob :: r, by funext i; cases i <;> simp [nthB], h⟩
  | x :: r, k + 1, ob, K, h => by
    obtain ⟨h', h1, h2⟩ := setH_sound r k ob _ h
    refine ⟨x :: h', ?_, h2⟩
    funext i
    cases i with
    | zero => simp [nthB]
    | succ i => simp [nthB, h1]
theorem putH_sound : ∀ (wh : List (Nat × OB)) (h : List OB) (K : List OB → Prop), putH wh h K → ∃ h', nthB h' = updHp (nthB h) wh ∧ K h'
  | [], h, _, hK => ⟨h, rfl, hK⟩
  | (k, ob) :: r, h, K, hK => by
    obtain ⟨h1, e1, hK1⟩ := setH_sound h k ob _ hK
    obtain ⟨h2, e2, hK2⟩ := putH_sound r h1 K hK1
    exact ⟨h2, by rw [e2, e1]; rfl, hK2⟩
theorem updK_sound {e h rc K} (hK : updK e h rc K) : ∃ e' h', lk e' = updSl (lk e) rc.wr ∧ nthB h' = updHp (nthB h) rc.wh ∧ K e' h' := by
  obtain ⟨e', h1, h2⟩ := putW_sound _ _ _ hK
  obtain ⟨h', h3, h4⟩ := putH_sound _ _ _ h2
  exact ⟨e', h', h1, h3, h4⟩

theorem Fr.refl (keep : Nat → Prop) (cx : Cx) (w : World) : Fr keep cx w cx w :=
  ⟨Nat.le_refl _, fun _ _ _ => rfl, fun _ h => .inl h, fun _ _ h => h, fun _ _ _ h => .inl h, fun _ _ => rfl, .refl w⟩
theorem Fr.trans {keep keep' cx0 w0 cx w cx' w'} (h : Fr keep cx0 w0 cx w) (h' : Fr keep' cx w cx' w') (hk : ∀ k, keep k → keep' k) : Fr keep cx0 w0 cx' w' where
  le := Nat.le_trans h.le h'.le
  same b hb hn := by
    rw [h'.same b (Nat.lt_of_lt_of_le hb h.le) (fun k C hc => ?_), h.same b hb hn]
    rcases h.blk k b C hc with hc | hc
    · exact hn k C hc
    · omega
  own b hb := by
    rcases h'.own b hb with hb | hb
    · exact h.own b hb
    · exact .inr (Nat.le_trans h.le hb)
  old b hb hO := h'.old b (Nat.lt_of_lt_of_le hb h.le) (h.old b hb hO)
  blk k b C hc := by
    rcases h'.blk k b C hc with hc | hc
    · exact h.blk k b C hc
    · exact .inr (Nat.le_trans h.le hc)
  keep k hk1 := by rw [h'.keep k (hk k hk1), h.keep k hk1]
  wk := h.wk.trans h'.wk

theorem SatF.put {B cx sl hp a w s v} (h : SatF B cx sl hp a w) {dst : Option Nat} (hr : RelV cx w s v) (hd : inFrame B.n dst = true) :
    SatF B cx (updSl sl (dst1 dst s)) hp (a.put dst v) w := by
  cases dst with
  | none => exact h
  | some d =>
    have hd' : d < B.n.n := by simpa [inFrame] using hd
    refine ⟨h.df, by simpa [Act.put] using h.sz, fun t s' ht => ?_, h.mem, h.fr⟩
    simp only [updSl, dst1] at ht
    by_cases htd : t = d
    · subst htd
      simp at ht
      subst ht
      exact ⟨v, by simp [Act.put, h.sz, hd'], hr⟩
    · simp [htd] at ht
      obtain ⟨v', h1, h2⟩ := h.sl t s' ht
      exact ⟨v', by simpa [Act.put, Array.getElem?_setIfInBounds_ne (Ne.symm htd)] using h1, h2⟩

/-- A state carried to a later world. -/
theorem SatF.later {B cx sl hp a w} (h : SatF B cx sl hp a w) {cx' w' hp'} (e : Ext cx w cx' w') (hm : Mem cx' w' hp') (hf : Fr B.keep cx w cx' w') : SatF B cx' sl hp' a w' :=
  ⟨h.df, h.sz, fun t s ht => let ⟨v, h1, h2⟩ := h.sl t s ht; ⟨v, h1, h2.mono e⟩, hm, h.fr.trans hf (fun _ h => h)⟩

/-! ### The world goes on: a new block -/
def Cx.with (cx : Cx) (k : Nat) (x : BL) (O : Nat → Prop) : Cx := ⟨fun i => if i = k then some x else cx.bl i, O⟩

theorem heap_alloc_old (w : World) (o : Obj) (b : Nat) (h : b < w.heap.size) : (w.alloc o).heap[b]? = w.heap[b]? := by
  show (w.heap.push o)[b]? = _
  rw [Array.getElem?_push, if_neg (Nat.ne_of_lt h)]
theorem heap_alloc_new (w : World) (o : Obj) : (w.alloc o).heap[w.heap.size]? = some o := by
  show (w.heap.push o)[w.heap.size]? = _
  rw [Array.getElem?_push, if_pos rfl]
theorem heap_alloc_size (w : World) (o : Obj) : (w.alloc o).heap.size = w.heap.size + 1 := Array.size_push o

theorem ext_alloc (cx : Cx) (w : World) (o : Obj) (k C : Nat) (hk : cx.bl k = none) :
    Ext cx w (cx.with k (.at w.heap.size C) (fun b => cx.O b ∨ b = w.heap.size)) (w.alloc o) where
  bl j x hj := by
    have : j ≠ k := fun e => by subst e; rw [hk] at hj; cases hj
    simp [Cx.with, this, hj]
  same b hb _ := heap_alloc_old w o b hb
  own b hb := by
    rcases hb with hb | hb
    · exact .inl hb
    · exact .inr (by omega)
theorem fr_alloc (keep : Nat → Prop) (cx : Cx) (w : World) (o : Obj) (k C : Nat) (hk : ¬ keep k) (hz : ∃ c t, o = .cells c t (0, 0)) :
    Fr keep cx w (cx.with k (.at w.heap.size C) (fun b => cx.O b ∨ b = w.heap.size)) (w.alloc o) where
  le := by rw [heap_alloc_size]; omega
  same b hb _ := heap_alloc_old w o b hb
  own b hb := by
    rcases hb with hb | hb
    · exact .inl hb
    · exact .inr (by omega)
  old b _ hO := .inl hO
  blk j b C' hj := by
    by_cases e : j = k
    · subst e
      simp [Cx.with] at hj
      exact .inr (by omega)
    · simp [Cx.with, e] at hj
      exact .inl hj
  keep j hj := by
    have : j ≠ k := fun e => hk (e ▸ hj)
    simp [Cx.with, this]
  wk := by
    obtain ⟨c, t, rfl⟩ := hz
    exact ⟨rfl, rfl, fun a => RowKit.frozen?_alloc_cells w c t a⟩
theorem mem_alloc {cx : Cx} {w : World} {hp : Nat → Option OB} (hm : Mem cx w hp) (o : Obj) (k C : Nat) (hk : hp k = none) (ob : OB)
    (hob : ∀ cx', Ext cx w cx' (w.alloc o) → Holds cx' (w.alloc o) w.heap.size C ob) :
    Mem (cx.with k (.at w.heap.size C) (fun b => cx.O b ∨ b = w.heap.size)) (w.alloc o) (fun i => if i = k then some ob else hp i) where
  live j ob' hj := by
    have e := ext_alloc cx w o k C (hm.dom k hk)
    by_cases h : j = k
    · subst h
      simp at hj
      subst hj
      cases ob with
      | gone => trivial
      | cells s => exact .inl ⟨w.heap.size, C, by simp [Cx.with], .inr rfl, hob _ e⟩
      | arr E rows => exact .inl ⟨w.heap.size, C, by simp [Cx.with], .inr rfl, hob _ e⟩
    · simp [h] at hj
      have hl := hm.live j ob' hj
      cases ob' with
      | gone => trivial
      | cells s =>
        rcases hl with ⟨b, C', h1, h2, h3⟩ | ⟨h1, E, h2⟩
        · exact .inl ⟨b, C', e.bl _ _ h1, .inl h2, h3.mono e (heap_alloc_old w o b (hm.lt b h2))⟩
        · cases h2
      | arr E rows =>
        rcases hl with ⟨b, C', h1, h2, h3⟩ | ⟨h1, E', h2⟩
        · exact .inl ⟨b, C', e.bl _ _ h1, .inl h2, h3.mono e (heap_alloc_old w o b (hm.lt b h2))⟩
        · exact .inr ⟨e.bl _ _ h1, E', h2⟩
  inj j j' ob1 ob2 b C1 C2 h1 h2 g1 g2 b1 b2 := by
    have old : ∀ i ob C', i ≠ k → hp i = some ob → ob ≠ .gone → cx.bl i = some (.at b C') → b < w.heap.size := by
      intro i ob C' _ hi hg hb
      have hl := hm.live i ob hi
      cases ob with
      | gone => exact absurd rfl hg
      | cells s =>
        rcases hl with ⟨b', C'', h1, h2, _⟩ | ⟨_, E, h2⟩
        · rw [h1] at hb; cases hb; exact hm.lt _ h2
        · cases h2
      | arr E rows =>
        rcases hl with ⟨b', C'', h1, h2, _⟩ | ⟨h1, _⟩
        · rw [h1] at hb; cases hb; exact hm.lt _ h2
        · rw [h1] at hb; cases hb
    by_cases e1 : j = k <;> by_cases e2 : j' = k
    · rw [e1, e2]
    · simp [e1, e2, Cx.with] at h2 b1 b2
      have := old j' ob2 C2 e2 h2 g2 b2
      omega
    · simp [e1, e2, Cx.with] at h1 b1 b2
      have := old j ob1 C1 e1 h1 g1 b1
      omega
    · simp [e1, e2, Cx.with] at h1 h2 b1 b2
      exact hm.inj j j' ob1 ob2 b C1 C2 h1 h2 g1 g2 b1 b2
  dom j hj := by
    by_cases h : j = k
    · simp [h] at hj
    · simp [h] at hj
      simp [Cx.with, h, hm.dom j hj]
  lt b hb := by
    rw [heap_alloc_size]
    rcases hb with hb | hb
    · have := hm.lt b hb; omega
    · omega

/-! ### A block of one's own is written -/
theorem wk_setRow (w : World) (b : Nat) (cs : Array Value) : WK w (w.setRow b cs) := by
  refine ⟨rfl, rfl, fun a => ?_⟩
  by_cases h : a.block = b
  · subst h
    cases hb : w.heap[a.block]? with
    | none => simp [World.frozen?, World.setRow, Array.getElem?_modify, hb]
    | some o => cases o <;> simp [World.frozen?, World.setRow, Array.getElem?_modify, hb]
  · simp only [World.frozen?, setRow_other w b a.block cs h]
theorem fr_set (keep : Nat → Prop) (cx : Cx) (w : World) (k b C : Nat) (cs : Array Value) (hk : cx.bl k = some (.at b C)) : Fr keep cx w cx (w.setRow b cs) where
  le := by simp
  same b' hb hn := setRow_other w b b' cs fun e => hn k C (e ▸ hk)
  own b h := .inl h
  old _ _ h := h
  blk _ _ _ h := .inl h
  keep _ _ := rfl
  wk := wk_setRow w b cs
theorem ext_set (cx : Cx) (w : World) (b : Nat) (cs : Array Value) (hO : cx.O b) : Ext cx w cx (w.setRow b cs) where
  bl _ _ h := h
  same b' _ hn := setRow_other w b b' cs fun e => hn (e ▸ hO)
  own _ h := .inl h
theorem live_at {cx w hp k ob} (hm : Mem cx w hp) (hk : hp k = some ob) {b C : Nat} (hb : cx.bl k = some (.at b C)) (hg : ob ≠ .gone) : cx.O b ∧ Holds cx w b C ob := by
  have hl := hm.live k ob hk
  cases ob with
  | gone => exact absurd rfl hg
  | cells s =>
    rcases hl with ⟨b', C', h1, h2, h3⟩ | ⟨h1, E, h2⟩
    · rw [h1] at hb; cases hb; exact ⟨h2, h3⟩
    · cases h2
  | arr E rows =>
    rcases hl with ⟨b', C', h1, h2, h3⟩ | ⟨h1, E', h2⟩
    · rw [h1] at hb; cases hb; exact ⟨h2, h3⟩
    · rw [h1] at hb; cases hb
theorem mem_set {cx : Cx} {w : World} {hp : Nat → Option OB} (hm : Mem cx w hp) {k b C : Nat} {ob ob' : OB} (cs : Array Value) (hk : hp k = some ob) (hg : ob ≠ .gone) (hg' : ob' ≠ .gone)
    (hb : cx.bl k = some (.at b C)) (hob : Ext cx w cx (w.setRow b cs) → Holds cx (w.setRow b cs) b C ob') :
    Mem cx (w.setRow b cs) (fun i => if i = k then some ob' else hp i) where
  live j x hj := by
    have hO := (live_at hm hk hb hg).1
    have e := ext_set cx w b cs hO
    by_cases h : j = k
    · subst h
      simp at hj
      subst hj
      cases ob' with
      | gone => trivial
      | cells s => exact .inl ⟨b, C, hb, hO, hob e⟩
      | arr E rows => exact .inl ⟨b, C, hb, hO, hob e⟩
    · simp [h] at hj
      have hl := hm.live j x hj
      cases x with
      | gone => trivial
      | cells s =>
        rcases hl with ⟨b', C', h1, h2, h3⟩ | ⟨h1, E, h2⟩
        · have hne : b' ≠ b := fun e1 => h (hm.inj j k _ _ b C' C hj hk (by simp) hg (e1 ▸ h1) hb)
          exact .inl ⟨b', C', h1, h2, h3.mono e (setRow_other w b b' cs hne)⟩
        · cases h2
      | arr E rows =>
        rcases hl with ⟨b', C', h1, h2, h3⟩ | ⟨h1, E', h2⟩
        · have hne : b' ≠ b := fun e1 => h (hm.inj j k _ _ b C' C hj hk (by simp) hg (e1 ▸ h1) hb)
          exact .inl ⟨b', C', h1, h2, h3.mono e (setRow_other w b b' cs hne)⟩
        · exact .inr ⟨h1, E', h2⟩
  inj j j' ob1 ob2 b1 C1 C2 h1 h2 g1 g2 e1 e2 := by
    have hh : ∀ i x, (if i = k then some ob' else hp i) = some x → ∃ y, hp i = some y ∧ (x ≠ .gone → y ≠ .gone) := by
      intro i x hx
      by_cases e : i = k
      · subst e; exact ⟨ob, hk, fun _ => hg⟩
      · simp [e] at hx; exact ⟨x, hx, id⟩
    obtain ⟨y1, a1, c1⟩ := hh j ob1 h1
    obtain ⟨y2, a2, c2⟩ := hh j' ob2 h2
    exact hm.inj j j' y1 y2 b1 C1 C2 a1 a2 (c1 g1) (c2 g2) e1 e2
  dom j hj := by
    by_cases h : j = k
    · simp [h] at hj
    · simp [h] at hj; exact hm.dom j hj
  lt b' h := by rw [setRow_size]; exact hm.lt b' h
end Go.Fw
