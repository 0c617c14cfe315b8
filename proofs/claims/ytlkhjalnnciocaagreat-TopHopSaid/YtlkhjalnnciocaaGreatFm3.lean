/- The executor is sound: len, min, max, append. -/
import Derived.Test.YtlkhjalnnciocaaGreatFm2

namespace Go.Fw
section
variable {P : Program} {TT : Nat → TI} {n : Sz} {e : List (Nat × SV)} {h : List OB} {K : Rec → Prop}
variable {dst : Option Nat} {ty : TypeId} {pos : String} {after : Array Edge} {guard : Option (Nat × Bool)}

/-- An operation that may lay memory. -/
theorem opD_mem {o : Oper} {sl : Nat → Option SV} {hp : Nat → Option OB} {rc : Rec} {s : SV} (hn : inFrame n o.dst = true) (hwr : rc.wr = dst1 o.dst s) (hbar : rc.bar = false)
    (hrd : rc.rd = slotsOf o.op.operands.toList)
    (h : ∀ (hp' : Nat → Option OB), (∀ k ∈ rc.rh, hp' k = hp k) → ∀ (cx : Cx) (w : World) (a : Act) (keep : Nat → Prop), Reads sl rc.rd cx w a → Mem cx w hp' → (∀ k, keep k → cx.bl k ≠ none) →
      ∃ v cx' w', (execOp a.eval o).run P w = .ok (.value v) w' ∧ Ext cx w cx' w' ∧ Fr keep cx w cx' w' ∧ Mem cx' w' (updHp hp' rc.wh) ∧ RelV cx' w' s v) : OpD P o n sl hp rc := by
  intro sl' hp' ha B cx a w Q K hB hs hK
  simp only [Agree, hbar, Bool.false_eq_true, if_false] at ha
  obtain ⟨v, cx', w', h1, h2, h3, h4, h5⟩ := h hp' ha.2 cx w a B.keep (.of_sat hs ha.1) hs.mem (fun k hk => by rw [hs.fr.keep k hk]; exact B.kp k hk)
  refine wp_value h1 (hK cx' _ _ ?_)
  subst hB
  rw [hwr]
  exact (hs.later h2 h4 h3).put h5 hn

theorem ext_heap {cx : Cx} {w w' : World} (hh : w'.heap = w.heap) : Ext cx w cx w' := ⟨fun _ _ h => h, fun b _ _ => by rw [hh], fun _ h => .inl h⟩
theorem fr_heap {keep : Nat → Prop} {cx : Cx} {w w' : World} (hh : w'.heap = w.heap) (ho : w'.os = w.os ∧ w'.output = w.output := by exact ⟨rfl, rfl⟩) : Fr keep cx w cx w' :=
  ⟨by rw [hh]; exact Nat.le_refl _, fun b _ _ => by rw [hh], fun _ h => .inl h, fun _ _ h => .inl h, fun k _ _ h => .inl ⟨k, .inl rfl, h⟩, fun _ _ => rfl, ho.1, ho.2, fun a => by simp [World.frozen?, hh]⟩
theorem mem_heap {cx : Cx} {w w' : World} {hp : Nat → Option OB} (hm : Mem cx w hp) (hh : w'.heap = w.heap) : Mem cx w' hp where
  live k ob hk := by
    have hl := hm.live k ob hk
    cases ob with
    | gone => trivial
    | cells s =>
      rcases hl with ⟨b, C, h1, h2, h3⟩ | h
      · exact .inl ⟨b, C, h1, h2, h3.mono (ext_heap hh) (by rw [hh])⟩
      · exact .inr h
    | arr x E rows =>
      rcases hl with ⟨b, C, h1, h2, h3⟩ | h
      · exact .inl ⟨b, C, h1, h2, h3.mono (ext_heap hh) (by rw [hh])⟩
      · exact .inr h
  inj := hm.inj
  dom := hm.dom
  lt b hb := by rw [hh]; exact hm.lt b hb
theorem Ext.trans {cx w cx1 w1 cx2 w2} (h1 : Ext cx w cx1 w1) (h2 : Ext cx1 w1 cx2 w2) (hle : w.heap.size ≤ w1.heap.size) : Ext cx w cx2 w2 where
  bl k x hk := h2.bl k x (h1.bl k x hk)
  same b hb hO := by
    rw [h2.same b (Nat.lt_of_lt_of_le hb hle) (fun h => by rcases h1.own b h with h | h; exact hO h; omega), h1.same b hb hO]
  own b hb := by
    rcases h2.own b hb with h | h
    · exact h1.own b h
    · exact .inr (Nat.le_trans hle h)

/-- An empty slice that lies nowhere yet. -/
theorem ext_virt (cx : Cx) (w : World) (k : Nat) (hk : cx.bl k = none) : Ext cx w (cx.with k .virt cx.O) w where
  bl j x hj := by
    have : j ≠ k := fun e => by subst e; rw [hk] at hj; cases hj
    simp [Cx.with, this, hj]
  same _ _ _ := rfl
  own _ h := .inl h
theorem fr_virt (keep : Nat → Prop) (cx : Cx) (w : World) (k : Nat) (hk : ¬ keep k) : Fr keep cx w (cx.with k .virt cx.O) w where
  le := Nat.le_refl _
  same _ _ _ := rfl
  own _ h := .inl h
  old _ _ h := .inl h
  blk j b C hj := by
    by_cases e : j = k
    · subst e; simp [Cx.with] at hj
    · simp [Cx.with, e] at hj; exact .inl ⟨j, .inl rfl, hj⟩
  keep j hj := by
    have : j ≠ k := fun e => hk (e ▸ hj)
    simp [Cx.with, this]
  wk := .refl w
theorem mem_virt {cx : Cx} {w : World} {hp : Nat → Option OB} (hm : Mem cx w hp) (k E : Nat) (hk : hp k = none) :
    Mem (cx.with k .virt cx.O) w (fun i => if i = k then some (.arr none E []) else hp i) where
  live j ob hj := by
    have e := ext_virt cx w k (hm.dom k hk)
    by_cases h : j = k
    · subst h
      simp at hj
      subst hj
      exact .inr ⟨by simp [Cx.with], E, rfl⟩
    · simp [h] at hj
      have hl := hm.live j ob hj
      cases ob with
      | gone => trivial
      | cells s =>
        rcases hl with ⟨b, C, h1, h2, h3⟩ | ⟨_, E', h2⟩
        · exact .inl ⟨b, C, e.bl _ _ h1, h2, h3.mono e rfl⟩
        · cases h2
      | arr x E rows =>
        rcases hl with ⟨b, C, h1, h2, h3⟩ | ⟨h1, E', h2⟩
        · exact .inl ⟨b, C, e.bl _ _ h1, h2, h3.mono e rfl⟩
        · exact .inr ⟨e.bl _ _ h1, E', h2⟩
  inj j j' ob1 ob2 b C1 C2 h1 h2 g1 g2 b1 b2 := by
    have n1 : j ≠ k := fun e => by subst e; simp [Cx.with] at b1
    have n2 : j' ≠ k := fun e => by subst e; simp [Cx.with] at b2
    simp [n1, n2, Cx.with] at h1 h2 b1 b2
    exact hm.inj j j' ob1 ob2 b C1 C2 h1 h2 g1 g2 b1 b2
  dom j hj := by
    by_cases h : j = k
    · simp [h] at hj
    · simp [h] at hj
      simp [Cx.with, h, hm.dom j hj]
  lt := hm.lt

theorem s_len {t : TypeId} {s : SV} {m : Nat} {x : Operand} {c : Call} {ats : List TypeId} (hT : TTok P TT) (hn : inFrame n dst = true) (hc : c.callee = .builtin .len) (hargs : c.args.toList = [x]) (hat : c.argTypes.toList = t :: ats)
    (hsl : isSlc (TT t) = true) (h1 : OpdR (lk e) x s) (hl : ∀ cx w v, RelV cx w s v → ∃ a0 cap, v = .slice a0 m cap) :
    OpD P ⟨dst, .call c, ty, pos, after, guard⟩ n (lk e) (nthB h) (.plain ⟨dst, .call c, ty, pos, after, guard⟩ (natLen m)) := by
  refine opD_val hn rfl fun cx w a hr => ?_
  obtain ⟨callee, args, argTypes⟩ := c
  simp only at hc hargs hat
  subst hc
  have e1 : args = #[x] := by cases args; simp_all
  subst e1
  obtain ⟨a0, cap, hv⟩ := hl cx w _ (h1.rel hr fun t ht => mem_slotsOf (by simp [Op.operands, Call.operands, ht]))
  obtain ⟨el, hu⟩ := isSlc_under hT hsl
  have hat0 : argTypes[0]? = some t := by rw [← Array.getElem?_toList, hat]; rfl
  simp [execOp, resolve, invoke, builtin, Builtin.len_, hat0, hv, run_underlying hu, natLen, goInt]


theorem s_minmax (mx : Bool) {x y : Operand} {k k' : IntKind} {p q : Int} {c : Call} (hn : inFrame n dst = true) (hc : c.callee = .builtin (if mx then .max else .min)) (hargs : c.args.toList = [x, y])
    (h1 : OpdR (lk e) x (.v (.int k p))) (h2 : OpdR (lk e) y (.v (.int k' q))) :
    OpD P ⟨dst, .call c, ty, pos, after, guard⟩ n (lk e) (nthB h) (.plain ⟨dst, .call c, ty, pos, after, guard⟩ (.v (.int k (if mx then max p q else min p q)))) := by
  refine opD_val hn rfl fun cx w a hr => ?_
  obtain ⟨callee, args, argTypes⟩ := c
  simp only at hc hargs
  subst hc
  have e1 : args = #[x, y] := by cases args; simp_all
  subst e1
  have v1 := relV_v (h1.rel hr fun t ht => mem_slotsOf (by simp [Op.operands, Call.operands, ht]))
  have v2 := relV_v (h2.rel hr fun t ht => mem_slotsOf (by simp [Op.operands, Call.operands, ht]))
  cases mx
  · have : (if q < p then q else p) = min p q := by rw [Int.min_def]; split <;> split <;> omega
    simp [execOp, resolve, invoke, builtin, Builtin.min_, Builtin.min2, v1, v2, this]
  · have : (if q > p then q else p) = max p q := by rw [Int.max_def]; split <;> split <;> omega
    simp [execOp, resolve, invoke, builtin, Builtin.max_, Builtin.max2, v1, v2, this]

/-! ### What a slice holds -/
def RowsAt (cx : Cx) (w : World) (E : Nat) (xs : List SV) (v : Value) : Prop :=
  ∃ a c, ∃ news : List Value, v = .slice a xs.length c ∧ news.length = xs.length * E ∧ (∀ u ∈ news, u.oneCell' = true) ∧
    (a = none → xs.length = 0) ∧ (∀ ad, a = some ad → ∀ (j : Nat) u, news[j]? = some u → w.cell? (ad.add j) = some u) ∧
    ∀ i s, xs[i]? = some s → RelC cx.bare w s ((news.drop (i * E)).take E)

theorem seg_ones {cx w E} {xs : List SV} {news : List Value} (hl : news.length = xs.length * E) (hr : ∀ i s, xs[i]? = some s → RelC cx w s ((news.drop (i * E)).take E)) : ∀ u ∈ news, u.oneCell' = true := by
  intro u hu
  obtain ⟨j, hj⟩ := List.mem_iff_getElem?.1 hu
  have hjl : j < news.length := (List.getElem?_eq_some_iff.1 hj).1
  rcases Nat.eq_zero_or_pos E with hE | hE
  · subst hE; omega
  · have hi : j / E < xs.length := by rw [Nat.div_lt_iff_lt_mul hE]; omega
    have := (hr (j / E) _ (List.getElem?_eq_getElem hi)).ones u
    refine this (List.mem_iff_getElem?.2 ⟨j % E, ?_⟩)
    rw [List.getElem?_take, if_pos (Nat.mod_lt j hE), List.getElem?_drop, Nat.mul_comm, Nat.div_add_mod]
    exact hj

theorem fs_rowsAt {cx w t E rows v} (h : RelC cx w (.fs t E rows) [v]) : RowsAt cx w E rows v := by
  cases h with
  | fs0 => exact ⟨_, _, [], rfl, by simp, by simp, fun _ => rfl, fun _ _ _ _ h => by simp at h, fun _ _ h => by simp at h⟩
  | fs f hb hO hc ht hrows hlen hcell =>
    rename_i b off cap cs T fz
    rcases Nat.eq_zero_or_pos (rows.length * E) with h0 | hpos
    · have : ∀ i s, rows[i]? = some s → RelC cx.bare w s (([] : List Value).drop (i * E) |>.take E) := by
        intro i s hs
        have hi : i < rows.length := (List.getElem?_eq_some_iff.1 hs).1
        have hE : E = 0 := by
          rcases Nat.eq_zero_or_pos E with h | h
          · exact h
          · have := Nat.mul_pos (show 0 < rows.length by omega) h; omega
        have hf := hlen i hi
        rw [hE] at hf
        have : f i = [] := List.length_eq_zero_iff.1 hf
        have hr := hrows i s hs
        rw [this] at hr
        show RelC ⟨fun _ => none, cx.O⟩ w s _
        simpa using hr
      exact ⟨_, _, [], rfl, by simp [h0], by simp, (fun h => by cases h), fun _ _ _ _ h => by simp at h, this⟩
    · have hE : 0 < E := Nat.pos_of_mul_pos_left hpos
      have hR : 0 < rows.length := Nat.pos_of_mul_pos_right hpos
      have hget : ∀ i, i < rows.length → ∀ j, j < E → cs[off + i * E + j]? = (f i)[j]? := by
        intro i hi j hj
        have hfl := hlen i hi
        have := hcell i hi j _ (List.getElem?_eq_getElem (by omega))
        rw [this, List.getElem?_eq_getElem]
      have hsz : off + rows.length * E ≤ cs.size := by
        have := hget (rows.length - 1) (by omega) (E - 1) (by omega)
        have hfl := hlen (rows.length - 1) (by omega)
        rw [List.getElem?_eq_getElem (by omega)] at this
        have h2 := lt_of_getElem? this
        have e1 : rows.length * E = (rows.length - 1) * E + E := by
          conv => lhs; rw [show rows.length = (rows.length - 1) + 1 by omega]
          rw [Nat.add_mul, Nat.one_mul]
        omega
      have hseg : ∀ i s, rows[i]? = some s → RelC cx.bare w s ((((cs.toList.drop off).take (rows.length * E)).drop (i * E)).take E) := by
        intro i s hs
        have hi : i < rows.length := (List.getElem?_eq_some_iff.1 hs).1
        have : (((cs.toList.drop off).take (rows.length * E)).drop (i * E)).take E = f i := by
          apply List.ext_getElem?
          intro j
          simp only [List.getElem?_take, List.getElem?_drop, Array.getElem?_toList]
          have hfl := hlen i hi
          have hiE : (i + 1) * E ≤ rows.length * E := Nat.mul_le_mul_right E hi
          rw [Nat.add_mul, Nat.one_mul] at hiE
          by_cases hj : j < E
          · rw [if_pos hj, if_pos (by omega), ← Nat.add_assoc]
            exact hget i hi j hj
          · rw [if_neg hj, List.getElem?_eq_none (by omega)]
        rw [this]; exact hrows i s hs
      have hl : ((cs.toList.drop off).take (rows.length * E)).length = rows.length * E := by simp; omega
      refine ⟨_, _, (cs.toList.drop off).take (rows.length * E), rfl, hl, seg_ones hl hseg, (fun h => by cases h), ?_, hseg⟩
      intro ad had j u hu
      cases had
      rw [add_none, cell_of hb]
      simp only [List.getElem?_take, List.getElem?_drop, Array.getElem?_toList] at hu
      split at hu
      · exact hu
      · cases hu

theorem ov_rowsAt {cx : Cx} {w : World} {E k off m v} {rows : List SV} (h : RelC cx w (.ov E k off m) [v]) {x : Option Nat} (hl : Live cx w k (.arr x E rows)) :
    ((rows.drop off).take m).length = m → RowsAt cx w E ((rows.drop off).take m) v := by
  intro hm
  cases h with
  | ov hb hC =>
    rename_i b C
    rcases hl with ⟨b', C', hb', _, vs, T, hh, hlen, hrl, hrows⟩ | ⟨hb', _⟩
    · rw [hb] at hb'; cases hb'
      have hoff : off + m ≤ rows.length ∨ m = 0 := by simp at hm; omega
      have hCE : (off + m) * E ≤ C * E := Nat.mul_le_mul_right E hC
      rw [Nat.add_mul] at hCE
      have hseg : ∀ i s, ((rows.drop off).take m)[i]? = some s → RelC cx.bare w s ((((vs.drop (off * E)).take (m * E)).drop (i * E)).take E) := by
        intro i s hs
        simp only [List.getElem?_take, List.getElem?_drop] at hs
        split at hs
        · rename_i hi
          have := hrows (off + i) s hs
          have e1 : (((vs.drop (off * E)).take (m * E)).drop (i * E)).take E = (vs.drop ((off + i) * E)).take E := by
            apply List.ext_getElem?
            intro j
            simp only [List.getElem?_take, List.getElem?_drop]
            have hiE : (i + 1) * E ≤ m * E := Nat.mul_le_mul_right E hi
            rw [Nat.add_mul, Nat.one_mul] at hiE
            by_cases hj : j < E
            · rw [if_pos hj, if_pos hj, if_pos (by omega), Nat.add_mul, Nat.add_assoc]
            · rw [if_neg hj, if_neg hj]
          rw [e1]; exact this
        · cases hs
      have hnl : ((vs.drop (off * E)).take (m * E)).length = ((rows.drop off).take m).length * E := by rw [hm]; simp; omega
      refine ⟨_, _, (vs.drop (off * E)).take (m * E), by rw [hm], hnl, seg_ones hnl hseg, (fun h => by cases h), ?_, hseg⟩
      intro ad had j u hu
      cases had
      rw [add_none, cell_of hh]
      simp only [List.getElem?_take, List.getElem?_drop] at hu
      split at hu
      · simpa using hu
      · cases hu
    · rw [hb] at hb'; cases hb'
  | @ov0 _ _ _ _ a => exact ⟨a, 0, [], by simp, by simp, by simp, fun _ => by simp, fun _ _ _ _ h => by simp at h, fun _ _ h => by simp at h⟩
  | @ovz _ _ _ _ a => exact ⟨a, 0, [], by simp, by simp, by simp, fun _ => by simp, fun _ _ _ _ h => by simp at h, fun _ _ h => by simp at h⟩

theorem bytes_seg {cx : Cx} {w : World} (l : List Int) : ∀ i s, (bytesRows l)[i]? = some s → RelC cx w s ((((l.map fun x => Value.int .u8 x) : List Value).drop (i * 1)).take 1) := by
  intro i s hs
  simp only [bytesRows, List.getElem?_map] at hs
  cases hl : l[i]? with
  | none => rw [hl] at hs; cases hs
  | some x =>
    rw [hl] at hs
    simp only [Option.map_some, Option.some.injEq] at hs
    subst hs
    have : (((l.map fun x => Value.int .u8 x) : List Value).drop (i * 1)).take 1 = [.int .u8 x] := by
      rw [List.take_one, List.head?_drop]
      simp [hl]
    rw [this]
    exact .v rfl

theorem sb_rowsB {cx cx2 : Cx} {w : World} {k p off m v} (h : RelC cx w (.sb k p off m) [v]) {b C : Nat} {vs : List Value} {T : TypeId} (hb' : cx.bl k = some (.at b C)) (hh : w.heap[b]? = some (.cells vs.toArray T (0, 0))) {nb : Nat} {l : List Int}
    (hrb : RelC cx2 w (.ba nb l) ((vs.drop (offs p)).take nb)) :
    (((bytesRows l).drop off).take m).length = m → RowsAt cx w 1 (((bytesRows l).drop off).take m) v := by
  intro hm
  cases h with
  | sb hb hC =>
    rename_i b1 C1 cap
    rw [hb] at hb'; cases hb'
    generalize hseg0 : (vs.drop (offs p)).take nb = seg at hrb
    cases hrb with
    | ba hln =>
      have hml : off + m ≤ l.length ∨ m = 0 := by simp [bytesRows] at hm; omega
      have hseg : ∀ i s, (((bytesRows l).drop off).take m)[i]? = some s → RelC cx.bare w s (((((l.map fun x => Value.int .u8 x) : List Value).drop off |>.take m).drop (i * 1)).take 1) := by
        intro i s hs
        simp only [List.getElem?_take, List.getElem?_drop] at hs
        split at hs
        · rename_i hi
          have := bytes_seg (cx := cx.bare) (w := w) l (off + i) s hs
          have e1 : (((((l.map fun x => Value.int .u8 x) : List Value).drop off |>.take m).drop (i * 1)).take 1) = ((((l.map fun x => Value.int .u8 x) : List Value).drop ((off + i) * 1)).take 1) := by
            rw [Nat.mul_one, Nat.mul_one, List.drop_take, List.drop_drop, List.take_take, Nat.min_eq_left (by omega)]
          rw [e1]; exact this
        · cases hs
      have hnl : (((l.map fun x => Value.int .u8 x) : List Value).drop off |>.take m).length = (((bytesRows l).drop off).take m).length * 1 := by rw [hm]; simp; omega
      refine ⟨_, _, ((l.map fun x => Value.int .u8 x) : List Value).drop off |>.take m, by rw [hm], hnl, seg_ones hnl hseg, (fun h => by cases h), ?_, hseg⟩
      intro ad had j u hu
      cases had
      rw [add_none, cell_of hh]
      rw [← hseg0] at hu
      simp only [List.getElem?_take, List.getElem?_drop] at hu
      split at hu
      · split at hu
        · simpa [Nat.add_assoc] using hu
        · cases hu
      · cases hu
theorem sb_rowsAt {cx : Cx} {w : World} {k p off m v} {s : SV} (h : RelC cx w (.sb k p off m) [v]) (hl : Live cx w k (.cells s)) {nb : Nat} {l : List Int}
    (hf : ∀ cx w vs, RelC cx w s vs → RelC cx w (.ba nb l) ((vs.drop (offs p)).take nb)) :
    (((bytesRows l).drop off).take m).length = m → RowsAt cx w 1 (((bytesRows l).drop off).take m) v := by
  rcases hl with ⟨b', C', hb', _, vs, T, hh, hrc⟩ | ⟨_, _, hb'⟩
  · exact sb_rowsB h hb' hh (hf cx w vs hrc)
  · cases hb'
/-- The bytes within an element of an owned array. -/
theorem elem_bytes {cx : Cx} {w : World} {E i C nb : Nat} {x : Option Nat} {rows : List SV} {vs : List Value} {s : SV} {p : List PS} {l : List Int} (hs : rows[i]? = some s) (hlen : vs.length = C * E) (hA : ArrOK x C rows.length vs)
    (hrows : ∀ i s, rows[i]? = some s → RelC cx.bare w s ((vs.drop (i * E)).take E)) (hle : offs p + nb ≤ wd s) (hy : ∀ cx w vs, RelC cx w s vs → RelC cx w (.ba nb l) ((vs.drop (offs p)).take nb)) (n0 : Nat) :
    RelC cx.bare w (.ba nb l) ((vs.drop (offs (.ix E n0 i :: p))).take nb) ∧ offs (.ix E n0 i :: p) + nb ≤ vs.length := by
  have h1 := hrows i s hs
  have hw := h1.width
  have hlt : i < rows.length := (List.getElem?_eq_some_iff.1 hs).1
  have hCE : (i + 1) * E ≤ C * E := Nat.mul_le_mul_right E (by have := hA.le; omega)
  rw [Nat.add_mul, Nat.one_mul] at hCE
  have h2 := hy _ _ _ h1
  rw [List.length_take] at hw
  rw [List.drop_take, List.drop_drop, List.take_take, Nat.min_eq_left (by omega)] at h2
  refine ⟨h2, ?_⟩
  simp only [offs]
  omega
end
end Go.Fw

/- The executor is sound: append. -/
namespace Go.Fw
section
variable {P : Program} {TT : Nat → TI} {n : Sz} {e : List (Nat × SV)} {h : List OB} {K : Rec → Prop}
variable {dst : Option Nat} {ty : TypeId} {pos : String} {after : Array Edge} {guard : Option (Nat × Bool)}

theorem rowsOf'_sound {h : List OB} {s : SV} {K : Nat → List SV → List Nat → Prop} (hk : rowsOf' h s K) : ∃ E xs ks, K E xs ks ∧
    ∀ (cx : Cx) (w : World) (v : Value) (hp' : Nat → Option OB), (∀ k ∈ ks, hp' k = nthB h k) → Mem cx w hp' → RelV cx w s v → RowsAt cx w E xs v := by
  unfold rowsOf' at hk
  simp only [nm_eq] at hk
  split at hk
  · exact ⟨_, _, _, hk, fun cx w v hp' _ _ hr => fs_rowsAt hr⟩
  · rename_i E k off m
    split at hk
    · rename_i E' rows hs
      split at hk
      · rename_i hE
        have hE := Nat.eq_of_beq_eq_true hE
        subst hE
        obtain ⟨hle, hk⟩ := need_iff.1 hk
        exact ⟨_, _, _, hk, fun cx w v hp' hh hm hr => ov_rowsAt hr (hm.live k _ (by rw [hh k (by simp), hs])) (by simp; omega)⟩
      · exact hk.elim
    · exact hk.elim
  · rename_i k p off m
    split at hk
    · rename_i s0 hs
      obtain ⟨y, hk, hle, hy⟩ := follow_sound _ _ _ hk
      split at hk
      · rename_i nb l
        obtain ⟨hle2, hk⟩ := need_iff.1 hk
        refine ⟨_, _, _, hk, fun cx w v hp' hh hm hr => ?_⟩
        have hl := hm.live k _ (by rw [hh k (by simp), hs])
        refine sb_rowsAt hr hl (fun cx w vs hrc => hy cx w vs hrc) ?_
        rcases hl with ⟨b', C', hb', _, vs, T, hh', hrc⟩ | ⟨_, _, hb'⟩
        · have := hy cx w vs hrc
          generalize (vs.drop (offs p)).take (wd (SV.ba nb l)) = seg at this
          cases this with
          | ba hl => simp [bytesRows]; omega
        · cases hb'
      · exact hk.elim
    · rename_i x E0 rows hs
      split at hk
      case h_2 => exact hk.elim
      rename_i E1 n1 i p'
      split at hk
      case h_2 => exact hk.elim
      rename_i hE
      have hE := Nat.eq_of_beq_eq_true hE
      subst hE
      obtain ⟨s, hsi, hk⟩ := elem_iff.1 hk
      obtain ⟨y, hk, hle, hy⟩ := follow_sound _ _ _ hk
      split at hk
      case h_2 => exact hk.elim
      rename_i nb l
      obtain ⟨hle2, hk⟩ := need_iff.1 hk
      refine ⟨_, _, _, hk, fun cx w v hp' hh hm hr => ?_⟩
      have hl := hm.live k _ (by rw [hh k (by simp), hs])
      rcases hl with ⟨b', C', hb', _, vs, T, hh', hlen, hA, hrows⟩ | ⟨_, E', hb'⟩
      · have h2 := (elem_bytes (nb := nb) (p := p') hsi hlen hA hrows hle hy n1).1
        refine sb_rowsB hr hb' hh' h2 ?_
        generalize (vs.drop (offs _)).take nb = seg at h2
        cases h2 with
        | ba hl => simp [bytesRows]; omega
      · simp only [OB.arr.injEq] at hb'
        rw [hb'.2.2] at hsi
        simp at hsi
    · exact hk.elim
  · exact hk.elim

theorem rowsOf_sound {E : Nat} {h : List OB} {s : SV} {K : List SV → List Nat → Prop} (hk : rowsOf E h s K) : ∃ xs ks, K xs ks ∧
    ∀ (cx : Cx) (w : World) (v : Value) (hp' : Nat → Option OB), (∀ k ∈ ks, hp' k = nthB h k) → Mem cx w hp' → RelV cx w s v → RowsAt cx w E xs v := by
  unfold rowsOf at hk
  split at hk
  · refine ⟨_, _, hk, fun cx w v hp' _ _ hr => ?_⟩
    rw [relV_v hr]
    exact ⟨_, _, [], rfl, by simp, by simp, fun _ => rfl, fun _ _ _ _ h => by simp at h, fun _ _ h => by simp at h⟩
  · obtain ⟨E', xs, ks, hk, hr⟩ := rowsOf'_sound hk
    split at hk
    · rename_i hE
      have hE := Nat.eq_of_beq_eq_true hE
      subst hE
      exact ⟨xs, ks, hk, hr⟩
    · exact hk.elim

theorem cell_heap {w w' : World} (hh : w'.heap = w.heap) (a : Addr) : w'.cell? a = w.cell? a := by simp [World.cell?, hh]

theorem first_of {w : World} {size m : Nat} {a : Option Addr} {c : Nat} {news : List Value} (hl : news.length = m * size) (h0 : a = none → m = 0)
    (hc : ∀ ad, a = some ad → ∀ (j : Nat) u, news[j]? = some u → w.cell? (ad.add j) = some u) {w' : World} (hh : w'.heap = w.heap) :
    (Builtin.firstCells size m (.slice a m c)).run P w' = .ok news.toArray w' := by
  cases a with
  | none =>
    have := h0 rfl
    subst this
    have : news = [] := by simpa using hl
    subst this
    simp [Builtin.firstCells]
  | some ad => exact run_firstCells_some (P := P) w' size m ad m c news hl (fun j u hu => by rw [cell_heap hh]; exact hc ad rfl j u hu)

theorem run_app_zero (w : World) (t ty el : TypeId) (i : TypeInfo) (ht : P.underlying t = some (.slice el)) (hi : P.info? el = some i) (base : Option Addr) (sLen sCap : Nat) (a : Option Addr) (c : Nat) (hle : sLen ≤ sCap) :
    (Builtin.append_ #[t, t] ty #[.slice base sLen sCap, .slice a 0 c]).run P w = .ok (.slice base sLen sCap) w := by
  have hf : (Builtin.firstCells i.size 0 (.slice a 0 c)).run P w = .ok #[] w := by cases a <;> simp [Builtin.firstCells, loadCells, loadCellsFrom]
  cases base <;> simp [Builtin.append_, run_underlying ht, run_sizeOf' hi, Builtin.lenOf, hle, hf, storeCells]

theorem run_app_grow (w : World) (t ty el : TypeId) (i : TypeInfo) (z : Value) (ht : P.underlying t = some (.slice el)) (hi : P.info? el = some i) (hz : i.zero = some z)
    (base : Option Addr) (sLen sCap : Nat) (olds : List Value) (hfo : (Builtin.firstCells i.size sLen (.slice base sLen sCap)).run P w.drew = .ok olds.toArray w.drew)
    (a : Option Addr) (m c : Nat) (news : List Value) (hf : (Builtin.firstCells i.size m (.slice a m c)).run P w.drew = .ok news.toArray w.drew)
    (hg : sCap < sLen + m) (h63 : sLen + m ≤ 9223372036854775807) (hfit : (sLen + m) * i.bytes ≤ 140737488355328) :
    (Builtin.append_ #[t, t] ty #[.slice base sLen sCap, .slice a m c]).run P w =
      .ok (.slice (some ⟨w.heap.size, 0, none⟩) (sLen + m) (grownCap w (sLen + m) sCap el))
        (w.drew.alloc (.cells (olds ++ news ++ (Builtin.zeroCells z.cells (grownCap w (sLen + m) sCap el - (sLen + m))).toList).toArray el)) := by
  have hn : ¬ (sLen + m ≤ sCap) := by omega
  have h63' : ¬ (9223372036854775807 < ((sLen : Int) + (m : Int))) := by omega
  have hfit' := growslice_fits (need := sLen + m) (old := sCap) (bytes := i.bytes) hg hfit
  have h48' : ¬ (281474976710656 < Builtin.nextslicecap (sLen + m) sCap * i.bytes) := by omega
  simp [Builtin.append_, run_underlying ht, sizeOf, typeInfo, zeroValue, hi, hz, Builtin.lenOf, hn, h63', h48', Question.forced, hf, hfo, newRow, grownCap]
  congr 2
  apply Array.ext'
  simp [List.append_assoc]

theorem run_app_room (w : World) (t ty el : TypeId) (i : TypeInfo) (ht : P.underlying t = some (.slice el)) (hi : P.info? el = some i)
    (g o sLen sCap : Nat) (cur : Array Value) (T : TypeId) (hg : w.heap[g]? = some (.cells cur T (0, 0)))
    (a : Option Addr) (m c : Nat) (news : List Value) (hf : (Builtin.firstCells i.size m (.slice a m c)).run P w = .ok news.toArray w) (h1 : ∀ u ∈ news, u.oneCell' = true)
    (hroom : sLen + m ≤ sCap) (hfit : o + sLen * i.size + news.length ≤ cur.size) :
    (Builtin.append_ #[t, t] ty #[.slice (some ⟨g, o, none⟩) sLen sCap, .slice a m c]).run P w =
      .ok (.slice (some ⟨g, o, none⟩) (sLen + m) sCap) (w.setRow g (cur.toList.take (o + sLen * i.size) ++ news ++ cur.toList.drop (o + sLen * i.size + news.length)).toArray) := by
  have hst := run_storeCells_at P g (o + sLen * i.size) T news 0 cur w hg (by simpa using hfit) h1
  simp only [Nat.add_zero] at hst
  simp [Builtin.append_, run_underlying ht, sizeOf, typeInfo, hi, Builtin.lenOf, hroom, hf, add_none]
  simp at hst
  simp [hst]

/-- The segments of cells laid one behind the other. -/
theorem seg_app {cx : Cx} {w : World} {E : Nat} {r1 r2 : List SV} {olds news tail : List Value} (h1 : olds.length = r1.length * E) (h2 : news.length = r2.length * E)
    (s1 : ∀ i s, r1[i]? = some s → RelC cx w s ((olds.drop (i * E)).take E)) (s2 : ∀ i s, r2[i]? = some s → RelC cx w s ((news.drop (i * E)).take E)) :
    ∀ i s, (r1 ++ r2)[i]? = some s → RelC cx w s (((olds ++ news ++ tail).drop (i * E)).take E) := by
  intro i s hs
  rw [List.getElem?_append] at hs
  split at hs
  · rename_i hi
    have hiE : (i + 1) * E ≤ r1.length * E := Nat.mul_le_mul_right E hi
    rw [Nat.add_mul, Nat.one_mul] at hiE
    have : ((olds ++ news ++ tail).drop (i * E)).take E = (olds.drop (i * E)).take E := by
      rw [List.append_assoc, List.drop_append_of_le_length (by omega), List.take_append_of_le_length (by simp; omega)]
    rw [this]; exact s1 i s hs
  · rename_i hi
    have hi2 : i - r1.length < r2.length := (List.getElem?_eq_some_iff.1 hs).1
    have hiE : (i - r1.length + 1) * E ≤ r2.length * E := Nat.mul_le_mul_right E hi2
    rw [Nat.add_mul, Nat.one_mul] at hiE
    have e1 : i * E = olds.length + (i - r1.length) * E := by
      rw [h1, ← Nat.add_mul]; congr 1; omega
    have : ((olds ++ news ++ tail).drop (i * E)).take E = (news.drop ((i - r1.length) * E)).take E := by
      rw [e1, List.append_assoc, dropA, List.drop_append_of_le_length (by omega), List.take_append_of_le_length (by simp; omega)]
    rw [this]; exact s2 _ s hs

structure SlcFacts (P : Program) (t : TypeId) (E bytes : Nat) (el : TypeId) (i : TypeInfo) (z : Value) : Prop where
  ht : P.underlying t = some (.slice el)
  hi : P.info? el = some i
  hE : i.size = E
  hb : i.bytes = bytes
  hz : i.zero = some z
  hzc : z.cells.size = E
  ones : ∀ v ∈ z.cells.toList, v.oneCell' = true
theorem slcFacts {t : TypeId} {E bytes : Nat} {z : SV} (hT : TTok P TT) (h : TT t = .slc E bytes z) : ∃ el i z', SlcFacts P t E bytes el i z' := by
  have hd := (hT t).desc
  rw [h] at hd
  obtain ⟨el, hu, hie, hz, hwz, _⟩ := hd
  obtain ⟨i, h1, h2, h3, h4⟩ := hie.mk
  exact ⟨el, i, _, hu, h1, h2, h3, h4, by rw [toVal_cells hz, List.size_toArray, flat_len hz, hwz], by rw [toVal_cells hz]; exact (okz_rel (cx := ⟨fun _ => none, fun _ => False⟩) (w := default) hz).ones⟩

theorem zero_ones {z : Array Value} {n : Nat} (h : ∀ v ∈ z.toList, v.oneCell' = true) : ∀ v ∈ (Builtin.zeroCells z n).toList, v.oneCell' = true := by
  intro v hv
  unfold Builtin.zeroCells at hv
  simp only [Array.toList_map, List.mem_map] at hv
  obtain ⟨i, hi, rfl⟩ := hv
  by_cases hz : z.size = 0
  · simp [hz] at hi
  · have : i % z.size < z.size := Nat.mod_lt _ (by omega)
    rw [getElem!_pos z _ this]
    exact h _ (by simp)

/-- What appending to a slice that has no room makes: a new block. -/
theorem app_new {t : TypeId} {E bytes : Nat} {el : TypeId} {i : TypeInfo} {z : Value} (F : SlcFacts P t E bytes el i z) {cx : Cx} {w : World} {r0 xs : List SV} {v x : Value} {hp : Nat → Option OB} {k : Nat} {keep : Nat → Prop}
    (hm : Mem cx w hp) (hk : hp k = none) (hkeep : ∀ k, keep k → cx.bl k ≠ none) (h0 : RowsAt cx w E r0 v) {sCap : Nat} (hcap : ∀ a l c, v = .slice a l c → c = sCap) (hx : RowsAt cx w E xs x) (hne : sCap < r0.length + xs.length ∨ (r0 = [] ∧ sCap = 0))
    (hroom : roomOK (r0.length + xs.length) bytes) :
    ∃ v' cx' w', (Builtin.append_ #[t, t] ty #[v, x]).run P w = .ok v' w' ∧ Ext cx w cx' w' ∧ Fr keep cx w cx' w' ∧ Mem cx' w' (fun j => if j = k then some (.arr none E (r0 ++ xs)) else hp j) ∧
      RelV cx' w' (.ov E k 0 (r0 ++ xs).length) v' := by
  obtain ⟨a, c, news, rfl, hnl, hn1, ha0, hac, hseg⟩ := hx
  obtain ⟨b, c0, olds, rfl, hol, ho1, hb0, hbc, hoseg⟩ := h0
  have hc0 := hcap _ _ _ rfl
  subst hc0
  have hnk : ¬ keep k := fun hk2 => hkeep k hk2 (hm.dom k hk)
  by_cases hx0 : ¬ c0 < r0.length + xs.length
  · obtain ⟨hr0, hs0⟩ := hne.resolve_left hx0
    subst hr0 hs0
    have hxs : xs = [] := List.length_eq_zero_iff.1 (by simpa using hx0)
    subst hxs
    refine ⟨_, cx.with k .virt cx.O, w, run_app_zero w t ty el i F.ht F.hi b 0 0 a c (Nat.le_refl _), ext_virt cx w k (hm.dom k hk), fr_virt keep cx w k hnk, mem_virt hm k E hk, ?_⟩
    exact .ov0 (by simp [Cx.with])
  · have hx0 : c0 < r0.length + xs.length := Classical.not_not.1 hx0
    have hh : w.drew.heap = w.heap := rfl
    have hfo := first_of (P := P) (size := i.size) (c := c0) (by rw [F.hE]; exact hol) hb0 hbc hh
    have hf := first_of (P := P) (size := i.size) (c := c) (by rw [F.hE]; exact hnl) ha0 hac hh
    have hrun := run_app_grow w t ty el i z F.ht F.hi F.hz b r0.length c0 olds hfo a xs.length c news hf (by omega) (by have := hroom.2; omega) (by rw [F.hb]; have := hroom.1; omega)
    have hcg := grownCap_ge w (r0.length + xs.length) c0 el
    generalize hC : grownCap w (r0.length + xs.length) c0 el = C at hrun hcg
    generalize htl : (Builtin.zeroCells z.cells (C - (r0.length + xs.length))).toList = tail at hrun
    have htail : tail.length = (C - (r0.length + xs.length)) * E := by rw [← htl, Array.length_toList, size_zeroCells, F.hzc]
    have hm1 := mem_heap hm hh
    have hob : ∀ cx', Ext cx w.drew cx' (w.drew.alloc (.cells (olds ++ news ++ tail).toArray el)) → Holds cx' (w.drew.alloc (.cells (olds ++ news ++ tail).toArray el)) w.drew.heap.size C (.arr none E (r0 ++ xs)) := by
      intro cx' he
      refine ⟨_, el, heap_alloc_new _ _, ?_, ⟨by simp; omega, (fun c h => by cases h), app_ones ho1 hn1 (htl ▸ zero_ones F.ones)⟩, fun j s hs => ?_⟩
      · simp only [List.length_append, hol, hnl, htail]
        rw [← Nat.add_mul, ← Nat.add_mul]; congr 1; omega
      · have := seg_app (tail := tail) hol hnl hoseg hseg j s hs
        exact (this.mono (ext_heap hh).bare).mono he.bare
    refine ⟨_, cx.with k (.at w.heap.size C) (fun b => cx.O b ∨ b = w.heap.size), _, hrun, (ext_heap hh).trans (ext_alloc cx w.drew _ k C (hm.dom k hk)) (Nat.le_refl _), (fr_heap hh).trans (fr_alloc keep cx w.drew _ k C hnk ⟨_, _, rfl⟩) (fun _ h => h), mem_alloc hm1 _ k C hk _ hob, ?_⟩
    show RelC _ _ _ [_]
    have := RelC.ov (cx := cx.with k (.at w.heap.size C) (fun b => cx.O b ∨ b = w.heap.size)) (w := w.drew.alloc (.cells (olds ++ news ++ tail).toArray el)) (E := E) (k := k) (off := 0) (n := (r0 ++ xs).length) (b := w.heap.size) (C := C) (by simp [Cx.with]) (by simp; omega)
    simpa using this
end
end Go.Fw

/- The executor is sound: what is written into an owned array. -/
namespace Go.Fw

theorem splice_segs {cx : Cx} {w : World} {E : Nat} {rows xs : List SV} {vs news : List Value} {o C : Nat} (hv : vs.length = C * E) (hC : rows.length ≤ C) (ho : o + xs.length ≤ rows.length) (hn : news.length = xs.length * E)
    (s1 : ∀ i s, rows[i]? = some s → RelC cx w s ((vs.drop (i * E)).take E)) (s2 : ∀ i s, xs[i]? = some s → RelC cx w s ((news.drop (i * E)).take E)) :
    ∀ i s, (rows.take o ++ xs ++ rows.drop (o + xs.length))[i]? = some s → RelC cx w s (((vs.take (o * E) ++ news ++ vs.drop (o * E + news.length)).drop (i * E)).take E) := by
  intro i s hs
  have hCE : rows.length * E ≤ C * E := Nat.mul_le_mul_right E hC
  have hoE : (o + xs.length) * E ≤ rows.length * E := Nat.mul_le_mul_right E ho
  rw [Nat.add_mul] at hoE
  have key : ∀ m, (vs.take (o * E) ++ news ++ vs.drop (o * E + news.length))[m]? = if o * E ≤ m ∧ m < o * E + news.length then news[m - o * E]? else vs[m]? :=
    splice_get vs news (o * E) (by omega)
  rw [splice_get rows xs o ho] at hs
  split at hs
  · rename_i hi
    have h1 : (i - o + 1) * E ≤ xs.length * E := Nat.mul_le_mul_right E (by omega)
    rw [Nat.add_mul, Nat.one_mul] at h1
    have h2 : i * E = o * E + (i - o) * E := by rw [← Nat.add_mul]; congr 1; omega
    have : ((vs.take (o * E) ++ news ++ vs.drop (o * E + news.length)).drop (i * E)).take E = (news.drop ((i - o) * E)).take E := by
      apply List.ext_getElem?
      intro j
      rw [List.getElem?_take, List.getElem?_take, List.getElem?_drop, List.getElem?_drop]
      by_cases hj : j < E
      · rw [if_pos hj, if_pos hj, key, if_pos (by omega)]; congr 1; omega
      · rw [if_neg hj, if_neg hj]
    rw [this]; exact s2 _ s hs
  · rename_i hi
    have : ((vs.take (o * E) ++ news ++ vs.drop (o * E + news.length)).drop (i * E)).take E = (vs.drop (i * E)).take E := by
      apply List.ext_getElem?
      intro j
      rw [List.getElem?_take, List.getElem?_take, List.getElem?_drop, List.getElem?_drop]
      by_cases hj : j < E
      · rw [if_pos hj, if_pos hj, key, if_neg]
        intro ⟨g1, g2⟩
        rcases Nat.lt_or_ge i o with hlt | hge
        · have := Nat.mul_le_mul_right E (show i + 1 ≤ o from hlt)
          rw [Nat.add_mul] at this; omega
        · have := Nat.mul_le_mul_right E (show o + xs.length ≤ i by omega)
          rw [Nat.add_mul] at this; omega
      · rw [if_neg hj, if_neg hj]
    rw [this]; exact s1 i s hs

theorem same_hp {hp : Nat → Option OB} {k : Nat} {ob : OB} (h : hp k = some ob) : (fun i => if i = k then some ob else hp i) = hp := by
  funext i
  by_cases e : i = k
  · subst e; simp [h]
  · simp [e]

/-- What an owned slice is, and that elements can be written into its array. -/
theorem own_write (P : Program) {cx : Cx} {w : World} {hp : Nat → Option OB} {k off m E : Nat} {x : Option Nat} {rows : List SV} {v : Value} (hm : Mem cx w hp) (hk : hp k = some (.arr x E rows)) (hv : RelC cx w (.ov E k off m) [v]) :
    ∃ a cap, v = .slice a m cap ∧ rows.length ≤ off + cap ∧ (∀ c, x = some c → cap = c - off) ∧ ∀ (xs : List SV) (news : List Value) (o : Nat) (keep : Nat → Prop), off ≤ o → o + xs.length ≤ rows.length → news.length = xs.length * E → (∀ u ∈ news, u.oneCell' = true) →
      (∀ i s, xs[i]? = some s → RelC cx.bare w s ((news.drop (i * E)).take E)) → ∃ w', (a = none → news = []) ∧ (∀ ad, a = some ad → (storeCells (ad.add ((o - off) * E)) news).run P w = .ok () w') ∧ (a = none → w' = w) ∧ Ext cx w cx w' ∧ Fr keep cx w cx w' ∧
        Mem cx w' (fun i => if i = k then some (.arr x E (rows.take o ++ xs ++ rows.drop (o + xs.length))) else hp i) := by
  have hl := hm.live k _ hk
  have triv : ∀ (a : Option Addr) (cap : Nat), v = .slice a 0 cap → m = 0 → rows.length ≤ off → ∀ (xs : List SV) (news : List Value) (o : Nat) (keep : Nat → Prop), off ≤ o → o + xs.length ≤ rows.length → news.length = xs.length * E → (∀ u ∈ news, u.oneCell' = true) →
      (∀ i s, xs[i]? = some s → RelC cx.bare w s ((news.drop (i * E)).take E)) → ∃ w', (a = none → news = []) ∧ (∀ ad, a = some ad → (storeCells (ad.add ((o - off) * E)) news).run P w = .ok () w') ∧ (a = none → w' = w) ∧ Ext cx w cx w' ∧ Fr keep cx w cx w' ∧
        Mem cx w' (fun i => if i = k then some (.arr x E (rows.take o ++ xs ++ rows.drop (o + xs.length))) else hp i) := by
    intro a cap _ _ hr xs news o keep h1 h2 h3 _ _
    have hx : xs = [] := List.length_eq_zero_iff.1 (by omega)
    subst hx
    have hnn : news = [] := List.length_eq_zero_iff.1 (by simpa using h3)
    subst hnn
    refine ⟨w, fun _ => rfl, fun ad _ => by simp [storeCells], fun _ => rfl, Ext.refl _ _, Fr.refl _ _ _, ?_⟩
    simp only [List.append_nil, List.length_nil, Nat.add_zero, List.take_append_drop]
    rw [same_hp hk]; exact hm
  cases hv with
  | ov hb hC =>
    rename_i b C
    obtain ⟨hO, vs, T, hh, hlen, hA, hrows⟩ := live_at hm hk hb (by simp)
    have hle := hA.le
    refine ⟨_, _, rfl, by omega, fun c hc => by rw [hA.cap c hc], fun xs news o keep h1 h2 h3 h4 h5 => ?_⟩
    have hCE : rows.length * E ≤ C * E := Nat.mul_le_mul_right E hle
    have hoE : (o + xs.length) * E ≤ rows.length * E := Nat.mul_le_mul_right E h2
    rw [Nat.add_mul] at hoE
    have hst := run_storeCells_at P b (o * E) T news 0 vs.toArray w hh (by simp; omega) h4
    simp only [Nat.add_zero, List.toList_toArray] at hst
    refine ⟨w.setRow b (vs.take (o * E) ++ news ++ vs.drop (o * E + news.length)).toArray, (fun h => by cases h), fun ad had => ?_, (fun h => by cases h), ext_set cx w b _ hO, fr_set keep cx w k b C _ hb, mem_set hm _ hk (by simp) (by simp) hb fun he => ?_⟩
    · cases had
      rw [add_none, ← Nat.add_mul, show off + (o - off) = o by omega]
      exact hst
    · refine ⟨_, T, setRow_heap w b _ _ T _ hh, by simp; omega, ⟨by simp; omega, hA.cap, splice_ones hA.ones h4⟩, fun i s hs => ?_⟩
      exact (splice_segs hlen hle h2 h3 hrows h5 i s hs).mono he.bare
  | @ov0 _ _ _ _ a hb =>
    have hv : rows = [] ∧ ∀ c, x = some c → c = 0 := by
      rcases hl with ⟨b, C, h1, _⟩ | ⟨_, E', h2⟩
      · rw [h1] at hb; cases hb
      · simp only [OB.arr.injEq] at h2
        refine ⟨h2.2.2, fun c hc => ?_⟩
        subst hc
        simpa [x0] using h2.1
    obtain ⟨rfl, hx⟩ := hv
    exact ⟨_, _, rfl, by simp, fun c hc => by rw [hx c hc], triv _ _ rfl rfl (by simp)⟩
  | @ovz _ _ _ _ a b C hb =>
    obtain ⟨hO, vs, T, hh, hlen, hA, hrows⟩ := live_at hm hk hb (by simp)
    have hle := hA.le
    exact ⟨_, _, rfl, by omega, fun c hc => by rw [← hA.cap c hc]; omega, triv _ _ rfl rfl hle⟩

section
variable {P : Program} {TT : Nat → TI} {n : Sz} {e : List (Nat × SV)} {h : List OB} {K : Rec → Prop}
variable {dst : Option Nat} {ty : TypeId} {pos : String} {after : Array Edge} {guard : Option (Nat × Bool)}

theorem run_app_in (w w' : World) (t ty el : TypeId) (i : TypeInfo) (ht : P.underlying t = some (.slice el)) (hi : P.info? el = some i)
    (base : Option Addr) (sLen sCap : Nat) (a : Option Addr) (m c : Nat) (news : List Value) (hf : (Builtin.firstCells i.size m (.slice a m c)).run P w = .ok news.toArray w)
    (hst : ∀ ad, base = some ad → (storeCells (ad.add (sLen * i.size)) news).run P w = .ok () w') (hn : base = none → w' = w) (hroom : sLen + m ≤ sCap) :
    (Builtin.append_ #[t, t] ty #[.slice base sLen sCap, .slice a m c]).run P w = .ok (.slice base (sLen + m) sCap) w' := by
  cases base with
  | none =>
    have := hn rfl
    subst this
    simp [Builtin.append_, run_underlying ht, sizeOf, typeInfo, hi, Builtin.lenOf, hroom, hf]
  | some ad =>
    have := hst ad rfl
    simp [Builtin.append_, run_underlying ht, sizeOf, typeInfo, hi, Builtin.lenOf, hroom, hf, this]

theorem ov_cap {cx : Cx} {w : World} {E k off m q : Nat} {a : Option Addr} {cap : Nat} (hv : RelC cx w (.ov E k off m) [.slice a m cap]) (h : m + q ≤ cap) : RelC cx w (.ov E k off (m + q)) [.slice a (m + q) cap] := by
  cases hv with
  | ov hb hC => exact .ov hb (by omega)
  | ov0 hb => obtain rfl : q = 0 := by omega
              exact .ov0 hb
  | ovz hb => obtain rfl : q = 0 := by omega
              exact .ovz hb

/-- append into the room that there is. -/
theorem app_in {t : TypeId} {E bytes : Nat} {el : TypeId} {i : TypeInfo} {z : Value} (F : SlcFacts P t E bytes el i z) {cx : Cx} {w : World} {rows xs : List SV} {v y : Value} {hp : Nat → Option OB} {k off m : Nat} {x : Option Nat} {keep : Nat → Prop}
    (hm : Mem cx w hp) (hk : hp k = some (.arr x E rows)) (hv : RelC cx w (.ov E k off m) [v]) (hx : RowsAt cx w E xs y) (hle : off + m + xs.length ≤ rows.length) :
    ∃ v' cx' w', (Builtin.append_ #[t, t] ty #[v, y]).run P w = .ok v' w' ∧ Ext cx w cx' w' ∧ Fr keep cx w cx' w' ∧ Mem cx' w' (fun j => if j = k then some (.arr x E (rows.take (off + m) ++ xs ++ rows.drop (off + m + xs.length))) else hp j) ∧ RelV cx' w' (.ov E k off (m + xs.length)) v' := by
  obtain ⟨a, c, news, rfl, hnl, hn1, ha0, hac, hseg⟩ := hx
  obtain ⟨ad, cap, rfl, hcap, _, hw⟩ := own_write P hm hk hv
  obtain ⟨w', g1, g2, g3, g4, g5, g6⟩ := hw xs news (off + m) keep (by omega) hle hnl hn1 hseg
  have hf := first_of (P := P) (w := w) (size := i.size) (c := c) (by rw [F.hE]; exact hnl) ha0 hac rfl
  refine ⟨_, cx, w', run_app_in w w' t ty el i F.ht F.hi ad m cap a xs.length c news hf (fun b hb => ?_) g3 (by omega), g4, g5, g6, ?_⟩
  · have := g2 b hb
    rw [show off + m - off = m by omega] at this
    rw [F.hE]; exact this
  · exact (ov_cap hv (by omega)).mono g4

theorem bytesRows_len (l : List Int) : (bytesRows l).length = l.length := by simp [bytesRows]
theorem bytes_news {cx : Cx} {w : World} {ys : List Int} {news : List Value} (hl : news.length = (bytesRows ys).length * 1) (hs : ∀ j s, (bytesRows ys)[j]? = some s → RelC cx w s ((news.drop (j * 1)).take 1)) : news = ys.map fun x => Value.int .u8 x := by
  rw [bytesRows_len, Nat.mul_one] at hl
  refine List.ext_getElem? fun j => ?_
  rcases Nat.lt_or_ge j ys.length with h | h
  · have h1 := hs j (.v (.int .u8 ys[j])) (by simp [bytesRows, List.getElem?_eq_getElem h])
    rw [Nat.mul_one, List.take_one, List.head?_drop, List.getElem?_eq_getElem (by omega)] at h1
    rw [List.getElem?_eq_getElem (by omega), List.getElem?_map, List.getElem?_eq_getElem h]
    simp only [Option.toList_some] at h1
    generalize news[j] = u at h1
    cases h1
    rfl
  · rw [List.getElem?_eq_none (by omega), List.getElem?_eq_none (by simp; omega)]
theorem splice_in {α : Type} {vs seg us : List α} {a off n : Nat} (h : (vs.drop a).take n = seg) (hn : seg.length = n) (ho : off + us.length ≤ n) :
    vs.take a ++ (seg.take off ++ us ++ seg.drop (off + us.length)) ++ vs.drop (a + n) = vs.take (a + off) ++ us ++ vs.drop (a + off + us.length) := by
  subst h
  have e1 : vs.take (a + off) = vs.take a ++ ((vs.drop a).take n).take off := by
    rw [List.take_take, Nat.min_eq_left (by omega), List.take_add]
  have e2 : vs.drop (a + off + us.length) = ((vs.drop a).take n).drop (off + us.length) ++ vs.drop (a + n) := by
    rw [List.drop_take, List.drop_drop, show vs.drop (a + n) = (vs.drop (a + (off + us.length))).drop (n - (off + us.length)) by rw [List.drop_drop]; congr 1; omega, List.take_append_drop, Nat.add_assoc]
  rw [e1, e2]
  simp only [List.append_assoc]
theorem s_copy {t : TypeId} {E bytes : Nat} {z : SV} {sd sx : SV} {x1 x2 : Operand} {c : Call} {ats : List TypeId} (hT : TTok P TT) (hn : inFrame n dst = true) (hc : c.callee = .builtin .copy) (hargs : c.args.toList = [x1, x2])
    (hat : c.argTypes.toList = t :: ats) (hti : TT t = .slc E bytes z) (h1 : OpdR (lk e) x1 sd) (h2 : OpdR (lk e) x2 sx) (hk : execCopy ⟨dst, .call c, ty, pos, after, guard⟩ h E sd sx K) : Goal P ⟨dst, .call c, ty, pos, after, guard⟩ n e h K := by
  obtain ⟨el, i, z', F⟩ := slcFacts hT hti
  obtain ⟨callee, args, argTypes⟩ := c
  simp only at hc hargs hat
  subst hc
  have ea : args = #[x1, x2] := by cases args; simp_all
  subst ea
  have hat0 : argTypes[0]? = some t := by rw [← Array.getElem?_toList, hat]; rfl
  unfold execCopy at hk
  simp only [nm_eq] at hk
  obtain ⟨xs, ks, hk1, hrows⟩ := rowsOf_sound hk
  split at hk1
  · rename_i E0 k off m
    split at hk1
    · rename_i x E1 rows hE0 hs
      obtain ⟨hE1, hk2⟩ := okT_iff.1 hk1
      have hE0 := Nat.eq_of_beq_eq_true hE0
      have hE1 := Nat.eq_of_beq_eq_true hE1
      subst hE0
      subst hE1
      obtain ⟨hle, hk3⟩ := need_iff.1 hk2
      refine ⟨_, opD_mem (s := .v (.int .i64 (min xs.length m : Nat))) hn rfl rfl rfl fun hp' hh cx w a keep hr hm hkeep => ?_, hk3⟩
      have hv1 : RelC cx w (.ov E1 k off m) [a.eval x1] := h1.rel hr fun t ht => mem_slotsOf (by simp [Op.operands, Call.operands, ht])
      have hv2 := h2.rel hr fun t ht => mem_slotsOf (by simp [Op.operands, Call.operands, ht])
      obtain ⟨a2, c2, news, hy, hnl, hn1, ha0, hac, hseg⟩ := hrows cx w _ hp' (fun k hk => hh k (List.mem_cons_of_mem _ hk)) hm hv2
      obtain ⟨ad, cap, hd, hcap, _, hw⟩ := own_write P hm (by rw [hh k List.mem_cons_self]; exact hs) hv1
      have hmin : (xs.take m).length = min m xs.length := List.length_take
      have hnt : (news.take (min m xs.length * E1)).length = (xs.take m).length * E1 := by
        rw [hmin, List.length_take, hnl]
        have := Nat.mul_le_mul_right E1 (Nat.min_le_right m xs.length)
        omega
      obtain ⟨w', g1, g2, g3, g4, g5, g6⟩ := hw (xs.take m) (news.take (min m xs.length * E1)) off keep (Nat.le_refl _) (by rw [hmin]; omega) hnt (fun u hu => hn1 u (List.mem_of_mem_take hu)) (fun j s hj => by
        rw [List.getElem?_take] at hj
        split at hj
        · rename_i hjm
          have hjl := (List.getElem?_eq_some_iff.1 hj).1
          have h3 : (j + 1) * E1 ≤ min m xs.length * E1 := Nat.mul_le_mul_right E1 (by omega)
          rw [Nat.add_mul, Nat.one_mul] at h3
          have := hseg j s hj
          rwa [List.drop_take, List.take_take, Nat.min_eq_left (by omega)]
        · cases hj)
      have hf : (Builtin.firstCells i.size (min xs.length m) (a.eval x2)).run P w = .ok (news.take (min m xs.length * E1)).toArray w := by
        rw [hy]
        cases a2 with
        | none =>
          have h0 := ha0 rfl
          have hnn : news = [] := List.length_eq_zero_iff.1 (by rw [hnl, h0]; simp)
          simp [Builtin.firstCells, hnn]
        | some ad2 =>
          refine run_firstCells_some (P := P) w i.size (min xs.length m) ad2 xs.length c2 _ (by rw [hnt, hmin, F.hE, Nat.min_comm]) (fun j u hu => ?_)
          rw [List.getElem?_take] at hu
          split at hu
          · exact hac ad2 rfl j u hu
          · cases hu
      refine ⟨.int .i64 (min xs.length m : Nat), cx, w', ?_, g4, g5, g6, .v rfl⟩
      have hlen : (Builtin.lenOf (a.eval x2)).run P w = .ok xs.length w := by rw [hy]; rfl
      cases ad with
      | none =>
        have := g3 rfl
        subst this
        simp [execOp, resolve, invoke, builtin, Builtin.copy_, hat0, hd, run_underlying F.ht, hlen, run_sizeOf' F.hi, hf, goInt]
      | some ad =>
        have h5 := g2 ad rfl
        simp only [Nat.sub_self, Nat.zero_mul] at h5
        have h6 : ad.add 0 = ad := by simp [Addr.add]
        rw [h6] at h5
        simp [execOp, resolve, invoke, builtin, Builtin.copy_, hat0, hd, run_underlying F.ht, hlen, run_sizeOf' F.hi, hf, h5, goInt]
    · exact hk1.elim
  · rename_i k p off m
    split at hk1
    · rename_i s hs
      obtain ⟨hE1, hk2⟩ := okT_iff.1 hk1
      have hE1 := Nat.eq_of_beq_eq_true hE1
      subst hE1
      obtain ⟨y, hk3, hfle, hfy⟩ := follow_sound _ _ _ hk2
      split at hk3
      case h_2 => exact hk3.elim
      rename_i n1 l
      obtain ⟨ys, hxy, hk4⟩ := byt_iff.1 hk3
      subst hxy
      obtain ⟨hle, hk5⟩ := need_iff.1 hk4
      obtain ⟨s', hk6, hwz, hple, hz⟩ := place_sound _ _ _ _ hk5
      refine ⟨_, opD_mem (s := .v (.int .i64 (min ys.length m : Nat))) hn rfl rfl rfl fun hp' hh cx w a keep hr hm hkeep => ?_, hk6⟩
      have hv1 : RelC cx w (.sb k p off m) [a.eval x1] := h1.rel hr fun t ht => mem_slotsOf (by simp [Op.operands, Call.operands, ht])
      have hv2 := h2.rel hr fun t ht => mem_slotsOf (by simp [Op.operands, Call.operands, ht])
      obtain ⟨a2, c2, news, hy, hnl, hn1, ha0, hac, hseg⟩ := hrows cx w _ hp' (fun k hk => hh k (List.mem_cons_of_mem _ hk)) hm hv2
      have hkk : hp' k = some (.cells s) := by rw [hh k List.mem_cons_self]; exact hs
      have hnews : news = ys.map fun x => Value.int .u8 x := bytes_news hnl hseg
      rw [bytesRows_len] at hy ha0
      have hnt : ((ys.take m).map fun x => Value.int .u8 x : List Value).length = min ys.length m := by simp; omega
      generalize hv0 : a.eval x1 = v0 at hv1
      cases hv1 with
      | sb hb hC =>
        rename_i b C cap
        obtain ⟨hO, vs, T, hheap, hrc⟩ := live_at hm hkk hb (by simp)
        have hlen := hrc.width
        simp only [wd] at hfle hple
        have hrb := hfy cx w vs hrc
        simp only [wd] at hrb
        generalize hsg : (vs.drop (offs p)).take n1 = seg at hrb
        cases hrb with
        | ba hbl =>
          have hl2 : (l.take off ++ ys.take m ++ l.drop (off + (ys.take m).length)).length = n1 := by simp; omega
          have hst := run_storeCells_at P b (offs p + off) T ((ys.take m).map fun x => Value.int .u8 x) 0 vs.toArray w hheap (by simp; omega) (fun u hu => by
            obtain ⟨x, _, rfl⟩ := List.mem_map.1 hu; rfl)
          simp only [Nat.add_zero] at hst
          have hf : (Builtin.firstCells i.size (min ys.length m) (a.eval x2)).run P w = .ok ((ys.take m).map fun x => Value.int .u8 x).toArray w := by
            rw [hy]
            cases a2 with
            | none =>
              have h0 := ha0 rfl
              have hnn : ys = [] := List.length_eq_zero_iff.1 h0
              simp [Builtin.firstCells, hnn]
            | some ad2 =>
              refine run_firstCells_some (P := P) w i.size (min ys.length m) ad2 ys.length c2 _ (by rw [hnt, F.hE, Nat.mul_one]) (fun j u hu => ?_)
              refine hac ad2 rfl j u ?_
              rw [hnews]
              simp only [List.getElem?_map, List.getElem?_take] at hu ⊢
              split at hu
              · exact hu
              · simp at hu
          have hlenr : (Builtin.lenOf (a.eval x2)).run P w = .ok ys.length w := by rw [hy]; rfl
          refine ⟨.int .i64 (min ys.length m : Nat), cx, w.setRow b (vs.take (offs p + off) ++ ((ys.take m).map fun x => Value.int .u8 x) ++ vs.drop (offs p + off + ((ys.take m).map fun x => Value.int .u8 x : List Value).length)).toArray, ?_, ext_set cx w b _ hO, fr_set keep cx w k b C _ hb, mem_set hm _ hkk (by simp) (by simp) hb fun he => ?_, .v rfl⟩
          · generalize ((ys.take m).map fun x => Value.int .u8 x : List Value) = nv at hst hf ⊢
            simp [execOp, resolve, invoke, builtin, Builtin.copy_, hat0, hv0, run_underlying F.ht, hlenr, run_sizeOf' F.hi, hf, hst, goInt]
          · have h3 := hz cx w vs _ hrc (RelC.ba hl2)
            have e3 := splice_in (vs := vs) (us := (ys.take m).map fun x => Value.int .u8 x) (off := off) hsg (by simpa using hbl) (by rw [hnt]; omega)
            have e4 : ((l.take off ++ ys.take m ++ l.drop (off + (ys.take m).length)).map fun x => Value.int .u8 x : List Value) = (l.map fun x => Value.int .u8 x).take off ++ ((ys.take m).map fun x => Value.int .u8 x) ++ (l.map fun x => Value.int .u8 x).drop (off + ((ys.take m).map fun x => Value.int .u8 x : List Value).length) := by
              rw [List.map_append, List.map_append, List.length_map, List.map_drop, List.map_take (l := l)]
            rw [List.length_map, hl2, e4, e3] at h3
            exact ⟨_, T, setRow_heap w b _ _ T _ hheap, h3.mono he⟩
    · exact hk1.elim
  · exact hk1.elim

theorem s_cap {t : TypeId} {s : SV} {x : Operand} {c : Call} {ats : List TypeId} (hT : TTok P TT) (hn : inFrame n dst = true) (hc : c.callee = .builtin .cap) (hargs : c.args.toList = [x]) (hat : c.argTypes.toList = t :: ats)
    (hsl : isSlc (TT t) = true) (h1 : OpdR (lk e) x s) (hk : execCap ⟨dst, .call c, ty, pos, after, guard⟩ h s K) : Goal P ⟨dst, .call c, ty, pos, after, guard⟩ n e h K := by
  obtain ⟨callee, args, argTypes⟩ := c
  simp only at hc hargs hat
  subst hc
  have ea : args = #[x] := by cases args; simp_all
  subst ea
  have hat0 : argTypes[0]? = some t := by rw [← Array.getElem?_toList, hat]; rfl
  obtain ⟨el, hu⟩ := isSlc_under hT hsl
  have run : ∀ (w : World) (a : Act) (b : Option Addr) (m q : Nat), a.eval x = .slice b m q → (execOp a.eval ⟨dst, .call ⟨.builtin .cap, #[x], argTypes⟩, ty, pos, after, guard⟩).run P w = .ok (.value (.int .i64 (q : Nat))) w := by
    intro w a b m q hv
    simp [execOp, resolve, invoke, builtin, Builtin.cap_, hat0, hv, run_underlying hu, goInt]
  have rx : ∀ (cx : Cx) (w : World) (a : Act), Reads (lk e) (slotsOf (Op.call ⟨.builtin .cap, #[x], argTypes⟩).operands.toList) cx w a → RelV cx w s (a.eval x) := fun cx w a hr =>
    h1.rel hr fun t ht => mem_slotsOf (by simp [Op.operands, Call.operands, ht])
  unfold execCap at hk
  simp only [nm_eq, wr_eq] at hk
  split at hk
  · rename_i E0 k off m
    split at hk
    · rename_i c0 E1 rows hs
      obtain ⟨hE, hk1⟩ := okT_iff.1 hk
      have hE := Nat.eq_of_beq_eq_true hE
      subst hE
      refine ⟨_, ?_, hk1⟩
      intro sl' hp' ha B cx a w Q K' hB hsat hK
      simp only [Agree, Rec.look, Bool.false_eq_true, if_false] at ha
      have hk' : hp' k = some (.arr (some c0) E0 rows) := by rw [ha.2 k (by simp), hs]
      have hv : RelC cx w (.ov E0 k off m) [a.eval x] := rx cx w a (.of_sat hsat ha.1)
      obtain ⟨b, q, hv2, _, hq, _⟩ := own_write P hsat.mem hk' hv
      refine wp_value (run w a _ _ _ hv2) (hK cx _ _ (by subst hB; exact hsat.put (by rw [hq c0 rfl]; exact .v rfl) hn))
    · exact hk.elim
  · rename_i tg E0 rows
    split at hk
    · rename_i c0 hcp
      refine ⟨_, opD_plain _ hn fun cx w a hr => ?_, hk⟩
      have hv : RelC cx w (.fs tg E0 rows) [a.eval x] := rx cx w a hr
      have : ∃ b m, a.eval x = .slice b m c0 := by
        generalize a.eval x = v0 at hv
        cases hv with
        | fs0 ho => rw [← ho.2 _ hcp]; exact ⟨_, _, rfl⟩
        | fs f _ _ _ ht => rw [← ht.2 _ hcp]; exact ⟨_, _, rfl⟩
      obtain ⟨b, m, hv2⟩ := this
      exact ⟨_, run w a _ _ _ hv2, .v rfl⟩
    · exact hk.elim
  · refine ⟨_, opD_plain _ hn fun cx w a hr => ?_, hk⟩
    exact ⟨_, run w a _ _ _ (relV_v (rx cx w a hr)), .v rfl⟩
  · exact hk.elim

theorem s_clear {t : TypeId} {E bytes : Nat} {z s : SV} {x : Operand} {c : Call} {ats : List TypeId} (hT : TTok P TT) (hn : inFrame n dst = true) (hc : c.callee = .builtin .clear) (hargs : c.args.toList = [x]) (hat : c.argTypes.toList = t :: ats)
    (hti : TT t = .slc E bytes z) (hE0 : 0 < E) (h1 : OpdR (lk e) x s) (hk : execClear ⟨dst, .call c, ty, pos, after, guard⟩ h E z s K) : Goal P ⟨dst, .call c, ty, pos, after, guard⟩ n e h K := by
  have hd := (hT t).desc
  rw [hti] at hd
  obtain ⟨el, hu, hie, hz, hwz, _⟩ := hd
  obtain ⟨ie, hj1, hj2, hj3, hj4⟩ := hie.mk
  obtain ⟨callee, args, argTypes⟩ := c
  simp only at hc hargs hat
  subst hc
  have ea : args = #[x] := by cases args; simp_all
  subst ea
  have hat0 : argTypes[0]? = some t := by rw [← Array.getElem?_toList, hat]; rfl
  have rx : ∀ (cx : Cx) (w : World) (a : Act), Reads (lk e) (slotsOf (Op.call ⟨.builtin .clear, #[x], argTypes⟩).operands.toList) cx w a → RelV cx w s (a.eval x) := fun cx w a hr =>
    h1.rel hr fun t ht => mem_slotsOf (by simp [Op.operands, Call.operands, ht])
  unfold execClear at hk
  simp only [nm_eq] at hk
  split at hk
  · rename_i E1 k off m
    split at hk
    · rename_i xx E2 rows hb hs
      obtain ⟨hE1, hk1⟩ := okT_iff.1 hk
      have hb := Nat.eq_of_beq_eq_true hb
      have hE1 := Nat.eq_of_beq_eq_true hE1
      subst hb
      subst hE1
      obtain ⟨hle, hk2⟩ := need_iff.1 hk1
      refine ⟨_, opD_mem (s := .tup []) hn rfl rfl rfl fun hp' hh cx w a keep hr hm hkeep => ?_, hk2⟩
      have hv : RelC cx w (.ov E2 k off m) [a.eval x] := rx cx w a hr
      obtain ⟨ad, cap, hd2, hcap, _, hw⟩ := own_write P hm (by rw [hh k List.mem_cons_self]; exact hs) hv
      have hfl : (List.replicate m (flat z)).flatten.length = (List.replicate m z).length * E2 := by simp [flat_len hz, hwz]
      obtain ⟨w', g1, g2, g3, g4, g5, g6⟩ := hw (List.replicate m z) (List.replicate m (flat z)).flatten off keep (Nat.le_refl _) (by simpa using hle) hfl (fun u hu => by
        obtain ⟨l, h1, h2⟩ := List.mem_flatten.1 hu
        rw [List.eq_of_mem_replicate h1] at h2
        exact (okz_rel (cx := cx) (w := w) hz).ones u h2) (fun i s hs => by
        obtain ⟨hlt, hsz⟩ := List.getElem?_eq_some_iff.1 hs
        simp at hlt hsz
        subst hsz
        have : ((List.replicate m (flat z)).flatten.drop (i * E2)).take E2 = flat z := by
          have e1 : List.replicate m (flat z) = List.replicate i (flat z) ++ List.replicate (m - i) (flat z) := by
            rw [List.replicate_append_replicate]; congr 1; omega
          rw [e1, List.flatten_append]
          have hli : (List.replicate i (flat z)).flatten.length = i * E2 := by simp [flat_len hz, hwz]
          rw [← hli, List.drop_left]
          rw [show m - i = (m - i - 1) + 1 by omega, List.replicate_succ, List.flatten_cons]
          rw [← hwz, ← flat_len hz, List.take_left]
        rw [this]
        exact okz_rel hz)
      have hmk := made_cells (flat z) (by rw [flat_len hz, hwz]; exact hE0) m
      have hzc : (Builtin.zeroCells (toVal z).cells m).toList = (List.replicate m (flat z)).flatten := by
        rw [toVal_cells hz]
        have : Builtin.zeroCells (flat z).toArray m = (Array.range (m * (flat z).length)).map ((flat z).toArray[· % (flat z).toArray.size]!) := by
          simp [Builtin.zeroCells]
        rw [this, hmk]
      refine ⟨.tuple #[], cx, w', ?_, g4, g5, g6, ⟨[], rfl, .nil⟩⟩
      cases ad with
      | none =>
        have := g3 rfl
        subst this
        simp [execOp, resolve, invoke, builtin, Builtin.clear_, hat0, hd2, run_underlying hu]
      | some ad =>
        have h5 := g2 ad rfl
        simp only [Nat.sub_self, Nat.zero_mul] at h5
        have h6 : ad.add 0 = ad := by simp [Addr.add]
        rw [h6] at h5
        cases m with
        | zero =>
          simp only [List.replicate_zero, List.flatten_nil, storeCells, Sem.run_pure, Result.ok.injEq, true_and] at h5
          subst h5
          simp [execOp, resolve, invoke, builtin, Builtin.clear_, hat0, hd2, run_underlying hu]
        | succ m =>
          simp [execOp, resolve, invoke, builtin, Builtin.clear_, hat0, hd2, run_underlying hu, run_zeroValue' hj1 hj4, hzc, h5]
    · exact hk.elim
  · refine ⟨_, opD_plain _ hn fun cx w a hr => ?_, hk⟩
    have hv := relV_v (rx cx w a hr)
    exact ⟨.tuple #[], by simp [execOp, resolve, invoke, builtin, Builtin.clear_, hat0, hv, run_underlying hu], ⟨[], rfl, .nil⟩⟩
  · exact hk.elim
/-- Bytes become a string. -/
theorem s_convS {c d : TypeId} {x : Operand} (hT : TTok P TT) (hn : inFrame n dst = true) (hd : isStrT (TT d) = true) {s : SV} (h1 : OpdR (lk e) x s) (hk : convS ⟨dst, .convert c d x, ty, pos, after, guard⟩ h (TT c) s K) :
    Goal P ⟨dst, .convert c d x, ty, pos, after, guard⟩ n e h K := by
  unfold convS at hk
  split at hk
  · rename_i E1 bts z hti
    split at hk
    · rename_i hz
      obtain ⟨_, hk⟩ := okT_iff.1 hk
      obtain ⟨xs, ks, hk1, hrows⟩ := rowsOf_sound hk
      obtain ⟨ys, hxy, hk2⟩ := byt_iff.1 hk1
      subst hxy
      refine ⟨_, opD_mem (s := .v (.string (strOfNums ys))) hn rfl rfl rfl fun hp' hh cx w a keep hr hm hkeep => ?_, hk2⟩
      have hv := h1.rel hr fun t ht => mem_slotsOf (by simp [Op.operands, ht])
      obtain ⟨a2, c2, news, hy, hnl, hn1, ha0, hac, hseg⟩ := hrows cx w _ hp' hh hm hv
      have hnews := bytes_news hnl hseg
      have hc := (hT c).desc
      rw [hti] at hc
      obtain ⟨el, hu, _, _, _, hu8⟩ := hc
      have hdd : P.underlying d = some .string := by
        have h2 := (hT d).desc
        unfold isStrT at hd
        split at hd
        · rename_i s0 hte
          rw [hte] at h2
          exact h2.2.2 _ rfl
        · cases hd
      have hrun : (convert c d (a.eval x)).run P w = .ok (.string (strOfNums ys)) w := by
        rw [hy]
        cases a2 with
        | none =>
          have h0 := ha0 rfl
          rw [bytesRows_len] at h0
          rw [List.length_eq_zero_iff.1 h0]
          exact run_convert_bytes_nil w c el hu (hu8 hz) _ _ d hdd
        | some ad =>
          have hl : (loadCells ad (bytesRows ys).length).run P w = .ok news.toArray w := by
            have := run_loadCells_list (P := P) w ad news (fun j v hj => hac ad rfl j v hj)
            rwa [show news.length = (bytesRows ys).length by rw [hnl]; omega] at this
          rw [run_convert_bytes_string w c d el _ _ _ hu (hu8 hz) hdd]
          rw [hnews, show (ys.map fun x => Value.int .u8 x).toArray = (ys.map (Value.int .u8)).toArray from rfl] at hl
          rw [run_bytesToString w _ _ c2 ys hl, foldl_push_bytes]
          simp [strOfNums, ByteArray.empty, ByteArray.emptyWithCapacity]
          rfl
      exact ⟨.string (strOfNums ys), cx, w, by simp [execOp, hrun], .refl _ _, fr_heap rfl, hm, .v rfl⟩
    · exact hk.elim
  · exact hk.elim
theorem s_convert {c d : TypeId} {x : Operand} (hT : TTok P TT) (hn : inFrame n dst = true) (hx : xOp P TT n ⟨dst, .convert c d x, ty, pos, after, guard⟩ e h K) : Goal P ⟨dst, .convert c d x, ty, pos, after, guard⟩ n e h K := by
  obtain ⟨s, h1, hk⟩ := opd_sound hx
  split at hk
  · rename_i hd
    exact s_convS hT hn hd h1 hk
  · exact s_convertN hT hn h1 hk
end
end Go.Fw

/- The executor is sound: append of make. -/
namespace Go.Fw
section
variable {P : Program} {TT : Nat → TI} {n : Sz} {e : List (Nat × SV)} {h : List OB} {K : Rec → Prop}
variable {dst : Option Nat} {ty : TypeId} {pos : String} {after : Array Edge} {guard : Option (Nat × Bool)}

theorem zeros_len {z : SV} {E : Nat} (hz : okz z = true) (hwz : wd z = E) (m : Nat) : (List.replicate m (flat z)).flatten.length = (List.replicate m z).length * E := by
  simp [flat_len hz, hwz]
theorem zeros_seg {cx : Cx} {w : World} {z : SV} {E : Nat} (hz : okz z = true) (hwz : wd z = E) (m i : Nat) (s : SV) (hs : (List.replicate m z)[i]? = some s) : RelC cx w s (((List.replicate m (flat z)).flatten.drop (i * E)).take E) := by
  obtain ⟨hlt, hsz⟩ := List.getElem?_eq_some_iff.1 hs
  simp at hlt hsz
  subst hsz
  have : ((List.replicate m (flat z)).flatten.drop (i * E)).take E = flat z := by
    have e1 : List.replicate m (flat z) = List.replicate i (flat z) ++ List.replicate (m - i) (flat z) := by
      rw [List.replicate_append_replicate]; congr 1; omega
    rw [e1, List.flatten_append]
    have hli : (List.replicate i (flat z)).flatten.length = i * E := by simp [flat_len hz, hwz]
    rw [← hli, List.drop_left]
    rw [show m - i = (m - i - 1) + 1 by omega, List.replicate_succ, List.flatten_cons]
    rw [← hwz, ← flat_len hz, List.take_left]
  rw [this]
  exact okz_rel hz
theorem zeros_cells {z : SV} {E : Nat} (hz : okz z = true) (hwz : wd z = E) (hE0 : 0 < E) (m : Nat) : (Builtin.zeroCells (toVal z).cells m).toList = (List.replicate m (flat z)).flatten := by
  have hmk := made_cells (flat z) (by rw [flat_len hz, hwz]; exact hE0) m
  rw [toVal_cells hz]
  have : Builtin.zeroCells (flat z).toArray m = (Array.range (m * (flat z).length)).map ((flat z).toArray[· % (flat z).toArray.size]!) := by
    simp [Builtin.zeroCells]
  rw [this, hmk]

theorem run_app_make (w : World) (t t' ty el : TypeId) (k : IntKind) (i : TypeInfo) (z : Value) (ht : P.underlying t = some (.slice el)) (ht' : P.underlying t' = some (.int k)) (hi : P.info? el = some i) (hz : i.zero = some z)
    (base : Option Addr) (sLen sCap : Nat) (olds : List Value) (hfo : (Builtin.firstCells i.size sLen (.slice base sLen sCap)).run P w.drew = .ok olds.toArray w.drew)
    (q : Nat) (kq : IntKind) (news : List Value) (hnew : (Builtin.zeroCells z.cells q).toList = news) (hsz : z.cells.size = i.size) (hq0 : 0 < q)
    (hg : sCap < sLen + q) (h63 : sLen + q ≤ 9223372036854775807) (hfit : (sLen + q) * i.bytes ≤ 140737488355328) :
    (Builtin.append_ #[t, t'] ty #[.slice base sLen sCap, .int kq (q : Int)]).run P w =
      .ok (.slice (some ⟨w.heap.size, 0, none⟩) (sLen + q) (grownCap w (sLen + q) sCap el))
        (w.drew.alloc (.cells (olds ++ news ++ (Builtin.zeroCells z.cells (grownCap w (sLen + q) sCap el - (sLen + q))).toList).toArray el)) := by
  have hn : ¬ (sLen + q ≤ sCap) := by omega
  have h63' : ¬ (9223372036854775807 < ((sLen : Int) + (q : Int))) := by omega
  have hfit' := growslice_fits (need := sLen + q) (old := sCap) (bytes := i.bytes) hg hfit
  have h48' : ¬ (281474976710656 < Builtin.nextslicecap (sLen + q) sCap * i.bytes) := by omega
  have hq : IntKind.i64.wrap (q : Int) = (q : Int) := by simp [IntKind.wrap, IntKind.bits, IntKind.signed]; omega
  have hq1 : ¬ ((q : Int) < 0) := by omega
  have hle : q * i.bytes ≤ (sLen + q) * i.bytes := Nat.mul_le_mul_right _ (by omega)
  have hq2 : ¬ ((q : Int) * (i.bytes : Int) > 281474976710656) := by
    have : ((q : Int) * (i.bytes : Int)) = ((q * i.bytes : Nat) : Int) := by simp
    omega
  have hz0 : (if q * i.size = 0 then (#[] : Array Value) else Builtin.zeroCells z.cells q) = news.toArray := by
    split
    · rename_i h0
      rw [← hnew]
      simp [Builtin.zeroCells, hsz, h0]
    · rw [← hnew]
  by_cases h0 : q * i.size = 0
  · rw [if_pos h0] at hz0
    simp [Builtin.append_, run_underlying ht, run_underlying ht', sizeOf, typeInfo, zeroValue, hi, hz, Builtin.lenOf, asInt, asIntOf, hq, hq1, hq2, hn, h63', h48', Question.forced, hfo, newRow, grownCap, h0, ← hz0]
    have hn0 : news = [] := by simpa using hz0.symm
    subst hn0
    congr 2
    apply Array.ext'
    simp [List.append_assoc]
  · rw [if_neg h0] at hz0
    simp [Builtin.append_, run_underlying ht, run_underlying ht', sizeOf, typeInfo, zeroValue, hi, hz, Builtin.lenOf, asInt, asIntOf, hq, hq1, hq2, hn, h63', h48', Question.forced, hfo, newRow, grownCap, h0, hz0]
    congr 2
    apply Array.ext'
    simp [List.append_assoc]

theorem s_appmake {t t' : TypeId} {kq : IntKind} {E bytes : Nat} {s z : SV} {q : Int} {x1 x2 : Operand} {c : Call} (hT : TTok P TT) (hn : inFrame n dst = true) (hc : c.callee = .builtin .append) (hargs : c.args.toList = [x1, x2])
    (hat : c.argTypes.toList = [t, t']) (hti : TT t = .slc E bytes z) (hE0 : 0 < E) (hti' : isIntT (TT t') = true) (h1 : OpdR (lk e) x1 s) (h2 : OpdR (lk e) x2 (.v (.int kq q))) (hk : execAppendMake ⟨dst, .call c, ty, pos, after, guard⟩ h E bytes z s q K) :
    Goal P ⟨dst, .call c, ty, pos, after, guard⟩ n e h K := by
  have hd := (hT t).desc
  rw [hti] at hd
  obtain ⟨el, hu, hie, hz, hwz, _⟩ := hd
  obtain ⟨i, hj1, hj2, hj3, hj4⟩ := hie.mk
  have hd' := (hT t').desc
  obtain ⟨k', hu'⟩ : ∃ k', P.underlying t' = some (.int k') := by
    generalize TT t' = ti at hti' hd'
    cases ti <;> simp [isIntT] at hti'
    exact ⟨_, hd'⟩
  obtain ⟨callee, args, argTypes⟩ := c
  simp only at hc hargs hat
  subst hc
  have ea : args = #[x1, x2] := by cases args; simp_all
  have et : argTypes = #[t, t'] := by cases argTypes; simp_all
  subst ea et
  have r1 : ∀ (cx : Cx) (w : World) (a : Act), Reads (lk e) (slotsOf (Op.call ⟨.builtin .append, #[x1, x2], #[t, t']⟩).operands.toList) cx w a → RelV cx w s (a.eval x1) := fun cx w a hr =>
    h1.rel hr fun t ht => mem_slotsOf (by simp [Op.operands, Call.operands, ht])
  have r2 : ∀ (cx : Cx) (w : World) (a : Act), Reads (lk e) (slotsOf (Op.call ⟨.builtin .append, #[x1, x2], #[t, t']⟩).operands.toList) cx w a → a.eval x2 = .int kq q := fun cx w a hr =>
    relV_v (h2.rel hr fun t ht => mem_slotsOf (by simp [Op.operands, Call.operands, ht]))
  have core : ∀ (r0 : List SV) (m c1 q : Nat), r0.length = m → 0 < q → c1 < m + q → roomOK (m + q) bytes → ∀ (hp' : Nat → Option OB) (cx : Cx) (w : World) (a : Act) (keep : Nat → Prop), hp' (len h) = none → Mem cx w hp' → (∀ k, keep k → cx.bl k ≠ none) →
      RowsAt cx w E r0 (a.eval x1) → (∀ a' l c, a.eval x1 = .slice a' l c → c = c1) → a.eval x2 = .int kq q →
      ∃ v cx' w', (execOp a.eval ⟨dst, .call ⟨.builtin .append, #[x1, x2], #[t, t']⟩, ty, pos, after, guard⟩).run P w = .ok (.value v) w' ∧ Ext cx w cx' w' ∧ Fr keep cx w cx' w' ∧ Mem cx' w' (updHp hp' [(len h, .arr none E (r0 ++ List.replicate q z))]) ∧ RelV cx' w' (.ov E (len h) 0 (r0 ++ List.replicate q z).length) v := by
    intro r0 m c1 q hr0l hq0 hgt hroom hp' cx w a keep hkn hm hkeep hra hcq hx2
    obtain ⟨ad, c2, olds, hv2, hol, ho1, hb0, hbc, hoseg⟩ := hra
    have hc1 := hcq _ _ _ hv2
    subst hc1
    rw [hr0l] at hol hv2
    have hh2 : w.drew.heap = w.heap := rfl
    have hfo := first_of (P := P) (size := i.size) (m := m) (c := c2) (by rw [hj2]; exact hol) (by rw [hr0l] at hb0; exact hb0) hbc hh2
    have hrun := run_app_make w t t' ty el k' i (toVal z) hu hu' hj1 hj4 ad m c2 olds hfo q kq _ (zeros_cells hz hwz hE0 q) (by rw [toVal_cells hz, List.size_toArray, flat_len hz, hwz, hj2]) (by omega) (by omega) (by have := hroom.2; omega) (by rw [hj3]; have := hroom.1; omega)
    have hcg := grownCap_ge w (m + q) c2 el
    generalize hC : grownCap w (m + q) c2 el = C at hrun hcg
    generalize htl : (Builtin.zeroCells (toVal z).cells (C - (m + q))).toList = tail at hrun
    have hzc : (toVal z).cells.size = E := by rw [toVal_cells hz, List.size_toArray, flat_len hz, hwz]
    have ones : ∀ v ∈ (toVal z).cells.toList, v.oneCell' = true := by rw [toVal_cells hz]; exact (okz_rel (cx := cx) (w := w) hz).ones
    have htail : tail.length = (C - (m + q)) * E := by rw [← htl, Array.length_toList, size_zeroCells, hzc]
    have hzl := zeros_len hz hwz q
    simp only [List.length_replicate] at hzl
    have hm1 := mem_heap hm hh2
    have hnk : ¬ keep (len h) := fun hk2 => hkeep _ hk2 (hm.dom _ hkn)
    have hob : ∀ cx', Ext cx w.drew cx' (w.drew.alloc (.cells (olds ++ (List.replicate q (flat z)).flatten ++ tail).toArray el)) → Holds cx' (w.drew.alloc (.cells (olds ++ (List.replicate q (flat z)).flatten ++ tail).toArray el)) w.drew.heap.size C (.arr none E (r0 ++ List.replicate q z)) := by
      intro cx' he
      refine ⟨_, el, heap_alloc_new _ _, ?_, ⟨by simp; omega, (fun c h => by cases h), app_ones ho1 (fun v hv => by
        obtain ⟨l, h1, h2⟩ := List.mem_flatten.1 hv
        rw [List.eq_of_mem_replicate h1] at h2
        exact (okz_rel (cx := cx) (w := w) hz).ones v h2) (htl ▸ zero_ones ones)⟩, fun j s hs => ?_⟩
      · rw [List.length_append, List.length_append, hol, hzl, htail]
        rw [← Nat.add_mul, ← Nat.add_mul]; congr 1; omega
      · have := seg_app (cx := cx.bare) (w := w) (tail := tail) (r1 := r0) (r2 := List.replicate q z) (by rw [hr0l]; exact hol) (by rw [List.length_replicate]; exact hzl) hoseg (fun i s hs => zeros_seg hz hwz q i s hs) j s hs
        exact (this.mono (ext_heap hh2).bare).mono he.bare
    refine ⟨.slice (some ⟨w.heap.size, 0, none⟩) (m + q) C, cx.with (len h) (.at w.heap.size C) (fun b => cx.O b ∨ b = w.heap.size), w.drew.alloc (.cells (olds ++ (List.replicate q (flat z)).flatten ++ tail).toArray el), ?_, (ext_heap hh2).trans (ext_alloc cx w.drew _ (len h) C (hm.dom _ hkn)) (Nat.le_refl _), (fr_heap hh2).trans (fr_alloc keep cx w.drew _ (len h) C hnk ⟨_, _, rfl⟩) (fun _ h => h), mem_alloc hm1 _ (len h) C hkn _ hob, ?_⟩
    · rw [← hv2, ← hx2] at hrun
      simp [execOp, resolve, invoke, builtin, hrun]
    · show RelC _ _ _ [_]
      have := RelC.ov (cx := cx.with (len h) (.at w.heap.size C) (fun b => cx.O b ∨ b = w.heap.size)) (w := w.drew.alloc (.cells (olds ++ (List.replicate q (flat z)).flatten ++ tail).toArray el)) (E := E) (k := len h) (off := 0) (n := (r0 ++ List.replicate q z).length) (b := w.heap.size) (C := C) (by simp [Cx.with]) (by rw [List.length_append, hr0l, List.length_replicate]; omega)
      simpa [hr0l] using this
  unfold execAppendMake at hk
  simp only [nm_eq] at hk
  split at hk
  · rename_i E0 k off m
    split at hk
    case h_2 => exact hk.elim
    rename_i c0 E1 rows hb hs
    obtain ⟨hE1, hk1⟩ := okT_iff.1 hk
    have hb := Nat.eq_of_beq_eq_true hb
    have hE1 := Nat.eq_of_beq_eq_true hE1
    subst hb
    subst hE1
    obtain ⟨⟨hq0, hle, hgt, hroom⟩, hk2⟩ := need_iff.1 hk1
    clear hk hk1
    obtain ⟨q, rfl⟩ := Int.eq_ofNat_of_zero_le hq0
    simp only [Int.toNat_natCast] at hgt hroom hk2
    have hr0l : ((rows.drop off).take m).length = m := by simp; omega
    refine ⟨_, opD_mem (s := .ov E1 (len h) 0 ((rows.drop off).take m ++ List.replicate q z).length) hn rfl rfl rfl fun hp' hh cx w a keep hr hm hkeep => ?_, hk2⟩
    have hs' : hp' k = some (.arr (some c0) E1 rows) := by rw [hh k (by simp)]; exact hs
    have hv : RelC cx w (.ov E1 k off m) [a.eval x1] := r1 cx w a hr
    obtain ⟨ad, cap, hv2, hcp, hcq, _⟩ := own_write P hm hs' hv
    have hcq0 := hcq c0 rfl
    exact core _ m (c0 - off) q hr0l (by omega) hgt hroom hp' cx w a keep (by rw [hh _ List.mem_cons_self]; exact nthB_len h) hm hkeep (ov_rowsAt hv (hm.live k _ hs') hr0l) (fun a' l c hh => by rw [hv2] at hh; cases hh; exact hcq c0 rfl) (r2 cx w a hr)
  · rename_i tg E0 rows
    split at hk
    case h_2 => exact hk.elim
    rename_i c0 hb hcp
    have hb := Nat.eq_of_beq_eq_true hb
    subst hb
    obtain ⟨⟨hq0, hgt, hroom⟩, hk2⟩ := need_iff.1 hk
    obtain ⟨q, rfl⟩ := Int.eq_ofNat_of_zero_le (Int.le_of_lt hq0)
    simp only [Int.toNat_natCast] at hgt hroom hk2
    refine ⟨_, opD_mem (s := .ov E0 (len h) 0 (rows ++ List.replicate q z).length) hn rfl rfl rfl fun hp' hh cx w a keep hr hm hkeep => ?_, hk2⟩
    have hv := r1 cx w a hr
    refine core _ _ c0 q rfl (by omega) hgt hroom hp' cx w a keep (by rw [hh _ List.mem_cons_self]; exact nthB_len h) hm hkeep (fs_rowsAt hv) (fun a' l c hh => ?_) (r2 cx w a hr)
    have hv : RelC cx w (.fs tg E0 rows) [a.eval x1] := hv
    generalize a.eval x1 = v at *
    cases hv with
    | fs0 ho => cases hh; exact ho.2 _ hcp
    | fs f _ _ _ ht => cases hh; exact ht.2 _ hcp
  · exact hk.elim
end
end Go.Fw

/- The executor is sound: append, whole; calls. -/
namespace Go.Fw

structure ExtX (k : Nat) (cx : Cx) (w : World) (cx' : Cx) (w' : World) : Prop where
  bl : ∀ j x, j ≠ k → cx.bl j = some x → cx'.bl j = some x
  same : ∀ b, b < w.heap.size → ¬ cx.O b → w'.heap[b]? = w.heap[b]?
  own : ∀ b, cx'.O b → cx.O b ∨ w.heap.size ≤ b
theorem ExtX.bare {k cx w cx' w'} (h : ExtX k cx w cx' w') : Ext ⟨fun _ => none, cx.O⟩ w ⟨fun _ => none, cx'.O⟩ w' := ⟨fun _ _ h => (by cases h), h.same, h.own⟩

mutual
theorem kill_id (k : Nat) : ∀ {s : SV}, ment k s = false → kill k s = s
  | .v _, _ => rfl
  | .ba .., _ => rfl
  | .fs .., _ => rfl
  | .pf .., _ => rfl
  | .top, _ => rfl
  | .agg cs, h => by simp only [kill]; rw [kills_id k (cs := cs) (by simpa [ment] using h)]
  | .tup cs, h => by simp only [kill]; rw [kills_id k (cs := cs) (by simpa [ment] using h)]
  | .clo f cs, h => by simp only [ment] at h; simp only [kill, h]
  | .ov E j o m, h => by simp only [ment] at h; simp only [kill, h]
  | .sb j p o m, h => by simp only [ment] at h; simp only [kill, h]
  | .pb j p, h => by simp only [ment] at h; simp only [kill, h]
  | .pe E j i p, h => by simp only [ment] at h; simp only [kill, h]
theorem kills_id (k : Nat) : ∀ {cs : List SV}, ments k cs = false → kills k cs = cs
  | [], _ => rfl
  | s :: r, h => by
    simp only [ments] at h
    split at h
    · cases h
    · simp only [kills]; rw [kill_id k (by assumption), kills_id k h]
end
theorem ments_get (k : Nat) : ∀ {cs : List SV}, ments k cs = false → ∀ (i : Nat) s, cs[i]? = some s → ment k s = false
  | [], _, i, s, h => by simp at h
  | x :: r, hm, i, s, h => by
    simp only [ments] at hm
    split at hm
    · cases hm
    · cases i with
      | zero => simp at h; subst h; assumption
      | succ i => exact ments_get k hm i s (by simpa using h)

theorem RelC.kill {cx w s vs} (h : RelC cx w s vs) : ∀ {k cx' w'}, ExtX k cx w cx' w' → RelC cx' w' (Fw.kill k s) vs := by
  induction h with
  | v h => intro _ _ _ _; exact .v h
  | top h => intro _ _ _ _; exact .top h
  | nil => intro _ _ _ _; exact .nil
  | cons _ _ ih1 ih2 => intro k _ _ e; exact .cons (ih1 e) (ih2 e)
  | ba h => intro _ _ _ _; exact .ba h
  | fs0 h => intro _ _ _ _; exact .fs0 h
  | fs f hb hO hc ht hr hl hx ih =>
    intro k cx' w' e
    have hlt := lt_of_getElem? hb
    refine .fs f (by rw [e.same _ hlt hO]; exact hb) (fun h => ?_) hc ht (fun i s hs => (hr i s hs).mono e.bare) hl hx
    rcases e.own _ h with h | h
    · exact hO h
    · omega
  | @ov cx w E k0 off m b C h1 h2 =>
    intro k cx' w' e
    simp only [Fw.kill]
    split
    · exact .top rfl
    · rename_i hne
      exact .ov (e.bl _ _ (fun h => by subst h; simp at hne) h1) h2
  | @ov0 cx w E k0 a h1 =>
    intro k cx' w' e
    simp only [Fw.kill]
    split
    · exact .top rfl
    · rename_i hne
      exact .ov0 (e.bl _ _ (fun h => by subst h; simp at hne) h1)
  | @ovz cx w E k0 a b C h1 =>
    intro k cx' w' e
    simp only [Fw.kill]
    split
    · exact .top rfl
    · rename_i hne
      exact .ovz (e.bl _ _ (fun h => by subst h; simp at hne) h1)
  | @sb cx w k0 p off m b C cap h1 h2 =>
    intro k cx' w' e
    simp only [Fw.kill]
    split
    · exact .top rfl
    · rename_i hne
      exact .sb (e.bl _ _ (fun h => by subst h; simp at hne) h1) h2
  | @pb cx w k0 p b C h1 =>
    intro k cx' w' e
    simp only [Fw.kill]
    split
    · exact .top rfl
    · rename_i hne
      exact .pb (e.bl _ _ (fun h => by subst h; simp at hne) h1)
  | @pe cx w E k0 i p b C h1 =>
    intro k cx' w' e
    simp only [Fw.kill]
    split
    · exact .top rfl
    · rename_i hne
      exact .pe (e.bl _ _ (fun h => by subst h; simp at hne) h1)
  | pf _ ih => intro k cx' w' e; exact .pf (ih e)
  | clo vs hl _ ih =>
    intro k cx' w' e
    simp only [Fw.kill]
    split
    · exact .top rfl
    · rename_i hne
      exact .clo vs hl fun i s x h1 h2 => by
        have := ih i s x h1 h2 e
        rwa [kill_id k (ments_get k hne i s h1)] at this

theorem RelC.nomen {cx w s vs k cx' w'} (h : RelC cx w s vs) (hm : ment k s = false) (e : ExtX k cx w cx' w') : RelC cx' w' s vs := by
  have := h.kill e
  rwa [kill_id k hm] at this
theorem RelV1.nomen {cx w s v k cx' w'} (h : RelV1 cx w s v) (hm : ment k s = false) (e : ExtX k cx w cx' w') : RelV1 cx' w' s v := by
  cases s <;> simp only [RelV1] at h ⊢ <;> first | exact h | exact h.nomen hm e | (obtain ⟨vs, h1, h2⟩ := h; exact ⟨vs, h1, h2.nomen hm e⟩)
theorem RelVL.nomen {cx w l vs k cx' w'} (h : RelVL cx w l vs) (hm : ments k l = false) (e : ExtX k cx w cx' w') : RelVL cx' w' l vs := by
  induction h with
  | nil => exact .nil
  | cons h _ ih =>
    simp only [ments] at hm
    split at hm
    · cases hm
    · exact .cons (h.nomen (by assumption) e) (ih hm)
theorem RelV.nomen {cx w s v k cx' w'} (h : RelV cx w s v) (hm : ment k s = false) (e : ExtX k cx w cx' w') : RelV cx' w' s v := by
  cases s <;> simp only [RelV] at h ⊢ <;> first
    | exact h.nomen hm e
    | (obtain ⟨vs, h1, h2⟩ := h; exact ⟨vs, h1, h2.nomen (by simpa [ment] using hm) e⟩)

def killHp (k : Nat) (hp : Nat → Option OB) (j : Nat) : Option OB :=
  match hp j with
  | some (.cells s) => some (.cells (kill k s))
  | x => x
theorem updHp_killsH (k : Nat) : ∀ (h : List OB) (i : Nat) (f : Nat → Option OB), updHp f (killsH k h i) = fun j => if i ≤ j then (match nthB h (j - i) with
      | some (.cells s) => if ment k s = true then some (.cells (kill k s)) else f j
      | _ => f j) else f j
  | [], i, f => by funext j; simp [killsH, updHp, nthB]
  | ob :: r, i, f => by
    have step : ∀ (g : Nat → Option OB), updHp g (killsH k r (i + 1)) = fun j => if i + 1 ≤ j then (match nthB r (j - (i + 1)) with
        | some (.cells s) => if ment k s = true then some (.cells (kill k s)) else g j
        | _ => g j) else g j := fun g => updHp_killsH k r (i + 1) g
    funext j
    by_cases hj : j = i
    · subst hj
      cases ob with
      | cells s =>
        simp only [killsH]
        cases hm : ment k s <;> simp [updHp, step, nthB, hm] <;> intro h <;> omega
      | arr => simp [killsH, step, nthB]; intro h; omega
      | gone => simp [killsH, step, nthB]; intro h; omega
    · have e1 : i ≤ j ↔ i + 1 ≤ j := by omega
      have e2 : i + 1 ≤ j → nthB (ob :: r) (j - i) = nthB r (j - (i + 1)) := fun h => by
        rw [show j - i = (j - (i + 1)) + 1 by omega]; rfl
      cases ob with
      | cells s =>
        simp only [killsH]
        cases hm : ment k s
        · simp only [step, e1]
          split
          · rename_i hle; rw [e2 hle]
          · rfl
        · simp only [updHp, step, e1, if_neg hj]
          split
          · rename_i hle; rw [e2 hle]
          · rfl
      | arr =>
        simp only [killsH, step, e1]
        split
        · rename_i hle; rw [e2 hle]
        · rfl
      | gone =>
        simp only [killsH, step, e1]
        split
        · rename_i hle; rw [e2 hle]
        · rfl
theorem killsH_hp (k : Nat) (h : List OB) (x : Option Nat) (E : Nat) (rows : List SV) (xx : Option Nat) (E0 : Nat) (rows0 : List SV) (hk : nthB h k = some (.arr xx E0 rows0)) :
    updHp (nthB h) ((k, .arr x E rows) :: killsH k h 0) = fun j => if j = k then some (.arr x E rows) else killHp k (nthB h) j := by
  simp only [updHp, updHp_killsH]
  funext j
  simp only [Nat.zero_le, if_true, Nat.sub_zero, killHp]
  by_cases hj : j = k
  · subst hj; rw [hk]
  · simp only [if_neg hj]
    cases hh : nthB h j with
    | none => rfl
    | some ob =>
      cases ob with
      | cells s =>
        simp only
        cases hm : ment k s
        · simp [kill_id k hm]
        · rfl
      | arr => rfl
      | gone => rfl

theorem updSl_inv : ∀ (l : List (Nat × SV)) (sl : Nat → Option SV) (t : Nat) (s : SV), updSl sl l t = some s → (∃ s', (t, s') ∈ l ∧ s = s') ∨ (sl t = some s ∧ ∀ s', (t, s') ∉ l)
  | [], sl, t, s, h => .inr ⟨h, fun _ h => by cases h⟩
  | (t0, s0) :: r, sl, t, s, h => by
    rcases updSl_inv r _ t s h with ⟨s', h1, h2⟩ | ⟨h1, h2⟩
    · exact .inl ⟨s', List.mem_cons_of_mem _ h1, h2⟩
    · by_cases ht : t = t0
      · subst ht
        simp at h1
        subst h1
        exact .inl ⟨_, List.mem_cons_self, rfl⟩
      · simp [ht] at h1
        refine .inr ⟨h1, fun s' hs => ?_⟩
        rcases List.mem_cons.1 hs with hs | hs
        · cases hs; exact ht rfl
        · exact h2 s' hs
mutual
theorem noRef_ment (k : Nat) : ∀ (s : SV), noRef s = true → ment k s = false
  | .v _, _ => rfl
  | .ba .., _ => rfl
  | .fs .., _ => rfl
  | .pf .., _ => rfl
  | .agg cs, h => by simp only [noRef] at h; simp only [ment, noRefs_ments k cs h]
  | .clo _ cs, h => by simp only [noRef] at h; simp only [ment, noRefs_ments k cs h]
  | .tup cs, h => by simp only [noRef] at h; simp only [ment, noRefs_ments k cs h]
theorem noRefs_ments (k : Nat) : ∀ (cs : List SV), noRefs cs = true → ments k cs = false
  | [], _ => rfl
  | s :: r, h => by
    simp only [noRefs] at h
    split at h
    · rename_i h1
      simp only [ments, noRef_ment k s h1, noRefs_ments k r h]
    · cases h
end
theorem updHp_not0 {t : Nat} : ∀ {l : List (Nat × OB)} {f : Nat → Option OB}, t ∉ l.map Prod.fst → updHp f l t = f t
  | [], _, _ => rfl
  | (k, s) :: r, f, h => by
    simp only [List.map_cons, List.mem_cons, not_or] at h
    rw [updHp, updHp_not0 h.2]
    simp [h.1]
theorem updHp_cong0 {t : Nat} : ∀ {l : List (Nat × OB)} {f g : Nat → Option OB}, f t = g t → updHp f l t = updHp g l t
  | [], _, _, h => h
  | (k, s) :: r, f, g, h => by
    rw [updHp, updHp]
    refine updHp_cong0 ?_
    split
    · rfl
    · exact h
theorem killsH_hp2 (k : Nat) (h : List OB) (hp' : Nat → Option OB) (x : Option Nat) (E : Nat) (rows : List SV) (xx : Option Nat) (E0 : Nat) (rows0 : List SV) (hk : nthB h k = some (.arr xx E0 rows0))
    (hh : ∀ j, hp' j = nthB h j ∨ (j ∉ ((k, OB.arr x E rows) :: killsH k h 0).map Prod.fst ∧ ∃ s, hp' j = some (.cells s) ∧ ment k s = false)) :
    updHp hp' ((k, .arr x E rows) :: killsH k h 0) = fun j => if j = k then some (.arr x E rows) else killHp k hp' j := by
  funext j
  rcases hh j with e | ⟨h1, s, h2, h3⟩
  · rw [updHp_cong0 e, killsH_hp k h x E rows xx E0 rows0 hk]
    simp only [killHp, e]
  · have hj : j ≠ k := fun e => h1 (by rw [e]; simp)
    rw [updHp_not0 h1]
    simp only [if_neg hj, killHp, h2]
    rw [kill_id k h3]
theorem killsE_mem {k t : Nat} {s : SV} : ∀ {e : List (Nat × SV)}, (t, s) ∈ killsE k e → s = .top
  | [], h => by cases h
  | (t0, s0) :: r, h => by
    simp only [killsE] at h
    split at h
    · rcases List.mem_cons.1 h with h | h
      · cases h; rfl
      · exact killsE_mem h
    · exact killsE_mem h
theorem killsE_not {k t : Nat} {s : SV} : ∀ {e : List (Nat × SV)}, lk e t = some s → (∀ s', (t, s') ∉ killsE k e) → ment k s = false
  | [], h, _ => by cases h
  | (t0, s0) :: r, h, hn => by
    rw [lk_cons] at h
    by_cases ht : t = t0
    · subst ht
      simp at h
      subst h
      cases hm : ment k s0 with
      | false => rfl
      | true => exact absurd (by simp only [killsE, hm]; exact List.mem_cons_self) (hn .top)
    · simp [ht] at h
      refine killsE_not (e := r) h fun s' hs => hn s' ?_
      simp only [killsE]
      split
      · exact List.mem_cons_of_mem _ hs
      · exact hs

theorem killsE_some {k t : Nat} {s : SV} : ∀ {e : List (Nat × SV)}, (t, s) ∈ killsE k e → ∃ s0, lk e t = some s0
  | [], h => by cases h
  | (t0, s0) :: r, h => by
    rw [lk_cons]
    by_cases ht : t = t0
    · exact ⟨s0, by simp [ht]⟩
    · simp only [if_neg ht]
      simp only [killsE] at h
      split at h
      · rcases List.mem_cons.1 h with h | h
        · cases h; exact absurd rfl ht
        · exact killsE_some h
      · exact killsE_some h
theorem updSl_snoc : ∀ (l : List (Nat × SV)) (sl : Nat → Option SV) (d : Nat) (x : SV), updSl sl (l ++ [(d, x)]) = fun i => if i = d then some x else updSl sl l i
  | [], _, _, _ => rfl
  | (_, _) :: r, sl, d, x => updSl_snoc r _ d x

/-- One owned array is laid anew, or its block is written; what names it elsewhere is forgotten. -/
theorem mem_rebind {cx : Cx} {w : World} {hp : Nat → Option OB} (hm : Mem cx w hp) {k : Nat} {ob ob' : OB} {cx' : Cx} {w' : World} (hx : ExtX k cx w cx' w') (hk : hp k = some ob) (hg : ob ≠ .gone) (hnc : ∀ s, ob ≠ .cells s)
    (hsame : ∀ j ob b C, j ≠ k → hp j = some ob → ob ≠ .gone → cx.bl j = some (.at b C) → w'.heap[b]? = w.heap[b]?)
    (hO : ∀ b, b < w.heap.size → cx.O b → cx'.O b) (hkb : ∀ b C, cx'.bl k = some (.at b C) → (∃ C', cx.bl k = some (.at b C')) ∨ w.heap.size ≤ b) (hbl : ∀ j, j ≠ k → cx'.bl j = cx.bl j)
    (hlt : ∀ b, cx'.O b → b < w'.heap.size) (hl : Live cx' w' k ob') : Mem cx' w' (fun j => if j = k then some ob' else killHp k hp j) where
  live j x hj := by
    by_cases h : j = k
    · subst h; simp at hj; subst hj; exact hl
    · simp only [if_neg h, killHp] at hj
      cases hh : hp j with
      | none => rw [hh] at hj; cases hj
      | some y =>
        rw [hh] at hj
        have hlj := hm.live j y hh
        cases y with
        | gone => simp at hj; subst hj; trivial
        | cells s =>
          simp at hj; subst hj
          rcases hlj with ⟨b, C, h1, h2, vs, T, h3, h4⟩ | ⟨_, E, h2⟩
          · exact .inl ⟨b, C, by rw [hbl j h]; exact h1, hO b (hm.lt b h2) h2, vs, T, by rw [hsame j _ b C h hh (by simp) h1]; exact h3, h4.kill hx⟩
          · cases h2
        | arr x E rows =>
          simp at hj; subst hj
          rcases hlj with ⟨b, C, h1, h2, vs, T, h3, h4, h5, h6⟩ | ⟨h1, E', h2⟩
          · exact .inl ⟨b, C, by rw [hbl j h]; exact h1, hO b (hm.lt b h2) h2, vs, T, by rw [hsame j _ b C h hh (by simp) h1]; exact h3, h4, h5, fun i s hs => (h6 i s hs).mono hx.bare⟩
          · exact .inr ⟨by rw [hbl j h]; exact h1, E', h2⟩
  inj j j' ob1 ob2 b C1 C2 h1 h2 g1 g2 b1 b2 := by
    have hold : ∀ i x, i ≠ k → killHp k hp i = some x → x ≠ .gone → ∃ y, hp i = some y ∧ y ≠ .gone := by
      intro i x _ hi hx
      simp only [killHp] at hi
      cases hh : hp i with
      | none => rw [hh] at hi; cases hi
      | some y =>
        rw [hh] at hi
        cases y with
        | gone => simp at hi; subst hi; exact absurd rfl hx
        | cells s => exact ⟨_, rfl, by simp⟩
        | arr => exact ⟨_, rfl, by simp⟩
    have hblt : ∀ i y C, hp i = some y → y ≠ .gone → cx.bl i = some (.at b C) → b < w.heap.size := fun i y C hi hy hb => hm.lt b (live_at hm hi hb hy).1
    by_cases e1 : j = k <;> by_cases e2 : j' = k
    · rw [e1, e2]
    · exfalso
      simp only [if_neg e2] at h2
      obtain ⟨y, hy, hyg⟩ := hold j' ob2 e2 h2 g2
      rw [hbl j' e2] at b2
      subst e1
      rcases hkb b C1 b1 with ⟨C', hc⟩ | hc
      · exact e2 (hm.inj j' j y ob b C2 C' hy hk hyg hg b2 hc)
      · have := hblt j' y C2 hy hyg b2; omega
    · exfalso
      simp only [if_neg e1] at h1
      obtain ⟨y, hy, hyg⟩ := hold j ob1 e1 h1 g1
      rw [hbl j e1] at b1
      subst e2
      rcases hkb b C2 b2 with ⟨C', hc⟩ | hc
      · exact e1 (hm.inj j j' y ob b C1 C' hy hk hyg hg b1 hc)
      · have := hblt j y C1 hy hyg b1; omega
    · simp only [if_neg e1] at h1
      simp only [if_neg e2] at h2
      obtain ⟨y, hy, hyg⟩ := hold j ob1 e1 h1 g1
      obtain ⟨y', hy', hyg'⟩ := hold j' ob2 e2 h2 g2
      rw [hbl j e1] at b1
      rw [hbl j' e2] at b2
      exact hm.inj j j' y y' b C1 C2 hy hy' hyg hyg' b1 b2
  dom j hj := by
    by_cases h : j = k
    · simp [h] at hj
    · simp only [if_neg h, killHp] at hj
      rw [hbl j h]
      refine hm.dom j ?_
      cases hh : hp j with
      | none => rfl
      | some y => rw [hh] at hj; cases y <;> simp at hj
  lt := hlt
end Go.Fw

/- The executor is sound: append onto an owned slice. -/
namespace Go.Fw
section
variable {P : Program} {TT : Nat → TI} {n : Sz} {e : List (Nat × SV)} {h : List OB} {K : Rec → Prop}
variable {dst : Option Nat} {ty : TypeId} {pos : String} {after : Array Edge} {guard : Option (Nat × Bool)}

theorem Live.forget {cx : Cx} {w : World} {k : Nat} {x : Option Nat} {E : Nat} {rows : List SV} (h : Live cx w k (.arr x E rows)) : Live cx w k (.arr none E rows) := by
  rcases h with ⟨b, C, h1, h2, vs, T, h3, h4, h5, h6⟩ | ⟨h1, E', h2⟩
  · exact .inl ⟨b, C, h1, h2, vs, T, h3, h4, ⟨h5.le, (fun c h => by cases h), h5.ones⟩, h6⟩
  · refine .inr ⟨h1, E', ?_⟩
    simp only [x0] at h2 ⊢
    cases x <;> simp_all
theorem app_own {t : TypeId} {E bytes : Nat} {el : TypeId} {i : TypeInfo} {z : Value} (F : SlcFacts P t E bytes el i z) {cx : Cx} {w : World} {rows xs : List SV} {v x : Value} {hp : Nat → Option OB} {k : Nat} {keep : Nat → Prop}
    (hm : Mem cx w hp) {x0' : Option Nat} (hk : hp k = some (.arr x0' E rows)) (hkeep : ¬ keep k) (h0 : RelC cx w (.ov E k 0 rows.length) [v]) (hx : RowsAt cx w E xs x) (hroom : roomOK (rows.length + xs.length) bytes) :
    ∃ v' cx' w', (Builtin.append_ #[t, t] ty #[v, x]).run P w = .ok v' w' ∧ ExtX k cx w cx' w' ∧ Fr keep cx w cx' w' ∧ Mem cx' w' (fun j => if j = k then some (.arr none E (rows ++ xs)) else killHp k hp j) ∧
      RelV cx' w' (.ov E k 0 (rows ++ xs).length) v' := by
  obtain ⟨a, c, news, rfl, hnl, hn1, ha0, hac, hseg⟩ := hx
  have hlive := hm.live k _ hk
  have h0r : RowsAt cx w E rows v := by
    have := ov_rowsAt h0 hlive (by simp)
    simpa using this
  -- the case that nothing is laid anew: the value stays, the block too
  have grow : ∀ (b : Option Addr) (sCap : Nat), v = .slice b rows.length sCap → sCap < rows.length + xs.length →
      ∃ v' cx' w', (Builtin.append_ #[t, t] ty #[v, .slice a xs.length c]).run P w = .ok v' w' ∧ ExtX k cx w cx' w' ∧ Fr keep cx w cx' w' ∧ Mem cx' w' (fun j => if j = k then some (.arr none E (rows ++ xs)) else killHp k hp j) ∧
        RelV cx' w' (.ov E k 0 (rows ++ xs).length) v' := by
    intro b sCap hv hg
    subst hv
    obtain ⟨b', c', olds, hve, hol, ho1, hb0, hbc, hoseg⟩ := h0r
    cases hve
    have hh : w.drew.heap = w.heap := rfl
    have hfo := first_of (P := P) (size := i.size) (c := sCap) (by rw [F.hE]; exact hol) hb0 hbc hh
    have hf := first_of (P := P) (size := i.size) (c := c) (by rw [F.hE]; exact hnl) ha0 hac hh
    have hrun := run_app_grow (ty := ty) w t el i z F.ht F.hi F.hz b rows.length sCap olds hfo a xs.length c news hf hg (by have := hroom.2; omega) (by rw [F.hb]; have := hroom.1; omega)
    have hcg := grownCap_ge w (rows.length + xs.length) sCap el
    generalize hC : grownCap w (rows.length + xs.length) sCap el = C at hrun hcg
    generalize htl : (Builtin.zeroCells z.cells (C - (rows.length + xs.length))).toList = tail at hrun
    have htail : tail.length = (C - (rows.length + xs.length)) * E := by rw [← htl, Array.length_toList, size_zeroCells, F.hzc]
    have hX : ExtX k cx w (cx.with k (.at w.heap.size C) (fun b => cx.O b ∨ b = w.heap.size)) (w.drew.alloc (.cells (olds ++ news ++ tail).toArray el)) := by
      refine ⟨fun j y hj hy => by simp [Cx.with, hj, hy], fun b hb _ => ?_, fun b hb => ?_⟩
      · exact heap_alloc_old w.drew _ b hb
      · rcases hb with hb | hb
        · exact .inl hb
        · exact .inr (by omega)
    refine ⟨_, cx.with k (.at w.heap.size C) (fun b => cx.O b ∨ b = w.heap.size), _, hrun, hX, ?_, ?_, ?_⟩
    · refine ⟨by rw [heap_alloc_size]; exact Nat.le_succ _, fun b hb _ => heap_alloc_old w.drew _ b hb, hX.own, fun _ _ h => .inl (.inl h), fun j b C' hj => ?_, fun j hj => ?_, ⟨rfl, rfl, fun a => RowKit.frozen?_alloc_cells w.drew _ el a⟩⟩
      · by_cases hjk : j = k
        · subst hjk; simp [Cx.with] at hj; exact .inr (by omega)
        · simp [Cx.with, hjk] at hj; exact .inl ⟨j, .inl rfl, hj⟩
      · have : j ≠ k := fun e => hkeep (e ▸ hj)
        simp [Cx.with, this]
    · refine mem_rebind hm hX hk (by simp) (by simp) (fun j ob b C' hj hob hog hb => ?_) (fun b _ hb => .inl hb) (fun b C' hb => ?_) (fun j hj => by simp [Cx.with, hj]) (fun b hb => ?_) (.inl ⟨w.heap.size, C, by simp [Cx.with], .inr rfl, ?_⟩)
      · exact heap_alloc_old w.drew _ b (hm.lt b (live_at hm hob hb hog).1)
      · simp [Cx.with] at hb; exact .inr (by omega)
      · rw [heap_alloc_size]
        show b < w.heap.size + 1
        rcases hb with hb | hb
        · have := hm.lt b hb; omega
        · omega
      · refine ⟨_, el, heap_alloc_new _ _, ?_, ⟨by simp; omega, (fun c h => by cases h), app_ones ho1 hn1 (htl ▸ zero_ones F.ones)⟩, fun j s hs => ?_⟩
        · simp only [List.length_append, hol, hnl, htail]
          rw [← Nat.add_mul, ← Nat.add_mul]; congr 1; omega
        · have := seg_app (tail := tail) hol hnl hoseg hseg j s hs
          exact this.mono hX.bare
    · show RelC _ _ _ [_]
      have := RelC.ov (cx := cx.with k (.at w.heap.size C) (fun b => cx.O b ∨ b = w.heap.size)) (w := w.drew.alloc (.cells (olds ++ news ++ tail).toArray el)) (E := E) (k := k) (off := 0) (n := (rows ++ xs).length) (b := w.heap.size) (C := C) (by simp [Cx.with]) (by simp; omega)
      simpa using this
  have refl : ExtX k cx w cx w := ⟨fun _ _ _ h => h, fun _ _ _ => rfl, fun _ h => .inl h⟩
  have stay : ∀ (b : Option Addr) (sCap : Nat), v = .slice b rows.length sCap → rows.length ≤ sCap → xs.length = 0 →
      ∃ v' cx' w', (Builtin.append_ #[t, t] ty #[v, .slice a xs.length c]).run P w = .ok v' w' ∧ ExtX k cx w cx' w' ∧ Fr keep cx w cx' w' ∧ Mem cx' w' (fun j => if j = k then some (.arr none E (rows ++ xs)) else killHp k hp j) ∧
        RelV cx' w' (.ov E k 0 (rows ++ xs).length) v' := by
    intro b sCap hv hle hx0
    have hxs : xs = [] := List.length_eq_zero_iff.1 hx0
    subst hxs hv
    refine ⟨_, cx, w, run_app_zero w t ty el i F.ht F.hi b rows.length sCap a c hle, refl, Fr.refl _ _ _, ?_, by show RelC _ _ _ [_]; simpa using h0⟩
    rw [List.append_nil]
    exact mem_rebind hm refl hk (by simp) (by simp) (fun _ _ _ _ _ _ _ _ => rfl) (fun _ _ h => h) (fun b C' hb => .inl ⟨C', hb⟩) (fun _ _ => rfl) hm.lt hlive.forget
  generalize hrl : rows.length = rl at h0
  cases h0 with
  | ov hb hC =>
    rename_i b C
    subst hrl
    by_cases hfit : rows.length + xs.length ≤ C
    · obtain ⟨hO, vs, T, hh, hlen, hrC, hrows⟩ := live_at hm hk hb (by simp)
      have hf := first_of (P := P) (w := w) (size := i.size) (c := c) (by rw [F.hE]; exact hnl) ha0 hac rfl
      have hCE : (rows.length + xs.length) * E ≤ C * E := Nat.mul_le_mul_right E hfit
      rw [Nat.add_mul] at hCE
      have hrun := run_app_room (ty := ty) w t el i F.ht F.hi b (0 * E) rows.length (C - 0) vs.toArray T hh a xs.length c news hf hn1 (by omega) (by rw [F.hE]; simp; omega)
      rw [F.hE] at hrun
      simp only [Nat.zero_mul, Nat.zero_add, List.toList_toArray] at hrun
      have hX : ExtX k cx w cx (w.setRow b (vs.take (rows.length * E) ++ news ++ vs.drop (rows.length * E + news.length)).toArray) :=
        ⟨fun _ _ _ h => h, (ext_set cx w b _ hO).same, fun _ h => .inl h⟩
      refine ⟨_, cx, _, by simpa using hrun, hX, fr_set keep cx w k b C _ hb, ?_, ?_⟩
      · refine mem_rebind hm hX hk (by simp) (by simp) (fun j ob b' C' hj hob hog hb' => ?_) (fun _ _ h => h) (fun b' C' hb' => .inl ⟨C', hb'⟩) (fun _ _ => rfl) (fun b' hb' => by rw [setRow_size]; exact hm.lt b' hb') (.inl ⟨b, C, hb, hO, ?_⟩)
        · exact setRow_other w b b' _ fun e1 => hj (hm.inj j k _ _ b C' C hob hk hog (by simp) (e1 ▸ hb') hb)
        · refine ⟨_, T, setRow_heap w b _ _ T _ hh, by simp; omega, ⟨by simp; omega, (fun c h => by cases h), splice_ones hrC.ones hn1⟩, fun j s hs => ?_⟩
          have hol : (vs.take (rows.length * E)).length = rows.length * E := by simp; omega
          have hoseg : ∀ i s, rows[i]? = some s → RelC cx.bare w s (((vs.take (rows.length * E)).drop (i * E)).take E) := by
            intro i s hs
            have hi : i < rows.length := (List.getElem?_eq_some_iff.1 hs).1
            have hiE : (i + 1) * E ≤ rows.length * E := Nat.mul_le_mul_right E hi
            rw [Nat.add_mul, Nat.one_mul] at hiE
            have : ((vs.take (rows.length * E)).drop (i * E)).take E = (vs.drop (i * E)).take E := by
              rw [List.drop_take, List.take_take, Nat.min_eq_left (by omega)]
            rw [this]; exact hrows i s hs
          have := seg_app (tail := vs.drop (rows.length * E + news.length)) hol hnl hoseg hseg j s hs
          exact this.mono hX.bare
      · show RelC _ _ _ [_]
        have := RelC.ov (cx := cx) (w := w.setRow b (vs.take (rows.length * E) ++ news ++ vs.drop (rows.length * E + news.length)).toArray) (E := E) (k := k) (off := 0) (n := (rows ++ xs).length) (b := b) (C := C) hb (by simp; omega)
        simpa using this
    · exact grow _ _ rfl (by omega)
  | ov0 hb =>
    by_cases hx0 : xs.length = 0
    · exact stay _ _ (by rw [hrl]) (by omega) hx0
    · exact grow _ _ (by rw [hrl]) (by omega)
  | ovz hb =>
    by_cases hx0 : xs.length = 0
    · exact stay _ _ (by rw [hrl]) (by omega) hx0
    · exact grow _ _ (by rw [hrl]) (by omega)

theorem s_append {t : TypeId} {E bytes : Nat} {sx1 sx2 : SV} {z : SV} {x1 x2 : Operand} {c : Call} (hT : TTok P TT) (hn : inFrame n dst = true) (hc : c.callee = .builtin .append) (hargs : c.args.toList = [x1, x2])
    (hat : c.argTypes.toList = [t, t]) (hti : TT t = .slc E bytes z) (h1 : OpdR (lk e) x1 sx1) (h2 : OpdR (lk e) x2 sx2) (hk : execAppend n ⟨dst, .call c, ty, pos, after, guard⟩ e h E bytes sx1 sx2 K) :
    Goal P ⟨dst, .call c, ty, pos, after, guard⟩ n e h K := by
  obtain ⟨el, i, z', F⟩ := slcFacts hT hti
  obtain ⟨callee, args, argTypes⟩ := c
  simp only at hc hargs hat
  subst hc
  have ea : args = #[x1, x2] := by cases args; simp_all
  have et : argTypes = #[t, t] := by cases argTypes; simp_all
  subst ea et
  have exec : ∀ (w : World) (a : Act) (v : Value) (w' : World), (Builtin.append_ #[t, t] ty #[a.eval x1, a.eval x2]).run P w = .ok v w' →
      (execOp a.eval ⟨dst, .call ⟨.builtin .append, #[x1, x2], #[t, t]⟩, ty, pos, after, guard⟩).run P w = .ok (.value v) w' := by
    intro w a v w' hr
    simp [execOp, resolve, invoke, builtin, hr]
  have r1 : ∀ (cx : Cx) (w : World) (a : Act), Reads (lk e) (slotsOf (Op.call ⟨.builtin .append, #[x1, x2], #[t, t]⟩).operands.toList) cx w a → RelV cx w sx1 (a.eval x1) := fun cx w a hr =>
    h1.rel hr fun t ht => mem_slotsOf (by simp [Op.operands, Call.operands, ht])
  have r2 : ∀ (cx : Cx) (w : World) (a : Act), Reads (lk e) (slotsOf (Op.call ⟨.builtin .append, #[x1, x2], #[t, t]⟩).operands.toList) cx w a → RelV cx w sx2 (a.eval x2) := fun cx w a hr =>
    h2.rel hr fun t ht => mem_slotsOf (by simp [Op.operands, Call.operands, ht])
  unfold execAppend at hk
  simp only [nm_eq] at hk
  obtain ⟨xs, ks, hk1, hrows⟩ := rowsOf_sound hk
  clear hk
  have new : ∀ (r0 : List SV) (sCap : Nat), (∀ cx w v, RelV cx w sx1 v → RowsAt cx w E r0 v ∧ ∀ a l c, v = .slice a l c → c = sCap) → (sCap < r0.length + xs.length ∨ (r0 = [] ∧ sCap = 0)) → roomOK (r0.length + xs.length) bytes →
      OpD P ⟨dst, .call ⟨.builtin .append, #[x1, x2], #[t, t]⟩, ty, pos, after, guard⟩ n (lk e) (nthB h)
        ⟨slotsOf (Op.call ⟨.builtin .append, #[x1, x2], #[t, t]⟩).operands.toList, len h :: ks, dst1 dst (.ov E (len h) 0 (r0 ++ xs).length), [(len h, .arr none E (r0 ++ xs))], false⟩ := by
    intro r0 sCap hr0 hne hroom
    refine opD_mem hn rfl rfl rfl fun hp' hh cx w a keep hr hm hkeep => ?_
    obtain ⟨hra, hcap⟩ := hr0 cx w _ (r1 cx w a hr)
    have hxr := hrows cx w _ hp' (fun k hk => hh k (List.mem_cons_of_mem _ hk)) hm (r2 cx w a hr)
    obtain ⟨v', cx', w', e1, e2, e3, e4, e5⟩ := app_new (ty := ty) F hm (k := len h) (by rw [hh _ List.mem_cons_self]; exact nthB_len h) hkeep hra hcap hxr hne hroom
    exact ⟨v', cx', w', exec w a v' w' e1, e2, e3, e4, e5⟩
  split at hk1
  · obtain ⟨hroom, hk⟩ := need_iff.1 hk1
    refine ⟨_, new [] 0 (fun cx w v hv => ?_) (.inr ⟨rfl, rfl⟩) (by simpa using hroom), by simpa using hk⟩
    rw [relV_v hv]
    exact ⟨⟨_, _, [], rfl, by simp, by simp, fun _ => rfl, fun _ _ _ _ h => by simp at h, fun _ _ h => by simp at h⟩, fun a l c hh => by cases hh; rfl⟩
  · rename_i tg E0 rows
    split at hk1
    · rename_i c0 hE hcp
      have hE := Nat.eq_of_beq_eq_true hE
      subst hE
      have cap : ∀ {cx w v}, RelV cx w (.fs tg E0 rows) v → ∀ a l c, v = .slice a l c → c = c0 := fun {cx w v} hv a l c hh => by
        have hv : RelC cx w (.fs tg E0 rows) [v] := hv
        cases hv with
        | fs0 ho => cases hh; exact ho.2 _ hcp
        | fs f _ _ _ ht => cases hh; exact ht.2 _ hcp
      rcases hk1.inv with hk1 | hk1
      · obtain ⟨⟨hne, hroom⟩, hk⟩ := need_iff.1 hk1
        exact ⟨_, new rows c0 (fun cx w v hv => ⟨fs_rowsAt hv, cap hv⟩) hne hroom, hk⟩
      · obtain ⟨⟨hxs, hle⟩, hk⟩ := need_iff.1 hk1
        subst hxs
        refine ⟨_, opD_mem (s := .fs tg E0 rows) hn rfl rfl rfl fun hp' hh cx w a keep hr hm hkeep => ?_, hk⟩
        have hv1 := r1 cx w a hr
        obtain ⟨a0, cc, _, e1, _⟩ := fs_rowsAt hv1
        have hcc := cap hv1 _ _ _ e1
        obtain ⟨a2, c2, _, e2, _⟩ := hrows cx w _ hp' hh hm (r2 cx w a hr)
        refine ⟨a.eval x1, cx, w, exec w a _ w ?_, .refl _ _, Fr.refl _ _ _, hm, hv1⟩
        rw [e1, e2, List.length_nil]
        exact run_app_zero w t ty el i F.ht F.hi a0 rows.length cc a2 c2 (by omega)
    · exact hk1.elim
  · rename_i E0 k off m
    split at hk1
    · rename_i xo E1 rows hb hs
      split at hk1
      · rename_i hE1
        have hE0 := Nat.eq_of_beq_eq_true hb
        have hE1 := Nat.eq_of_beq_eq_true hE1
        subst hE0
        subst hE1
        rcases Alt.inv hk1 with hkA | hkB
        case inr =>
          rcases Alt.inv hkB with hkC | hkD
          · obtain ⟨hle, hk⟩ := need_iff.1 hkC
            refine ⟨_, opD_mem (s := .ov E1 k off (m + xs.length)) hn rfl rfl rfl fun hp' hh cx w a keep hr hm hkeep => ?_, hk⟩
            have hxr := hrows cx w _ hp' (fun k hk => hh k (List.mem_cons_of_mem _ hk)) hm (r2 cx w a hr)
            obtain ⟨v', cx', w', e1, e2, e3, e4, e5⟩ := app_in (ty := ty) F hm (by rw [hh k List.mem_cons_self]; exact hs) (r1 cx w a hr) hxr hle
            exact ⟨v', cx', w', exec w a v' w' e1, e2, e3, e4, e5⟩
          · split at hkD
            · rename_i c0
              obtain ⟨⟨hle, hgt, hroom⟩, hk⟩ := need_iff.1 hkD
              have hr0l : ((rows.drop off).take m).length = m := by simp; omega
              refine ⟨_, opD_mem (s := .ov E1 (len h) 0 ((rows.drop off).take m ++ xs).length) hn rfl rfl rfl fun hp' hh cx w a keep hr hm hkeep => ?_, hk⟩
              have hxr := hrows cx w _ hp' (fun k hk => hh k (List.mem_cons_of_mem _ (List.mem_cons_of_mem _ hk))) hm (r2 cx w a hr)
              have hs' : hp' k = some (.arr (some c0) E1 rows) := by rw [hh k (by simp)]; exact hs
              have hv : RelC cx w (.ov E1 k off m) [a.eval x1] := r1 cx w a hr
              obtain ⟨ad, cap, hv2, _, hq, _⟩ := own_write P hm hs' hv
              have hra := ov_rowsAt hv (hm.live k _ hs') hr0l
              obtain ⟨v', cx', w', e1, e2, e3, e4, e5⟩ := app_new (ty := ty) F hm (k := len h) (by rw [hh _ List.mem_cons_self]; exact nthB_len h) hkeep hra (sCap := c0 - off) (fun a l c hh => by rw [hv2] at hh; cases hh; exact hq c0 rfl) hxr (.inl (by rw [hr0l]; exact hgt)) (by rw [hr0l]; exact hroom)
              exact ⟨v', cx', w', exec w a v' w' e1, e2, e3, e4, e5⟩
            · exact hkD.elim
        obtain ⟨hb2, hkA2⟩ := okT_iff.1 hkA
        rw [Bool.and_eq_true] at hb2
        have hoff := Nat.eq_of_beq_eq_true hb2.2
        have hn0 : n.n0 ≤ k ∨ isArrO (nthB n.fr k) = true := by
          have h := hb2.1
          simp only [freeB] at h
          split at h
          · rename_i h1; exact .inl (Nat.le_of_ble_eq_true h1)
          · exact .inr h
        subst hoff
        obtain ⟨⟨hm0, hroom⟩, hk⟩ := need_iff.1 hkA2
        subst hm0
        refine ⟨_, ?_, hk⟩
        intro sl' hp' ha B cx a w Q K' hB hsat hK
        simp only [Agree, if_true] at ha
        obtain ⟨hsl, hhp⟩ := ha
        have hnk : ¬ B.keep k := fun hk2 => by
          have h1 := B.kn k hk2
          have h2 := B.kf k hk2
          rw [hB] at h1 h2
          rcases hn0 with h3 | h3
          · omega
          · rw [h3] at h2; cases h2
        have hr : Reads (lk e) (slotsOf (Op.call ⟨.builtin .append, #[x1, x2], #[t, t]⟩).operands.toList) cx w a := .of_sat hsat fun t ht => (hsl t).resolve_right fun h => h.1 ht
        have hhr : ∀ j, j = k ∨ j ∈ ks → hp' j = nthB h j := fun j hj => (hhp j).resolve_right fun g => g.1 (by rcases hj with hj | hj; exact hj ▸ List.mem_cons_self; exact List.mem_cons_of_mem _ hj)
        have hxr := hrows cx w _ hp' (fun j hj => hhr j (.inr hj)) hsat.mem (r2 cx w a hr)
        obtain ⟨v', cx', w', e1, e2, e3, e4, e5⟩ := app_own (ty := ty) (keep := B.keep) F hsat.mem ((hhr k (.inl rfl)).trans hs) hnk (r1 cx w a hr) hxr hroom
        refine wp_value (exec w a v' w' e1) (hK cx' _ w' ?_)
        rw [killsH_hp2 k h hp' none E1 (rows ++ xs) _ E1 rows hs (fun j => (hhp j).imp_right fun g => ⟨g.2.1, g.2.2.imp fun _ q => ⟨q.1, q.2 k List.mem_cons_self⟩⟩), app_eq]
        subst hB
        refine ⟨hsat.df.symm ▸ by cases dst <;> rfl, by cases dst <;> simp [Act.put, hsat.sz], fun u s hu => ?_, e4, hsat.fr.trans e3 (fun _ h => h)⟩
        have inner : ∀ u s, updSl sl' (killsE k e) u = some s → ∃ v, a.tmps[u]? = some v ∧ RelV cx' w' s v := by
          intro u s hu
          rcases updSl_inv _ _ u s hu with ⟨s', h3, h4⟩ | ⟨h3, h4⟩
          · have hmem : u ∈ List.map Prod.fst (killsE k e ++ dst1 dst (.ov E1 k 0 (rows ++ xs).length)) := List.mem_map.2 ⟨_, List.mem_append_left _ h3, rfl⟩
            obtain rfl := killsE_mem h3
            subst h4
            obtain ⟨s0, hs0⟩ := killsE_some h3
            have h5 := (hsl u).resolve_right fun h => h.2.1 (by rw [app_eq]; exact hmem)
            obtain ⟨v, hv, _⟩ := hsat.sl u s0 (h5.trans hs0)
            exact ⟨v, hv, trivial⟩
          · obtain ⟨v, hv, hrv⟩ := hsat.sl u s h3
            rcases hsl u with h5 | ⟨_, _, h6 | ⟨s1, h6, h7⟩⟩
            · exact ⟨v, hv, hrv.nomen (killsE_not (h5 ▸ h3) h4) e2⟩
            · rw [h6] at h3; cases h3
            · rw [h6] at h3; cases h3
              exact ⟨v, hv, hrv.nomen (h7 k List.mem_cons_self) e2⟩
        cases dst with
        | none =>
          simp only [dst1, List.append_nil] at hu
          exact inner u s hu
        | some d =>
          have hd : d < B.n.n := by simpa [inFrame] using hn
          simp only [dst1, updSl_snoc] at hu
          by_cases hud : u = d
          · subst hud
            simp only [if_true, Option.some.injEq] at hu
            subst hu
            exact ⟨v', by simp [Act.put, hsat.sz, hd], e5⟩
          · simp only [if_neg hud] at hu
            obtain ⟨v, hv, hrv⟩ := inner u s hu
            exact ⟨v, by simpa [Act.put, Array.getElem?_setIfInBounds_ne (Ne.symm hud)] using hv, hrv⟩
      · exact hk1.elim
    · exact hk1.elim
  · exact hk1.elim
end
end Go.Fw
