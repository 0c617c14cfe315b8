/- The executor is sound: len, min, max, append. -/
import Derived.Test.YtgkkceoocaincaaFwZ
namespace Go.Fw
section
variable {P : Program} {TT : Nat → TI} {n : Sz} {e : List (Nat × SV)} {h : List OB} {K : Rec → Prop}
variable {dst : Option Nat} {ty : TypeId} {pos : String} {after : Array Edge} {guard : Option (Nat × Bool)}

/-- An operation that may lay memory. -/
theorem opD_mem {o : Oper} {sl : Nat → Option SV} {hp : Nat → Option OB} {rc : Rec} {s : SV} (hn : inFrame n o.dst = true) (hwr : rc.wr = dst1 o.dst s) (hbar : rc.bar = false)
    (hrd : rc.rd = slotsOf o.op.operands.toList)
    (h : ∀ (hp' : Nat → Option OB), (∀ k ∈ rc.rh, hp' k = hp k) → ∀ (cx : Cx) (w : World) (a : Act) (keep : Nat → Prop), Reads sl rc.rd cx w a → Mem cx w hp' → (∀ k, keep k → cx.bl k ≠ none) →
      ∃ v cx' w', (execOp a.eval o).run P w = .ok (.value v) w' ∧ Ext cx w cx' w' ∧ Fr keep cx w cx' w' ∧ Mem cx' w' (updHp hp' rc.wh) ∧ RelV cx' w' s v) : OpD P o n sl hp rc := by
  intro sl' hp' ha B cx a w Q K hB hs hK
  simp only [Agree, hbar, Bool.false_eq_true, if_false] at ha
  obtain ⟨v, cx', w', h1, h2, h3, h4, h5⟩ := h hp' ha.2 cx w a B.keep (.of_sat hs ha.1) hs.mem (fun k hk => by rw [hs.fr.keep k hk]; exact B.kp k hk)
  refine wp_value h1 (hK cx' _ _ ?_)
  subst hB
  rw [hwr]
  exact (hs.later h2 h4 h3).put h5 hn

theorem ext_heap {cx : Cx} {w w' : World} (hh : w'.heap = w.heap) : Ext cx w cx w' := ⟨fun _ _ h => h, fun b _ _ => by rw [hh], fun _ h => .inl h⟩
theorem fr_heap {keep : Nat → Prop} {cx : Cx} {w w' : World} (hh : w'.heap = w.heap) (ho : w'.os = w.os ∧ w'.output = w.output := by exact ⟨rfl, rfl⟩) : Fr keep cx w cx w' :=
  ⟨by rw [hh]; exact Nat.le_refl _, fun b _ _ => by rw [hh], fun _ h => .inl h, fun _ _ h => h, fun _ _ _ h => .inl h, fun _ _ => rfl, ho.1, ho.2, fun a => by simp [World.frozen?, hh]⟩
theorem mem_heap {cx : Cx} {w w' : World} {hp : Nat → Option OB} (hm : Mem cx w hp) (hh : w'.heap = w.heap) : Mem cx w' hp where
  live k ob hk := by
    have hl := hm.live k ob hk
    cases ob with
    | gone => trivial
    | cells s =>
      rcases hl with ⟨b, C, h1, h2, h3⟩ | h
      · exact .inl ⟨b, C, h1, h2, h3.mono (ext_heap hh) (by rw [hh])⟩
      · exact .inr h
    | arr E rows =>
      rcases hl with ⟨b, C, h1, h2, h3⟩ | h
      · exact .inl ⟨b, C, h1, h2, h3.mono (ext_heap hh) (by rw [hh])⟩
      · exact .inr h
  inj := hm.inj
  dom := hm.dom
  lt b hb := by rw [hh]; exact hm.lt b hb
theorem Ext.trans {cx w cx1 w1 cx2 w2} (h1 : Ext cx w cx1 w1) (h2 : Ext cx1 w1 cx2 w2) (hle : w.heap.size ≤ w1.heap.size) : Ext cx w cx2 w2 where
  bl k x hk := h2.bl k x (h1.bl k x hk)
  same b hb hO := by
    rw [h2.same b (Nat.lt_of_lt_of_le hb hle) (fun h => by rcases h1.own b h with h | h; exact hO h; omega), h1.same b hb hO]
  own b hb := by
    rcases h2.own b hb with h | h
    · exact h1.own b h
    · exact .inr (Nat.le_trans hle h)

/-- An empty slice that lies nowhere yet. -/
theorem ext_virt (cx : Cx) (w : World) (k : Nat) (hk : cx.bl k = none) : Ext cx w (cx.with k .virt cx.O) w where
  bl j x hj := by
    have : j ≠ k := fun e => by subst e; rw [hk] at hj; cases hj
    simp [Cx.with, this, hj]
  same _ _ _ := rfl
  own _ h := .inl h
theorem fr_virt (keep : Nat → Prop) (cx : Cx) (w : World) (k : Nat) (hk : ¬ keep k) : Fr keep cx w (cx.with k .virt cx.O) w where
  le := Nat.le_refl _
  same _ _ _ := rfl
  own _ h := .inl h
  old _ _ h := h
  blk j b C hj := by
    by_cases e : j = k
    · subst e; simp [Cx.with] at hj
    · simp [Cx.with, e] at hj; exact .inl hj
  keep j hj := by
    have : j ≠ k := fun e => hk (e ▸ hj)
    simp [Cx.with, this]
  wk := .refl w
theorem mem_virt {cx : Cx} {w : World} {hp : Nat → Option OB} (hm : Mem cx w hp) (k E : Nat) (hk : hp k = none) :
    Mem (cx.with k .virt cx.O) w (fun i => if i = k then some (.arr E []) else hp i) where
  live j ob hj := by
    have e := ext_virt cx w k (hm.dom k hk)
    by_cases h : j = k
    · subst h
      simp at hj
      subst hj
      exact .inr ⟨by simp [Cx.with], E, rfl⟩
    · simp [h] at hj
      have hl := hm.live j ob hj
      cases ob with
      | gone => trivial
      | cells s =>
        rcases hl with ⟨b, C, h1, h2, h3⟩ | ⟨_, E', h2⟩
        · exact .inl ⟨b, C, e.bl _ _ h1, h2, h3.mono e rfl⟩
        · cases h2
      | arr E rows =>
        rcases hl with ⟨b, C, h1, h2, h3⟩ | ⟨h1, E', h2⟩
        · exact .inl ⟨b, C, e.bl _ _ h1, h2, h3.mono e rfl⟩
        · exact .inr ⟨e.bl _ _ h1, E', h2⟩
  inj j j' ob1 ob2 b C1 C2 h1 h2 g1 g2 b1 b2 := by
    have n1 : j ≠ k := fun e => by subst e; simp [Cx.with] at b1
    have n2 : j' ≠ k := fun e => by subst e; simp [Cx.with] at b2
    simp [n1, n2, Cx.with] at h1 h2 b1 b2
    exact hm.inj j j' ob1 ob2 b C1 C2 h1 h2 g1 g2 b1 b2
  dom j hj := by
    by_cases h : j = k
    · simp [h] at hj
    · simp [h] at hj
      simp [Cx.with, h, hm.dom j hj]
  lt := hm.lt

theorem s_len {t : TypeId} {s : SV} {m : Nat} {x : Operand} {c : Call} {ats : List TypeId} (hT : TTok P TT) (hn : inFrame n dst = true) (hc : c.callee = .builtin .len) (hargs : c.args.toList = [x]) (hat : c.argTypes.toList = t :: ats)
    (hsl : isSlc (TT t) = true) (h1 : OpdR (lk e) x s) (hl : ∀ cx w v, RelV cx w s v → ∃ a0 cap, v = .slice a0 m cap) :
    OpD P ⟨dst, .call c, ty, pos, after, guard⟩ n (lk e) (nthB h) (.plain ⟨dst, .call c, ty, pos, after, guard⟩ (natLen m)) := by
  refine opD_val hn rfl fun cx w a hr => ?_
  obtain ⟨callee, args, argTypes⟩ := c
  simp only at hc hargs hat
  subst hc
  have e1 : args = #[x] := by cases args; simp_all
  subst e1
  obtain ⟨a0, cap, hv⟩ := hl cx w _ (h1.rel hr fun t ht => mem_slotsOf (by simp [Op.operands, Call.operands, ht]))
  obtain ⟨el, hu⟩ := isSlc_under hT hsl
  have hat0 : argTypes[0]? = some t := by rw [← Array.getElem?_toList, hat]; rfl
  simp [execOp, resolve, invoke, builtin, Builtin.len_, hat0, hv, run_underlying hu, natLen, goInt]


theorem s_minmax (mx : Bool) {x y : Operand} {k k' : IntKind} {p q : Int} {c : Call} (hn : inFrame n dst = true) (hc : c.callee = .builtin (if mx then .max else .min)) (hargs : c.args.toList = [x, y])
    (h1 : OpdR (lk e) x (.v (.int k p))) (h2 : OpdR (lk e) y (.v (.int k' q))) :
    OpD P ⟨dst, .call c, ty, pos, after, guard⟩ n (lk e) (nthB h) (.plain ⟨dst, .call c, ty, pos, after, guard⟩ (.v (.int k (if mx then max p q else min p q)))) := by
  refine opD_val hn rfl fun cx w a hr => ?_
  obtain ⟨callee, args, argTypes⟩ := c
  simp only at hc hargs
  subst hc
  have e1 : args = #[x, y] := by cases args; simp_all
  subst e1
  have v1 := relV_v (h1.rel hr fun t ht => mem_slotsOf (by simp [Op.operands, Call.operands, ht]))
  have v2 := relV_v (h2.rel hr fun t ht => mem_slotsOf (by simp [Op.operands, Call.operands, ht]))
  cases mx
  · have : (if q < p then q else p) = min p q := by rw [Int.min_def]; split <;> split <;> omega
    simp [execOp, resolve, invoke, builtin, Builtin.min_, Builtin.min2, v1, v2, this]
  · have : (if q > p then q else p) = max p q := by rw [Int.max_def]; split <;> split <;> omega
    simp [execOp, resolve, invoke, builtin, Builtin.max_, Builtin.max2, v1, v2, this]

/-! ### What a slice holds -/
def RowsAt (cx : Cx) (w : World) (E : Nat) (xs : List SV) (v : Value) : Prop :=
  ∃ a c, ∃ news : List Value, v = .slice a xs.length c ∧ news.length = xs.length * E ∧ (∀ u ∈ news, u.oneCell' = true) ∧
    (a = none → xs.length = 0) ∧ (∀ ad, a = some ad → ∀ (j : Nat) u, news[j]? = some u → w.cell? (ad.add j) = some u) ∧
    ∀ i s, xs[i]? = some s → RelC cx.bare w s ((news.drop (i * E)).take E)

theorem seg_ones {cx w E} {xs : List SV} {news : List Value} (hl : news.length = xs.length * E) (hr : ∀ i s, xs[i]? = some s → RelC cx w s ((news.drop (i * E)).take E)) : ∀ u ∈ news, u.oneCell' = true := by
  intro u hu
  obtain ⟨j, hj⟩ := List.mem_iff_getElem?.1 hu
  have hjl : j < news.length := (List.getElem?_eq_some_iff.1 hj).1
  rcases Nat.eq_zero_or_pos E with hE | hE
  · subst hE; omega
  · have hi : j / E < xs.length := by rw [Nat.div_lt_iff_lt_mul hE]; omega
    have := (hr (j / E) _ (List.getElem?_eq_getElem hi)).ones u
    refine this (List.mem_iff_getElem?.2 ⟨j % E, ?_⟩)
    rw [List.getElem?_take, if_pos (Nat.mod_lt j hE), List.getElem?_drop, Nat.mul_comm, Nat.div_add_mod]
    exact hj

theorem fs_rowsAt {cx w t E rows v} (h : RelC cx w (.fs t E rows) [v]) : RowsAt cx w E rows v := by
  cases h with
  | fs0 => exact ⟨_, _, [], rfl, by simp, by simp, fun _ => rfl, fun _ _ _ _ h => by simp at h, fun _ _ h => by simp at h⟩
  | fs f hb hO hc ht hrows hlen hcell =>
    rename_i b off cap cs T fz
    rcases Nat.eq_zero_or_pos (rows.length * E) with h0 | hpos
    · have : ∀ i s, rows[i]? = some s → RelC cx.bare w s (([] : List Value).drop (i * E) |>.take E) := by
        intro i s hs
        have hi : i < rows.length := (List.getElem?_eq_some_iff.1 hs).1
        have hE : E = 0 := by
          rcases Nat.eq_zero_or_pos E with h | h
          · exact h
          · have := Nat.mul_pos (show 0 < rows.length by omega) h; omega
        have hf := hlen i hi
        rw [hE] at hf
        have : f i = [] := List.length_eq_zero_iff.1 hf
        have hr := hrows i s hs
        rw [this] at hr
        show RelC ⟨fun _ => none, cx.O⟩ w s _
        simpa using hr
      exact ⟨_, _, [], rfl, by simp [h0], by simp, (fun h => by cases h), fun _ _ _ _ h => by simp at h, this⟩
    · have hE : 0 < E := Nat.pos_of_mul_pos_left hpos
      have hR : 0 < rows.length := Nat.pos_of_mul_pos_right hpos
      have hget : ∀ i, i < rows.length → ∀ j, j < E → cs[off + i * E + j]? = (f i)[j]? := by
        intro i hi j hj
        have hfl := hlen i hi
        have := hcell i hi j _ (List.getElem?_eq_getElem (by omega))
        rw [this, List.getElem?_eq_getElem]
      have hsz : off + rows.length * E ≤ cs.size := by
        have := hget (rows.length - 1) (by omega) (E - 1) (by omega)
        have hfl := hlen (rows.length - 1) (by omega)
        rw [List.getElem?_eq_getElem (by omega)] at this
        have h2 := lt_of_getElem? this
        have e1 : rows.length * E = (rows.length - 1) * E + E := by
          conv => lhs; rw [show rows.length = (rows.length - 1) + 1 by omega]
          rw [Nat.add_mul, Nat.one_mul]
        omega
      have hseg : ∀ i s, rows[i]? = some s → RelC cx.bare w s ((((cs.toList.drop off).take (rows.length * E)).drop (i * E)).take E) := by
        intro i s hs
        have hi : i < rows.length := (List.getElem?_eq_some_iff.1 hs).1
        have : (((cs.toList.drop off).take (rows.length * E)).drop (i * E)).take E = f i := by
          apply List.ext_getElem?
          intro j
          simp only [List.getElem?_take, List.getElem?_drop, Array.getElem?_toList]
          have hfl := hlen i hi
          have hiE : (i + 1) * E ≤ rows.length * E := Nat.mul_le_mul_right E hi
          rw [Nat.add_mul, Nat.one_mul] at hiE
          by_cases hj : j < E
          · rw [if_pos hj, if_pos (by omega), ← Nat.add_assoc]
            exact hget i hi j hj
          · rw [if_neg hj, List.getElem?_eq_none (by omega)]
        rw [this]; exact hrows i s hs
      have hl : ((cs.toList.drop off).take (rows.length * E)).length = rows.length * E := by simp; omega
      refine ⟨_, _, (cs.toList.drop off).take (rows.length * E), rfl, hl, seg_ones hl hseg, (fun h => by cases h), ?_, hseg⟩
      intro ad had j u hu
      cases had
      rw [add_none, cell_of hb]
      simp only [List.getElem?_take, List.getElem?_drop, Array.getElem?_toList] at hu
      split at hu
      · exact hu
      · cases hu

theorem ov_rowsAt {cx : Cx} {w : World} {E k off m v} {rows : List SV} (h : RelC cx w (.ov E k off m) [v]) (hl : Live cx w k (.arr E rows)) :
    ((rows.drop off).take m).length = m → RowsAt cx w E ((rows.drop off).take m) v := by
  intro hm
  cases h with
  | ov hb hC =>
    rename_i b C
    rcases hl with ⟨b', C', hb', _, vs, T, hh, hlen, hrl, hrows⟩ | ⟨hb', _⟩
    · rw [hb] at hb'; cases hb'
      have hoff : off + m ≤ rows.length ∨ m = 0 := by simp at hm; omega
      have hCE : (off + m) * E ≤ C * E := Nat.mul_le_mul_right E hC
      rw [Nat.add_mul] at hCE
      have hseg : ∀ i s, ((rows.drop off).take m)[i]? = some s → RelC cx.bare w s ((((vs.drop (off * E)).take (m * E)).drop (i * E)).take E) := by
        intro i s hs
        simp only [List.getElem?_take, List.getElem?_drop] at hs
        split at hs
        · rename_i hi
          have := hrows (off + i) s hs
          have e1 : (((vs.drop (off * E)).take (m * E)).drop (i * E)).take E = (vs.drop ((off + i) * E)).take E := by
            apply List.ext_getElem?
            intro j
            simp only [List.getElem?_take, List.getElem?_drop]
            have hiE : (i + 1) * E ≤ m * E := Nat.mul_le_mul_right E hi
            rw [Nat.add_mul, Nat.one_mul] at hiE
            by_cases hj : j < E
            · rw [if_pos hj, if_pos hj, if_pos (by omega), Nat.add_mul, Nat.add_assoc]
            · rw [if_neg hj, if_neg hj]
          rw [e1]; exact this
        · cases hs
      have hnl : ((vs.drop (off * E)).take (m * E)).length = ((rows.drop off).take m).length * E := by rw [hm]; simp; omega
      refine ⟨_, _, (vs.drop (off * E)).take (m * E), by rw [hm], hnl, seg_ones hnl hseg, (fun h => by cases h), ?_, hseg⟩
      intro ad had j u hu
      cases had
      rw [add_none, cell_of hh]
      simp only [List.getElem?_take, List.getElem?_drop] at hu
      split at hu
      · simpa using hu
      · cases hu
    · rw [hb] at hb'; cases hb'
  | @ov0 _ _ _ _ a => exact ⟨a, 0, [], by simp, by simp, by simp, fun _ => by simp, fun _ _ _ _ h => by simp at h, fun _ _ h => by simp at h⟩
  | @ovz _ _ _ _ a => exact ⟨a, 0, [], by simp, by simp, by simp, fun _ => by simp, fun _ _ _ _ h => by simp at h, fun _ _ h => by simp at h⟩

theorem bytes_seg {cx : Cx} {w : World} (l : List Int) : ∀ i s, (bytesRows l)[i]? = some s → RelC cx w s ((((l.map fun x => Value.int .u8 x) : List Value).drop (i * 1)).take 1) := by
  intro i s hs
  simp only [bytesRows, List.getElem?_map] at hs
  cases hl : l[i]? with
  | none => rw [hl] at hs; cases hs
  | some x =>
    rw [hl] at hs
    simp only [Option.map_some, Option.some.injEq] at hs
    subst hs
    have : (((l.map fun x => Value.int .u8 x) : List Value).drop (i * 1)).take 1 = [.int .u8 x] := by
      rw [List.take_one, List.head?_drop]
      simp [hl]
    rw [this]
    exact .v rfl

theorem sb_rowsAt {cx : Cx} {w : World} {k p off m v} {s : SV} (h : RelC cx w (.sb k p off m) [v]) (hl : Live cx w k (.cells s)) {nb : Nat} {l : List Int}
    (hf : ∀ cx w vs, RelC cx w s vs → RelC cx w (.ba nb l) ((vs.drop (offs p)).take nb)) :
    (((bytesRows l).drop off).take m).length = m → RowsAt cx w 1 (((bytesRows l).drop off).take m) v := by
  intro hm
  cases h with
  | sb hb hC =>
    rename_i b C cap
    rcases hl with ⟨b', C', hb', _, vs, T, hh, hrc⟩ | ⟨hb', _⟩
    · rw [hb] at hb'; cases hb'
      have hrb := hf cx w vs hrc
      generalize hseg0 : (vs.drop (offs p)).take nb = seg at hrb
      cases hrb with
      | ba hln =>
        have hml : off + m ≤ l.length ∨ m = 0 := by simp [bytesRows] at hm; omega
        have hseg : ∀ i s, (((bytesRows l).drop off).take m)[i]? = some s → RelC cx.bare w s (((((l.map fun x => Value.int .u8 x) : List Value).drop off |>.take m).drop (i * 1)).take 1) := by
          intro i s hs
          simp only [List.getElem?_take, List.getElem?_drop] at hs
          split at hs
          · rename_i hi
            have := bytes_seg (cx := cx.bare) (w := w) l (off + i) s hs
            have e1 : (((((l.map fun x => Value.int .u8 x) : List Value).drop off |>.take m).drop (i * 1)).take 1) = ((((l.map fun x => Value.int .u8 x) : List Value).drop ((off + i) * 1)).take 1) := by
              rw [Nat.mul_one, Nat.mul_one, List.drop_take, List.drop_drop, List.take_take, Nat.min_eq_left (by omega)]
            rw [e1]; exact this
          · cases hs
        have hnl : (((l.map fun x => Value.int .u8 x) : List Value).drop off |>.take m).length = (((bytesRows l).drop off).take m).length * 1 := by rw [hm]; simp; omega
        refine ⟨_, _, ((l.map fun x => Value.int .u8 x) : List Value).drop off |>.take m, by rw [hm], hnl, seg_ones hnl hseg, (fun h => by cases h), ?_, hseg⟩
        intro ad had j u hu
        cases had
        rw [add_none, cell_of hh]
        rw [← hseg0] at hu
        simp only [List.getElem?_take, List.getElem?_drop] at hu
        split at hu
        · split at hu
          · simpa [Nat.add_assoc] using hu
          · cases hu
        · cases hu
    · rw [hb] at hb'; cases hb'
end
end Go.Fw
