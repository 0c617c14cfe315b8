/- The executor is sound: types, loads, stores, new blocks. -/
import Derived.Test.YtgkkceoocaincaaFwO
import Derived.Test.YtgkkceoocaincaaFwP
namespace Go.Fw

/-! ### Types -/
mutual
def flat : SV → List Value
  | .v x => [x]
  | .ba _ l => l.map fun x => .int .u8 x
  | .agg cs => flats cs
  | _ => []
def flats : List SV → List Value
  | [] => []
  | s :: r => flat s ++ flats r
end
mutual
def okz : SV → Bool
  | .v x => x.oneCell'
  | .ba n l => Nat.beq l.length n
  | .agg cs => okzs cs
  | _ => false
def okzs : List SV → Bool
  | [] => true
  | s :: r => okz s && okzs r
end
def toVal : SV → Value
  | .v x => x
  | .ba _ l => .agg (l.map fun x => Value.int .u8 x).toArray
  | .agg cs => .agg (flats cs).toArray
  | _ => undef

mutual
theorem okz_rel {cx w} : ∀ {s : SV}, okz s = true → RelC cx w s (flat s)
  | .v x, h => .v h
  | .ba n l, h => .ba (Nat.eq_of_beq_eq_true h)
  | .agg cs, h => okzs_rel (cs := cs) h
  | .fs .., h => by simp [okz] at h
  | .ov .., h => by simp [okz] at h
  | .sb .., h => by simp [okz] at h
  | .pb .., h => by simp [okz] at h
  | .pe .., h => by simp [okz] at h
  | .pf .., h => by simp [okz] at h
  | .clo .., h => by simp [okz] at h
  | .tup .., h => by simp [okz] at h
  | .top, h => by simp [okz] at h
theorem okzs_rel {cx w} : ∀ {cs : List SV}, okzs cs = true → RelC cx w (.agg cs) (flats cs)
  | [], _ => .nil
  | s :: r, h => by
    simp only [okzs, Bool.and_eq_true] at h
    exact .cons (okz_rel h.1) (okzs_rel h.2)
end
theorem okz_val {cx w s} (h : okz s = true) : RelV cx w s (toVal s) := by
  have := okz_rel (cx := cx) (w := w) h
  cases s <;> simp only [okz, Bool.false_eq_true] at h
  · exact this
  · exact ⟨_, rfl, this⟩
  · exact ⟨_, rfl, this⟩

def infoIs (P : Program) (t : TypeId) (size bytes : Nat) (z : Value) : Prop := (P.info? t).map (fun i => (i.size, i.bytes, i.zero)) = some (size, bytes, some z)
def structOf (P : Program) (t : TypeId) : Option (List (Option (Nat × Nat))) :=
  match P.underlying t with
  | some (.struct fs) => some (fs.toList.map fun f => (P.info? f.type).map fun i => (f.offset, i.size))
  | _ => none
def typesOf (P : Program) (t : TypeId) : Option (List Nat) :=
  match P.underlying t with
  | some (.struct fs) => match fs.toList.all fun f => f.name != "_" with | true => some (fs.toList.map fun f => f.type) | false => none
  | _ => none
def notAgg : TypeDesc → Bool
  | .struct _ => false
  | .array .. => false
  | .named .. => false
  | _ => true

def layout : List SV → Nat → List (Nat × Nat)
  | [], _ => []
  | s :: r, off => (off, wd s) :: layout r (off + wd s)

def descOK (P : Program) (t : TypeId) : TI → Prop
  | .none => True
  | .int k => P.underlying t = some (.int k)
  | .bool => P.underlying t = some .bool
  | .sc z => wd z = 1 ∧ ∃ d, P.underlying t = some d ∧ notAgg d = true
  | .slc E bytes z => ∃ e, P.underlying t = some (.slice e) ∧ infoIs P e E bytes (toVal z) ∧ okz z = true ∧ wd z = E
  | .arr n E el _ => P.underlying t = some (.array n el) ∧ (∃ b z, infoIs P el E b z) ∧ P.eqGuardType P.depth t = false
  | .str fs ft z => structOf P t = some (fs.map some) ∧ (∃ cs, z = .agg cs ∧ fs = layout cs 0) ∧
      (ft ≠ [] → typesOf P t = some ft ∧ P.stoodInHeld t = false ∧ P.eqGuardType P.depth t = false)
  | .ptr _ => ∃ e, P.underlying t = some (.pointer e)
structure TIok (P : Program) (t : TypeId) (ti : TI) : Prop where
  info : ti ≠ .none → (∃ bytes, infoIs P t (wd ti.zero) bytes (toVal ti.zero)) ∧ okz ti.zero = true
  desc : descOK P t ti

theorem infoIs.mk {P t size bytes z} (h : infoIs P t size bytes z) : ∃ i, P.info? t = some i ∧ i.size = size ∧ i.bytes = bytes ∧ i.zero = some z := by
  unfold infoIs at h
  cases hi : P.info? t with
  | none => rw [hi] at h; cases h
  | some i =>
    rw [hi] at h
    simp only [Option.map_some, Option.some.injEq, Prod.mk.injEq] at h
    exact ⟨i, rfl, h.1, h.2.1, h.2.2⟩
theorem run_typeInfo' {P : Program} {t : TypeId} {i : TypeInfo} (h : P.info? t = some i) (w : World) : (typeInfo t).run P w = .ok i w := by
  simp [typeInfo, h]
theorem run_sizeOf' {P : Program} {t : TypeId} {i : TypeInfo} (h : P.info? t = some i) (w : World) : (sizeOf t).run P w = .ok i.size w := by
  simp [sizeOf, run_typeInfo' h]
theorem run_zeroValue' {P : Program} {t : TypeId} {i : TypeInfo} {z : Value} (h : P.info? t = some i) (hz : i.zero = some z) (w : World) : (zeroValue t).run P w = .ok z w := by
  simp [zeroValue, run_typeInfo' h, hz]

theorem TIok.underlying {P t ti} (h : TIok P t ti) (hn : ti ≠ .none) : ∃ d, P.underlying t = some d ∧ (match d with | .struct _ | .array _ _ => true | _ => false) = ti.isAgg := by
  have hd := h.desc
  cases ti <;> simp only [descOK] at hd
  case none => exact absurd rfl hn
  case int k => exact ⟨_, hd, rfl⟩
  case bool => exact ⟨_, hd, rfl⟩
  case sc z =>
    obtain ⟨_, d, h1, h2⟩ := hd
    refine ⟨d, h1, ?_⟩
    cases d <;> first | rfl | (simp [notAgg] at h2)
  case slc =>
    obtain ⟨e, h1, _⟩ := hd
    exact ⟨_, h1, rfl⟩
  case arr => exact ⟨_, hd.1, rfl⟩
  case str fs ft z =>
    replace hd := hd.1
    unfold structOf at hd
    split at hd
    · rename_i fs' hu; exact ⟨_, hu, rfl⟩
    · cases hd
  case ptr =>
    obtain ⟨e, h1⟩ := hd
    exact ⟨_, h1, rfl⟩

theorem run_isAgg {P t ti} (h : TIok P t ti) (hn : ti ≠ .none) (w : World) : (isAgg t).run P w = .ok ti.isAgg w := by
  obtain ⟨d, h1, h2⟩ := h.underlying hn
  simp only [isAgg, Sem.run_bind, run_underlying h1, Result.andThen_ok]
  rw [← h2]
  cases d <;> rfl

theorem ofType_ne {ti y} (h : ofType ti y = true) : ti ≠ .none := by
  intro e; subst e; simp [ofType] at h

theorem ofType_wd {P t ti y} (ht : TIok P t ti) (h : ofType ti y = true) : wd y = wd ti.zero := by
  have hd := ht.desc
  cases ti <;> cases y <;> simp only [ofType, TI.isAgg, Bool.false_eq_true] at h <;> first
    | rfl
    | exact hd.1.symm
    | (simpa [wd] using (Nat.eq_of_beq_eq_true h))

/-! ### Loads -/
theorem cell_of {w : World} {b : Nat} {cs : Array Value} {T : TypeId} {fz : Nat × Nat} (h : w.heap[b]? = some (.cells cs T fz)) (i : Nat) : w.cell? ⟨b, i, none⟩ = cs[i]? := by
  simp [World.cell?, h]
theorem add_none (b off i : Nat) : (⟨b, off, none⟩ : Addr).add i = ⟨b, off + i, none⟩ := by
  unfold Addr.add; split <;> simp_all

theorem run_load_rel {P : Program} {t : TypeId} {ti : TI} (ht : TIok P t ti) {y : SV} (hy : ofType ti y = true) {cx : Cx} {w : World} {us : List Value} {b off : Nat}
    (hr : RelC cx w y us) (hc : ∀ (j : Nat) x, us[j]? = some x → w.cell? ⟨b, off + j, none⟩ = some x) : ∃ v, (loadVar t ⟨b, off, none⟩).run P w = .ok v w ∧ RelV cx w y v := by
  have hn := ofType_ne hy
  obtain ⟨⟨by_, hi⟩, _⟩ := ht.info hn
  obtain ⟨i, hi1, hi2, _, _⟩ := hi.mk
  have hl := hr.width
  have hcells : (loadCells ⟨b, off, none⟩ us.length).run P w = .ok us.toArray w :=
    run_loadCells_list (P := P) w ⟨b, off, none⟩ us (fun j x hx => by rw [add_none]; exact hc j x hx)
  cases ha : ti.isAgg with
  | true =>
    have hw : us.length = i.size := by
      rw [hl, hi2, ofType_wd ht hy]
    refine ⟨.agg us.toArray, by simp only [loadVar, Sem.run_bind, run_isAgg ht hn, ha, Result.andThen_ok, if_true, run_sizeOf' hi1, ← hw, hcells, Sem.run_pure], ?_⟩
    cases ti <;> simp only [TI.isAgg, Bool.false_eq_true] at ha <;> cases y <;> simp only [ofType, TI.isAgg, Bool.false_eq_true] at hy <;> exact ⟨us, rfl, hr⟩
  | false =>
    have hone : ∃ x, us = [x] ∧ RelV cx w y x := by
      cases ti <;> simp only [TI.isAgg, Bool.true_eq_false] at ha <;> cases hr <;> simp only [ofType, TI.isAgg, Bool.false_eq_true] at hy <;> first
        | exact ⟨_, rfl, .v ‹_›⟩
        | exact ⟨_, rfl, .fs0 ‹_›⟩
        | exact ⟨_, rfl, .fs _ ‹_› ‹_› ‹_› ‹_› ‹_› ‹_› ‹_›⟩
        | exact ⟨_, rfl, .ov ‹_› ‹_›⟩
        | exact ⟨_, rfl, .ov0 ‹_›⟩
        | exact ⟨_, rfl, .ovz ‹_›⟩
        | exact ⟨_, rfl, .sb ‹_› ‹_›⟩
        | exact ⟨_, rfl, .pb ‹_›⟩
        | exact ⟨_, rfl, .pe ‹_›⟩
        | exact ⟨_, rfl, .pf ‹_›⟩
        | exact ⟨_, rfl, .clo _ ‹_› ‹_›⟩
    obtain ⟨x, rfl, hx⟩ := hone
    have hc0 := hc 0 x rfl
    refine ⟨x, ?_, hx⟩
    simp only [loadVar, Sem.run_bind, run_isAgg ht hn, ha, Result.andThen_ok, Bool.false_eq_true, if_false, run_load]
    rw [Nat.add_zero] at hc0
    rw [hc0]

/-! ### Stores -/
theorem RelV.cells {cx w s v} (h : RelV cx w s v) (hs : s ≠ .top) (ht : ∀ l, s ≠ .tup l) : ∃ us : List Value, v.cells = us.toArray ∧ RelC cx w s us := by
  cases s <;> simp only [RelV, RelV1] at h
  case agg cs => obtain ⟨vs, rfl, h⟩ := h; exact ⟨vs, rfl, h⟩
  case ba n l => obtain ⟨vs, rfl, h⟩ := h; exact ⟨vs, rfl, h⟩
  case top => exact absurd rfl hs
  case tup l => exact absurd rfl (ht l)
  all_goals
    refine ⟨[v], ?_, h⟩
    have := h.ones v (by simp)
    cases v <;> first | rfl | (simp [Value.oneCell'] at this)

theorem run_store_rel {P : Program} {t : TypeId} {ti : TI} (ht : TIok P t ti) {y : SV} (hy : ofType ti y = true) {cx : Cx} {w : World} {v : Value} {b off : Nat} {cs : List Value} {T : TypeId}
    (hr : RelV cx w y v) (hb : w.heap[b]? = some (.cells cs.toArray T (0, 0))) (hle : off + wd y ≤ cs.length) :
    ∃ us, RelC cx w y us ∧ (storeVar t ⟨b, off, none⟩ v).run P w = .ok () (w.setRow b (cs.take off ++ us ++ cs.drop (off + us.length)).toArray) := by
  have hn := ofType_ne hy
  obtain ⟨⟨by_, hi⟩, _⟩ := ht.info hn
  obtain ⟨i, hi1, hi2, _, _⟩ := hi.mk
  obtain ⟨us, hu, hrc⟩ := hr.cells (by intro e; subst e; cases ti <;> simp [ofType, TI.isAgg] at hy) (by intro l e; subst e; cases ti <;> simp [ofType, TI.isAgg] at hy)
  have hl := hrc.width
  have hw : us.length = i.size := by
    rw [hl, hi2, ofType_wd ht hy]
  refine ⟨us, hrc, ?_⟩
  have hst := run_storeCells_at P b off T us 0 cs.toArray w hb (by simp; omega) hrc.ones
  simp only [storeVar, Sem.run_bind, run_sizeOf' hi1, Result.andThen_ok, hu, List.size_toArray, hw, ne_eq, not_true_eq_false, if_false, List.toList_toArray]
  rw [← hw]
  simpa using hst

theorem fields_get {P : Program} {t : TypeId} {fs : List (Nat × Nat)} (h : structOf P t = some (fs.map some)) {f off n : Nat} (hf : fs[f]? = some (off, n)) :
    ∃ fields fd i, P.underlying t = some (.struct fields) ∧ fields[f]? = some fd ∧ fd.offset = off ∧ P.info? fd.type = some i ∧ i.size = n := by
  unfold structOf at h
  split at h
  · rename_i fields hu
    simp only [Option.some.injEq] at h
    have : (fields.toList.map fun f => (P.info? f.type).map fun i => (f.offset, i.size))[f]? = some (some (off, n)) := by rw [h]; simp [hf]
    rw [List.getElem?_map] at this
    cases hfd : fields.toList[f]? with
    | none => rw [hfd] at this; cases this
    | some fd =>
      rw [hfd] at this
      simp only [Option.map_some, Option.some.injEq] at this
      cases hi : P.info? fd.type with
      | none => rw [hi] at this; cases this
      | some i =>
        rw [hi] at this
        simp only [Option.map_some, Option.some.injEq, Prod.mk.injEq] at this
        exact ⟨fields, fd, i, hu, by rw [← Array.getElem?_toList]; exact hfd, this.1, hi, this.2⟩
  · cases h
end Go.Fw
