/- The executor is sound: composite values. -/
import Derived.Test.YtgkkceoocaincaaFwX
import Derived.Great.BuildSlice
namespace Go.Fw
section
variable {P : Program} {TT : Nat → TI} {n : Sz} {e : List (Nat × SV)} {h : List OB} {K : Rec → Prop}
variable {dst : Option Nat} {ty : TypeId} {pos : String} {after : Array Edge} {guard : Option (Nat × Bool)}

inductive PartsR (sl : Nat → Option SV) : List (Nat × Operand) → List (Nat × SV) → Prop where
  | nil : PartsR sl [] []
  | cons {i x s r l} : OpdR sl x s → PartsR sl r l → PartsR sl ((i, x) :: r) ((i, s) :: l)
inductive RelPs (cx : Cx) (w : World) : List (Nat × SV) → List (Nat × Value) → Prop where
  | nil : RelPs cx w [] []
  | cons {i s v l r} : RelV cx w s v → RelPs cx w l r → RelPs cx w ((i, s) :: l) ((i, v) :: r)

theorem partsK_sound {e : List (Nat × SV)} : ∀ {ps : List (Nat × Operand)} {K : List (Nat × SV) → Prop}, partsK e ps K → ∃ l, PartsR (lk e) ps l ∧ K l
  | [], _, h => ⟨[], .nil, h⟩
  | (i, x) :: r, K, h => by
    obtain ⟨s, h1, h2⟩ := opd_sound h
    obtain ⟨l, h3, h4⟩ := partsK_sound h2
    exact ⟨_, .cons h1 h3, h4⟩
theorem PartsR.rel {sl ps l ts cx w a} (h : PartsR sl ps l) (hr : Reads sl ts cx w a) (hx : ∀ t, (∃ i, (i, Operand.tmp t) ∈ ps) → t ∈ ts) : RelPs cx w l (ps.map fun (i, x) => (i, a.eval x)) := by
  induction h with
  | nil => exact .nil
  | cons h1 _ ih => exact .cons (h1.rel hr fun t ht => hx t ⟨_, by rw [← ht]; exact List.mem_cons_self⟩) (ih fun t ⟨i, hi⟩ => hx t ⟨i, List.mem_cons_of_mem _ hi⟩)

theorem fold_set : ∀ (us : List Value) (k off : Nat) (cs : Array Value), off + k + us.length ≤ cs.size →
    (us.zipIdx k).foldl (fun cs x => cs.setIfInBounds (off + x.2) x.1) cs = (cs.toList.take (off + k) ++ us ++ cs.toList.drop (off + k + us.length)).toArray
  | [], k, off, cs, _ => by simp
  | u :: us, k, off, cs, hl => by
    have ih := fold_set us (k + 1) off (cs.setIfInBounds (off + k) u) (by simp at hl ⊢; omega)
    simp only [List.zipIdx_cons, List.foldl_cons, ih]
    apply Array.ext'
    simp only [List.toList_toArray]
    apply List.ext_getElem?
    intro m
    simp at hl
    rw [splice_get _ _ _ (by simp; omega), splice_get _ _ _ (by simp; omega)]
    simp only [Array.toList_setIfInBounds, List.getElem?_set, List.length_cons]
    by_cases h1 : off + k = m
    · subst h1
      rw [if_neg (by omega), if_pos (by omega)]
      simp; omega
    · by_cases h2 : off + (k + 1) ≤ m ∧ m < off + (k + 1) + us.length
      · rw [if_pos h2, if_pos (by omega)]
        rw [show m - (off + k) = (m - (off + (k + 1))) + 1 by omega]
        simp
      · rw [if_neg h2, if_neg h1, if_neg (by omega)]

theorem fill_step (place : Nat → Option (Nat × Nat)) (cells : List Value) (i : Nat) (v : Value) (rest : List (Nat × Value)) (off : Nat) (us : List Value) (hp : place i = some (off, us.length))
    (hv : v.cells = us.toArray) (hle : off + us.length ≤ cells.length) :
    Instr.fill place cells.toArray ((i, v) :: rest) = Instr.fill place (cells.take off ++ us ++ cells.drop (off + us.length)).toArray rest := by
  have hf := fold_set us 0 off cells.toArray (by simpa using hle)
  simp only [Nat.add_zero] at hf
  simp only [Instr.fill, hp, hv, List.size_toArray, ne_eq, not_true_eq_false, decide_false, Bool.false_or, decide_eq_true_eq]
  rw [if_neg (by omega)]
  congr 1
  rw [← hf]
  rw [← Array.foldl_toList]
  simp

theorem relV_us {cx w s v} (h : RelV cx w s v) (hs : notTop s = true) : ∃ us : List Value, v.cells = us.toArray ∧ RelC cx w s us :=
  h.cells (by intro e; subst e; simp [notTop] at hs) (by intro l e; subst e; simp [notTop] at hs)

theorem fillS_sound (fs : List (Nat × Nat)) : ∀ (ps : List (Nat × SV)) (cs : List SV) (K : List SV → Prop), fillS fs ps cs K → layout cs 0 = fs →
    ∃ cs', K cs' ∧ ∀ cx w (rs : List (Nat × Value)) (vs : List Value), RelPs cx w ps rs → RelC cx w (.agg cs) vs →
      ∃ vs', Instr.fill (fun i => fs[i]?) vs.toArray rs = some vs'.toArray ∧ RelC cx w (.agg cs') vs'
  | [], cs, K, h, _ => ⟨cs, h, fun cx w rs vs hr hv => by cases hr; exact ⟨vs, rfl, hv⟩⟩
  | (i, s) :: ps, cs, K, h, hl => by
    simp only [fillS] at h
    split at h
    · rename_i off m hf
      split at h
      · rename_i hb
        rw [Bool.and_eq_true] at hb
        have hw := Nat.eq_of_beq_eq_true hb.1
        have hnt := hb.2
        have hci : ∃ c, cs[i]? = some c ∧ off = wds (cs.take i) ∧ wd c = wd s := by
          cases hc : cs[i]? with
          | none =>
            rw [← hl] at hf
            have := layout_len cs 0
            rw [List.getElem?_eq_none_iff] at hc
            rw [List.getElem?_eq_none (by omega)] at hf
            cases hf
          | some c =>
            have := layout_get cs 0 i c hc
            rw [hl, hf] at this
            simp at this
            exact ⟨c, rfl, this.1, by omega⟩
        obtain ⟨c, hc, hoff, hcw⟩ := hci
        rw [setL_eq] at h
        obtain ⟨cs', hk, hd⟩ := fillS_sound fs ps (cs.set i s) K h (by
          rw [← hl, layout_layW, layout_layW, List.map_set]
          congr 1
          apply List.ext_getElem?
          intro j
          rw [List.getElem?_set]
          split
          · rename_i e; subst e
            have hlt : i < cs.length := (List.getElem?_eq_some_iff.1 hc).1
            simp [hlt]
            rw [List.getElem?_eq_getElem hlt] at hc
            cases hc; exact hcw.symm
          · rfl)
        refine ⟨cs', hk, fun cx w rs vs hr hv => ?_⟩
        cases hr with
        | cons h1 h2 =>
          rename_i v r
          obtain ⟨us, hu, hrc⟩ := relV_us h1 hnt
          have hul := hrc.width
          have hvl := hv.width
          have hge := wds_get cs i c hc
          simp only [wd] at hvl
          have hset := hv.set i c s us hc hrc (by omega)
          obtain ⟨vs', e1, e2⟩ := hd cx w r _ h2 hset
          refine ⟨vs', ?_, e2⟩
          rw [fill_step _ vs i v r off us (by rw [hf, ← hw, hul]) hu (by omega), hoff]
          exact e1
      · exact h.elim
    · exact h.elim

theorem fillA_sound (E : Nat) : ∀ (ps : List (Nat × SV)) (cs : List SV) (K : List SV → Prop), fillA E ps cs K → (∀ c ∈ cs, wd c = E) →
    ∃ cs', K cs' ∧ cs'.length = cs.length ∧ (∀ c ∈ cs', wd c = E) ∧ ∀ cx w (rs : List (Nat × Value)) (vs : List Value), RelPs cx w ps rs → RelC cx w (.agg cs) vs →
      ∃ vs', Instr.fill (fun i => some (i * E, E)) vs.toArray rs = some vs'.toArray ∧ RelC cx w (.agg cs') vs'
  | [], cs, K, h, hE => ⟨cs, h, rfl, hE, fun cx w rs vs hr hv => by cases hr; exact ⟨vs, rfl, hv⟩⟩
  | (i, s) :: ps, cs, K, h, hE => by
    simp only [fillA] at h
    split at h
    · rename_i hb hlt
      rw [Bool.and_eq_true] at hb
      have hw := Nat.eq_of_beq_eq_true hb.1
      have hnt := hb.2
      have hlt : i < cs.length := by rw [len_eq] at hlt; simpa using hlt
      rw [setL_eq] at h
      have hE' : ∀ c ∈ cs.set i s, wd c = E := by
        intro c hc
        rcases List.mem_or_eq_of_mem_set hc with hc | rfl
        · exact hE c hc
        · exact hw
      obtain ⟨cs', hk, hl', he', hd⟩ := fillA_sound E ps (cs.set i s) K h hE'
      refine ⟨cs', hk, by simpa using hl', he', fun cx w rs vs hr hv => ?_⟩
      cases hr with
      | cons h1 h2 =>
        rename_i v r
        obtain ⟨us, hu, hrc⟩ := relV_us h1 hnt
        have hul := hrc.width
        have hvl := hv.width
        have hci := List.getElem?_eq_getElem hlt
        have hge := wds_get cs i _ hci
        have hoff := wds_all E cs (by simpa [Nat.beq_eq] using hE) i (by omega)
        simp only [wd] at hvl
        have hcw := hE _ (List.getElem_mem hlt)
        have hset := hv.set i _ s us hci hrc (by omega)
        obtain ⟨vs', e1, e2⟩ := hd cx w r _ h2 hset
        refine ⟨vs', ?_, e2⟩
        rw [fill_step _ vs i v r (i * E) us (by rw [hul, hw]) hu (by omega), ← hoff]
        exact e1
    · exact h.elim

theorem fillB_sound (m : Nat) : ∀ (ps : List (Nat × SV)) (l : List Int) (K : List Int → Prop), fillB m ps l K → l.length = m →
    ∃ l', K l' ∧ l'.length = m ∧ ∀ cx w (rs : List (Nat × Value)), RelPs cx w ps rs →
      Instr.fill (fun i => some (i * 1, 1)) (l.map fun x => Value.int .u8 x).toArray rs = some (l'.map fun x => Value.int .u8 x).toArray
  | [], l, K, h, hl => ⟨l, h, hl, fun cx w rs hr => by cases hr; rfl⟩
  | (i, s) :: ps, l, K, h, hl => by
    simp only [fillB] at h
    split at h
    · rename_i x hlt
      have hlt : i < m := by simpa using hlt
      obtain ⟨l', hk, hl', hd⟩ := fillB_sound m ps (l.set i x) K h (by simpa using hl)
      refine ⟨l', hk, hl', fun cx w rs hr => ?_⟩
      cases hr with
      | cons h1 h2 =>
        rename_i v r
        have := relV_v h1
        subst this
        rw [fill_step _ (l.map fun x => Value.int .u8 x) i (.int .u8 x) r (i * 1) [.int .u8 x] (by rfl) rfl (by simp; omega)]
        rw [← hd cx w r h2]
        congr 2
        rw [List.map_set, List.set_eq_take_append_cons_drop, if_pos (by simp; omega)]
        simp
    · exact h.elim

theorem places_eq {t : TypeId} {fs : List (Nat × Nat)} (hs : structOf P t = some (fs.map some)) : ∃ fields, P.underlying t = some (.struct fields) ∧
    ∀ w : World, (fields.mapM fun f => (do pure (f.offset, ← sizeOf f.type) : Sem (Nat × Nat))).run P w = .ok fs.toArray w := by
  unfold structOf at hs
  split at hs
  · rename_i fields hu
    refine ⟨fields, hu, fun w => ?_⟩
    simp only [Option.some.injEq] at hs
    rw [← Array.toArray_toList (xs := fields), List.mapM_toArray]
    generalize fields.toList = l at hs
    have : ∀ (l : List Field) (fs : List (Nat × Nat)), (l.map fun f => (P.info? f.type).map fun i => (f.offset, i.size)) = fs.map some →
        (l.mapM fun f => (do pure (f.offset, ← sizeOf f.type) : Sem (Nat × Nat))).run P w = .ok fs w := by
      intro l
      induction l with
      | nil => intro fs h; cases fs <;> simp at h; simp
      | cons f l ih =>
        intro fs h
        cases fs with
        | nil => simp at h
        | cons q fs =>
          simp only [List.map_cons, List.cons.injEq] at h
          cases hi : P.info? f.type with
          | none => rw [hi] at h; cases h.1
          | some i =>
            rw [hi] at h
            simp only [Option.map_some, Option.some.injEq] at h
            simp only [List.mapM_cons, Sem.run_bind, run_sizeOf' hi, Result.andThen_ok, Sem.run_pure, ih fs h.2, h.1]
    simp only [Sem.run_map, this l fs hs, Result.andThen_ok]
  · cases hs

theorem relPs_ofEval {sl : Nat → Option SV} {parts : Array (Nat × Operand)} {ps : List (Nat × SV)} {cx : Cx} {w : World} {a : Act} (hp : PartsR sl parts.toList ps)
    (hr : Reads sl (slotsOf (parts.toList.map (·.2))) cx w a) : RelPs cx w ps ((parts.map fun (i, x) => (i, a.eval x)).toList) := by
  rw [Array.toList_map]
  refine hp.rel hr fun t ⟨i, hi⟩ => mem_slotsOf ?_
  exact List.mem_map.2 ⟨_, hi, rfl⟩

theorem s_build {t : TypeId} {parts : Array (Nat × Operand)} (hT : TTok P TT) (hn : inFrame n dst = true) (hx : xOp P TT n ⟨dst, .build t parts, ty, pos, after, guard⟩ e h K) : Goal P ⟨dst, .build t parts, ty, pos, after, guard⟩ n e h K := by
  obtain ⟨ps, hp, hk⟩ := partsK_sound hx
  generalize hti : TT t = ti at hk
  have hd := (hT t).desc
  obtain ⟨hinfo, hz⟩ := (hT t).info (by rw [hti]; rintro rfl; exact hk)
  rw [hti] at hd hinfo hz
  obtain ⟨by_, hi⟩ := hinfo
  obtain ⟨i, hi1, _, _, hi4⟩ := hi.mk
  have hops : ∀ (cx : Cx) (w : World) (a : Act), Reads (lk e) (slotsOf (Op.build t parts).operands.toList) cx w a → RelPs cx w ps ((parts.map fun (i, x) => (i, a.eval x)).toList) :=
    fun cx w a hr => relPs_ofEval hp (by simpa [Op.operands] using hr)
  split at hk
  · rename_i fs ft z _
    obtain ⟨hs, ⟨cs, hzc, hfs⟩, _⟩ := hd
    cases hzc
    obtain ⟨cs', hk, hf⟩ := fillS_sound fs ps z _ hk hfs.symm
    refine ⟨_, opD_plain _ hn fun cx w a hr => ?_, hk⟩
    obtain ⟨vs', e1, e2⟩ := hf cx w _ _ (hops cx w a hr) (okz_rel hz)
    refine ⟨.agg vs'.toArray, ?_, ⟨vs', rfl, e2⟩⟩
    obtain ⟨fields, hu, hm⟩ := places_eq hs
    simp only [execOp, Instr.build, Sem.run_bind, run_zeroValue' hi1 hi4, Result.andThen_ok, run_underlying hu, hm w, TI.zero, toVal, Value.cells]
    simp only [flat] at e1
    have e1' : Instr.fill (fun x => fs.toArray[x]?) (flats z).toArray (parts.map fun (i, x) => (i, a.eval x)).toList = some vs'.toArray := by
      rw [← e1]; congr 1; funext x; simp
    rw [e1']
    rfl
  · rename_i l E el z _
    obtain ⟨hu, ⟨b', z', hie⟩, _⟩ := hd
    obtain ⟨ie, hj1, hj2, _, _⟩ := hie.mk
    split at hk
    · rename_i hall
      have hall' : ∀ c ∈ z, wd c = E := fun c hc => Nat.eq_of_beq_eq_true ((List.all_eq_true.1 hall) c hc)
      obtain ⟨cs', hk, _, _, hf⟩ := fillA_sound E ps z _ hk hall'
      refine ⟨_, opD_plain _ hn fun cx w a hr => ?_, hk⟩
      obtain ⟨vs', e1, e2⟩ := hf cx w _ _ (hops cx w a hr) (okz_rel hz)
      refine ⟨.agg vs'.toArray, ?_, ⟨vs', rfl, e2⟩⟩
      simp only [execOp, Instr.build, Sem.run_bind, run_zeroValue' hi1 hi4, Result.andThen_ok, run_underlying hu, run_sizeOf' hj1, hj2, TI.zero, toVal, Value.cells]
      simp only [flat] at e1
      rw [e1]
      rfl
    · exact hk.elim
  · rename_i l E el m z _
    obtain ⟨hu, ⟨b', z', hie⟩, _⟩ := hd
    obtain ⟨ie, hj1, hj2, _, _⟩ := hie.mk
    split at hk
    · rename_i hE hm
      have hE := Nat.eq_of_beq_eq_true hE
      have hm := Nat.eq_of_beq_eq_true hm
      subst hE hm
      have hlen : z.length = m := by
        simp only [TI.zero, okz] at hz
        exact Nat.eq_of_beq_eq_true hz
      obtain ⟨l', hk, hl', hf⟩ := fillB_sound m ps z _ hk hlen
      refine ⟨_, opD_plain _ hn fun cx w a hr => ?_, hk⟩
      have e1 := hf cx w _ (hops cx w a hr)
      refine ⟨.agg (l'.map fun x => Value.int .u8 x).toArray, ?_, ⟨_, rfl, .ba hl'⟩⟩
      simp only [execOp, Instr.build, Sem.run_bind, run_zeroValue' hi1 hi4, Result.andThen_ok, run_underlying hu, run_sizeOf' hj1, hj2, TI.zero, toVal, Value.cells]
      rw [e1]
      rfl
    · exact hk.elim
  · exact hk.elim

theorem reps_mem {α : Type} : ∀ (n : Nat) (x y : α), y ∈ reps n x → y = x
  | 0, _, _, h => by cases h
  | n + 1, x, y, h => by
    rcases List.mem_cons.1 h with h | h
    · exact h
    · exact reps_mem n x y h
theorem reps_rel {cx w} {s : SV} (hs : okz s = true) : ∀ n, RelC cx w (.agg (reps n s)) (List.replicate n (flat s)).flatten
  | 0 => .nil
  | n + 1 => by
    rw [List.replicate_succ, List.flatten_cons]
    exact .cons (okz_rel hs) (reps_rel hs n)
theorem made_cells (l : List Value) (hl : 0 < l.length) (n : Nat) : ((Array.range (n * l.length)).map (l.toArray[· % l.toArray.size]!)) = (List.replicate n l).flatten.toArray := by
  apply Array.ext'
  simp only [Array.toList_map, Array.toList_range]
  induction n with
  | zero => simp
  | succ n ih =>
    rw [List.replicate_succ', List.flatten_append, ← ih, Nat.add_mul, Nat.one_mul, List.range_add, List.map_append]
    simp only [List.flatten_cons, List.flatten_nil, List.append_nil]
    congr 1
    apply List.ext_getElem
    · simp
    · intro i h1 h2
      simp at h1 h2
      have : (n * l.length + i) % l.length = i := by rw [Nat.add_comm, Nat.add_mul_mod_self_right, Nat.mod_eq_of_lt h1]
      simp [this, h1]

theorem toVal_cells {z : SV} (hz : okz z = true) : (toVal z).cells = (flat z).toArray := by
  cases z <;> simp only [okz, Bool.false_eq_true] at hz <;> simp only [toVal, flat]
  · rename_i x; cases x <;> first | rfl | (simp [Value.oneCell'] at hz)
  · rfl
  · rfl
theorem flat_len {z : SV} (hz : okz z = true) : (flat z).length = wd z := (okz_rel (cx := ⟨fun _ => none, fun _ => False⟩) (w := default) hz).width

theorem relC_seg {cx w} {E : Nat} : ∀ {rows : List SV} {vs : List Value}, RelC cx w (.agg rows) vs → (∀ c ∈ rows, wd c = E) → ∀ (i : Nat) s, rows[i]? = some s → RelC cx w s ((vs.drop (i * E)).take E) := by
  intro rows vs h hE i s hs
  have h1 := h.get i s hs
  have hlt : i < rows.length := (List.getElem?_eq_some_iff.1 hs).1
  have := wds_all E rows (by simpa [Nat.beq_eq] using hE) i (by omega)
  rw [this, hE s (List.mem_of_getElem? hs)] at h1
  exact h1
theorem wds_const {E : Nat} : ∀ {rows : List SV}, (∀ c ∈ rows, wd c = E) → wds rows = rows.length * E
  | [], _ => by simp [wds]
  | s :: r, h => by simp [wds, h s (by simp), wds_const (rows := r) fun c hc => h c (by simp [hc]), Nat.add_mul]; omega
end
end Go.Fw
