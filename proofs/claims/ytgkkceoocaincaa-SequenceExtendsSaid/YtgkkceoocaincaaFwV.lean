/- The executor is sound: parts of values, equality, stores. -/
import Derived.Test.YtgkkceoocaincaaFwU
import Derived.ChangeKeysEq
namespace Go.Fw
section
variable {P : Program} {TT : Nat → TI} {n : Sz} {e : List (Nat × SV)} {h : List OB} {K : Rec → Prop}
variable {dst : Option Nat} {ty : TypeId} {pos : String} {after : Array Edge} {guard : Option (Nat × Bool)}

theorem run_part_rel {t : TypeId} {ti : TI} (ht : TIok P t ti) {y : SV} (hy : ofType ti y = true) {cx : Cx} {w : World} {vs : List Value} {off : Nat}
    (hr : RelC cx w y ((vs.drop off).take (wd y))) : ∃ v, (part t vs.toArray off).run P w = .ok v w ∧ RelV cx w y v := by
  have hn := ofType_ne hy
  obtain ⟨⟨by_, hi⟩, _⟩ := ht.info hn
  obtain ⟨i, hi1, hi2, _, _⟩ := hi.mk
  have hwd := ofType_wd ht hy
  cases ha : ti.isAgg with
  | true =>
    refine ⟨.agg ((vs.drop off).take (wd y)).toArray, ?_, ?_⟩
    · simp only [part, Sem.run_bind, run_isAgg ht hn, ha, Result.andThen_ok, if_true, run_sizeOf' hi1, Sem.run_pure]
      rw [hi2, ← hwd]
      congr 3
      apply Array.ext'
      simp
    · cases ti <;> simp only [TI.isAgg, Bool.false_eq_true] at ha <;> cases y <;> simp only [ofType, TI.isAgg, Bool.false_eq_true] at hy <;> exact ⟨_, rfl, hr⟩
  | false =>
    have hone : wd y = 1 := by
      cases ti <;> simp only [TI.isAgg, Bool.true_eq_false] at ha <;> cases y <;> simp only [ofType, TI.isAgg, Bool.false_eq_true] at hy <;> rfl
    have hl := hr.width
    rw [hone] at hr hl
    obtain ⟨x, hx⟩ : ∃ x, (vs.drop off).take 1 = [x] := by
      cases hd : (vs.drop off).take 1 with
      | nil => rw [hd] at hl; cases hl
      | cons x r =>
        rw [hd] at hl
        cases r with
        | nil => exact ⟨x, rfl⟩
        | cons => simp at hl
    rw [hx] at hr
    have hg : vs[off]? = some x := by
      have : ((vs.drop off).take 1)[0]? = some x := by rw [hx]; rfl
      simpa using this
    refine ⟨x, ?_, ?_⟩
    · simp only [part, Sem.run_bind, run_isAgg ht hn, ha, Result.andThen_ok, Bool.false_eq_true, if_false, List.getElem?_toArray, hg, Sem.run_pure]
    · cases ti <;> simp only [TI.isAgg, Bool.true_eq_false] at ha <;> cases y <;> simp only [ofType, TI.isAgg, Bool.false_eq_true] at hy <;> exact hr

theorem fieldsOf_eq {t : TypeId} {fs : List (Option (Nat × Nat))} (h : structOf P t = some fs) : P.underlying t = some (.struct (P.fieldsOf t)) := by
  unfold structOf at h
  split at h
  · rename_i f hu; simp [Program.fieldsOf, hu]
  · cases h

/-- The cells of a value of a type. -/
def cellsV : Value → List Value
  | .agg cs => cs.toList
  | v => [v]

theorem relV_cells {cx w s v} (h : RelV cx w s v) (hs : notTop s = true) : RelC cx w s (cellsV v) := by
  cases s <;> simp only [RelV, RelV1] at h
  case agg cs => obtain ⟨vs, rfl, h⟩ := h; simpa [cellsV] using h
  case ba n l => obtain ⟨vs, rfl, h⟩ := h; simpa [cellsV] using h
  case top => simp [notTop] at hs
  case tup => simp [notTop] at hs
  all_goals
    have := h.ones v (by simp)
    cases v <;> first | exact h | (simp [Value.oneCell'] at this)

theorem layout_get : ∀ (cs : List SV) (off j : Nat) (s : SV), cs[j]? = some s → (layout cs off)[j]? = some (off + wds (cs.take j), wd s)
  | [], _, j, s, h => by simp at h
  | x :: cs, off, 0, s, h => by simp at h; subst h; simp [layout, wds]
  | x :: cs, off, j + 1, s, h => by
    simp at h
    have := layout_get cs (off + wd x) j s h
    simp [layout, wds, this]; omega
theorem layout_len : ∀ (cs : List SV) (off : Nat), (layout cs off).length = cs.length
  | [], _ => rfl
  | _ :: cs, off => by simp [layout, layout_len cs]

theorem ofType_notTop {ti y} (h : ofType ti y = true) : notTop y = true := by
  cases ti <;> cases y <;> first | rfl | (simp [ofType, TI.isAgg] at h)

/-- What equality of two values of a type comes to. -/
def EqAt' (P : Program) (TT : Nat → TI) (d : Nat) : Prop :=
  ∀ (t : TypeId) (x y : SV) (b : Bool) (D : Nat) (cx : Cx) (w : World) (vx vy : Value), eqT TT d t x y = some b → d + 1 ≤ D → RelV cx w x vx → RelV cx w y vy →
    (Op.equalIn D t vx vy).run P w = .ok b w
/-- The lists' side: the components of a struct or an array, from an offset on. -/
def EqsAt (P : Program) (TT : Nat → TI) (d : Nat) : Prop :=
  ∀ (ts : List Nat) (xs ys : List SV) (c : Bool), eqT.go TT d ts xs ys = some c →
    (∀ (fields : List Field) (D off : Nat) (cx : Cx) (w : World) (vx vy : List Value), d + 1 ≤ D → fields.map (fun f => f.type) = ts → (∀ f ∈ fields, f.name ≠ "_") →
      (fields.map fun f => (P.info? f.type).map fun i => (f.offset, i.size)) = (layout xs off).map some → (layout ys off) = (layout xs off) →
      RelC cx w (.agg xs) (vx.drop off) → RelC cx w (.agg ys) (vy.drop off) → (Op.eqFields D vx.toArray vy.toArray fields).run P w = .ok c w) ∧
    (∀ (el : TypeId) (D E i m : Nat) (cx : Cx) (w : World) (vx vy : List Value), d + 1 ≤ D → ts = reps m el → (P.info? el).map (·.size) = some E →
      RelC cx w (.agg xs) (vx.drop (i * E)) → RelC cx w (.agg ys) (vy.drop (i * E)) → (Op.eqItems D el E vx.toArray vy.toArray (List.range' i m)).run P w = .ok c w)

theorem relC_agg_cons {cx w s cs vs} (h : RelC cx w (.agg (s :: cs)) vs) : RelC cx w s (vs.take (wd s)) ∧ RelC cx w (.agg cs) (vs.drop (wd s)) := by
  obtain ⟨us, ws, rfl, h1, h2⟩ := h.agg_inv
  have := h1.width
  rw [← this]
  simpa using ⟨h1, h2⟩

theorem eqs_step (hT : TTok P TT) {d : Nat} (h1 : EqAt' P TT d) (h2 : EqsAt P TT d) : EqsAt P TT (d + 1) := by
  intro ts xs ys c hc
  cases ts with
  | nil =>
    cases xs <;> cases ys <;> simp only [eqT.go] at hc <;> try cases hc
    refine ⟨fun fields D off cx w vx vy _ hf _ _ _ _ _ => ?_, fun el D E i m cx w vx vy _ hm _ _ _ => ?_⟩
    · cases fields with
      | nil => simp [Op.eqFields]
      | cons => simp at hf
    · cases m with
      | zero => simp [Op.eqItems]
      | succ m => simp [reps] at hm
  | cons t ts =>
    cases xs with
    | nil => cases ys <;> simp [eqT.go] at hc
    | cons x xs =>
      cases ys with
      | nil => simp [eqT.go] at hc
      | cons y ys =>
        simp only [eqT.go] at hc
        split at hc
        · rename_i b hx hy hb
          split at hc
          · rename_i c' hc'
            cases hc
            have ih := h2 ts xs ys c' hc'
            refine ⟨fun fields D off cx w vx vy hD hf hnm hl hll rx ry => ?_, fun el D E i m cx w vx vy hD hm hE rx ry => ?_⟩
            · cases fields with
              | nil => simp at hf
              | cons f fields =>
                simp only [List.map_cons, List.cons.injEq, layout] at hf hl
                obtain ⟨rfl, hf⟩ := hf
                obtain ⟨hl0, hl1⟩ := hl
                simp only [layout, List.cons.injEq, Prod.mk.injEq] at hll
                obtain ⟨⟨_, hwy⟩, hll⟩ := hll
                have hoff : f.offset = off := by
                  cases hi : P.info? f.type with
                  | none => rw [hi] at hl0; cases hl0
                  | some i => rw [hi] at hl0; simp only [Option.map_some, Option.some.injEq, Prod.mk.injEq] at hl0; exact hl0.1
                obtain ⟨rx1, rx2⟩ := relC_agg_cons rx
                obtain ⟨ry1, ry2⟩ := relC_agg_cons ry
                rw [List.drop_drop] at rx2 ry2
                obtain ⟨ux, px, qx⟩ := run_part_rel (hT f.type) hx rx1
                obtain ⟨uy, py, qy⟩ := run_part_rel (hT f.type) hy ry1
                have hn : f.name ≠ "_" := hnm f (by simp)
                have he := h1 f.type x y b D cx w ux uy hb (by omega) qx qy
                rw [hwy] at ry2 hll
                have hrest := ih.1 fields D (off + wd x) cx w vx vy (by omega) hf (fun g hg => hnm g (by simp [hg])) hl1 hll rx2 ry2
                simp only [Op.eqFields, hn, ne_eq, not_false_eq_true, if_true, hoff, Sem.run_bind, px, py, he, Result.andThen_ok, Sem.run_ite, Sem.run_pure, hrest]
                cases b <;> simp
            · cases m with
              | zero => simp [reps] at hm
              | succ m =>
                simp only [reps, List.cons.injEq] at hm
                obtain ⟨rfl, hm⟩ := hm
                have hwx := ofType_wd (hT t) hx
                have hwy := ofType_wd (hT t) hy
                have hEx : wd x = E := by
                  obtain ⟨⟨by_, hi⟩, _⟩ := (hT t).info (ofType_ne hx)
                  obtain ⟨i', hi1, hi2, _, _⟩ := hi.mk
                  rw [hi1] at hE
                  simp only [Option.map_some, Option.some.injEq] at hE
                  omega
                obtain ⟨rx1, rx2⟩ := relC_agg_cons rx
                obtain ⟨ry1, ry2⟩ := relC_agg_cons ry
                rw [List.drop_drop, show i * E + wd x = (i + 1) * E by rw [hEx, Nat.add_mul]; omega] at rx2
                rw [List.drop_drop, show i * E + wd y = (i + 1) * E by rw [hwy, ← hwx, hEx, Nat.add_mul]; omega] at ry2
                obtain ⟨ux, px, qx⟩ := run_part_rel (hT t) hx rx1
                obtain ⟨uy, py, qy⟩ := run_part_rel (hT t) hy ry1
                have he := h1 t x y b D cx w ux uy hb (by omega) qx qy
                have hrest := ih.2 t D E (i + 1) m cx w vx vy (by omega) hm hE rx2 ry2
                simp only [List.range'_succ, Op.eqItems, Sem.run_bind, px, py, he, Result.andThen_ok, Sem.run_ite, Sem.run_pure, hrest]
                cases b <;> simp
          · cases hc
        · cases hc

theorem reps_len {α : Type} : ∀ (n : Nat) (x : α), (reps n x).length = n
  | 0, _ => rfl
  | n + 1, x => by simp [reps, reps_len n x]
theorem bytes_eq {d : Nat} {el : TypeId} (hu : P.underlying el = some (.int .u8)) : ∀ (l r pl pr : List Int) (m : Nat) (w : World), l.length = m → r.length = m → pl.length = pr.length → (P.info? el).map (·.size) = some 1 →
    (Op.eqItems (d + 1) el 1 ((pl ++ l).map fun x => Value.int .u8 x).toArray ((pr ++ r).map fun x => Value.int .u8 x).toArray (List.range' pl.length m)).run P w = .ok (l == r) w
  | [], [], _, _, m, w, hl, _, _, _ => by subst hl; simp [Op.eqItems]
  | [], _ :: _, _, _, m, w, hl, hr, _, _ => by simp at hl hr; omega
  | _ :: _, [], _, _, m, w, hl, hr, _, _ => by simp at hl hr; omega
  | x :: l, y :: r, pl, pr, m, w, hl, hr, hp, hE => by
    cases m with
    | zero => simp at hl
    | succ m =>
      have ih := bytes_eq (d := d) hu l r (pl ++ [x]) (pr ++ [y]) m w (by simpa using hl) (by simpa using hr) (by simp [hp]) hE
      have hagg : (isAgg el).run P w = .ok false w := by simp [isAgg, run_underlying hu]
      have p1 : (part el ((pl ++ x :: l).map fun x => Value.int .u8 x).toArray (pl.length * 1)).run P w = .ok (.int .u8 x) w := by
        simp [part, hagg]
      have p2 : (part el ((pr ++ y :: r).map fun x => Value.int .u8 x).toArray (pl.length * 1)).run P w = .ok (.int .u8 y) w := by
        simp [part, hagg, hp]
      have p3 : (Op.equalIn (d + 1) el (.int .u8 x) (.int .u8 y)).run P w = .ok (x == y) w := run_equalIn_int w d el .u8 .u8 x y hu
      simp only [List.append_assoc, List.cons_append, List.nil_append, List.length_append, List.length_cons, List.length_nil, Nat.zero_add] at ih
      simp only [List.range'_succ, Op.eqItems, Sem.run_bind, p1, p2, p3, Result.andThen_ok, Sem.run_ite, Sem.run_pure, ih]
      by_cases hxy : x = y
      · subst hxy; simp
      · have : (x == y) = false := by simpa using hxy
        simp [this]

def layW : List Nat → Nat → List (Nat × Nat)
  | [], _ => []
  | n :: r, off => (off, n) :: layW r (off + n)
theorem layout_layW : ∀ (cs : List SV) (off : Nat), layout cs off = layW (cs.map wd) off
  | [], _ => rfl
  | s :: r, off => by simp [layout, layW, layout_layW r]
theorem layW_snd : ∀ (l : List Nat) (off : Nat), (layW l off).map Prod.snd = l
  | [], _ => rfl
  | n :: r, off => by simp [layW, layW_snd r]
theorem go_widths (hT : TTok P TT) : ∀ (d : Nat) (ts : List Nat) (xs ys : List SV) (c : Bool), eqT.go TT d ts xs ys = some c →
    xs.map wd = ts.map (fun t => wd (TT t).zero) ∧ ys.map wd = ts.map (fun t => wd (TT t).zero)
  | 0, _, _, _, _, h => by simp [eqT.go] at h
  | d + 1, [], xs, ys, c, h => by cases xs <;> cases ys <;> simp [eqT.go] at h ⊢
  | d + 1, t :: ts, [], ys, c, h => by cases ys <;> simp [eqT.go] at h
  | d + 1, t :: ts, x :: xs, [], c, h => by simp [eqT.go] at h
  | d + 1, t :: ts, x :: xs, y :: ys, c, h => by
    simp only [eqT.go] at h
    split at h
    · rename_i b hx hy hb
      split at h
      · rename_i c' hc'
        have := go_widths hT d ts xs ys c' hc'
        simp [this, ofType_wd (hT t) hx, ofType_wd (hT t) hy]
      · cases h
    · cases h

theorem eq_step (hT : TTok P TT) {d : Nat} (h2 : EqsAt P TT d) : EqAt' P TT (d + 1) := by
  intro t x y b D cx w vx vy he hD rx ry
  obtain ⟨D, rfl⟩ : ∃ D', D = D' + 1 := ⟨D - 1, by omega⟩
  have hd := (hT t).desc
  simp only [eqT] at he
  generalize hti : TT t = ti at he hd
  split at he
  · rename_i k
    split at he
    · rename_i k1 a k2 b'
      split at he
      · rename_i e1 e2
        cases he
        cases kbeq_eq e1; cases kbeq_eq e2
        rw [relV_v rx, relV_v ry]
        exact run_equalIn_int w D t k k a b' hd
      · cases he
    · cases he
  · split at he
    · rename_i a b'
      cases he
      rw [relV_v rx, relV_v ry]
      exact run_equalIn_bool w D t a b' hd
    · cases he
  · rename_i fs u ft z
    split at he
    · rename_i xs ys
      obtain ⟨hs, ⟨cs, hz, hfs⟩, hrest⟩ := hd
      obtain ⟨hty, hheld, _⟩ := hrest (by simp)
      obtain ⟨vs, rfl, rx⟩ := rx
      obtain ⟨us, rfl, ry⟩ := ry
      rw [run_equalIn_struct w D t _ _ (fieldsOf_eq hs) hheld]
      have hw := go_widths hT _ _ _ _ _ he
      have hu := fieldsOf_eq hs
      unfold typesOf at hty
      unfold structOf at hs
      rw [hu] at hty hs
      simp only [Option.some.injEq] at hs
      cases hall : (P.fieldsOf t).toList.all fun f => f.name != "_" with
      | true =>
        simp only [hall, Option.some.injEq] at hty
        have hsz : fs.map Prod.snd = (u :: ft).map (fun t => wd (TT t).zero) := by
          have e1 : ((P.fieldsOf t).toList.map fun f => (P.info? f.type).map fun i => i.size) = (fs.map Prod.snd).map some := by
            have := congrArg (List.map (Option.map Prod.snd)) hs
            simpa [List.map_map, Function.comp_def] using this
          have hlen : (fs.map Prod.snd).length = ((u :: ft).map (fun t => wd (TT t).zero)).length := by
            have := congrArg List.length e1
            have h3 := congrArg List.length hty
            simp at this h3 ⊢
            omega
          apply List.ext_getElem? 
          intro j
          by_cases hj : j < (P.fieldsOf t).toList.length
          · have a1 := congrArg (fun l => l[j]?) e1
            have a2 := congrArg (fun l => l[j]?) hty
            simp only [List.getElem?_map, List.getElem?_eq_getElem hj, Option.map_some] at a1 a2
            generalize (P.fieldsOf t).toList[j] = f at a1 a2
            rw [List.getElem?_map, List.getElem?_map]
            have a2' := a2.symm
            rw [a2']
            simp only [Option.map_some]
            cases hf : fs[j]? with
            | none => rw [hf] at a1; simp at a1
            | some q =>
              rw [hf] at a1
              simp only [Option.map_some, Option.some.injEq] at a1
              have hq : ∃ i, P.info? f.type = some i ∧ i.size = q.2 := by
                cases hi : P.info? f.type with
                | none => rw [hi] at a1; cases a1
                | some i => rw [hi] at a1; simp at a1; exact ⟨i, rfl, a1⟩
              obtain ⟨i, hi, hi2⟩ := hq
              by_cases hnn : TT f.type = .none
              · exfalso
                obtain ⟨d', rfl⟩ : ∃ d', d = d' + 1 := by cases d with | zero => simp [eqT.go] at he | succ d' => exact ⟨d', rfl⟩
                have key : ∀ (d : Nat) (ts : List Nat) (xs ys : List SV) (c : Bool), eqT.go TT d ts xs ys = some c → ∀ t ∈ ts, TT t ≠ .none := by
                  intro d
                  induction d with
                  | zero => intro ts xs ys c h; simp [eqT.go] at h
                  | succ d ih =>
                    intro ts xs ys c h t ht
                    cases ts with
                    | nil => cases ht
                    | cons t0 ts =>
                      cases xs with
                      | nil => cases ys <;> simp [eqT.go] at h
                      | cons x xs =>
                        cases ys with
                        | nil => simp [eqT.go] at h
                        | cons y ys =>
                          simp only [eqT.go] at h
                          split at h
                          · rename_i b hx hy hb
                            split at h
                            · rename_i c' hc'
                              rcases List.mem_cons.1 ht with rfl | ht
                              · exact ofType_ne hx
                              · exact ih ts xs ys c' hc' t ht
                            · cases h
                          · cases h
                exact key _ _ _ _ _ he f.type (List.mem_of_getElem? a2.symm) hnn
              · obtain ⟨⟨by_, hi'⟩, _⟩ := (hT f.type).info hnn
                obtain ⟨i', hi1, hi3, _, _⟩ := hi'.mk
                rw [hi] at hi1
                cases hi1
                simp; omega
          · have h3 := congrArg List.length hty
            have h4 := congrArg List.length e1
            simp at h3 h4 hj
            rw [List.getElem?_eq_none (by simp; omega), List.getElem?_eq_none (by simp; omega)]
        have hlx : layout xs 0 = fs := by
          rw [layout_layW, hw.1, ← hsz, hfs, layout_layW, layW_snd]
        have hly : layout ys 0 = fs := by
          rw [layout_layW, hw.2, ← hsz, hfs, layout_layW, layW_snd]
        refine (h2 _ _ _ _ he).1 _ D 0 cx w vs us (by omega) hty ?_ ?_ ?_ (by simpa using rx) (by simpa using ry)
        · intro f hf
          have := (List.all_eq_true.1 hall) f hf
          simpa using this
        · rw [hlx]; exact hs
        · rw [hlx, hly]
      | false => simp only [hall] at hty; cases hty
    · cases he
  · rename_i m E el z
    obtain ⟨hu, ⟨b', z', hie⟩, _⟩ := hd
    obtain ⟨ie, hi1, hi2, _, _⟩ := hie.mk
    have hcell : P.cellsOf el = E := by simp [Program.cellsOf, hi1, hi2]
    split at he
    · rename_i m1 l m2 r
      split at he
      · rename_i k1 k2 k3 hel
        have k1 := Nat.eq_of_beq_eq_true k1
        have k2 := Nat.eq_of_beq_eq_true k2
        have k3 := Nat.eq_of_beq_eq_true k3
        subst k1 k2 k3
        cases he
        obtain ⟨vs, rfl, rx⟩ := rx
        obtain ⟨us, rfl, ry⟩ := ry
        cases rx with
        | ba hl1 =>
          cases ry with
          | ba hl2 =>
            rw [run_equalIn_array w D _ _ hu hi1, hcell]
            have hdel := (hT el).desc
            rw [hel] at hdel
            obtain ⟨D, rfl⟩ : ∃ D', D = D' + 1 := ⟨D - 1, by omega⟩
            have := bytes_eq (d := D) hdel l r [] [] _ w hl1 hl2 rfl (by simp [hi1, hi2])
            simpa [List.range_eq_range'] using this
      · cases he
    · rename_i xs ys
      split at he
      · rename_i k1 k2
        obtain ⟨vs, rfl, rx⟩ := rx
        obtain ⟨us, rfl, ry⟩ := ry
        rw [run_equalIn_array w D _ _ hu hi1, hcell, List.range_eq_range']
        exact (h2 _ _ _ _ he).2 el D E 0 m cx w vs us (by omega) rfl (by simp [hi1, hi2]) (by simpa using rx) (by simpa using ry)
      · cases he
    · cases he
  · cases he

theorem eq_all (hT : TTok P TT) : ∀ d, EqAt' P TT d ∧ EqsAt P TT d
  | 0 => ⟨fun t x y b D cx w vx vy he => by simp [eqT] at he, fun ts xs ys c hc => by simp [eqT.go] at hc⟩
  | d + 1 => ⟨eq_step hT (eq_all hT d).2, eqs_step hT (eq_all hT d).1 (eq_all hT d).2⟩
end
end Go.Fw
