/- The laws about arguments of the size that the reach gives. -/
import Derived.Test.YtlkhjalnnciocaaGreatRepB
import Derived.SizedLaws
namespace Go.Fw
open Go.Proofs
open Go.ChangeShapes Go.RowKit Go.WideElems
set_option maxHeartbeats 8000000
set_option maxRecDepth 4000
section
variable {H : Type} {enc : TypeId × Value → H} {P : Program} {TT : Nat → TI} {w : World} {base : Nat}
theorem trodAll_get : ∀ {ts : List Nat} {vs : List Value} {ds : List (DataW H)} {ps : List MemPlace} {j t : Nat}, DataW.TrodAll enc P w 0 (fun _ => true) true ts vs ds ps → ts[j]? = some t →
    ∃ v d p, vs[j]? = some v ∧ ds[j]? = some d ∧ DataW.Trod enc P w 0 (fun _ => true) true t v d p
  | [], _, _, _, _, _, _, hj => by simp at hj
  | _ :: _, [], ds, _, _, _, h, _ => by cases ds <;> exact h.elim
  | _ :: _, _ :: _, [], _, _, _, h, _ => h.elim
  | t0 :: ts, v0 :: vs, d0 :: ds, ps, j, t, h, hj => by
    obtain ⟨p, q, h1, h2, _⟩ := h
    cases j with
    | zero =>
      simp at hj; subst hj
      exact ⟨v0, d0, p, rfl, rfl, h1⟩
    | succ j =>
      obtain ⟨v, d, p', e1, e2, e3⟩ := trodAll_get h2 (by simpa using hj)
      exact ⟨v, d, p', by simpa using e1, by simpa using e2, e3⟩
theorem relVL_get {cx : Cx} : ∀ {ss : List SV} {vs : List Value} {j : Nat} {s : SV}, RelVL cx w ss vs → ss[j]? = some s → ∃ v, vs[j]? = some v ∧ RelV1 cx w s v
  | _, _, _, _, .nil, hj => by simp at hj
  | _, _, 0, _, .cons (v := v) h _, hj => by
    simp at hj; subst hj
    exact ⟨v, rfl, h⟩
  | _, _, j + 1, _, .cons _ h, hj => by
    obtain ⟨v, h1, h2⟩ := relVL_get (j := j) h (by simpa using hj)
    exact ⟨v, by simpa using h1, h2⟩
theorem sized_svs {ts : List Nat} {vs : List Value} {ds gs : List (DataW H)} {us : List Nat} {ps : List MemPlace} {svs : List SV} {cx : Cx} (hsz : (DataW.weightsEach P (ts ++ us) (ds ++ gs)).all (· ≤ reachBytes) = true) (hA : DataW.TrodAll enc P w 0 (fun _ => true) true ts vs ds ps) (hrel : RelVL cx w svs vs) :
    ∀ (j t e : Nat) (E : Nat) (tg : Tg) (rows : List SV), ts[j]? = some t → P.underlying t = some (.slice e) → svs[j]? = some (.fs tg E rows) → rows.length * P.bytesOf e ≤ reachBytes := by
  intro j t e E tg rows hj hu hs
  obtain ⟨v, d, p, h1, h2, ⟨fuel, h3⟩⟩ := trodAll_get hA hj
  obtain ⟨v', h4, h5⟩ := relVL_get hrel hs
  rw [h1] at h4
  cases h4
  have hjl : j < ts.length := (List.getElem?_eq_some_iff.1 hj).1
  have hdl : j < ds.length := (List.getElem?_eq_some_iff.1 h2).1
  rcases DataW.trod_slice hu h3 with ⟨hc, _⟩ | ⟨a, len, cap, elems, rest, n, _, hc, hx, _, _, _, hel, _⟩
  · have h5 : RelC cx w (.fs tg E rows) [v] := h5
    have hn : rows = [] := by
      cases h5 with
      | fs0 => rfl
      | fs => simp [Value.cells] at hc
    rw [hn]; simp
  · have hd : d = .slice (elems.map (·.1)) (rest.map (·.1)) := by
      have := congrArg Prod.fst hx
      simpa using this
    have h6 := sized_slice (P := P) hsz (j := j) (t := t) (e := e) (by rw [List.getElem?_append_left hjl]; exact hj) (by rw [List.getElem?_append_left hdl, h2, hd]) hu
    rw [List.length_map, List.length_map, hel] at h6
    have h5 : RelC cx w (.fs tg E rows) [v] := h5
    have hn : rows.length ≤ len := by
      cases h5 with
      | fs0 => simp
      | fs =>
        simp [Value.cells] at hc
        omega
    exact Nat.le_trans (Nat.mul_le_mul_right _ (by omega)) h6
theorem lift_law_sz {C : Checked} {os : Os} {f : FuncId} {fn : Func} {s : ChangeSpec} {conds : List PathCond} {apart fresh handsOn again : Bool} {a : Assume} {tb : TypeId}
    (own : ownKnob C.prog.godebug = none) (started : os.Started) (noInit : C.prog.inits.idxOf? f = none) (hfn : C.prog.funcs[f]? = some fn)
    (witness : ∃ (w : World) (tape : Tape) (i : Input), w.os = os ∧ (w.forCall tape i).Shaped C.prog ∧ i.vars = [] ∧ Input.okWide C.prog (w.forCall tape i) .any w.heap.size f i ∧
      s.pre6 enc C.prog fn conds apart (w.forCall tape i).memory i.args ∧ a.holds C.prog (lone (Frame.enter C.prog f i.args .normal) [] (w.forCall tape i)))
    (hl : laidOutB C.prog = true) (hvars : s.vars = []) (hspec : ∀ ds : List (DataW H), ds.length = fn.params.size → (s.fn H ds).results = [.lit (.bool true)] ∧ (s.fn H ds).args = ds ∧ (s.fn H ds).vars = [])
    (hres : fn.resultTypes = #[tb]) (htb : C.prog.underlying tb = some .bool) (hread : (fn.params.toList.all fun t => C.prog.readableRec t && Nat.blt t C.prog.types.size) = true)
    (hT : TTok C.prog TT) (d : Nat) (hdeep : (fn.params.toList.all (deepT C.prog TT d)) = true)
    (hgl : ∀ g, glob g = none)
    (hent : (!(fn.name == "runtime.NumGoroutine") && !fn.body.isNone) = true)
    (hcon : ∀ svs, ShpL C.prog TT d fn.params.toList svs → (∀ (j t e : Nat) (E : Nat) (tg : Tg) (rows : List SV), fn.params.toList[j]? = some t → C.prog.underlying t = some (.slice e) → svs[j]? = some (.fs tg E rows) → rows.length * C.prog.bytesOf e ≤ reachBytes) → Con C.prog f svs [] (.v (.bool true)) []) :
    ReturnsInHanded a C os f .any (s.pre6 enc C.prog fn conds apart) (s.post enc C.prog fn apart fresh handsOn again) := by
  refine returnsInHanded_of_change_sized own started noInit hfn witness ?_
  have hE : Enters C.prog f := ⟨fn, hfn, by simp only [Bool.and_eq_true, Bool.not_eq_true'] at hent; exact hent.1, by simp only [Bool.and_eq_true, Bool.not_eq_true'] at hent; exact hent.2⟩
  have hread : ∀ t ∈ fn.params.toList, C.prog.readableRec t = true ∧ t < C.prog.types.size := fun t ht => by
    have := List.all_eq_true.1 hread t ht
    simp only [Bool.and_eq_true] at this
    exact ⟨this.1, by simpa using this.2⟩
  have hdeep : ∀ t ∈ fn.params.toList, deepT C.prog TT d t = true := List.all_eq_true.1 hdeep
  intro W b0 args ds gs before hval hW _ hsz _
  have hW' := hW
  obtain ⟨p, q, hA, hV, hps, _, _⟩ := hW
  rw [hvars] at hV
  have hgs : gs = [] ∧ q = [] := by
    cases gs with
    | nil => exact ⟨rfl, hV⟩
    | cons => exact hV.elim
  obtain ⟨rfl, rfl⟩ := hgs
  have hlen := trodAll_len _ _ _ _ hA
  obtain ⟨h1, h2, h3⟩ := hspec ds (by simpa using hlen)
  obtain ⟨svs, hsh, hrel⟩ := open_all hT d _ _ _ _ hdeep hA (fun j t v hj hv => hval j t v (by simpa using hj) (by simpa using hv))
  have hlt : ∀ x ∈ p, x.block < W.heap.size := fun x hx => hW'.lt x (by rw [hps]; simp [hx])
  refine (lift_bool2 hE (Glob.none hgl) (hcon svs hsh (sized_svs hsz hA hrel)) hrel).mono fun e W' ⟨he, hg, hsame⟩ => ?_
  subst he
  refine ⟨_, rfl, post_of_same (pa := p) (pv := []) hW' ?_ ?_ ?_ hps (hg.frame _) hg.2.1 (ok_one hres rfl (okWide_bool_mk htb _))⟩
  · intro b sp hd
    rw [hres, List.append_nil, h1]
    exact trodAll_cons_mk (shut_bool htb _) trodAll_mk0
  · intro sp hsp
    rw [List.append_nil, h2]
    refine trodAll_stays hl _ _ _ _ hread hA (fun x hx => ?_) (fun x hx => hsp x (by rw [hps]; simp [hx]))
    have := hsame x.block (hlt x hx)
    cases x with
    | cell b off => simp only [World.sameAt, World.cell?]; rw [show W'.heap[b]? = W.heap[b]? from this]
    | map b => exact this
  · intro sp _
    rw [hvars, List.append_nil, h3]
    rfl
end
end Go.Fw
