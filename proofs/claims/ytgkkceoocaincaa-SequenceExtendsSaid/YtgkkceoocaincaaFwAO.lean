/- A law: from its contract at every shape of its arguments to the given form. -/
import Derived.Test.YtgkkceoocaincaaFwAN
namespace Go.Fw
open Go.ChangeShapes Go.RowKit Go.WideElems

section
variable {H : Type} {enc : TypeId × Value → H} {P : Program} {TT : Nat → TI} {w : World} {base : Nat}

theorem lift_bool2 {f : FuncId} {args : List SV} {vals : Array Value} {w : World} (h : Con P f args [] (.v (.bool true)) []) (hv : RelVL ⟨fun _ => none, fun _ => False⟩ w args vals.toList) :
    Calls P f vals w fun e w' => e = .returned (.bool true) ∧ RowKit.Grown w w' ∧ ∀ b, b < w.heap.size → w'.heap[b]? = w.heap[b]? := by
  have hm : Mem ⟨fun _ => none, fun _ => False⟩ w (nthB []) := ⟨fun k ob hk => by simp [nthB] at hk, fun k k' ob ob' b C C' h => by simp [nthB] at h, fun _ _ => rfl, fun _ h => h.elim⟩
  have := h.2 _ w vals.toList hm hv
  rw [Array.toArray_toList] at this
  refine this.mono ?_
  rintro e w' ⟨cx', v, rfl, hr, _, hf⟩
  rw [relV_v hr]
  have hs : ∀ b, b < w.heap.size → w'.heap[b]? = w.heap[b]? := fun i hi => hf.same i hi (fun k C h => by cases h)
  refine ⟨rfl, ⟨⟨hf.wk.os, hf.wk.out, fun i hi => ?_⟩, hf.wk.fz, hf.le⟩, hs⟩
  rw [hs i hi]
  cases w.heap[i]? with
  | none => trivial
  | some o => cases o <;> simp

theorem trodAll_stays (hl : laidOutB P = true) {W W' : World} {sp : Nat → Bool} : ∀ (ts : List Nat) (vs : List Value) (ds : List (DataW H)) (ps : List MemPlace), (∀ t ∈ ts, P.readableRec t = true ∧ t < P.types.size) →
    DataW.TrodAll enc P W 0 (fun _ => true) true ts vs ds ps → (∀ p ∈ ps, W.sameAt W' p) → (∀ p ∈ ps, sp p.block = true) → DataW.TrodAll enc P W' 0 sp true ts vs ds ps
  | [], [], [], ps, _, h, _, _ => h
  | [], [], _ :: _, ps, _, h, _, _ => h.elim
  | [], _ :: _, ds, ps, _, h, _, _ => by cases ds <;> exact h.elim
  | _ :: _, [], ds, ps, _, h, _, _ => by cases ds <;> exact h.elim
  | t :: ts, v :: vs, [], ps, _, h, _, _ => h.elim
  | t :: ts, v :: vs, d :: ds, ps, hr, h, hs, hp => by
    obtain ⟨p, q, h1, h2, rfl⟩ := h
    exact ⟨p, q, Trod_stays hl (hr t (by simp)).1 (hr t (by simp)).2 h1 (fun x hx => hs x (by simp [hx])) (fun x hx => hp x (by simp [hx])),
      trodAll_stays hl ts vs ds q (fun t ht => hr t (by simp [ht])) h2 (fun x hx => hs x (by simp [hx])) (fun x hx => hp x (by simp [hx])), rfl⟩
theorem trodAll_len : ∀ (ts : List Nat) (vs : List Value) (ds : List (DataW H)) (ps : List MemPlace), DataW.TrodAll enc P w 0 (fun _ => true) true ts vs ds ps → ds.length = ts.length
  | [], [], [], ps, _ => rfl
  | [], [], _ :: _, ps, h => h.elim
  | [], _ :: _, ds, ps, h => by cases ds <;> exact h.elim
  | _ :: _, [], ds, ps, h => by cases ds <;> exact h.elim
  | t :: ts, v :: vs, [], ps, h => h.elim
  | t :: ts, v :: vs, d :: ds, ps, h => by
    obtain ⟨p, q, _, h2, rfl⟩ := h
    simp [trodAll_len ts vs ds q h2]

theorem rows_of {α : Type} (f : α → SV) (R : α → Prop) : ∀ {rows : List SV}, (∀ r ∈ rows, ∃ a, r = f a ∧ R a) → ∃ l : List α, rows = l.map f ∧ ∀ a ∈ l, R a
  | [], _ => ⟨[], rfl, fun _ h => by cases h⟩
  | x :: r, h => by
    obtain ⟨a, rfl, ha⟩ := h x (by simp)
    obtain ⟨l, rfl, hl⟩ := rows_of f R (rows := r) fun y hy => h y (by simp [hy])
    refine ⟨a :: l, rfl, fun b hb => ?_⟩
    rcases List.mem_cons.1 hb with rfl | hb
    · exact ha
    · exact hl b hb
theorem fields2 {Q : Nat → SV → Prop} {t0 t1 : Nat} {cs : List SV} (hl : cs.length = 2) (h : ∀ (i : Nat) u c, [t0, t1][i]? = some u → cs[i]? = some c → Q u c) : ∃ a b, cs = [a, b] ∧ Q t0 a ∧ Q t1 b := by
  obtain ⟨a, b, rfl⟩ := list_two hl.symm
  exact ⟨a, b, rfl, h 0 _ _ rfl rfl, h 1 _ _ rfl rfl⟩

/-- The given form of a law, from its contract. -/
theorem lift_law {C : Checked} {os : Os} {f : FuncId} {fn : Func} {s : ChangeSpec} {conds : List PathCond} {apart fresh handsOn again : Bool} {a : Assume} {tb : TypeId}
    (own : ownKnob C.prog.godebug = none) (started : os.Started) (noInit : C.prog.inits.idxOf? f = none) (hfn : C.prog.funcs[f]? = some fn)
    (witness : ∃ (w : World) (tape : Tape) (i : Input), w.os = os ∧ (w.forCall tape i).Shaped C.prog ∧ i.vars = [] ∧ Input.okWide C.prog (w.forCall tape i) .any w.heap.size f i ∧
      s.pre6 enc C.prog fn conds apart (w.forCall tape i).memory i.args ∧ a.holds C.prog (lone (Frame.enter C.prog f i.args .normal) [] (w.forCall tape i)))
    (hl : laidOutB C.prog = true) (hvars : s.vars = []) (hspec : ∀ ds : List (DataW H), ds.length = fn.params.size → (s.fn H ds).results = [.lit (.bool true)] ∧ (s.fn H ds).args = ds ∧ (s.fn H ds).vars = [])
    (hres : fn.resultTypes = #[tb]) (htb : C.prog.underlying tb = some .bool) (hread : (fn.params.toList.all fun t => C.prog.readableRec t && Nat.blt t C.prog.types.size) = true)
    (hT : TTok C.prog TT) (d : Nat) (hdeep : (fn.params.toList.all (deepT C.prog TT d)) = true)
    (hcon : ∀ svs, ShpL C.prog TT d fn.params.toList svs → Con C.prog f svs [] (.v (.bool true)) []) :
    ReturnsInHanded a C os f .any (s.pre6 enc C.prog fn conds apart) (s.post enc C.prog fn apart fresh handsOn again) := by
  refine returnsInHanded_of_change own started noInit hfn witness ?_
  have hread : ∀ t ∈ fn.params.toList, C.prog.readableRec t = true ∧ t < C.prog.types.size := fun t ht => by
    have := List.all_eq_true.1 hread t ht
    simp only [Bool.and_eq_true] at this
    exact ⟨this.1, by simpa using this.2⟩
  have hdeep : ∀ t ∈ fn.params.toList, deepT C.prog TT d t = true := List.all_eq_true.1 hdeep
  intro W b0 args ds gs before hval hW _ _
  have hW' := hW
  obtain ⟨p, q, hA, hV, hps, _, _⟩ := hW
  rw [hvars] at hV
  have hgs : gs = [] ∧ q = [] := by
    cases gs with
    | nil => exact ⟨rfl, hV⟩
    | cons => exact hV.elim
  obtain ⟨rfl, rfl⟩ := hgs
  have hlen := trodAll_len _ _ _ _ hA
  obtain ⟨h1, h2, h3⟩ := hspec ds (by simpa using hlen)
  obtain ⟨svs, hsh, hrel⟩ := open_all hT d _ _ _ _ hdeep hA (fun j t v hj hv => hval j t v (by simpa using hj) (by simpa using hv))
  have hlt : ∀ x ∈ p, x.block < W.heap.size := fun x hx => hW'.lt x (by rw [hps]; simp [hx])
  refine (lift_bool2 (hcon svs hsh) hrel).mono fun e W' ⟨he, hg, hsame⟩ => ?_
  subst he
  refine ⟨_, rfl, post_of_same (pa := p) (pv := []) hW' ?_ ?_ ?_ hps (hg.frame _) hg.2.1 (ok_one hres rfl (okWide_bool_mk htb _))⟩
  · intro b sp hd
    rw [hres, List.append_nil, h1]
    exact trodAll_cons_mk (shut_bool htb _) trodAll_mk0
  · intro sp hsp
    rw [List.append_nil, h2]
    refine trodAll_stays hl _ _ _ _ hread hA (fun x hx => ?_) (fun x hx => hsp x (by rw [hps]; simp [hx]))
    have := hsame x.block (hlt x hx)
    cases x with
    | cell b off => simp only [World.sameAt, World.cell?]; rw [show W'.heap[b]? = W.heap[b]? from this]
    | map b => exact this
  · intro sp _
    rw [hvars, List.append_nil, h3]
    rfl
end
end Go.Fw
