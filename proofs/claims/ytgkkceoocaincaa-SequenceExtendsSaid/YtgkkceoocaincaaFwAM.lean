/- From the run of a body to the function's contract. -/
import Derived.Test.YtgkkceoocaincaaFwAL
namespace Go.Fw

mutual
theorem ren_id : ∀ (s : SV), ren (fun k => k) s = s
  | .v _ => rfl
  | .ba .. => rfl
  | .fs .. => rfl
  | .pf .. => rfl
  | .top => rfl
  | .ov .. => rfl
  | .sb .. => rfl
  | .pb .. => rfl
  | .pe .. => rfl
  | .clo _ cs => by simp only [ren, rens_id cs]
  | .agg cs => by simp only [ren, rens_id cs]
  | .tup cs => by simp only [ren, rens_id cs]
theorem rens_id : ∀ (cs : List SV), rens (fun k => k) cs = cs
  | [] => rfl
  | s :: r => by simp only [rens, ren_id s, rens_id r]
end

mutual
/-- Only blocks below m are named. -/
def below (m : Nat) : SV → Bool
  | .pb j _ => Nat.blt j m
  | .pe _ j _ _ => Nat.blt j m
  | .ov _ j _ _ => Nat.blt j m
  | .sb j _ _ _ => Nat.blt j m
  | .agg cs => belows m cs
  | .clo _ cs => belows m cs
  | .tup cs => belows m cs
  | _ => true
def belows (m : Nat) : List SV → Bool
  | [] => true
  | s :: r => match below m s with | true => belows m r | false => false
end
mutual
theorem below_ment {m k : Nat} : ∀ (s : SV), below m s = true → ment k s = true → k < m
  | .v _, _, h => by cases h
  | .ba .., _, h => by cases h
  | .fs .., _, h => by cases h
  | .pf .., _, h => by cases h
  | .top, _, h => by cases h
  | .pb j _, h, g => by simp only [below, ment] at h g; rw [← Nat.eq_of_beq_eq_true g]; simpa using h
  | .pe _ j _ _, h, g => by simp only [below, ment] at h g; rw [← Nat.eq_of_beq_eq_true g]; simpa using h
  | .ov _ j _ _, h, g => by simp only [below, ment] at h g; rw [← Nat.eq_of_beq_eq_true g]; simpa using h
  | .sb j _ _ _, h, g => by simp only [below, ment] at h g; rw [← Nat.eq_of_beq_eq_true g]; simpa using h
  | .agg cs, h, g => by simp only [below, ment] at h g; exact belows_ment cs h g
  | .clo _ cs, h, g => by simp only [below, ment] at h g; exact belows_ment cs h g
  | .tup cs, h, g => by simp only [below, ment] at h g; exact belows_ment cs h g
theorem belows_ment {m k : Nat} : ∀ (cs : List SV), belows m cs = true → ments k cs = true → k < m
  | [], _, h => by cases h
  | s :: r, h, g => by
    simp only [belows] at h
    simp only [ments] at g
    split at h
    · rename_i h1
      split at g
      · rename_i g1; exact below_ment s h1 g1
      · exact belows_ment r h g
    · cases h
end
def belowB (m : Nat) : OB → Bool
  | .cells s => below m s
  | _ => true

def Cx.upto (cx : Cx) (m : Nat) : Cx := ⟨fun k => if k < m then cx.bl k else none, cx.O⟩
theorem ren_upto {cx : Cx} {m : Nat} {w : World} {M : Nat → Prop} (h : ∀ k, M k → k < m) : Ren (fun k => k) M cx w (cx.upto m) :=
  ⟨fun k x hm hx => by simp [Cx.upto, h k hm, hx], fun _ _ h => h⟩
theorem RelC.upto {cx : Cx} {m : Nat} {w : World} {s : SV} {vs : List Value} (h : RelC cx w s vs) (hb : Fw.below m s = true) : RelC (cx.upto m) w s vs := by
  have := h.ren (g := fun k => k) (ren_upto (m := m) fun k hk => below_ment s hb hk)
  rwa [ren_id] at this
theorem RelV.upto {cx : Cx} {m : Nat} {w : World} {s : SV} {v : Value} (h : RelV cx w s v) (hb : below m s = true) : RelV (cx.upto m) w s v := by
  have := h.ren (g := fun k => k) (ren_upto (m := m) fun k hk => below_ment s hb hk)
  rwa [ren_id] at this

theorem mem_upto {cx : Cx} {w : World} {h : List OB} {m : Nat} (hm : Mem cx w (nthB h)) (hb : ∀ ob ∈ h.take m, belowB m ob = true) : Mem (cx.upto m) w (nthB (h.take m)) := by
  have low : ∀ k ob, nthB (h.take m) k = some ob → k < m ∧ nthB h k = some ob := by
    intro k ob hk
    rw [nthB_eq, List.getElem?_take] at hk
    split at hk
    · rename_i hlt; exact ⟨hlt, by rw [nthB_eq]; exact hk⟩
    · cases hk
  have eb : ∀ k, k < m → (cx.upto m).bl k = cx.bl k := fun k hk => by simp [Cx.upto, hk]
  refine ⟨fun k ob hk => ?_, fun j j' ob ob' b C C' h1 h2 n1 n2 b1 b2 => ?_, fun j hj => ?_, hm.lt⟩
  · obtain ⟨hlt, hk2⟩ := low k ob hk
    have hl := hm.live k ob hk2
    have hbo := hb ob (by rw [nthB_eq] at hk; exact List.mem_of_getElem? hk)
    cases ob with
    | gone => trivial
    | cells s =>
      rcases hl with ⟨b, C, h1, h2, vs, T, h3, h4⟩ | ⟨_, E, h2⟩
      · exact .inl ⟨b, C, by rw [eb k hlt]; exact h1, h2, vs, T, h3, h4.upto hbo⟩
      · cases h2
    | arr E rows =>
      rcases hl with ⟨b, C, h1, h2, h3⟩ | ⟨h1, h2⟩
      · exact .inl ⟨b, C, by rw [eb k hlt]; exact h1, h2, h3⟩
      · exact .inr ⟨by rw [eb k hlt]; exact h1, h2⟩
  · obtain ⟨l1, h1⟩ := low _ _ h1
    obtain ⟨l2, h2⟩ := low _ _ h2
    rw [eb _ l1] at b1
    rw [eb _ l2] at b2
    exact hm.inj _ _ _ _ _ _ _ h1 h2 n1 n2 b1 b2
  · simp only [Cx.upto]
    split
    · rename_i hlt
      refine hm.dom j ?_
      rw [nthB_eq, List.getElem?_take, if_pos hlt] at hj
      rw [nthB_eq]; exact hj
    · rfl
theorem fr_upto {keep : Nat → Prop} {cx0 cx : Cx} {w0 w : World} {m : Nat} (hf : Fr keep cx0 w0 cx w) (hk : ∀ k, keep k → k < m) : Fr keep cx0 w0 (cx.upto m) w := by
  refine ⟨hf.le, hf.same, hf.own, hf.old, fun k b C h => ?_, fun k hk2 => ?_, hf.wk⟩
  · simp only [Cx.upto] at h
    split at h
    · exact hf.blk k b C h
    · cases h
  · simp only [Cx.upto, if_pos (hk k hk2)]
    exact hf.keep k hk2

/-- The end of a body: what is left of its blocks, and of its result. -/
def Out (n0 : Nat) (s : SV) (h : List OB) (r : SV) (hp' : List OB) : Prop :=
  ∀ (keep : Nat → Prop) (cx0 cx : Cx) (w0 w : World) (v : Value), (∀ k, keep k → k < n0) → RelV cx w s v → Mem cx w (nthB h) → Fr keep cx0 w0 cx w →
    ∃ cx', RelV cx' w r v ∧ Mem cx' w (nthB hp') ∧ Fr keep cx0 w0 cx' w
theorem Out.refl {n0 : Nat} {s : SV} {h : List OB} : Out n0 s h s h := fun _ _ cx _ _ _ _ h1 h2 h3 => ⟨cx, h1, h2, h3⟩
theorem Out.cut {n0 m : Nat} {s : SV} {h : List OB} (hm : n0 ≤ m) (hs : below m s = true) (hb : (h.take m).all (belowB m) = true) : Out n0 s h s (h.take m) := by
  intro keep cx0 cx w0 w v hk h1 h2 h3
  exact ⟨cx.upto m, h1.upto hs, mem_upto h2 (fun ob ho => List.all_eq_true.1 hb ob ho), fr_upto h3 fun k hk2 => Nat.lt_of_lt_of_le (hk k hk2) hm⟩

theorem Out.val {n0 : Nat} {s r : SV} {h : List OB} (hs : s = r) : Out n0 s h r h := hs ▸ .refl
theorem Out.inv {n0 : Nat} {s r : SV} {h hp' : List OB} (ho : Out n0 s h r hp') : ∀ (keep : Nat → Prop) (cx0 cx : Cx) (w0 w : World) (v : Value), (∀ k, keep k → k < n0) → RelV cx w s v → Mem cx w (nthB h) → Fr keep cx0 w0 cx w →
    ∃ cx', RelV cx' w r v ∧ Mem cx' w (nthB hp') ∧ Fr keep cx0 w0 cx' w := ho
theorem Out.both {n0 : Nat} {s r : SV} {h hp' : List OB} (hs : s = r) (hh : h = hp') : Out n0 s h r hp' := hs ▸ hh ▸ .refl
theorem Out.none {s r : SV} {h : List OB} (hs : s = r) (hb : below 0 r = true) : Out 0 s h r [] := by
  subst hs
  have := Out.cut (n0 := 0) (m := 0) (h := h) (Nat.le_refl 0) hb (by simp)
  simpa using this
theorem Out.keep {n0 : Nat} {s r : SV} {h : List OB} (m : Nat) {hp' : List OB} (hs : s = r) (hh : h.take m = hp') (hm : n0 ≤ m) (hb : below m r = true) (hb2 : hp'.all (belowB m) = true) : Out n0 s h r hp' := by
  subst hs hh
  exact Out.cut hm hb hb2
attribute [irreducible] Out

/-- The same for a state: blocks that are not named any more. -/
theorem Sub.cut {n : Sz} {e : List (Nat × SV)} {h : List OB} {m : Nat} (hm : n.n0 ≤ m) (he : e.all (fun p => below m p.2) = true) (hb : (h.take m).all (belowB m) = true) : Sub n e h e (h.take m) := by
  intro B cx a w hB hs
  refine ⟨cx.upto m, hs.df, hs.sz, fun t s ht => ?_, mem_upto hs.mem (fun ob ho => List.all_eq_true.1 hb ob ho), fr_upto hs.fr fun k hk => ?_⟩
  · obtain ⟨v, h1, h2⟩ := hs.sl t s ht
    refine ⟨v, h1, h2.upto ?_⟩
    have mem : ∀ (e : List (Nat × SV)), lk e t = some s → (t, s) ∈ e := by
      intro e
      induction e with
      | nil => intro h; cases h
      | cons p r ih =>
        obtain ⟨t', s'⟩ := p
        intro h
        rw [lk_cons_if] at h
        split at h
        · rename_i he; subst he; cases h; exact List.mem_cons_self
        · exact List.mem_cons_of_mem _ (ih h)
    exact List.all_eq_true.1 he (t, s) (mem e ht)
  · have := B.kn k hk
    rw [hB] at this
    omega

/-- To another state: these slots, and the first m blocks. -/
theorem Sub.go {n : Sz} {e e' : List (Nat × SV)} {h h' : List OB} (m : Nat) (hw : within e e') (hh : h.take m = h') (hm : n.n0 ≤ m) (he : e'.all (fun p => below m p.2) = true) (hb : h'.all (belowB m) = true) : Sub n e h e' h' := by
  subst hh
  exact (Sub.env (within_sound hw)).trans (Sub.cut hm he hb)

def lkT : List (Nat × TI) → Nat → TI
  | [], _ => .none
  | (j, ti) :: r, t => match Nat.beq j t with | true => ti | false => lkT r t
def TIoks (P : Program) : List (Nat × TI) → Prop
  | [] => True
  | (t, ti) :: r => TIok P t ti ∧ TIoks P r
theorem lkT_ok {P : Program} : ∀ {l : List (Nat × TI)}, TIoks P l → TTok P (lkT l)
  | [], _, t => ⟨fun h => (h rfl).elim, trivial⟩
  | (j, ti) :: r, h, t => by
    simp only [lkT]
    split
    · rename_i hb; rw [← Nat.eq_of_beq_eq_true hb]; exact h.1
    · exact lkT_ok h.2 t

def envOf : Nat → List SV → List (Nat × SV)
  | _, [] => []
  | j, s :: r => (j, s) :: envOf (j + 1) r
theorem envOf_lk : ∀ (l : List SV) (j t : Nat) (s : SV), lk (envOf j l) t = some s → j ≤ t ∧ l[t - j]? = some s
  | [], _, _, _, h => by cases h
  | x :: r, j, t, s, h => by
    rw [envOf, lk_cons_if] at h
    split at h
    · rename_i he; subst he; cases h; simp
    · obtain ⟨h1, h2⟩ := envOf_lk r (j + 1) t s h
      refine ⟨by omega, ?_⟩
      rw [show t - j = (t - (j + 1)) + 1 by omega]
      simpa using h2
theorem RelV1.toV {cx w s v} (h : RelV1 cx w s v) : RelV cx w s v := by
  cases s <;> first | exact h | exact h.elim
theorem RelVL.get {cx w l vs} (h : RelVL cx w l vs) : vs.length = l.length ∧ ∀ (i : Nat) s, l[i]? = some s → ∃ v, vs[i]? = some v ∧ RelV cx w s v := by
  induction h with
  | nil => exact ⟨rfl, fun i s h => by simp at h⟩
  | cons h1 _ ih =>
    refine ⟨by simp [ih.1], fun i s hi => ?_⟩
    cases i with
    | zero => simp at hi; subst hi; exact ⟨_, rfl, h1.toV⟩
    | succ i => obtain ⟨v, g1, g2⟩ := ih.2 i s (by simpa using hi); exact ⟨v, by simpa using g1, g2⟩

/-- Where a result stands: in a slot, or in the cells that a slot points to. -/
inductive RV where
  | tmp (t : Nat)
  | cell (t T : Nat)
def RV.of : RV → ResultVar
  | .tmp t => .tmp t
  | .cell t T => .cell t T
def resOne (TT : Nat → TI) (e : List (Nat × SV)) (h : List OB) : RV → (SV → Prop) → Prop
  | .tmp t, K => match lk e t with | some s => K s | none => False
  | .cell t T, K => match lk e t with
    | some (.pb k p) => match nthB h k with
      | some (.cells s) => follow p s fun y => okT (ofType (TT T) y) (K y)
      | _ => False
    | _ => False
def resAll (TT : Nat → TI) (e : List (Nat × SV)) (h : List OB) : List RV → (List SV → Prop) → Prop
  | [], K => K []
  | r :: rs, K => resOne TT e h r fun s => resAll TT e h rs fun l => K (s :: l)
def fin (l : List SV) (K : SV → Prop) : Prop :=
  match l with
  | [s] => K s
  | l => okT (l.all argOK) (K (.tup l))
def retX (TT : Nat → TI) (n0 : Nat) (ts : List RV) (R : SV → List OB → Prop) : Exit → List (Nat × SV) → List OB → Prop := fun x e h =>
  match x with
  | .ret => resAll TT e h ts fun l => fin l fun s => ∃ r hp', R r hp' ∧ Out n0 s h r hp'
  | _ => False
def retK (TT : Nat → TI) (n0 : Nat) (ts : List RV) (r : SV) (hp' : List OB) : Exit → List (Nat × SV) → List OB → Prop := fun x e h =>
  match x with
  | .ret => resAll TT e h ts fun l => fin l fun s => Out n0 s h r hp'
  | _ => False

section
variable {P : Program} {TT : Nat → TI}
def evRes (tmps : Array Value) : ResultVar → Sem Value
  | .tmp t => pure (tmps.getD t undef)
  | .cell a t => do loadVar t (← asAddr (tmps.getD a undef))
theorem resOne_sound (hT : TTok P TT) {e : List (Nat × SV)} {h : List OB} : ∀ {r : RV} {K : SV → Prop}, resOne TT e h r K → ∃ s, K s ∧ ∀ (B : Base) (cx : Cx) (a : Act) (w : World), Sat B cx e h a w → ∃ v, (evRes a.tmps r.of).run P w = .ok v w ∧ RelV cx w s v
  | .tmp t, K, hk => by
    simp only [resOne] at hk
    split at hk
    · rename_i s hs
      refine ⟨s, hk, fun B cx a w hsat => ?_⟩
      obtain ⟨v, h1, h2⟩ := hsat.sl t s hs
      exact ⟨v, by simp [evRes, RV.of, h1], h2⟩
    · exact hk.elim
  | .cell t T, K, hk => by
    simp only [resOne] at hk
    split at hk
    · rename_i k p hs
      split at hk
      · rename_i s0 hs0
        obtain ⟨y, hk, hle, hy⟩ := follow_sound _ _ _ hk
        obtain ⟨hty, hk⟩ := okT_of hk
        refine ⟨y, hk, fun B cx a w hsat => ?_⟩
        obtain ⟨v, h1, h2⟩ := hsat.sl t _ hs
        have h2 : RelC cx w (.pb k p) [v] := h2
        cases h2 with
        | pb hb =>
          rcases hsat.mem.live k _ hs0 with ⟨b', C', hb', _, vs, T', hh, hrc⟩ | ⟨_, _, hb'⟩
          · rw [hb] at hb'; cases hb'
            obtain ⟨u, h3, h4⟩ := run_load_rel (hT T) hty (hy cx w vs hrc) (fun j u hu => block_cells hh j u hu)
            exact ⟨u, by simp [evRes, RV.of, h1, asAddr, h3], h4⟩
          · cases hb'
      · exact hk.elim
    · exact hk.elim
theorem resAll_sound (hT : TTok P TT) {e : List (Nat × SV)} {h : List OB} : ∀ {rs : List RV} {K : List SV → Prop}, resAll TT e h rs K → ∃ l, K l ∧ l.length = rs.length ∧ ∀ (B : Base) (cx : Cx) (a : Act) (w : World), Sat B cx e h a w →
    ∃ vs : List Value, vs.length = rs.length ∧ ((rs.map RV.of).mapM (evRes a.tmps)).run P w = .ok vs w ∧ ∀ (i : Nat) s v, l[i]? = some s → vs[i]? = some v → RelV cx w s v
  | [], K, hk => ⟨[], hk, rfl, fun B cx a w _ => ⟨[], rfl, by simp, fun i s v h => by simp at h⟩⟩
  | r :: rs, K, hk => by
    obtain ⟨s, hk, h1⟩ := resOne_sound hT hk
    obtain ⟨l, hk, hl, h2⟩ := resAll_sound hT hk
    refine ⟨_, hk, by simp [hl], fun B cx a w hsat => ?_⟩
    obtain ⟨v, h3, h4⟩ := h1 B cx a w hsat
    obtain ⟨vs, h5, h6, h7⟩ := h2 B cx a w hsat
    refine ⟨v :: vs, by simp [h5], by simp only [List.map_cons, List.mapM_cons, Sem.run_bind, h3, Result.andThen_ok, h6, Sem.run_pure], fun i s v h8 h9 => ?_⟩
    cases i with
    | zero => simp at h8 h9; subst h8 h9; exact h4
    | succ i => exact h7 i s v (by simpa using h8) (by simpa using h9)
theorem run_results {fn : Func} {rs : List RV} (hres : fn.results = (rs.map RV.of).toArray) {tmps : Array Value} {w : World} {vs : List Value} (hr : ((rs.map RV.of).mapM (evRes tmps)).run P w = .ok vs w) :
    (results fn tmps).run P w = .ok (if h : vs.length = 1 then vs[0] else .tuple vs.toArray) w := by
  have e : (fn.results.mapM (evRes tmps)).run P w = .ok vs.toArray w := by
    rw [hres, List.mapM_toArray, Sem.run_map, hr]; rfl
  have e2 : results fn tmps = (do let vs ← fn.results.mapM (evRes tmps); pure (if h : vs.size = 1 then vs[0] else .tuple vs) : Sem Value) := by
    unfold results
    congr 1
  rw [e2]
  simp only [Sem.run_bind, e, Result.andThen_ok, Sem.run_pure, List.size_toArray]
  rfl

theorem fin_inv {l : List SV} {K : SV → Prop} (h : fin l K) : ∃ s, ((∃ x, l = [x] ∧ s = x) ∨ (l.length ≠ 1 ∧ s = .tup l ∧ l.all argOK = true)) ∧ K s := by
  unfold fin at h
  split at h
  · rename_i s; exact ⟨s, .inl ⟨s, rfl, rfl⟩, h⟩
  · rename_i hne
    obtain ⟨h1, h2⟩ := okT_of h
    refine ⟨_, .inr ⟨fun hl => ?_, rfl, h1⟩, h2⟩
    obtain ⟨x, rfl⟩ := list_one hl.symm
    exact hne x rfl
theorem fin_mono {l : List SV} {K K' : SV → Prop} (hk : ∀ s, K s → K' s) (h : fin l K) : fin l K' := by
  unfold fin at h ⊢
  split at h
  · exact hk _ h
  · obtain ⟨h1, h2⟩ := okT_of h
    exact okT_iff.2 ⟨h1, hk _ h2⟩
/-- The body is run; whatever it ends in is the function's result. -/
theorem spec_of_wpd (hT : TTok P TT) {f : FuncId} {fn : Func} {c : Code} {args : List SV} {hp : List OB} {R : SV → List OB → Prop} {ts : List RV} (N : Nat) (hf : P.funcs[f]? = some fn)
    (hname : (fn.name == "runtime.NumGoroutine") = false) (hb : fn.body = some c) (hN : fn.ntmps = N) (hlen : args.length ≤ N) (hres : fn.results = (ts.map RV.of).toArray)
    (h : WPd P ⟨N, hp.length⟩ c (envOf 0 args) hp (retX TT hp.length ts R)) : ∃ r hp', R r hp' ∧ Con P f args hp r hp' := by
  obtain ⟨x, e', h', hk, hw⟩ := h
  unfold retX at hk
  split at hk
  case h_2 => exact hk.elim
  obtain ⟨l, hk, hll, hres2⟩ := resAll_sound hT hk
  obtain ⟨s0, hs0, r, hp', hR, hout⟩ := fin_inv hk
  refine ⟨r, hp', hR, ⟨fn, hf, hname, by rw [hb]; rfl⟩, fun cx w vals hm hv => ?_⟩
  obtain ⟨hvl, hvg⟩ := hv.get
  refine calls_of_wp hf hb ?_
  let B : Base := ⟨⟨N, hp.length⟩, cx, w, isCells (nthB hp), fun k ⟨s, hk⟩ => by
    rcases hm.live k _ hk with ⟨b, C, h1, _⟩ | ⟨h1, _⟩ <;> rw [h1] <;> simp, fun k ⟨s, hk⟩ => by
    rw [nthB_eq] at hk; exact (List.getElem?_eq_some_iff.1 hk).1⟩
  refine hw B cx _ w _ rfl ⟨rfl, ?_, fun t s ht => ?_, hm, ⟨Nat.le_refl _, fun _ _ _ => rfl, fun _ h => .inl h, fun _ _ h => h, fun _ _ _ h => .inl h, fun _ _ => rfl, .refl w⟩⟩ ?_
  · simp [hvl, hN, B]; omega
  · obtain ⟨h1, h2⟩ := envOf_lk args 0 t s ht
    obtain ⟨v, h3, h4⟩ := hvg t s (by simpa using h2)
    refine ⟨v, ?_, h4⟩
    have : t < vals.length := (List.getElem?_eq_some_iff.1 h3).1
    simp only
    rw [Array.getElem?_append_left (by simpa using this)]
    simpa using h3
  · intro cx' a' w' hs'
    obtain ⟨vs, hvs, hrun, hrel⟩ := hres2 B cx' a' w' hs'
    have hrun2 := run_results hres hrun
    have hval : RelV cx' w' s0 (if h : vs.length = 1 then vs[0] else .tuple vs.toArray) := by
      rcases hs0 with ⟨x, rfl, rfl⟩ | ⟨hne, rfl, hok⟩
      · have hone : vs.length = 1 := by simpa using hvs.trans hll.symm
        rw [dif_pos hone]
        obtain ⟨v, rfl⟩ := list_one hone.symm
        exact hrel 0 _ v rfl rfl
      · rw [dif_neg (by omega)]
        refine ⟨vs, rfl, relVL_of (by omega) fun i s v h1 h2 => ?_⟩
        have h3 := hrel i s v h1 h2
        have hok2 : argOK s = true := List.all_eq_true.1 hok s (List.mem_of_getElem? h1)
        cases s <;> first | exact h3 | (simp [argOK] at hok2)
    obtain ⟨cx2, g1, g2, g3⟩ := hout.inv B.keep cx cx' w w' _ B.kn hval hs'.mem hs'.fr
    exact bodyPost_ret hrun2 hs'.df ⟨cx2, _, rfl, g1, g2, g3⟩
theorem spec_of_exec_ex (hT : TTok P TT) (hmix : P.follows .mixedOrders = true) {f : FuncId} {fn : Func} {c : Code} {T0 : Nat} {args : List SV} {hp : List OB} {R : SV → List OB → Prop} {ts : List RV} (N : Nat) (hf : P.funcs[f]? = some fn)
    (hname : (fn.name == "runtime.NumGoroutine") = false) (hb : fn.body = some c) (hN : fn.ntmps = N) (hlen : args.length ≤ N) (hres : fn.results = (ts.map RV.of).toArray)
    (h : exec P TT T0 ⟨N, hp.length⟩ c (envOf 0 args) hp (retX TT hp.length ts R)) : ∃ r hp', R r hp' ∧ Con P f args hp r hp' :=
  spec_of_wpd hT N hf hname hb hN hlen hres (exec_sound hT hmix c h)
theorem okT_mono {b : Bool} {K K' : Prop} (h : okT b K) (hk : K → K') : okT b K' := by
  cases b
  · exact h
  · exact hk h
theorem resAll_mono {e : List (Nat × SV)} {h : List OB} {K K' : List SV → Prop} (hk : ∀ l, K l → K' l) : ∀ {rs : List RV}, resAll TT e h rs K → resAll TT e h rs K' := by
  intro rs
  induction rs generalizing K K' with
  | nil => exact hk []
  | cons r rs ih =>
    simp only [resAll]
    have one : ∀ {K K' : SV → Prop}, (∀ s, K s → K' s) → resOne TT e h r K → resOne TT e h r K' := by
      intro K K' hk hr
      cases r <;> simp only [resOne] at hr ⊢ <;> split at hr <;> first | exact hr.elim | skip
      · rename_i hs; exact hk _ hr
      · split at hr <;> first | exact hr.elim | skip
        have fm : ∀ (p : List PS) (s : SV) {K K' : SV → Prop}, (∀ s, K s → K' s) → follow p s K → follow p s K' := by
          intro p
          induction p with
          | nil => intro s K K' hk h; exact hk _ h
          | cons x p ih =>
            intro s K K' hk h
            cases x <;> simp only [follow] at h ⊢ <;> split at h <;> first | exact h.elim | skip
            · split at h
              · split at h
                · exact ih _ hk h
                · exact h.elim
              · exact h.elim
            · split at h
              · split at h
                · rw [need_iff] at h ⊢; exact ⟨h.1, hk _ h.2⟩
                · exact h.elim
              · exact h.elim
            · rw [need_iff] at h ⊢
              obtain ⟨h0, h⟩ := h
              refine ⟨h0, ?_⟩
              rw [elem_iff] at h ⊢
              obtain ⟨s, h1, h2⟩ := h
              exact ⟨s, h1, ih _ hk h2⟩
        exact fm _ _ (fun s h => okT_mono h (hk s)) hr
    exact one fun s hr => ih (fun l => hk (s :: l)) hr
theorem spec_of_exec (hT : TTok P TT) (hmix : P.follows .mixedOrders = true) {f : FuncId} {fn : Func} {c : Code} {T0 : Nat} {args : List SV} {hp hp' : List OB} {r : SV} {ts : List RV} (N : Nat) (hf : P.funcs[f]? = some fn)
    (hname : (fn.name == "runtime.NumGoroutine") = false) (hb : fn.body = some c) (hN : fn.ntmps = N) (hlen : args.length ≤ N) (hres : fn.results = (ts.map RV.of).toArray)
    (h : exec P TT T0 ⟨N, hp.length⟩ c (envOf 0 args) hp (retK TT hp.length ts r hp')) : Con P f args hp r hp' := by
  obtain ⟨x, e', h', hk, hw⟩ := exec_sound hT hmix c h
  have h2 : WPd P ⟨N, hp.length⟩ c (envOf 0 args) hp (retX TT hp.length ts fun r2 hp2 => r2 = r ∧ hp2 = hp') := by
    refine ⟨x, e', h', ?_, hw⟩
    unfold retK at hk
    unfold retX
    split at hk
    · exact resAll_mono (fun l h => fin_mono (fun s h => ⟨r, hp', ⟨rfl, rfl⟩, h⟩) h) hk
    · exact hk.elim
  obtain ⟨r2, hp2, ⟨rfl, rfl⟩, hc⟩ := spec_of_wpd hT N hf hname hb hN hlen hres h2
  exact hc

/-- A law: its contract, at the arguments that it is given, with nothing owned. -/
theorem lift_bool {f : FuncId} {args : List SV} {vals : Array Value} {w : World} (h : Con P f args [] (.v (.bool true)) []) (hv : RelVL ⟨fun _ => none, fun _ => False⟩ w args vals.toList) :
    Calls P f vals w fun e w' => e = .returned (.bool true) ∧ RowKit.Grown w w' := by
  have hm : Mem ⟨fun _ => none, fun _ => False⟩ w (nthB []) := ⟨fun k ob hk => by simp [nthB] at hk, fun k k' ob ob' b C C' h => by simp [nthB] at h, fun _ _ => rfl, fun _ h => h.elim⟩
  have := h.2 _ w vals.toList hm hv
  rw [Array.toArray_toList] at this
  refine this.mono ?_
  rintro e w' ⟨cx', v, rfl, hr, _, hf⟩
  rw [relV_v hr]
  refine ⟨rfl, ⟨hf.wk.os, hf.wk.out, fun i hi => ?_⟩, hf.wk.fz, hf.le⟩
  rw [hf.same i hi (fun k C h => by cases h)]
  cases w.heap[i]? with
  | none => trivial
  | some o => cases o <;> simp
end
end Go.Fw
