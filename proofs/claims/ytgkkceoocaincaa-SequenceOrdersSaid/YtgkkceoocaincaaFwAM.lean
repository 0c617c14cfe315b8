/- From the run of a body to the function's contract. -/
import Derived.Test.YtgkkceoocaincaaFwAL
namespace Go.Fw

mutual
theorem ren_id : ∀ (s : SV), ren (fun k => k) s = s
  | .v _ => rfl
  | .ba .. => rfl
  | .fs .. => rfl
  | .pf .. => rfl
  | .top => rfl
  | .ov .. => rfl
  | .sb .. => rfl
  | .pb .. => rfl
  | .pe .. => rfl
  | .clo _ cs => by simp only [ren, rens_id cs]
  | .agg cs => by simp only [ren, rens_id cs]
  | .tup cs => by simp only [ren, rens_id cs]
theorem rens_id : ∀ (cs : List SV), rens (fun k => k) cs = cs
  | [] => rfl
  | s :: r => by simp only [rens, ren_id s, rens_id r]
end

mutual
/-- Only blocks below m are named. -/
def below (m : Nat) : SV → Bool
  | .pb j _ => Nat.blt j m
  | .pe _ j _ _ => Nat.blt j m
  | .ov _ j _ _ => Nat.blt j m
  | .sb j _ _ _ => Nat.blt j m
  | .agg cs => belows m cs
  | .clo _ cs => belows m cs
  | .tup cs => belows m cs
  | _ => true
def belows (m : Nat) : List SV → Bool
  | [] => true
  | s :: r => match below m s with | true => belows m r | false => false
end
mutual
theorem below_ment {m k : Nat} : ∀ (s : SV), below m s = true → ment k s = true → k < m
  | .v _, _, h => by cases h
  | .ba .., _, h => by cases h
  | .fs .., _, h => by cases h
  | .pf .., _, h => by cases h
  | .top, _, h => by cases h
  | .pb j _, h, g => by simp only [below, ment] at h g; rw [← Nat.eq_of_beq_eq_true g]; simpa using h
  | .pe _ j _ _, h, g => by simp only [below, ment] at h g; rw [← Nat.eq_of_beq_eq_true g]; simpa using h
  | .ov _ j _ _, h, g => by simp only [below, ment] at h g; rw [← Nat.eq_of_beq_eq_true g]; simpa using h
  | .sb j _ _ _, h, g => by simp only [below, ment] at h g; rw [← Nat.eq_of_beq_eq_true g]; simpa using h
  | .agg cs, h, g => by simp only [below, ment] at h g; exact belows_ment cs h g
  | .clo _ cs, h, g => by simp only [below, ment] at h g; exact belows_ment cs h g
  | .tup cs, h, g => by simp only [below, ment] at h g; exact belows_ment cs h g
theorem belows_ment {m k : Nat} : ∀ (cs : List SV), belows m cs = true → ments k cs = true → k < m
  | [], _, h => by cases h
  | s :: r, h, g => by
    simp only [belows] at h
    simp only [ments] at g
    split at h
    · rename_i h1
      split at g
      · rename_i g1; exact below_ment s h1 g1
      · exact belows_ment r h g
    · cases h
end
def belowB (m : Nat) : OB → Bool
  | .cells s => below m s
  | _ => true

def Cx.upto (cx : Cx) (m : Nat) : Cx := ⟨fun k => if k < m then cx.bl k else none, cx.O⟩
theorem ren_upto {cx : Cx} {m : Nat} {w : World} {M : Nat → Prop} (h : ∀ k, M k → k < m) : Ren (fun k => k) M cx w (cx.upto m) :=
  ⟨fun k x hm hx => by simp [Cx.upto, h k hm, hx], fun _ _ h => h⟩
theorem RelC.upto {cx : Cx} {m : Nat} {w : World} {s : SV} {vs : List Value} (h : RelC cx w s vs) (hb : Fw.below m s = true) : RelC (cx.upto m) w s vs := by
  have := h.ren (g := fun k => k) (ren_upto (m := m) fun k hk => below_ment s hb hk)
  rwa [ren_id] at this
theorem RelV.upto {cx : Cx} {m : Nat} {w : World} {s : SV} {v : Value} (h : RelV cx w s v) (hb : below m s = true) : RelV (cx.upto m) w s v := by
  have := h.ren (g := fun k => k) (ren_upto (m := m) fun k hk => below_ment s hb hk)
  rwa [ren_id] at this

theorem mem_upto {cx : Cx} {w : World} {h : List OB} {m : Nat} (hm : Mem cx w (nthB h)) (hb : ∀ ob ∈ h.take m, belowB m ob = true) : Mem (cx.upto m) w (nthB (h.take m)) := by
  have low : ∀ k ob, nthB (h.take m) k = some ob → k < m ∧ nthB h k = some ob := by
    intro k ob hk
    rw [nthB_eq, List.getElem?_take] at hk
    split at hk
    · rename_i hlt; exact ⟨hlt, by rw [nthB_eq]; exact hk⟩
    · cases hk
  have eb : ∀ k, k < m → (cx.upto m).bl k = cx.bl k := fun k hk => by simp [Cx.upto, hk]
  refine ⟨fun k ob hk => ?_, fun j j' ob ob' b C C' h1 h2 n1 n2 b1 b2 => ?_, fun j hj => ?_, hm.lt⟩
  · obtain ⟨hlt, hk2⟩ := low k ob hk
    have hl := hm.live k ob hk2
    have hbo := hb ob (by rw [nthB_eq] at hk; exact List.mem_of_getElem? hk)
    cases ob with
    | gone => trivial
    | cells s =>
      rcases hl with ⟨b, C, h1, h2, vs, T, h3, h4⟩ | ⟨_, E, h2⟩
      · exact .inl ⟨b, C, by rw [eb k hlt]; exact h1, h2, vs, T, h3, h4.upto hbo⟩
      · cases h2
    | arr E rows =>
      rcases hl with ⟨b, C, h1, h2, h3⟩ | ⟨h1, h2⟩
      · exact .inl ⟨b, C, by rw [eb k hlt]; exact h1, h2, h3⟩
      · exact .inr ⟨by rw [eb k hlt]; exact h1, h2⟩
  · obtain ⟨l1, h1⟩ := low _ _ h1
    obtain ⟨l2, h2⟩ := low _ _ h2
    rw [eb _ l1] at b1
    rw [eb _ l2] at b2
    exact hm.inj _ _ _ _ _ _ _ h1 h2 n1 n2 b1 b2
  · simp only [Cx.upto]
    split
    · rename_i hlt
      refine hm.dom j ?_
      rw [nthB_eq, List.getElem?_take, if_pos hlt] at hj
      rw [nthB_eq]; exact hj
    · rfl
theorem fr_upto {keep : Nat → Prop} {cx0 cx : Cx} {w0 w : World} {m : Nat} (hf : Fr keep cx0 w0 cx w) (hk : ∀ k, keep k → k < m) : Fr keep cx0 w0 (cx.upto m) w := by
  refine ⟨hf.le, hf.same, hf.own, hf.old, fun k b C h => ?_, fun k hk2 => ?_, hf.wk⟩
  · simp only [Cx.upto] at h
    split at h
    · exact hf.blk k b C h
    · cases h
  · simp only [Cx.upto, if_pos (hk k hk2)]
    exact hf.keep k hk2

/-- The end of a body: what is left of its blocks, and of its result. -/
def Out (n0 : Nat) (s : SV) (h : List OB) (r : SV) (hp' : List OB) : Prop :=
  ∀ (keep : Nat → Prop) (cx0 cx : Cx) (w0 w : World) (v : Value), (∀ k, keep k → k < n0) → RelV cx w s v → Mem cx w (nthB h) → Fr keep cx0 w0 cx w →
    ∃ cx', RelV cx' w r v ∧ Mem cx' w (nthB hp') ∧ Fr keep cx0 w0 cx' w
theorem Out.refl {n0 : Nat} {s : SV} {h : List OB} : Out n0 s h s h := fun _ _ cx _ _ _ _ h1 h2 h3 => ⟨cx, h1, h2, h3⟩
theorem Out.cut {n0 m : Nat} {s : SV} {h : List OB} (hm : n0 ≤ m) (hs : below m s = true) (hb : (h.take m).all (belowB m) = true) : Out n0 s h s (h.take m) := by
  intro keep cx0 cx w0 w v hk h1 h2 h3
  exact ⟨cx.upto m, h1.upto hs, mem_upto h2 (fun ob ho => List.all_eq_true.1 hb ob ho), fr_upto h3 fun k hk2 => Nat.lt_of_lt_of_le (hk k hk2) hm⟩

theorem Out.val {n0 : Nat} {s r : SV} {h : List OB} (hs : s = r) : Out n0 s h r h := hs ▸ .refl
theorem Out.inv {n0 : Nat} {s r : SV} {h hp' : List OB} (ho : Out n0 s h r hp') : ∀ (keep : Nat → Prop) (cx0 cx : Cx) (w0 w : World) (v : Value), (∀ k, keep k → k < n0) → RelV cx w s v → Mem cx w (nthB h) → Fr keep cx0 w0 cx w →
    ∃ cx', RelV cx' w r v ∧ Mem cx' w (nthB hp') ∧ Fr keep cx0 w0 cx' w := ho
theorem Out.none {s r : SV} {h : List OB} (hs : s = r) (hb : below 0 r = true) : Out 0 s h r [] := by
  subst hs
  have := Out.cut (n0 := 0) (m := 0) (h := h) (Nat.le_refl 0) hb (by simp)
  simpa using this
attribute [irreducible] Out

/-- The same for a state: blocks that are not named any more. -/
theorem Sub.cut {n : Sz} {e : List (Nat × SV)} {h : List OB} {m : Nat} (hm : n.n0 ≤ m) (he : e.all (fun p => below m p.2) = true) (hb : (h.take m).all (belowB m) = true) : Sub n e h e (h.take m) := by
  intro B cx a w hB hs
  refine ⟨cx.upto m, hs.df, hs.sz, fun t s ht => ?_, mem_upto hs.mem (fun ob ho => List.all_eq_true.1 hb ob ho), fr_upto hs.fr fun k hk => ?_⟩
  · obtain ⟨v, h1, h2⟩ := hs.sl t s ht
    refine ⟨v, h1, h2.upto ?_⟩
    have mem : ∀ (e : List (Nat × SV)), lk e t = some s → (t, s) ∈ e := by
      intro e
      induction e with
      | nil => intro h; cases h
      | cons p r ih =>
        obtain ⟨t', s'⟩ := p
        intro h
        rw [lk_cons_if] at h
        split at h
        · rename_i he; subst he; cases h; exact List.mem_cons_self
        · exact List.mem_cons_of_mem _ (ih h)
    exact List.all_eq_true.1 he (t, s) (mem e ht)
  · have := B.kn k hk
    rw [hB] at this
    omega

def lkT : List (Nat × TI) → Nat → TI
  | [], _ => .none
  | (j, ti) :: r, t => match Nat.beq j t with | true => ti | false => lkT r t
def TIoks (P : Program) : List (Nat × TI) → Prop
  | [] => True
  | (t, ti) :: r => TIok P t ti ∧ TIoks P r
theorem lkT_ok {P : Program} : ∀ {l : List (Nat × TI)}, TIoks P l → TTok P (lkT l)
  | [], _, t => ⟨fun h => (h rfl).elim, trivial⟩
  | (j, ti) :: r, h, t => by
    simp only [lkT]
    split
    · rename_i hb; rw [← Nat.eq_of_beq_eq_true hb]; exact h.1
    · exact lkT_ok h.2 t

def envOf : Nat → List SV → List (Nat × SV)
  | _, [] => []
  | j, s :: r => (j, s) :: envOf (j + 1) r
theorem envOf_lk : ∀ (l : List SV) (j t : Nat) (s : SV), lk (envOf j l) t = some s → j ≤ t ∧ l[t - j]? = some s
  | [], _, _, _, h => by cases h
  | x :: r, j, t, s, h => by
    rw [envOf, lk_cons_if] at h
    split at h
    · rename_i he; subst he; cases h; simp
    · obtain ⟨h1, h2⟩ := envOf_lk r (j + 1) t s h
      refine ⟨by omega, ?_⟩
      rw [show t - j = (t - (j + 1)) + 1 by omega]
      simpa using h2
theorem RelV1.toV {cx w s v} (h : RelV1 cx w s v) : RelV cx w s v := by
  cases s <;> first | exact h | exact h.elim
theorem RelVL.get {cx w l vs} (h : RelVL cx w l vs) : vs.length = l.length ∧ ∀ (i : Nat) s, l[i]? = some s → ∃ v, vs[i]? = some v ∧ RelV cx w s v := by
  induction h with
  | nil => exact ⟨rfl, fun i s h => by simp at h⟩
  | cons h1 _ ih =>
    refine ⟨by simp [ih.1], fun i s hi => ?_⟩
    cases i with
    | zero => simp at hi; subst hi; exact ⟨_, rfl, h1.toV⟩
    | succ i => obtain ⟨v, g1, g2⟩ := ih.2 i s (by simpa using hi); exact ⟨v, by simpa using g1, g2⟩

def retK (n0 : Nat) (ts : List Nat) (r : SV) (hp' : List OB) : Exit → List (Nat × SV) → List OB → Prop := fun x e h =>
  match x with
  | .ret => opds e (ts.map .tmp) fun l => match l with
    | [s] => Out n0 s h r hp'
    | l => okT (Nat.blt (len ts) 5 && l.all argOK) (Out n0 (.tup l) h r hp')
  | _ => False

section
variable {P : Program} {TT : Nat → TI}
theorem spec_of_exec (hT : TTok P TT) (hmix : P.follows .mixedOrders = true) {f : FuncId} {fn : Func} {c : Code} {T0 : Nat} {args : List SV} {hp hp' : List OB} {r : SV} {ts : List Nat} (N : Nat) (hf : P.funcs[f]? = some fn)
    (hname : (fn.name == "runtime.NumGoroutine") = false) (hb : fn.body = some c) (hN : fn.ntmps = N) (hlen : args.length ≤ N) (hres : fn.results = (ts.map fun t => ResultVar.tmp t).toArray)
    (h : exec P TT T0 ⟨N, hp.length⟩ c (envOf 0 args) hp (retK hp.length ts r hp')) : Con P f args hp r hp' := by
  refine ⟨⟨fn, hf, hname, by rw [hb]; rfl⟩, fun cx w vals hm hv => ?_⟩
  have hw := exec_sound hT hmix c h
  rw [wp_iff] at hw
  obtain ⟨hvl, hvg⟩ := hv.get
  refine calls_of_wp hf hb ?_
  let B : Base := ⟨⟨N, hp.length⟩, cx, w, isCells (nthB hp), fun k ⟨s, hk⟩ => by
    rcases hm.live k _ hk with ⟨b, C, h1, _⟩ | ⟨h1, _⟩ <;> rw [h1] <;> simp, fun k ⟨s, hk⟩ => by
    rw [nthB_eq] at hk; exact (List.getElem?_eq_some_iff.1 hk).1⟩
  refine hw B cx _ w _ rfl ⟨rfl, ?_, fun t s ht => ?_, hm, ⟨Nat.le_refl _, fun _ _ _ => rfl, fun _ h => .inl h, fun _ _ h => h, fun _ _ _ h => .inl h, fun _ _ => rfl, .refl w⟩⟩ ?_
  · simp [hvl, hN, B]; omega
  · obtain ⟨h1, h2⟩ := envOf_lk args 0 t s ht
    obtain ⟨v, h3, h4⟩ := hvg t s (by simpa using h2)
    refine ⟨v, ?_, h4⟩
    have : t < vals.length := (List.getElem?_eq_some_iff.1 h3).1
    simp only
    rw [Array.getElem?_append_left (by simpa using this)]
    simpa using h3
  · intro x e' h' cx' a' w' hk hs'
    unfold retK at hk
    split at hk
    · have done : ∀ s v, Out hp.length s h' r hp' → RelV cx' w' s v → (results fn a'.tmps).run P w' = .ok v w' → bodyPost P fn (fun e w' => ∃ cx' v, e = .returned v ∧ RelV cx' w' r v ∧ Mem cx' w' (nthB hp') ∧ Fr (isCells (nthB hp)) cx w cx' w') .ret a' w' := by
        intro s v ho hr hrun
        obtain ⟨cx2, g1, g2, g3⟩ := ho.inv B.keep cx cx' w w' v B.kn hr hs'.mem hs'.fr
        exact bodyPost_ret hrun hs'.df ⟨cx2, v, rfl, g1, g2, g3⟩
      obtain ⟨l, hl1, hl2, hk⟩ := opds_sound hk
      have hl1 : l.length = ts.length := by simpa using hl1
      by_cases hone : ts.length = 1
      · obtain ⟨t, rfl⟩ := list_one hone.symm
        obtain ⟨s, rfl⟩ := list_one (hl1.trans hone).symm
        obtain ⟨v, h1, h2⟩ := hs'.sl t s (hl2 0 (.tmp t) s rfl rfl)
        refine done s v hk h2 ?_
        rw [results_tmp (by simpa using hres)]
        simp [h1]
      · have hk : okT (Nat.blt (len ts) 5 && l.all argOK) (Out hp.length (.tup l) h' r hp') := by
          rcases l with _ | ⟨s, _ | ⟨s2, l⟩⟩
          · exact hk
          · simp at hl1; omega
          · exact hk
        obtain ⟨hall, hk⟩ := okT_of hk
        simp only [Bool.and_eq_true] at hall
        obtain ⟨h5, hall⟩ := hall
        have h5 : ts.length < 5 := by simpa [len_eq] using h5
        have hget : ∀ (i : Nat) t s, ts[i]? = some t → l[i]? = some s → ∃ v, a'.tmps[t]? = some v ∧ RelV1 cx' w' s v := by
          intro i t s h1 h2
          have h3 : lk e' t = some s := hl2 i (.tmp t) s (by simp [h1]) h2
          obtain ⟨v, h4, h5⟩ := hs'.sl t s h3
          refine ⟨v, h4, ?_⟩
          have hok : argOK s = true := List.all_eq_true.1 hall s (List.mem_of_getElem? h2)
          cases s <;> first | exact h5 | (simp [argOK] at hok)
        refine done (.tup l) (.tuple (ts.map fun t => a'.tmps.getD t undef).toArray) hk ⟨_, rfl, relVL_of (by simp [hl1]) fun i s v h1 h2 => ?_⟩ ?_
        · have hil : i < ts.length := by rw [← hl1]; exact (List.getElem?_eq_some_iff.1 h1).1
          rw [List.getElem?_map, List.getElem?_eq_getElem hil] at h2
          obtain ⟨v', h4, h5⟩ := hget i _ s (List.getElem?_eq_getElem hil) h1
          simp [h4] at h2
          rw [← h2]; exact h5
        · rcases ts with _ | ⟨t1, _ | ⟨t2, _ | ⟨t3, _ | ⟨t4, _ | ⟨t5, r⟩⟩⟩⟩⟩
          · simp [results, hres]
          · simp at hone
          · simp [results, hres]
          · simp [results, hres]
          · simp [results, hres]
          · simp at h5; omega
    · exact hk.elim

/-- A law: its contract, at the arguments that it is given, with nothing owned. -/
theorem lift_bool {f : FuncId} {args : List SV} {vals : Array Value} {w : World} (h : Con P f args [] (.v (.bool true)) []) (hv : RelVL ⟨fun _ => none, fun _ => False⟩ w args vals.toList) :
    Calls P f vals w fun e w' => e = .returned (.bool true) ∧ RowKit.Grown w w' := by
  have hm : Mem ⟨fun _ => none, fun _ => False⟩ w (nthB []) := ⟨fun k ob hk => by simp [nthB] at hk, fun k k' ob ob' b C C' h => by simp [nthB] at h, fun _ _ => rfl, fun _ h => h.elim⟩
  have := h.2 _ w vals.toList hm hv
  rw [Array.toArray_toList] at this
  refine this.mono ?_
  rintro e w' ⟨cx', v, rfl, hr, _, hf⟩
  rw [relV_v hr]
  refine ⟨rfl, ⟨hf.wk.os, hf.wk.out, fun i hi => ?_⟩, hf.wk.fz, hf.le⟩
  rw [hf.same i hi (fun k C h => by cases h)]
  cases w.heap[i]? with
  | none => trivial
  | some o => cases o <;> simp
end
end Go.Fw
