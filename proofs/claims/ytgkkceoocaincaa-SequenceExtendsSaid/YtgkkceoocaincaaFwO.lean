/- The executor is sound: operations. -/
import Derived.Test.YtgkkceoocaincaaFwS
namespace Go.Fw

def StepOK (P : Program) (o : Oper) (n : Sz) (sl : Nat → Option SV) (hp : Nat → Option OB) (rc : Rec) : Prop :=
  ∀ (B : Base) (cx : Cx) (a : Act) (w : World) (Q : Exit → Act → World → Prop) (K : Act → World → Prop), B.n = n → SatF B cx sl hp a w →
    (∀ cx' a' w', SatF B cx' (updSl sl rc.wr) (updHp hp rc.wh) a' w' → K a' w') → o.wp P a w K Q

def Agree (rc : Rec) (sl sl' : Nat → Option SV) (hp hp' : Nat → Option OB) : Prop :=
  if rc.bar = true then sl' = sl ∧ hp' = hp else (∀ t ∈ rc.rd, sl' t = sl t) ∧ (∀ k ∈ rc.rh, hp' k = hp k)

/-- The step is right in every state that agrees on what is read. -/
def OpD (P : Program) (o : Oper) (n : Sz) (sl : Nat → Option SV) (hp : Nat → Option OB) (rc : Rec) : Prop :=
  ∀ sl' hp', Agree rc sl sl' hp hp' → StepOK P o n sl' hp' rc

def OpdR (sl : Nat → Option SV) (x : Operand) (s : SV) : Prop :=
  match x with
  | .tmp t => sl t = some s
  | .const v => s = .top ∨ (v.oneCell' = true ∧ s = .v v)
  | .func f => s = .clo f []
  | .global _ => False

theorem opd_sound {e : List (Nat × SV)} {x : Operand} {K : SV → Prop} (h : opd e x K) : ∃ s, OpdR (lk e) x s ∧ K s := by
  cases x with
  | tmp t =>
    simp only [opd] at h
    split at h
    · rename_i s hs; exact ⟨s, hs, h⟩
    · exact h.elim
  | const v =>
    simp only [opd, cst] at h
    split at h <;> first | exact h.elim | exact ⟨.top, .inl rfl, h⟩ | skip
    rename_i h1 h2 h3
    refine ⟨.v v, .inr ⟨?_, rfl⟩, h⟩
    cases v <;> simp_all [Value.oneCell']
  | func f => exact ⟨.clo f [], rfl, h⟩
  | global g => exact h.elim

def Reads (sl : Nat → Option SV) (ts : List Nat) (cx : Cx) (w : World) (a : Act) : Prop :=
  ∀ t ∈ ts, ∀ s, sl t = some s → ∃ v, a.tmps[t]? = some v ∧ RelV cx w s v

theorem mem_slotsOf {t : Nat} : ∀ {l : List Operand}, Operand.tmp t ∈ l → t ∈ slotsOf l
  | [], h => by cases h
  | x :: r, h => by
    rcases List.mem_cons.1 h with h | h
    · subst h; simp [slotsOf]
    · have := mem_slotsOf h
      cases x <;> simp [slotsOf, this]

theorem OpdR.rel {sl x s ts cx w a} (h : OpdR sl x s) (hr : Reads sl ts cx w a) (hx : ∀ t, x = .tmp t → t ∈ ts) : RelV cx w s (a.eval x) := by
  cases x with
  | tmp t =>
    obtain ⟨v, h1, h2⟩ := hr t (hx t rfl) s h
    simpa [Act.eval, h1] using h2
  | const v =>
    rcases h with rfl | ⟨h1, rfl⟩
    · exact trivial
    · exact .v h1
  | func f =>
    obtain rfl := h
    exact .clo [] rfl (fun i s x h => by simp at h)
  | global g => exact h.elim

theorem opds_sound {e : List (Nat × SV)} : ∀ {l : List Operand} {K : List SV → Prop}, opds e l K → ∃ ss, ss.length = l.length ∧ (∀ (i : Nat) x s, l[i]? = some x → ss[i]? = some s → OpdR (lk e) x s) ∧ K ss
  | [], K, h => ⟨[], rfl, fun i x s h => by simp at h, h⟩
  | x :: r, K, h => by
    obtain ⟨s, h1, h2⟩ := opd_sound h
    obtain ⟨ss, h3, h4, h5⟩ := opds_sound h2
    refine ⟨s :: ss, by simp [h3], fun i y u hy hu => ?_, h5⟩
    cases i with
    | zero => simp at hy hu; subst hy hu; exact h1
    | succ i => simp at hy hu; exact h4 i y u hy hu

/-- An operand that may be left out. -/
def OptR (sl : Nat → Option SV) (o : Option Operand) (s : Option SV) : Prop := match o, s with | none, none => True | some x, some s => OpdR sl x s | _, _ => False
theorem opdo_sound {e : List (Nat × SV)} {x : Option Operand} {K : Option SV → Prop} (h : opdo e x K) :
    ∃ s, OptR (lk e) x s ∧ K s := by
  cases x with
  | none => exact ⟨none, trivial, h⟩
  | some x =>
    obtain ⟨s, h1, h2⟩ := opd_sound h
    exact ⟨some s, h1, h2⟩

theorem Reads.of_sat {B cx sl hp a w} (h : SatF B cx sl hp a w) {sl0 : Nat → Option SV} {ts : List Nat} (he : ∀ t ∈ ts, sl t = sl0 t) : Reads sl0 ts cx w a :=
  fun t ht s hs => h.sl t s (by rw [he t ht, hs])

theorem wp_value {P : Program} {o : Oper} {a : Act} {w w' : World} {K : Act → World → Prop} {Q : Exit → Act → World → Prop} {v : Value} (h : (execOp a.eval o).run P w = .ok (.value v) w') (hk : K (a.put o.dst v) w') : o.wp P a w K Q := by
  unfold Oper.wp; rw [h]; exact hk
theorem wp_skip_op {P : Program} {o : Oper} {a : Act} {w w' : World} {K : Act → World → Prop} {Q : Exit → Act → World → Prop} (h : (execOp a.eval o).run P w = .ok .skip w') (hk : K (a.put o.dst undef) w') : o.wp P a w K Q := by
  unfold Oper.wp; rw [h]; exact hk

/-- An operation that reads slots alone. -/
theorem opD_plain {P : Program} {o : Oper} {n : Sz} {sl : Nat → Option SV} {hp : Nat → Option OB} (s : SV) (hn : inFrame n o.dst = true)
    (h : ∀ (cx : Cx) (w : World) (a : Act), Reads sl (slotsOf o.op.operands.toList) cx w a → ∃ v, (execOp a.eval o).run P w = .ok (.value v) w ∧ RelV cx w s v) : OpD P o n sl hp (.plain o s) := by
  intro sl' hp' ha B cx a w Q K hB hs hK
  simp only [Agree, Rec.plain, Bool.false_eq_true, if_false] at ha
  obtain ⟨v, h1, h2⟩ := h cx w a (.of_sat hs ha.1)
  exact wp_value h1 (hK cx _ _ (by subst hB; exact hs.put h2 hn))
/-- An operation that reads slots and one owned block. -/
theorem opD_look {P : Program} {o : Oper} {n : Sz} {sl : Nat → Option SV} {hp : Nat → Option OB} (k : Nat) (ob : OB) (s : SV) (hn : inFrame n o.dst = true) (hk : hp k = some ob)
    (h : ∀ (cx : Cx) (w : World) (a : Act), Reads sl (slotsOf o.op.operands.toList) cx w a → Live cx w k ob → ∃ v, (execOp a.eval o).run P w = .ok (.value v) w ∧ RelV cx w s v) : OpD P o n sl hp (.look o k s) := by
  intro sl' hp' ha B cx a w Q K hB hs hK
  simp only [Agree, Rec.look, Bool.false_eq_true, if_false] at ha
  have hk' : hp' k = some ob := by rw [ha.2 k (by simp), hk]
  obtain ⟨v, h1, h2⟩ := h cx w a (.of_sat hs ha.1) (hs.mem.live k ob hk')
  exact wp_value h1 (hK cx _ _ (by subst hB; exact hs.put h2 hn))
/-- An operation that lays a new block. -/
theorem opD_new {P : Program} {o : Oper} {n : Sz} {sl : Nat → Option SV} {hp : Nat → Option OB} (k : Nat) (ob : OB) (s : SV) (hn : inFrame n o.dst = true) (hk : hp k = none)
    (h : ∀ (cx : Cx) (w : World) (a : Act), Reads sl (slotsOf o.op.operands.toList) cx w a → ∃ v O C, (execOp a.eval o).run P w = .ok (.value v) (w.alloc O) ∧
      (∀ cx', Ext cx w cx' (w.alloc O) → Holds cx' (w.alloc O) w.heap.size C ob) ∧
      (∀ cx', Ext cx w cx' (w.alloc O) → cx'.bl k = some (.at w.heap.size C) → RelV cx' (w.alloc O) s v)) (hg : ob ≠ .gone := by simp) : OpD P o n sl hp (.new o k ob s) := by
  intro sl' hp' ha B cx a w Q K hB hs hK
  simp only [Agree, Rec.new, Bool.false_eq_true, if_false] at ha
  have hk' : hp' k = none := by rw [ha.2 k (by simp), hk]
  obtain ⟨v, O, C, h1, h2, h3⟩ := h cx w a (.of_sat hs ha.1)
  have hbl := hs.mem.dom k hk'
  have e := ext_alloc cx w O k C hbl
  have hnk : ¬ B.keep k := fun hk2 => by
    have := hs.fr.keep k hk2
    rw [hbl] at this
    exact B.kp k hk2 this.symm
  have hz : ∃ c t, O = .cells c t (0, 0) := by
    have h4 := h2 _ e
    cases ob with
    | gone => exact absurd rfl hg
    | cells s =>
      obtain ⟨vs, T, h5, _⟩ := h4
      rw [heap_alloc_new] at h5
      exact ⟨_, _, Option.some.inj h5⟩
    | arr E rows =>
      obtain ⟨vs, T, h5, _⟩ := h4
      rw [heap_alloc_new] at h5
      exact ⟨_, _, Option.some.inj h5⟩
  refine wp_value h1 (hK (cx.with k (.at w.heap.size C) (fun b => cx.O b ∨ b = w.heap.size)) _ _ ?_)
  subst hB
  exact (hs.later e (mem_alloc hs.mem O k C hk' ob h2) (fr_alloc B.keep cx w O k C hnk hz)).put (h3 _ e (by simp [Cx.with])) hn
end Go.Fw
