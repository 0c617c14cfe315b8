/- The executor is sound: operation by operation. -/
import Derived.Test.YtgkkceoocaincaaFwQ
namespace Go.Fw
def TTok (P : Program) (TT : Nat → TI) : Prop := ∀ t, TIok P t (TT t)

section
variable {P : Program} {TT : Nat → TI} {n : Sz} {e : List (Nat × SV)} {h : List OB} {K : Rec → Prop}
variable {dst : Option Nat} {ty : TypeId} {pos : String} {after : Array Edge} {guard : Option (Nat × Bool)}

abbrev Goal (P : Program) (o : Oper) (n : Sz) (e : List (Nat × SV)) (h : List OB) (K : Rec → Prop) : Prop := ∃ rc, OpD P o n (lk e) (nthB h) rc ∧ K rc

theorem mem1 {x y : Operand} {l : List Operand} (hx : x ∈ l) (t : Nat) (ht : x = .tmp t) : t ∈ slotsOf l := mem_slotsOf (ht ▸ hx)

theorem s_move {x : Operand} (hn : inFrame n dst = true) (hx : xOp P TT n ⟨dst, .move x, ty, pos, after, guard⟩ e h K) : Goal P ⟨dst, .move x, ty, pos, after, guard⟩ n e h K := by
  obtain ⟨s, h1, hk⟩ := opd_sound hx
  refine ⟨_, opD_plain s hn fun cx w a hr => ⟨_, rfl, h1.rel hr fun t ht => mem_slotsOf (by simp [Op.operands, ht])⟩, hk⟩
theorem s_assign {x : Operand} (hn : inFrame n dst = true) (hx : xOp P TT n ⟨dst, .assign x, ty, pos, after, guard⟩ e h K) : Goal P ⟨dst, .assign x, ty, pos, after, guard⟩ n e h K := by
  obtain ⟨s, h1, hk⟩ := opd_sound hx
  refine ⟨_, opD_plain s hn fun cx w a hr => ⟨_, rfl, h1.rel hr fun t ht => mem_slotsOf (by simp [Op.operands, ht])⟩, hk⟩

theorem relV_v {cx w x v} (h : RelV cx w (.v x) v) : v = x := by
  have h : RelC cx w (.v x) [v] := h
  cases h; rfl

theorem s_pick {c x y : Operand} (hn : inFrame n dst = true) (hx : xOp P TT n ⟨dst, .pick c x y, ty, pos, after, guard⟩ e h K) : Goal P ⟨dst, .pick c x y, ty, pos, after, guard⟩ n e h K := by
  obtain ⟨sc, h1, hk⟩ := opd_sound hx
  split at hk
  · rename_i b
    obtain ⟨sa, h2, hk⟩ := opd_sound hk
    obtain ⟨sb, h3, hk⟩ := opd_sound hk
    cases b
    · refine ⟨_, opD_plain sb hn fun cx w a hr => ?_, hk⟩
      have e1 := relV_v (h1.rel hr fun t ht => mem_slotsOf (by simp [Op.operands, ht]))
      refine ⟨a.eval y, ?_, h3.rel hr fun t ht => mem_slotsOf (by simp [Op.operands, ht])⟩
      simp [execOp, e1, asBool]
    · refine ⟨_, opD_plain sa hn fun cx w a hr => ?_, hk⟩
      have e1 := relV_v (h1.rel hr fun t ht => mem_slotsOf (by simp [Op.operands, ht]))
      refine ⟨a.eval x, ?_, h2.rel hr fun t ht => mem_slotsOf (by simp [Op.operands, ht])⟩
      simp [execOp, e1, asBool]
  · exact hk.elim

theorem nthB_len (h : List OB) : nthB h (len h) = none := by rw [nthB_eq, len_eq]; simp

theorem s_alloc {t : TypeId} (hT : TTok P TT) (hn : inFrame n dst = true) (hx : xOp P TT n ⟨dst, .alloc t, ty, pos, after, guard⟩ e h K) : Goal P ⟨dst, .alloc t, ty, pos, after, guard⟩ n e h K := by
  simp only [xOp] at hx
  have ht := hT t
  split at hx
  · exact hx.elim
  · rename_i hne
    generalize hti : TT t = ti at *
    obtain ⟨⟨by_, hi⟩, hz⟩ := ht.info (fun e => hne e)
    obtain ⟨i, hi1, _, _, hi4⟩ := hi.mk
    refine ⟨_, opD_new (len h) (.cells ti.zero) (.pb (len h) []) hn (nthB_len h) fun cx w a hr => ?_, hx⟩
    refine ⟨.pointer (some ⟨w.heap.size, 0, none⟩), .cells (toVal ti.zero).cells t, 0, ?_, fun cx' he => ?_, fun cx' he hb => .pb hb⟩
    · simp [execOp, Instr.alloc, run_zeroValue' hi1 hi4, newVar, newRow]
    · obtain ⟨us, hu, hr⟩ := (okz_val (cx := cx') (w := w.alloc (.cells (toVal ti.zero).cells t)) hz).cells (by intro e; rw [e] at hz; simp [okz] at hz) (by intro l e; rw [e] at hz; simp [okz] at hz)
      exact ⟨us, t, by rw [heap_alloc_new, hu], hr⟩

theorem s_box {t : TypeId} {x : Operand} (hn : inFrame n dst = true) (hx : xOp P TT n ⟨dst, .box t x, ty, pos, after, guard⟩ e h K) : Goal P ⟨dst, .box t x, ty, pos, after, guard⟩ n e h K := by
  obtain ⟨s, h1, hk⟩ := opd_sound hx
  split at hk
  · rename_i hs
    refine ⟨_, opD_new (len h) (.cells s) (.pb (len h) []) hn (nthB_len h) fun cx w a hr => ?_, hk⟩
    have hv := h1.rel hr fun t ht => mem_slotsOf (by simp [Op.operands, ht])
    refine ⟨.pointer (some ⟨w.heap.size, 0, none⟩), .cells (a.eval x).cells t, 0, ?_, fun cx' he => ?_, fun cx' he hb => .pb hb⟩
    · simp [execOp, Instr.box, newVar, newRow]
    · obtain ⟨us, hu, hr⟩ := (hv.mono he).cells (by intro e; subst e; simp [notTop] at hs) (by intro l e; subst e; simp [notTop] at hs)
      exact ⟨us, t, by rw [heap_alloc_new, hu], hr⟩
  · exact hk.elim

theorem block_cells {w : World} {b : Nat} {vs : List Value} {T : TypeId} {fz : Nat × Nat} (hb : w.heap[b]? = some (.cells vs.toArray T fz)) {off : Nat} {m : Nat} (j : Nat) (x : Value)
    (hj : ((vs.drop off).take m)[j]? = some x) : w.cell? ⟨b, off + j, none⟩ = some x := by
  rw [cell_of hb]
  simp only [List.getElem?_take, List.getElem?_drop] at hj
  split at hj
  · simpa using hj
  · cases hj

theorem bare_up {cx : Cx} {w s vs} (h : RelC ⟨fun _ => none, cx.O⟩ w s vs) : RelC cx w s vs :=
  h.mono ⟨fun _ _ h => (by cases h), fun _ _ _ => rfl, fun _ h => .inl h⟩

theorem s_load {t : TypeId} {x : Operand} (hT : TTok P TT) (hn : inFrame n dst = true) (hx : xOp P TT n ⟨dst, .load t x, ty, pos, after, guard⟩ e h K) : Goal P ⟨dst, .load t x, ty, pos, after, guard⟩ n e h K := by
  obtain ⟨s, h1, hk⟩ := opd_sound hx
  have run : ∀ (cx : Cx) (w : World) (a : Act) (y : SV) (us : List Value) (b off : Nat), ofType (TT t) y = true → a.eval x = .pointer (some ⟨b, off, none⟩) → RelC cx w y us →
      (∀ (j : Nat) u, us[j]? = some u → w.cell? ⟨b, off + j, none⟩ = some u) → ∃ v, (execOp a.eval ⟨dst, .load t x, ty, pos, after, guard⟩).run P w = .ok (.value v) w ∧ RelV cx w y v := by
    intro cx w a y us b off hy he hr hc
    obtain ⟨v, h2, h3⟩ := run_load_rel (hT t) hy hr hc
    exact ⟨v, by simp [execOp, Instr.loadAt, Instr.sureAddr, he, h2], h3⟩
  unfold execLoad at hk
  split at hk
  · rename_i k p
    split at hk
    · rename_i s' hs
      obtain ⟨y, hk, hle, hy⟩ := follow_sound _ _ _ hk
      unfold okT at hk
      split at hk
      · rename_i hty
        refine ⟨_, opD_look k (.cells s') y hn hs fun cx w a hr hl => ?_, hk⟩
        have hv : RelC cx w (.pb k p) [a.eval x] := h1.rel hr fun t ht => mem_slotsOf (by simp [Op.operands, ht])
        generalize hv0 : a.eval x = v0 at hv
        cases hv with
        | pb hb =>
          rcases hl with ⟨b', C', hb', _, vs, T, hh, hrc⟩ | ⟨hb', _⟩
          · rw [hb] at hb'; cases hb'
            exact run cx w a y _ _ _ hty hv0 (hy cx w vs hrc) (fun j u hu => block_cells hh j u hu)
          · rw [hb] at hb'; cases hb'
      · exact hk.elim
    · exact hk.elim
  · rename_i E k i p
    split at hk
    · rename_i E' rows hs
      unfold okT at hk
      split at hk
      · rename_i hE
        have hE := Nat.eq_of_beq_eq_true hE
        subst hE
        obtain ⟨s', hs', hk⟩ := elem_iff.1 hk
        obtain ⟨y, hk, hle, hy⟩ := follow_sound _ _ _ hk
        split at hk
        · rename_i hty
          refine ⟨_, opD_look k (.arr E rows) y hn hs fun cx w a hr hl => ?_, hk⟩
          have hv : RelC cx w (.pe E k i p) [a.eval x] := h1.rel hr fun t ht => mem_slotsOf (by simp [Op.operands, ht])
          generalize hv0 : a.eval x = v0 at hv
          cases hv with
          | pe hb =>
            rcases hl with ⟨b', C', hb', _, vs, T, hh, hlen, hC, hrows⟩ | ⟨hb', E', he⟩
            · rw [hb] at hb'; cases hb'
              have hrc := hy cx w _ (bare_up (hrows i s' hs'))
              have hw := (hrows i s' hs').width
              rw [List.length_take] at hw
              rw [List.drop_take, List.take_take, List.drop_drop, Nat.min_eq_left (by omega)] at hrc
              exact run cx w a y _ _ _ hty hv0 hrc (fun j u hu => block_cells hh j u hu)
            · rw [hb] at hb'; cases hb'
        · exact hk.elim
      · exact hk.elim
    · exact hk.elim
  · rename_i E rows i p
    obtain ⟨s', hs', hk⟩ := elem_iff.1 hk
    obtain ⟨y, hk, hle, hy⟩ := follow_sound _ _ _ hk
    unfold okT at hk
    split at hk
    · rename_i hty
      refine ⟨_, opD_plain y hn fun cx w a hr => ?_, hk⟩
      have hv : RelC cx w (.pf E rows i p) [a.eval x] := h1.rel hr fun t ht => mem_slotsOf (by simp [Op.operands, ht])
      generalize hv0 : a.eval x = v0 at hv
      cases hv with
      | pf hf =>
        cases hf with
        | fs0 => simp at hs'
        | fs f hb hO hc ht hrows hl hcell =>
          have hlt : i < rows.length := (List.getElem?_eq_some_iff.1 hs').1
          have hrc := hy cx w _ (bare_up (hrows i s' hs'))
          refine run cx w a y _ _ _ hty hv0 hrc (fun j u hu => ?_)
          simp only [List.getElem?_take, List.getElem?_drop] at hu
          split at hu
          · rw [cell_of hb]
            have := hcell i hlt _ u hu
            rw [← this]; congr 1; omega
          · cases hu
    · exact hk.elim
  · exact hk.elim

theorem s_nilCheck {x : Operand} (hn : inFrame n dst = true) (hx : xOp P TT n ⟨dst, .nilCheck x, ty, pos, after, guard⟩ e h K) : Goal P ⟨dst, .nilCheck x, ty, pos, after, guard⟩ n e h K := by
  obtain ⟨s, h1, hk⟩ := opd_sound hx
  have run : ∀ (cx : Cx) (w : World) (a : Act), RelV cx w s (a.eval x) → ((∃ b, a.eval x = .pointer (some b)) ∨ ∃ f c, a.eval x = .func (.func f) #[] c) →
      ∃ v, (execOp a.eval ⟨dst, .nilCheck x, ty, pos, after, guard⟩).run P w = .ok (.value v) w ∧ RelV cx w s v := by
    intro cx w a hr hb
    refine ⟨_, ?_, hr⟩
    rcases hb with ⟨b, hb⟩ | ⟨f, c, hb⟩ <;> simp [execOp, hb]
  split at hk
  · refine ⟨_, opD_plain _ hn fun cx w a hr => ?_, hk⟩
    have hv := h1.rel hr fun t ht => mem_slotsOf (by simp [Op.operands, ht])
    refine run cx w a hv (.inl ?_)
    have hv : RelC cx w _ [a.eval x] := hv
    generalize a.eval x = v0 at hv
    cases hv; exact ⟨_, rfl⟩
  · refine ⟨_, opD_plain _ hn fun cx w a hr => ?_, hk⟩
    have hv := h1.rel hr fun t ht => mem_slotsOf (by simp [Op.operands, ht])
    refine run cx w a hv (.inl ?_)
    have hv : RelC cx w _ [a.eval x] := hv
    generalize a.eval x = v0 at hv
    cases hv; exact ⟨_, rfl⟩
  · refine ⟨_, opD_plain _ hn fun cx w a hr => ?_, hk⟩
    have hv := h1.rel hr fun t ht => mem_slotsOf (by simp [Op.operands, ht])
    refine run cx w a hv (.inl ?_)
    have hv : RelC cx w _ [a.eval x] := hv
    generalize a.eval x = v0 at hv
    cases hv; exact ⟨_, rfl⟩
  · refine ⟨_, opD_plain _ hn fun cx w a hr => ?_, hk⟩
    have hv := h1.rel hr fun t ht => mem_slotsOf (by simp [Op.operands, ht])
    refine run cx w a hv (.inr ?_)
    have hv : RelC cx w _ [a.eval x] := hv
    generalize a.eval x = v0 at hv
    cases hv; exact ⟨_, _, rfl⟩
  · exact hk.elim
end
end Go.Fw
