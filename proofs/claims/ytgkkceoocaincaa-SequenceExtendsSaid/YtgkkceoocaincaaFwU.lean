/- The executor is sound: arithmetic, addresses. -/
import Derived.Test.YtgkkceoocaincaaFwT
namespace Go.Fw
section
variable {P : Program} {TT : Nat → TI} {n : Sz} {e : List (Nat × SV)} {h : List OB} {K : Rec → Prop}
variable {dst : Option Nat} {ty : TypeId} {pos : String} {after : Array Edge} {guard : Option (Nat × Bool)}

theorem kbeq_eq {k k' : IntKind} (h : kbeq k k' = true) : k = k' := by cases k <;> cases k' <;> first | rfl | (simp [kbeq] at h)

theorem s_unOp {op : UnOp} {t : TypeId} {x : Operand} (hn : inFrame n dst = true) (hx : xOp P TT n ⟨dst, .unOp op t x, ty, pos, after, guard⟩ e h K) : Goal P ⟨dst, .unOp op t x, ty, pos, after, guard⟩ n e h K := by
  obtain ⟨s, h1, hk⟩ := opd_sound hx
  split at hk <;> first
    | exact hk.elim
    | (refine ⟨_, opD_plain _ hn fun cx w a hr => ?_, hk⟩
       have e1 := relV_v (h1.rel hr fun t ht => mem_slotsOf (by simp [Op.operands, ht]))
       refine ⟨_, ?_, RelC.v (by rfl)⟩
       simp only [execOp, e1, Op.unary, Op.intArith, Op.intBits, Sem.run_bind, Sem.run_pure, Result.andThen_ok])

theorem s_convert {c d : TypeId} {x : Operand} (hT : TTok P TT) (hn : inFrame n dst = true) (hx : xOp P TT n ⟨dst, .convert c d x, ty, pos, after, guard⟩ e h K) : Goal P ⟨dst, .convert c d x, ty, pos, after, guard⟩ n e h K := by
  obtain ⟨s, h1, hk⟩ := opd_sound hx
  split at hk
  · exact hk.elim
  · rename_i hne
    split at hk
    · rename_i k' m k hd
      refine ⟨_, opD_plain _ hn fun cx w a hr => ?_, hk⟩
      have e1 := relV_v (h1.rel hr fun t ht => mem_slotsOf (by simp [Op.operands, ht]))
      refine ⟨_, ?_, RelC.v (by rfl)⟩
      obtain ⟨dc, hc, _⟩ := (hT c).underlying hne
      have hdd := (hT d).desc
      rw [hd] at hdd
      simp only [descOK] at hdd
      simp only [execOp, e1, convert, Sem.run_bind, run_underlying hc, run_underlying hdd, Result.andThen_ok, Conv.intToInt, Sem.run_pure]
    · exact hk.elim

theorem s_makeFunc {fn : Fn} {first caps : Array Operand} (hn : inFrame n dst = true) (hx : xOp P TT n ⟨dst, .makeFunc fn first caps, ty, pos, after, guard⟩ e h K) : Goal P ⟨dst, .makeFunc fn first caps, ty, pos, after, guard⟩ n e h K := by
  cases fn <;> simp only [xOp] at hx <;> try exact hx.elim
  rename_i f
  split at hx
  · rename_i hf
    obtain ⟨ss, hl, hs, hk⟩ := opds_sound hx
    split at hk
    · rename_i hne
      have hfirst : first = #[] := by cases first; simp_all
      subst hfirst
      refine ⟨_, opD_plain _ hn fun cx w a hr => ?_, hk⟩
      refine ⟨.func (.func f) #[] (caps.map a.eval), by simp [execOp, Instr.makeFunc], ?_⟩
      have := RelC.clo (cx := cx) (w := w) (f := f) (caps := ss) ((caps.map a.eval).toList) (by simp [hl]) (fun i s x h1 h2 => by
        simp only [Array.toList_map, List.getElem?_map] at h2
        cases hc : caps.toList[i]? with
        | none => rw [hc] at h2; cases h2
        | some o =>
          rw [hc] at h2
          simp only [Option.map_some, Option.some.injEq] at h2
          subst h2
          have hrel := (hs i o s hc h1).rel hr fun t ht => mem_slotsOf (by
            subst ht
            simp only [Op.operands, Array.toList_append, List.mem_append]
            exact .inr (List.mem_of_getElem? hc))
          have hone : scal s = true := by
            simp only [List.all_eq_true] at hne
            exact hne s (List.mem_of_getElem? h1)
          cases s <;> simp only [scal, Bool.false_eq_true] at hone <;> exact hrel)
      rw [show (caps.map a.eval).toList.toArray = caps.map a.eval from rfl] at this
      exact this
    · exact hk.elim
  · exact hx.elim

theorem s_extract {x : Operand} {i : Nat} (hn : inFrame n dst = true) (hx : xOp P TT n ⟨dst, .extract x i, ty, pos, after, guard⟩ e h K) : Goal P ⟨dst, .extract x i, ty, pos, after, guard⟩ n e h K := by
  obtain ⟨s, h1, hk⟩ := opd_sound hx
  split at hk
  · rename_i l
    split at hk
    · rename_i y hy
      rw [nth_eq] at hy
      refine ⟨_, opD_plain _ hn fun cx w a hr => ?_, hk⟩
      obtain ⟨vs, hv, hl⟩ := h1.rel hr fun t ht => mem_slotsOf (by simp [Op.operands, ht])
      have get : ∀ {l vs}, RelVL cx w l vs → ∀ (i : Nat) y, l[i]? = some y → ∃ v, vs[i]? = some v ∧ RelV1 cx w y v := by
        intro l vs hl
        induction hl with
        | nil => intro i y h; simp at h
        | cons h1 _ ih =>
          intro i y h
          cases i with
          | zero => simp at h; subst h; exact ⟨_, rfl, h1⟩
          | succ i => simp at h; simpa using ih i y h
      obtain ⟨v, hv1, hv2⟩ := get hl i y hy
      refine ⟨v, ?_, ?_⟩
      · simp only [execOp, hv, Instr.extract, List.getElem?_toArray, hv1, Sem.run_bind, Sem.run_pure, Result.andThen_ok]
      · cases y <;> first | exact hv2 | exact hv2.elim
    · exact hk.elim
  · exact hk.elim

theorem offs_snoc (p : List PS) (x : PS) : offs (snoc p x) = offs p + offs [x] := by
  induction p with
  | nil => cases x <;> simp [snoc, offs]
  | cons y p ih => cases y <;> simp [snoc, offs, ih] <;> omega
theorem offs_fld (p : List PS) (j off : Nat) : offs (snoc p (.fld j off)) = offs p + off := by rw [offs_snoc]; simp [offs]
theorem offs_ix (p : List PS) (E n i : Nat) : offs (snoc p (.ix E n i)) = offs p + i * E := by rw [offs_snoc]; simp [offs]

theorem s_fieldAddr {t : TypeId} {x : Operand} {f : Nat} (hT : TTok P TT) (hn : inFrame n dst = true) (hx : xOp P TT n ⟨dst, .fieldAddr t x f, ty, pos, after, guard⟩ e h K) : Goal P ⟨dst, .fieldAddr t x f, ty, pos, after, guard⟩ n e h K := by
  obtain ⟨s, h1, hk⟩ := opd_sound hx
  split at hk
  · rename_i fs ft z hti
    have hd := (hT t).desc
    rw [hti] at hd
    split at hk
    · rename_i off sz hf
      obtain ⟨fields, fd, i, hu, hfd, hoff, hi, hsz⟩ := fields_get hd.1 hf
      split at hk
      · rename_i hpos
        have hpos : 0 < sz := by simpa using hpos
        have run : ∀ (w : World) (a : Act) (b o1 : Nat), a.eval x = .pointer (some ⟨b, o1, none⟩) →
            (execOp a.eval ⟨dst, .fieldAddr t x f, ty, pos, after, guard⟩).run P w = .ok (.value (.pointer (some ⟨b, o1 + off, none⟩))) w := by
          intro w a b o1 he
          have hne : i.size ≠ 0 := by omega
          simp only [execOp, Instr.fieldAt, he, Instr.sureAddr, fieldPlace, Sem.run_bind, run_underlying hu, Result.andThen_ok, hfd, Sem.run_pure, run_sizeOf' hi, hne, if_false, add_none, hoff]
        split at hk
        · refine ⟨_, opD_plain _ hn fun cx w a hr => ?_, hk⟩
          have hv := h1.rel hr fun t ht => mem_slotsOf (by simp [Op.operands, ht])
          replace hv : RelC cx w _ [a.eval x] := hv
          generalize hv0 : a.eval x = v0 at hv
          cases hv with
          | pb hb => exact ⟨_, run w a _ _ hv0, by rw [← offs_fld]; exact .pb hb⟩
        · refine ⟨_, opD_plain _ hn fun cx w a hr => ?_, hk⟩
          have hv := h1.rel hr fun t ht => mem_slotsOf (by simp [Op.operands, ht])
          replace hv : RelC cx w _ [a.eval x] := hv
          generalize hv0 : a.eval x = v0 at hv
          cases hv with
          | pe hb => exact ⟨_, run w a _ _ hv0, by rw [Nat.add_assoc, ← offs_fld]; exact .pe hb⟩
        · refine ⟨_, opD_plain _ hn fun cx w a hr => ?_, hk⟩
          have hv := h1.rel hr fun t ht => mem_slotsOf (by simp [Op.operands, ht])
          replace hv : RelC cx w _ [a.eval x] := hv
          generalize hv0 : a.eval x = v0 at hv
          cases hv with
          | pf hb => exact ⟨_, run w a _ _ hv0, by rw [Nat.add_assoc, ← offs_fld]; exact .pf hb⟩
        · exact hk.elim
      · exact hk.elim
    · exact hk.elim
  · exact hk.elim

theorem intOf_sound {s : SV} {K : Int → Prop} (h : intOf? s K) : ∃ k m, s = .v (.int k m) ∧ K m := by
  unfold intOf? at h
  split at h
  · exact ⟨_, _, rfl, h⟩
  · exact h.elim

theorem s_indexAddr {t : TypeId} {x i : Operand} (hT : TTok P TT) (hn : inFrame n dst = true) (hx : xOp P TT n ⟨dst, .indexAddr t x i, ty, pos, after, guard⟩ e h K) : Goal P ⟨dst, .indexAddr t x i, ty, pos, after, guard⟩ n e h K := by
  obtain ⟨s, h1, hk⟩ := opd_sound hx
  obtain ⟨si, h2, hk⟩ := opd_sound hk
  obtain ⟨kd, m, rfl, hk⟩ := intOf_sound hk
  have hd := (hT t).desc
  have ev2 : ∀ (cx : Cx) (w : World) (a : Act), Reads (lk e) (slotsOf (Op.indexAddr t x i).operands.toList) cx w a → a.eval i = .int kd m := fun cx w a hr =>
    relV_v (h2.rel hr fun t ht => mem_slotsOf (by simp [Op.operands, ht]))
  have runS : ∀ (w : World) (a : Act) (b off len cap E : Nat) (bytes : Nat) (z : SV), TT t = .slc E bytes z → a.eval x = .slice (some ⟨b, off, none⟩) len cap → a.eval i = .int kd m → 0 ≤ m ∧ m < len →
      (execOp a.eval ⟨dst, .indexAddr t x i, ty, pos, after, guard⟩).run P w = .ok (.value (.pointer (some ⟨b, off + m.toNat * E, none⟩))) w := by
    intro w a b off len cap E bytes z hti hx hi hm
    rw [hti] at hd
    obtain ⟨el, hu, hie, _⟩ := hd
    obtain ⟨ie, hie1, hie2, _, _⟩ := hie.mk
    simp only [execOp, Instr.indexAt, hx, hi, asIntOf, Sem.run_bind, Sem.run_pure, Result.andThen_ok, run_underlying hu, if_pos hm, run_sizeOf' hie1, hie2, add_none]
  have runA : ∀ (w : World) (a : Act) (b off l E el : Nat) (z : SV), TT t = .arr l E el z → a.eval x = .pointer (some ⟨b, off, none⟩) → a.eval i = .int kd m → 0 ≤ m ∧ m < l →
      (execOp a.eval ⟨dst, .indexAddr t x i, ty, pos, after, guard⟩).run P w = .ok (.value (.pointer (some ⟨b, off + m.toNat * E, none⟩))) w := by
    intro w a b off l E el z hti hx hi hm
    rw [hti] at hd
    obtain ⟨hu, ⟨_, _, hie⟩, _⟩ := hd
    obtain ⟨ie, hie1, hie2, _, _⟩ := hie.mk
    simp only [execOp, Instr.indexAt, hx, hi, asIntOf, Instr.sureAddr, Sem.run_bind, Sem.run_pure, Result.andThen_ok, run_underlying hu, if_pos hm, run_sizeOf' hie1, hie2, add_none]
  generalize hti : TT t = ti at hk
  split at hk
  · rename_i E0 bytes z t0 E rows _ _
    unfold okT at hk
    split at hk
    · rename_i hE
      have hE := Nat.eq_of_beq_eq_true hE
      subst hE
      obtain ⟨hm, hk⟩ := need_iff.1 hk
      refine ⟨_, opD_plain _ hn fun cx w a hr => ?_, hk⟩
      have hv := h1.rel hr fun t ht => mem_slotsOf (by simp [Op.operands, ht])
      replace hv : RelC cx w _ [a.eval x] := hv
      generalize hv0 : a.eval x = v0 at hv
      cases hv with
      | fs0 => simp at hm; omega
      | fs f a1 a2 a3 a4 a5 a6 a7 => exact ⟨_, runS w a _ _ _ _ _ _ _ hti hv0 (ev2 cx w a hr) hm, .pf (p := []) (.fs f a1 a2 a3 a4 a5 a6 a7)⟩
    · exact hk.elim
  · rename_i E0 bytes z E k off len _ _
    unfold okT at hk
    split at hk
    · rename_i hE
      have hE := Nat.eq_of_beq_eq_true hE
      subst hE
      obtain ⟨hm, hk⟩ := need_iff.1 hk
      refine ⟨_, opD_plain _ hn fun cx w a hr => ?_, hk⟩
      have hv := h1.rel hr fun t ht => mem_slotsOf (by simp [Op.operands, ht])
      replace hv : RelC cx w _ [a.eval x] := hv
      generalize hv0 : a.eval x = v0 at hv
      cases hv with
      | ov hb hC =>
        refine ⟨_, runS w a _ _ _ _ _ _ _ hti hv0 (ev2 cx w a hr) hm, ?_⟩
        rw [← Nat.add_mul]
        exact .pe (p := []) hb
      | ov0 => simp at hm; omega
      | ovz => simp at hm; omega
    · exact hk.elim
  · rename_i l E el z k p _ _
    obtain ⟨hm, hk⟩ := need_iff.1 hk
    refine ⟨_, opD_plain _ hn fun cx w a hr => ?_, hk⟩
    have hv := h1.rel hr fun t ht => mem_slotsOf (by simp [Op.operands, ht])
    replace hv : RelC cx w _ [a.eval x] := hv
    generalize hv0 : a.eval x = v0 at hv
    cases hv with
    | pb hb => exact ⟨_, runA w a _ _ _ _ _ _ hti hv0 (ev2 cx w a hr) hm, by rw [← offs_ix p E l]; exact .pb hb⟩
  · rename_i l E el z E' k j p _ _
    obtain ⟨hm, hk⟩ := need_iff.1 hk
    refine ⟨_, opD_plain _ hn fun cx w a hr => ?_, hk⟩
    have hv := h1.rel hr fun t ht => mem_slotsOf (by simp [Op.operands, ht])
    replace hv : RelC cx w _ [a.eval x] := hv
    generalize hv0 : a.eval x = v0 at hv
    cases hv with
    | pe hb => exact ⟨_, runA w a _ _ _ _ _ _ hti hv0 (ev2 cx w a hr) hm, by rw [Nat.add_assoc, ← offs_ix p E l]; exact .pe hb⟩
  · rename_i l E el z E' rows j p _ _
    obtain ⟨hm, hk⟩ := need_iff.1 hk
    refine ⟨_, opD_plain _ hn fun cx w a hr => ?_, hk⟩
    have hv := h1.rel hr fun t ht => mem_slotsOf (by simp [Op.operands, ht])
    replace hv : RelC cx w _ [a.eval x] := hv
    generalize hv0 : a.eval x = v0 at hv
    cases hv with
    | pf hb => exact ⟨_, runA w a _ _ _ _ _ _ hti hv0 (ev2 cx w a hr) hm, by rw [Nat.add_assoc, ← offs_ix p E l]; exact .pf hb⟩
  · exact hk.elim
end
end Go.Fw
