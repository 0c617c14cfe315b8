/- The executor is sound: tests, fields, stores. -/
import Derived.Test.YtgkkceoocaincaaFwV
import Derived.Lib.SliceRun
namespace Go.Fw
section
variable {P : Program} {TT : Nat → TI} {n : Sz} {e : List (Nat × SV)} {h : List OB} {K : Rec → Prop}
variable {dst : Option Nat} {ty : TypeId} {pos : String} {after : Array Edge} {guard : Option (Nat × Bool)}

theorem opD_val {o : Oper} {sl : Nat → Option SV} {hp : Nat → Option OB} {x : Value} (hn : inFrame n o.dst = true) (h1 : x.oneCell' = true)
    (h : ∀ (cx : Cx) (w : World) (a : Act), Reads sl (slotsOf o.op.operands.toList) cx w a → (execOp a.eval o).run P w = .ok (.value x) w) : OpD P o n sl hp (.plain o (.v x)) :=
  opD_plain _ hn fun cx w a hr => ⟨x, h cx w a hr, .v h1⟩
theorem okT_iff {b : Bool} {K : Prop} : okT b K ↔ b = true ∧ K := by cases b <;> simp [okT]

theorem s_field {t : TypeId} {x : Operand} {f : Nat} (hT : TTok P TT) (hn : inFrame n dst = true) (hx : xOp P TT n ⟨dst, .field t x f, ty, pos, after, guard⟩ e h K) : Goal P ⟨dst, .field t x f, ty, pos, after, guard⟩ n e h K := by
  obtain ⟨s, h1, hk⟩ := opd_sound hx
  generalize hti : TT t = ti at hk
  split at hk
  · rename_i fs ft z cs _
    split at hk
    · rename_i off sz u y hf hu hy
      obtain ⟨h2, hk⟩ := okT_iff.1 hk
      obtain ⟨h3, hk⟩ := okT_iff.1 hk
      have h2 := Nat.eq_of_beq_eq_true h2
      rw [nth_eq] at hy
      have hd := (hT t).desc
      rw [hti] at hd
      obtain ⟨fields, fd, i, hun, hfd, hoff, hi, hsz⟩ := fields_get hd.1 hf
      have hft := hd.2.2 (by intro e; subst e; simp at hu)
      have hty : fd.type = u := by
        have := hft.1
        unfold typesOf at this
        rw [hun] at this
        simp only at this
        split at this
        · simp only [Option.some.injEq] at this
          rw [← this] at hu
          rw [List.getElem?_map, Array.getElem?_toList, hfd] at hu
          simpa using hu
        · cases this
      refine ⟨_, opD_plain _ hn fun cx w a hr => ?_, hk⟩
      obtain ⟨vs, hv, hrc⟩ := h1.rel hr fun t ht => mem_slotsOf (by simp [Op.operands, ht])
      obtain ⟨v, hp, hv2⟩ := run_part_rel (hT u) h3 (hrc.get f y hy)
      refine ⟨v, ?_, hv2⟩
      rw [h2] at hp
      simp only [execOp, Instr.field, hv, asAgg, Sem.run_bind, run_underlying hun, Result.andThen_ok, hfd, Sem.run_pure, hoff, hty, hp]
    · exact hk.elim
  · exact hk.elim

theorem s_index {t : TypeId} {x i : Operand} (hT : TTok P TT) (hn : inFrame n dst = true) (hx : xOp P TT n ⟨dst, .index t x i, ty, pos, after, guard⟩ e h K) : Goal P ⟨dst, .index t x i, ty, pos, after, guard⟩ n e h K := by
  obtain ⟨s, h1, hk⟩ := opd_sound hx
  obtain ⟨si, h2, hk⟩ := opd_sound hk
  obtain ⟨kd, m, rfl, hk⟩ := intOf_sound hk
  generalize hti : TT t = ti at hk
  split at hk
  · rename_i l E el z
    obtain ⟨hm, hk⟩ := need_iff.1 hk
    obtain ⟨y, hk, hle, hy⟩ := follow_sound _ _ _ hk
    obtain ⟨h3, hk⟩ := okT_iff.1 hk
    obtain ⟨h4, hk⟩ := okT_iff.1 hk
    have hd := (hT t).desc
    rw [hti] at hd
    obtain ⟨hu, ⟨b', z', hie⟩, _⟩ := hd
    obtain ⟨ie, hi1, hi2, _, _⟩ := hie.mk
    refine ⟨_, opD_plain _ hn fun cx w a hr => ?_, hk⟩
    have e2 := relV_v (h2.rel hr fun t ht => mem_slotsOf (by simp [Op.operands, ht]))
    have hv := h1.rel hr fun t ht => mem_slotsOf (by simp [Op.operands, ht])
    obtain ⟨vs, hv, hrc⟩ : ∃ vs : List Value, a.eval x = .agg vs.toArray ∧ RelC cx w s vs := by
      cases s <;> simp only [isAggS, Bool.false_eq_true] at h4 <;> exact hv
    have hrc := hy cx w vs hrc
    simp only [offs, Nat.add_zero] at hrc
    obtain ⟨v, hp, hv2⟩ := run_part_rel (hT el) h3 hrc
    refine ⟨v, ?_, hv2⟩
    simp only [execOp, Instr.index, hv, e2, asIntOf, Sem.run_bind, Sem.run_pure, run_underlying hu, Result.andThen_ok, if_pos hm, run_sizeOf' hi1, hi2, hp]
  · exact hk.elim

theorem s_binOp {op : BinOp} {t yt : TypeId} {x y : Operand} (hT : TTok P TT) (hn : inFrame n dst = true) (hx : xOp P TT n ⟨dst, .binOp op t x y yt, ty, pos, after, guard⟩ e h K) : Goal P ⟨dst, .binOp op t x y yt, ty, pos, after, guard⟩ n e h K := by
  obtain ⟨sx, h1, hk⟩ := opd_sound hx
  obtain ⟨sy, h2, hk⟩ := opd_sound hk
  have rx : ∀ (cx : Cx) (w : World) (a : Act), Reads (lk e) (slotsOf (Op.binOp op t x y yt).operands.toList) cx w a → RelV cx w sx (a.eval x) := fun cx w a hr =>
    h1.rel hr fun t ht => mem_slotsOf (by simp [Op.operands, ht])
  have ry : ∀ (cx : Cx) (w : World) (a : Act), Reads (lk e) (slotsOf (Op.binOp op t x y yt).operands.toList) cx w a → RelV cx w sy (a.eval y) := fun cx w a hr =>
    h2.rel hr fun t ht => mem_slotsOf (by simp [Op.operands, ht])
  clear h1 h2 hx
  have hsl : ∀ {K : Prop}, okT (isSlc (TT t)) K → (∃ el, P.underlying t = some (.slice el)) ∧ K := by
    intro K hk
    obtain ⟨h1, hk⟩ := okT_iff.1 hk
    have hd := (hT t).desc
    cases hti : TT t <;> rw [hti] at h1 hd <;> simp only [isSlc, Bool.false_eq_true] at h1
    obtain ⟨el, hu, _⟩ := hd
    exact ⟨⟨el, hu⟩, hk⟩
  have nilrun : ∀ (w : World) (ac : Act) (a0 : Option Addr) (n0 c0 l2 c2 : Nat), ac.eval x = .slice a0 n0 c0 → ac.eval y = .slice none l2 c2 → (∃ el, P.underlying t = some (.slice el)) →
      (execOp ac.eval ⟨dst, .binOp .eql t x y yt, ty, pos, after, guard⟩).run P w = .ok (.value (.bool a0.isNone)) w ∧
      (execOp ac.eval ⟨dst, .binOp .neq t x y yt, ty, pos, after, guard⟩).run P w = .ok (.value (.bool (!a0.isNone))) w := by
    intro w ac a0 n0 c0 l2 c2 e1 e2 ⟨el, hu⟩
    have : (Op.equal t (.slice a0 n0 c0) (.slice none l2 c2)).run P w = .ok a0.isNone w := by
      show (Op.equalIn (9999 + 1) t _ _).run P w = _
      exact Lib.run_equalIn_slice_nil w 9999 t el a0 n0 c0 l2 c2 hu
    constructor <;> simp [execOp, e1, e2, eqGuard, binOp, this]
  have nonnil : ∀ {cx w t0 E rows v}, RelV cx w (.fs t0 E rows) v → rows ≠ [] ∨ t0.nn = true → ∃ a0 n0 c0, v = .slice (some a0) n0 c0 := by
    intro cx w t0 E rows v hv hne
    have hv : RelC cx w (.fs t0 E rows) [v] := hv
    cases hv with
    | @fs0 _ _ _ _ a ho =>
      rcases hne with hne | hne
      · exact absurd rfl hne
      · have := ho.1 hne
        cases a with
        | none => exact absurd rfl this
        | some a => exact ⟨_, _, _, rfl⟩
    | fs => exact ⟨_, _, _, rfl⟩
  have nonnil2 : ∀ {cx w E k off m v}, RelV cx w (.ov E k off m) v → 0 < m → ∃ a0 n0 c0, v = .slice (some a0) n0 c0 := by
    intro cx w E k off m v hv hne
    have hv : RelC cx w (.ov E k off m) [v] := hv
    cases hv with
    | ov => exact ⟨_, _, _, rfl⟩
    | ov0 => omega
    | ovz => omega
  unfold execBin at hk
  split at hk
  · rename_i k a k' b _
    have ev : ∀ (w : World) (ac : Act) (v : Value), ac.eval x = .int k a → ac.eval y = .int k' b → (binOp op t (.int k a) (.int k' b)).run P w = .ok v w →
        (execOp ac.eval ⟨dst, .binOp op t x y yt, ty, pos, after, guard⟩).run P w = .ok (.value v) w := by
      intro w ac v e1 e2 hb
      simp only [execOp, e1, e2, Sem.run_bind, Sem.run_pure]
      simp [eqGuard, hb]
    unfold ibin at hk
    split at hk
    · obtain ⟨hb, hk⟩ := need_iff.1 hk
      refine ⟨_, ?_, hk⟩
      refine opD_val hn rfl fun cx w ac hr => ev w ac _ (relV_v (rx cx w ac hr)) (relV_v (ry cx w ac hr)) ?_
      have : ¬ b < 0 := by omega
      simp [binOp, Op.shift, this]
    · obtain ⟨hb, hk⟩ := need_iff.1 hk
      refine ⟨_, ?_, hk⟩
      refine opD_val hn rfl fun cx w ac hr => ev w ac _ (relV_v (rx cx w ac hr)) (relV_v (ry cx w ac hr)) ?_
      have : ¬ b < 0 := by omega
      simp [binOp, Op.shift, this]
    · rename_i hs1 hs2
      split at hk
      · exact hk.elim
      · rename_i hkk
        cases kbeq_eq hkk
        split at hk <;> first
          | exact hk.elim
          | (obtain ⟨hb, hk⟩ := need_iff.1 hk
             refine ⟨_, ?_, hk⟩
             refine opD_val hn rfl fun cx w ac hr => ev w ac _ (relV_v (rx cx w ac hr)) (relV_v (ry cx w ac hr)) ?_
             simp [binOp, Op.intDiv, hb]
             done)
          | (refine ⟨_, ?_, hk⟩
             refine opD_val hn rfl fun cx w ac hr => ev w ac _ (relV_v (rx cx w ac hr)) (relV_v (ry cx w ac hr)) ?_
             simp [binOp, Op.intArith, Op.intBits, Op.intCmp]
             done)
  · rename_i a b _
    have hu : ∀ {K : Prop}, okT (isBool (TT t)) K → P.underlying t = some .bool ∧ K := by
      intro K hk
      obtain ⟨h1, hk⟩ := okT_iff.1 hk
      have hd := (hT t).desc
      cases hti : TT t <;> rw [hti] at h1 hd <;> simp only [isBool, Bool.false_eq_true] at h1
      exact ⟨hd, hk⟩
    split at hk
    · obtain ⟨hu, hk⟩ := hu hk
      refine ⟨_, ?_, hk⟩
      refine opD_val hn rfl fun cx w ac hr => ?_
      have e1 := relV_v (rx cx w ac hr)
      have e2 := relV_v (ry cx w ac hr)
      simp [execOp, e1, e2, eqGuard, binOp, Op.equal, Op.maxDepth, run_equalIn_bool w 9999 t a b hu]
    · obtain ⟨hu, hk⟩ := hu hk
      refine ⟨_, ?_, hk⟩
      refine opD_val hn rfl fun cx w ac hr => ?_
      have e1 := relV_v (rx cx w ac hr)
      have e2 := relV_v (ry cx w ac hr)
      simp [execOp, e1, e2, eqGuard, binOp, Op.equal, Op.maxDepth, run_equalIn_bool w 9999 t a b hu]
      cases a <;> cases b <;> rfl
    · exact hk.elim
  · rename_i l1 c1 l2 c2 _
    split at hk
    · obtain ⟨hu, hk⟩ := hsl hk
      refine ⟨_, ?_, hk⟩
      refine opD_val hn rfl fun cx w ac hr => ?_
      exact nilrun w ac _ _ _ _ _ (relV_v (rx cx w ac hr)) (relV_v (ry cx w ac hr)) hu |>.1
    · obtain ⟨hu, hk⟩ := hsl hk
      refine ⟨_, ?_, hk⟩
      refine opD_val hn rfl fun cx w ac hr => ?_
      exact nilrun w ac _ _ _ _ _ (relV_v (rx cx w ac hr)) (relV_v (ry cx w ac hr)) hu |>.2
    · exact hk.elim
  · rename_i t0 E rows l2 c2 _
    split at hk
    · obtain ⟨hu, hk⟩ := hsl hk
      refine ⟨_, ?_, hk⟩
      refine opD_val hn rfl fun cx w ac hr => ?_
      obtain ⟨a0, n0, c0, e1⟩ := nonnil (rx cx w ac hr) (.inr (by assumption))
      exact nilrun w ac _ _ _ _ _ e1 (relV_v (ry cx w ac hr)) hu |>.1
    · obtain ⟨hu, hk⟩ := hsl hk
      refine ⟨_, ?_, hk⟩
      refine opD_val hn rfl fun cx w ac hr => ?_
      obtain ⟨a0, n0, c0, e1⟩ := nonnil (rx cx w ac hr) (.inr (by assumption))
      exact nilrun w ac _ _ _ _ _ e1 (relV_v (ry cx w ac hr)) hu |>.2
    · obtain ⟨hu, hk⟩ := hsl hk
      obtain ⟨hne, hk⟩ := need_iff.1 hk
      refine ⟨_, ?_, hk⟩
      refine opD_val hn rfl fun cx w ac hr => ?_
      obtain ⟨a0, n0, c0, e1⟩ := nonnil (rx cx w ac hr) (.inl hne)
      exact nilrun w ac _ _ _ _ _ e1 (relV_v (ry cx w ac hr)) hu |>.1
    · obtain ⟨hu, hk⟩ := hsl hk
      obtain ⟨hne, hk⟩ := need_iff.1 hk
      refine ⟨_, ?_, hk⟩
      refine opD_val hn rfl fun cx w ac hr => ?_
      obtain ⟨a0, n0, c0, e1⟩ := nonnil (rx cx w ac hr) (.inl hne)
      exact nilrun w ac _ _ _ _ _ e1 (relV_v (ry cx w ac hr)) hu |>.2
    · exact hk.elim
  · rename_i E k off m l2 c2 _
    split at hk
    · obtain ⟨hu, hk⟩ := hsl hk
      obtain ⟨hne, hk⟩ := need_iff.1 hk
      refine ⟨_, ?_, hk⟩
      refine opD_val hn rfl fun cx w ac hr => ?_
      obtain ⟨a0, n0, c0, e1⟩ := nonnil2 (rx cx w ac hr) hne
      exact nilrun w ac _ _ _ _ _ e1 (relV_v (ry cx w ac hr)) hu |>.1
    · obtain ⟨hu, hk⟩ := hsl hk
      obtain ⟨hne, hk⟩ := need_iff.1 hk
      refine ⟨_, ?_, hk⟩
      refine opD_val hn rfl fun cx w ac hr => ?_
      obtain ⟨a0, n0, c0, e1⟩ := nonnil2 (rx cx w ac hr) hne
      exact nilrun w ac _ _ _ _ _ e1 (relV_v (ry cx w ac hr)) hu |>.2
    · exact hk.elim
  · obtain ⟨ha, hk⟩ := okT_iff.1 hk
    have main : ∀ (b : Bool) (cx : Cx) (w : World) (ac : Act), eqT TT 40 t sx sy = some b → RelV cx w sx (ac.eval x) → RelV cx w sy (ac.eval y) →
        ∃ xs ys, ac.eval x = .agg xs ∧ ac.eval y = .agg ys ∧ P.eqGuardType P.depth t = false ∧ (Op.equalIn 10000 t (.agg xs) (.agg ys)).run P w = .ok b w := by
      intro b cx w ac he hrx hry
      have heq := (eq_all hT 40).1 t sx sy b 10000 cx w _ _ he (by omega) hrx hry
      have hax : ∃ xs, ac.eval x = .agg xs := by
        cases sx <;> simp only [isAggS, Bool.false_eq_true] at ha <;> (obtain ⟨vs, hv, _⟩ := hrx; exact ⟨_, hv⟩)
      have hay : ∃ ys, ac.eval y = .agg ys := by
        have : isAggS sy = true := by
          cases hti : TT t <;> simp only [eqT, hti] at he <;> cases sx <;> simp only [isAggS, Bool.false_eq_true] at ha <;> cases sy <;> first | rfl | (simp at he; done) | (split at he <;> simp at he; done)
        cases sy <;> simp only [isAggS, Bool.false_eq_true] at this <;> (obtain ⟨vs, hv, _⟩ := hry; exact ⟨_, hv⟩)
      obtain ⟨xs, hax⟩ := hax
      obtain ⟨ys, hay⟩ := hay
      rw [hax, hay] at heq
      refine ⟨xs, ys, hax, hay, ?_, heq⟩
      have hd := (hT t).desc
      cases hti : TT t <;> rw [hti] at hd <;> simp only [eqT, hti] at he
      case int => cases sx <;> simp only [isAggS, Bool.false_eq_true] at ha <;> simp at he
      case bool => cases sx <;> simp only [isAggS, Bool.false_eq_true] at ha <;> simp at he
      case str fs ft z =>
        cases ft with
        | nil => simp at he
        | cons u ft => exact (hd.2.2 (by simp)).2.2
      case arr => exact hd.2.2
      all_goals simp at he
    split at hk
    · refine ⟨_, ?_, hk⟩
      refine opD_val hn rfl fun cx w ac hr => ?_
      obtain ⟨xs, ys, e1, e2, hg, heq⟩ := main _ cx w ac (by assumption) (rx cx w ac hr) (ry cx w ac hr)
      simp [execOp, e1, e2, run_eqGuard_agg w _ t x y xs ys hg, run_eql_struct, heq]
    · refine ⟨_, ?_, hk⟩
      refine opD_val hn rfl fun cx w ac hr => ?_
      obtain ⟨xs, ys, e1, e2, hg, heq⟩ := main _ cx w ac (by assumption) (rx cx w ac hr) (ry cx w ac hr)
      simp [execOp, e1, e2, run_eqGuard_agg w _ t x y xs ys hg, run_neq_struct, heq]
    · exact hk.elim
end
end Go.Fw
