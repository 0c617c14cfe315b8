/- The executor is sound: stores, composite values, new slices. -/
import Derived.Test.YtgkkceoocaincaaFwW
namespace Go.Fw
section
variable {P : Program} {TT : Nat → TI} {n : Sz} {e : List (Nat × SV)} {h : List OB} {K : Rec → Prop}
variable {dst : Option Nat} {ty : TypeId} {pos : String} {after : Array Edge} {guard : Option (Nat × Bool)}

/-- An operation that writes one owned block. -/
theorem opD_put {o : Oper} {sl : Nat → Option SV} {hp : Nat → Option OB} (k : Nat) (ob ob' : OB) (hn : inFrame n o.dst = true) (hk : hp k = some ob) (hg : ob ≠ .gone) (hg' : ob' ≠ .gone)
    (h : ∀ (cx : Cx) (w : World) (a : Act), Reads sl (slotsOf o.op.operands.toList) cx w a → (∀ b C, cx.bl k = some (.at b C) → cx.O b ∧ Holds cx w b C ob) →
      ∃ b C cs, cx.bl k = some (.at b C) ∧ (execOp a.eval o).run P w = .ok .skip (w.setRow b cs) ∧ (Ext cx w cx (w.setRow b cs) → Holds cx (w.setRow b cs) b C ob')) : OpD P o n sl hp (.put o k ob') := by
  intro sl' hp' ha B cx a w Q K hB hs hK
  simp only [Agree, Rec.put, Bool.false_eq_true, if_false] at ha
  have hk' : hp' k = some ob := by rw [ha.2 k (by simp), hk]
  obtain ⟨b, C, cs, h1, h2, h3⟩ := h cx w a (.of_sat hs ha.1) (fun b C hb => live_at hs.mem hk' hb hg)
  have hO := (live_at hs.mem hk' h1 hg).1
  refine wp_skip_op h2 (hK cx _ _ ?_)
  subst hB
  exact (hs.later (ext_set cx w b cs hO) (mem_set hs.mem cs hk' hg hg' h1 h3) (fr_set B.keep cx w k b C cs h1)).put (s := .top) trivial hn

mutual
theorem noRef_bare {cx w} : ∀ {s vs}, RelC cx w s vs → noRef s = true → RelC cx.bare w s vs
  | .v _, _, h, _ => by cases h with | v h => exact .v h
  | .ba .., _, h, _ => by cases h with | ba h => exact .ba h
  | .fs .., _, h, _ => by
    cases h with
    | fs0 h => exact .fs0 h
    | fs f a1 a2 a3 a4 a5 a6 a7 => exact .fs f a1 a2 a3 a4 a5 a6 a7
  | .pf .., _, h, _ => by
    cases h with
    | pf h =>
      cases h with
      | fs f a1 a2 a3 a4 a5 a6 a7 => exact .pf (.fs f a1 a2 a3 a4 a5 a6 a7)
      | fs0 h => exact .pf (.fs0 h)
  | .agg cs, _, h, hn => noRefs_bare (cs := cs) h hn
  | .clo f cs, _, h, hn => by
    cases h with
    | clo vs hl hr => exact .clo vs hl fun i s x h1 h2 => noRef_cap (cs := cs) (by simpa [noRef] using hn) i s x h1 (hr i s x h1 h2)
  | .ov .., _, _, hn => by simp [noRef] at hn
  | .sb .., _, _, hn => by simp [noRef] at hn
  | .pb .., _, _, hn => by simp [noRef] at hn
  | .pe .., _, _, hn => by simp [noRef] at hn
  | .tup .., _, h, _ => by cases h
  | .top, _, _, hn => by simp [noRef] at hn
theorem noRefs_bare {cx w} : ∀ {cs vs}, RelC cx w (.agg cs) vs → noRefs cs = true → RelC cx.bare w (.agg cs) vs
  | [], _, h, _ => by cases h with | nil => exact .nil
  | s :: r, _, h, hn => by
    cases h with
    | cons h1 h2 =>
      simp only [noRefs] at hn
      split at hn
      · exact .cons (noRef_bare h1 (by assumption)) (noRefs_bare h2 hn)
      · cases hn
theorem noRef_cap {cx w} : ∀ {cs}, noRefs cs = true → ∀ (i : Nat) s x, cs[i]? = some s → RelC cx w s [x] → RelC cx.bare w s [x]
  | [], _, i, s, x, h, _ => by simp at h
  | s0 :: r, hn, i, s, x, h, hr => by
    simp only [noRefs] at hn
    split at hn
    · cases i with
      | zero => simp at h; subst h; exact noRef_bare hr (by assumption)
      | succ i => exact noRef_cap (cs := r) hn i s x (by simpa using h) hr
    · cases hn
end

theorem splice_get {α : Type} (vs us : List α) (off : Nat) (hle : off + us.length ≤ vs.length) (m : Nat) :
    (vs.take off ++ us ++ vs.drop (off + us.length))[m]? = if off ≤ m ∧ m < off + us.length then us[m - off]? else vs[m]? := by
  rw [List.append_assoc, List.getElem?_append]
  have hl : (vs.take off).length = off := by simp; omega
  rw [hl]
  by_cases h1 : m < off
  · rw [if_pos h1, if_neg (by omega)]
    simp [h1]
  · rw [if_neg h1, List.getElem?_append]
    by_cases h2 : m - off < us.length
    · rw [if_pos h2, if_pos (by omega)]
    · rw [if_neg h2, if_neg (by omega), List.getElem?_drop]
      congr 1; omega

theorem s_store {t : TypeId} {x y : Operand} (hT : TTok P TT) (hn : inFrame n dst = true) (hx : xOp P TT n ⟨dst, .store t x y, ty, pos, after, guard⟩ e h K) : Goal P ⟨dst, .store t x y, ty, pos, after, guard⟩ n e h K := by
  obtain ⟨sx, h1, hk⟩ := opd_sound hx
  obtain ⟨sy, h2, hk⟩ := opd_sound hk
  have rx : ∀ (cx : Cx) (w : World) (a : Act), Reads (lk e) (slotsOf (Op.store t x y).operands.toList) cx w a → RelV cx w sx (a.eval x) := fun cx w a hr =>
    h1.rel hr fun t ht => mem_slotsOf (by simp [Op.operands, ht])
  have ry : ∀ (cx : Cx) (w : World) (a : Act), Reads (lk e) (slotsOf (Op.store t x y).operands.toList) cx w a → RelV cx w sy (a.eval y) := fun cx w a hr =>
    h2.rel hr fun t ht => mem_slotsOf (by simp [Op.operands, ht])
  clear h1 h2 hx
  unfold execStore at hk
  split at hk
  · exact hk.elim
  · rename_i hty
    split at hk
    · rename_i k p _
      split at hk
      · rename_i s hs
        obtain ⟨z, hk, hwz, hle, hz⟩ := place_sound _ _ _ _ hk
        refine ⟨_, opD_put k (.cells s) (.cells z) hn hs (by simp) (by simp) fun cx w a hr hl => ?_, hk⟩
        have hv : RelC cx w (.pb k p) [a.eval x] := rx cx w a hr
        generalize hv0 : a.eval x = v0 at hv
        cases hv with
        | pb hb =>
          rename_i b C
          obtain ⟨hO, vs, T, hh, hrc⟩ := hl b C hb
          have hlen := hrc.width
          obtain ⟨us, hu, hrun⟩ := run_store_rel (hT t) hty (ry cx w a hr) hh (off := offs p) (by omega)
          refine ⟨b, C, (vs.take (offs p) ++ us ++ vs.drop (offs p + us.length)).toArray, hb, by simp only [execOp, Instr.storeAt, Instr.sureAddr, hv0, Sem.run_bind, Sem.run_pure, Result.andThen_ok, hrun], fun he => ?_⟩
          exact ⟨_, T, setRow_heap w b _ _ T _ hh, (hz cx w vs us hrc hu).mono he⟩
      · exact hk.elim
    · rename_i E k i p _
      split at hk
      · rename_i E' rows hs
        split at hk
        · rename_i hE hnr
          have hE := Nat.eq_of_beq_eq_true hE
          subst hE
          obtain ⟨s', hs', hk⟩ := elem_iff.1 hk
          obtain ⟨z, hk, hwz, hle, hz⟩ := place_sound _ _ _ _ hk
          refine ⟨_, opD_put k (.arr E rows) (.arr E (rows.set i z)) hn hs (by simp) (by simp) fun cx w a hr hl => ?_, hk⟩
          have hv : RelC cx w (.pe E k i p) [a.eval x] := rx cx w a hr
          generalize hv0 : a.eval x = v0 at hv
          cases hv with
          | pe hb =>
            rename_i b C
            obtain ⟨hO, vs, T, hh, hlen, hC, hrows⟩ := hl b C hb
            have hlt : i < rows.length := (List.getElem?_eq_some_iff.1 hs').1
            have hseg := hrows i s' hs'
            have hw := hseg.width
            have hiC : (i + 1) * E ≤ C * E := Nat.mul_le_mul_right E (by omega)
            rw [Nat.add_mul, Nat.one_mul] at hiC
            have hwE : wd s' = E := by rw [← hw]; simp; omega
            obtain ⟨us, hu, hrun⟩ := run_store_rel (hT t) hty (ry cx w a hr) hh (off := i * E + offs p) (by omega)
            have hul := hu.width
            refine ⟨b, C, (vs.take (i * E + offs p) ++ us ++ vs.drop (i * E + offs p + us.length)).toArray, hb, by simp only [execOp, Instr.storeAt, Instr.sureAddr, hv0, Sem.run_bind, Sem.run_pure, Result.andThen_ok, hrun], fun he => ?_⟩
            refine ⟨_, T, setRow_heap w b _ _ T _ hh, by simp; omega, by simpa using hC, fun j u hj => ?_⟩
            have key : ∀ m, (vs.take (i * E + offs p) ++ us ++ vs.drop (i * E + offs p + us.length))[m]? = if i * E + offs p ≤ m ∧ m < i * E + offs p + us.length then us[m - (i * E + offs p)]? else vs[m]? :=
              splice_get vs us (i * E + offs p) (by omega)
            by_cases hji : i = j
            · subst hji
              have : u = z := by simpa [List.getElem?_set, hlt] using hj.symm
              subst this
              have hz' := hz cx.bare w _ us hseg (noRef_bare hu hnr)
              have e1 : ((vs.take (i * E + offs p) ++ us ++ vs.drop (i * E + offs p + us.length)).drop (i * E)).take E =
                  ((vs.drop (i * E)).take E).take (offs p) ++ us ++ ((vs.drop (i * E)).take E).drop (offs p + us.length) := by
                apply List.ext_getElem?
                intro m
                rw [splice_get ((vs.drop (i * E)).take E) us (offs p) (by simp; omega)]
                rw [List.getElem?_take, List.getElem?_drop, key]
                by_cases hm : m < E
                · simp only [hm, if_true, List.getElem?_take, List.getElem?_drop]
                  by_cases h3 : offs p ≤ m ∧ m < offs p + us.length
                  · rw [if_pos (by omega), if_pos h3]; congr 1; omega
                  · rw [if_neg (by omega), if_neg h3]
                · rw [if_neg hm, if_neg (by omega), List.getElem?_take, if_neg hm]
              rw [e1]
              exact hz'.mono he.bare
            · have hj' : rows[j]? = some u := by simpa [List.getElem?_set, hji] using hj
              have hjl : j < rows.length := (List.getElem?_eq_some_iff.1 hj').1
              have e1 : ((vs.take (i * E + offs p) ++ us ++ vs.drop (i * E + offs p + us.length)).drop (j * E)).take E = (vs.drop (j * E)).take E := by
                apply List.ext_getElem?
                intro m
                rw [List.getElem?_take, List.getElem?_take, List.getElem?_drop, List.getElem?_drop, key]
                by_cases hm : m < E
                · simp only [hm, if_true]
                  rw [if_neg]
                  intro ⟨g1, g2⟩
                  rcases Nat.lt_or_gt_of_ne hji with hlt' | hlt'
                  · have := Nat.mul_le_mul_right E (show i + 1 ≤ j from hlt')
                    rw [Nat.add_mul] at this; omega
                  · have := Nat.mul_le_mul_right E (show j + 1 ≤ i from hlt')
                    rw [Nat.add_mul] at this; omega
                · simp [hm]
              rw [e1]
              exact (hrows j u hj').mono he.bare
        · exact hk.elim
      · exact hk.elim
    · exact hk.elim
end
end Go.Fw
