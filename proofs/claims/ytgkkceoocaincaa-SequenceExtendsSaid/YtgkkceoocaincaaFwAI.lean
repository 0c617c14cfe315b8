/- Regions: what the executor's operations say, one behind the other. -/
import Derived.Test.YtgkkceoocaincaaFwAH
namespace Go.Fw

section
variable {P : Program} {TT : Nat → TI} {n : Sz} {all : Array Oper}

/-- An operation of a region, wanted or passed over. -/
def StepG (P : Program) (all : Array Oper) (o : Oper) (n : Sz) (sl : Nat → Option SV) (hp : Nat → Option OB) (rc : Rec) : Prop :=
  ∀ (B : Base) (cx : Cx) (a : Act) (w : World) (Q : Exit → Act → World → Prop) (K : Act → World → Prop), B.n = n → SatF B cx sl hp a w →
    (∀ cx' a' w', SatF B cx' (updSl sl rc.wr) (updHp hp rc.wh) a' w' → K a' w') → if Region.wanted o (yielded all a.tmps) = true then o.wp P a w K Q else K (a.put o.dst undef) w
def OpG (P : Program) (all : Array Oper) (o : Oper) (n : Sz) (sl : Nat → Option SV) (hp : Nat → Option OB) (rc : Rec) : Prop :=
  ∀ sl' hp', Agree rc sl sl' hp hp' → StepG P all o n sl' hp' rc

inductive Der (P : Program) (all : Array Oper) (n : Sz) : List Oper → (Nat → Option SV) → (Nat → Option OB) → List Rec → (Nat → Option SV) → (Nat → Option OB) → Prop where
  | nil {sl hp} : Der P all n [] sl hp [] sl hp
  | cons {o r sl hp rc rcs sl' hp'} : OpG P all o n sl hp rc → Der P all n r (updSl sl rc.wr) (updHp hp rc.wh) rcs sl' hp' → Der P all n (o :: r) sl hp (rc :: rcs) sl' hp'

theorem dstOf_eq : ∀ (l : List Oper) (j t : Nat), dstOf l j = some t → (l[j]?).bind (·.dst) = some t
  | [], _, _, h => by cases h
  | o :: _, 0, _, h => h
  | _ :: r, j + 1, t, h => by simpa using dstOf_eq r j t h

theorem yielded_bool {a : Act} {j t : Nat} {b : Bool} (hd : dstOf all.toList j = some t) (hv : a.tmps[t]? = some (.bool b)) : yielded all a.tmps j = some b := by
  have := dstOf_eq _ _ _ hd
  rw [Array.getElem?_toList] at this
  simp [yielded, this, hv]
theorem yielded_none {a : Act} {j t : Nat} {vs : Array Value} (hd : dstOf all.toList j = some t) (hv : a.tmps[t]? = some (.tuple vs)) : yielded all a.tmps j = none := by
  have := dstOf_eq _ _ _ hd
  rw [Array.getElem?_toList] at this
  simp [yielded, this, hv]

theorem opG_plain {o : Oper} {sl hp rc} (hg : o.guard = none) (h : OpD P o n sl hp rc) : OpG P all o n sl hp rc := by
  intro sl' hp' ha B cx a w Q K hB hs hK
  simp only [Region.wanted, hg, if_true]
  exact h sl' hp' ha B cx a w Q K hB hs hK
theorem opG_want {o : Oper} {sl hp rc} {j t : Nat} {b : Bool} (hg : o.guard = some (j, b)) (hd : dstOf all.toList j = some t) (ht : sl t = some (.v (.bool b))) (h : OpD P o n sl hp rc) :
    OpG P all o n sl hp (rc.seen t) := by
  intro sl' hp' ha B cx a w Q K hB hs hK
  have h1 : sl' t = some (.v (.bool b)) := by
    unfold Agree at ha
    split at ha
    · rw [ha.1, ht]
    · rw [ha.1 t (by simp [Rec.seen]), ht]
  obtain ⟨v, h2, h3⟩ := hs.sl t _ h1
  rw [relV_v h3] at h2
  simp only [Region.wanted, hg, yielded_bool hd h2, beq_self_eq_true, if_true]
  refine h sl' hp' ?_ B cx a w Q K hB hs hK
  unfold Agree at ha ⊢
  by_cases hb : rc.bar = true
  · have hb' : (rc.seen t).bar = true := hb
    rw [if_pos hb'] at ha; rw [if_pos hb]; exact ha
  · have hb' : ¬ (rc.seen t).bar = true := hb
    rw [if_neg hb'] at ha; rw [if_neg hb]; exact ⟨fun t ht => ha.1 t (List.mem_cons_of_mem _ ht), ha.2⟩
theorem satF_undef {B cx sl hp a w} (hs : SatF B cx sl hp a w) {dst : Option Nat} (hn : inFrame B.n dst = true) : SatF B cx (updSl sl (dst1 dst (.tup []))) hp (a.put dst undef) w :=
  hs.put (v := undef) (by exact ⟨[], rfl, .nil⟩) hn
theorem opG_skip {o : Oper} {sl hp} {j t : Nat} {b : Bool} (hn : inFrame n o.dst = true) (hg : o.guard = some (j, b)) (hd : dstOf all.toList j = some t) (ht : sl t = some (.v (.bool !b)) ∨ sl t = some (.tup [])) :
    OpG P all o n sl hp (Rec.skip o t) := by
  intro sl' hp' ha B cx a w Q K hB hs hK
  simp only [Agree, Rec.skip, Bool.false_eq_true, if_false] at ha
  have h1 : sl' t = sl t := ha.1 t (by simp)
  have hw : ¬ Region.wanted o (yielded all a.tmps) = true := by
    rcases ht with ht | ht
    · obtain ⟨v, h2, h3⟩ := hs.sl t _ (h1.trans ht)
      rw [relV_v h3] at h2
      simp [Region.wanted, hg, yielded_bool hd h2]
    · obtain ⟨v, h2, vs, rfl, _⟩ := hs.sl t _ (h1.trans ht)
      simp [Region.wanted, hg, yielded_none hd h2]
  rw [if_neg hw]
  subst hB
  exact hK cx _ _ (satF_undef hs hn)

theorem lk_same {e : List (Nat × SV)} {t : Nat} {s : SV} (h : lk e t = some s) : lk ((t, s) :: e) = lk e := by
  rw [lk_cons]
  funext i
  by_cases hi : i = t
  · subst hi; simp [h]
  · simp [hi]

theorem execOps_sound (hT : TTok P TT) : ∀ {l : List Oper} {e : List (Nat × SV)} {h : List OB} {rs : List Rec} {K : List (Nat × SV) → List OB → List Rec → Prop},
    execOps P TT n all.toList l e h rs K → ∃ rcs e' h', Der P all n l (lk e) (nthB h) rcs (lk e') (nthB h') ∧ K e' h' (rcs.reverse ++ rs)
  | [], e, h, rs, K, hk => ⟨[], e, h, .nil, hk⟩
  | o :: r, e, h, rs, K, hk => by
    have step : ∀ {e0 : List (Nat × SV)} {rc : Rec}, lk e0 = lk e → OpG P all o n (lk e) (nthB h) rc → (updK e0 h rc fun e h => execOps P TT n all.toList r e h (rc :: rs) K) →
        ∃ rcs e' h', Der P all n (o :: r) (lk e) (nthB h) rcs (lk e') (nthB h') ∧ K e' h' (rcs.reverse ++ rs) := by
      intro e0 rc h0 hg hk
      obtain ⟨e1, h1, g1, g2, hk⟩ := updK_sound hk
      obtain ⟨rcs, e', h', hd, hk⟩ := execOps_sound hT hk
      rw [g1, g2, h0] at hd
      exact ⟨rc :: rcs, e', h', .cons hg hd, by simpa using hk⟩
    rw [execOps_cons] at hk
    unfold stepOp at hk
    split at hk
    · exact hk.elim
    rename_i hn
    split at hk
    · rename_i hg
      obtain ⟨rc, hd, hk⟩ := xOp_sound hT hn hk
      exact step rfl (opG_plain hg hd) hk
    · rename_i j want hg
      split at hk
      · exact hk.elim
      rename_i t ht
      split at hk
      · rename_i b hb
        have hb' := lk_same hb
        cases b
        · simp only [Bif] at hk
          cases want
          · obtain ⟨rc, hd, hk⟩ := xOp_sound hT hn hk
            rw [hb'] at hd
            exact step hb' (opG_want hg ht hb hd) hk
          · exact step hb' (opG_skip hn hg ht (.inl hb)) hk
        · simp only [Bif] at hk
          cases want
          · exact step hb' (opG_skip hn hg ht (.inl hb)) hk
          · obtain ⟨rc, hd, hk⟩ := xOp_sound hT hn hk
            rw [hb'] at hd
            exact step hb' (opG_want hg ht hb hd) hk
      · rename_i hb
        exact step rfl (opG_skip hn hg ht (.inr hb)) hk
      · exact hk.elim

theorem wpOp_of {o : Oper} {i : Nat} {Q : Exit → Act → World → Prop} {K : Act → World → Prop} {a : Act} {w : World} (ho : all[i]? = some o)
    (h : if Region.wanted o (yielded all a.tmps) = true then o.wp P a w K Q else K (a.put o.dst undef) w) : wpOp P all Q i K a w := by
  unfold wpOp
  rw [ho]
  simp only
  split
  · rename_i hw; rw [if_pos hw] at h; exact .inl h
  · rename_i hw; rw [if_neg hw] at h; exact h

theorem der_seq {l : List Oper} {sl hp rcs sl' hp'} (hd : Der P all n l sl hp rcs sl' hp') : ∀ (j : Nat), (∀ (i : Nat) o, l[i]? = some o → all[j + i]? = some o) → ∀ {B : Base} {cx : Cx} {a : Act} {w : World} {Q : Exit → Act → World → Prop}, B.n = n →
    SatF B cx sl hp a w → (∀ cx' a' w', SatF B cx' sl' hp' a' w' → Q .normal a' w') → wpOps P all Q (List.range' j l.length) a w := by
  induction hd with
  | nil => intro j _ B cx a w Q _ hs hK; exact hK cx a w hs
  | @cons o r sl hp rc rcs sl' hp' hg _ ih =>
    intro j hj B cx a w Q hB hs hK
    rw [List.length_cons, List.range'_succ, wpOps_cons]
    refine wpOp_of (hj 0 o rfl) (hg _ _ ?_ B cx a w Q _ hB hs fun cx' a' w' hs' => ?_)
    · unfold Agree; split
      · exact ⟨rfl, rfl⟩
      · exact ⟨fun _ _ => rfl, fun _ _ => rfl⟩
    · exact ih (j + 1) (fun i o h => by rw [show j + 1 + i = j + (i + 1) by omega]; exact hj (i + 1) o (by simpa using h)) hB hs' hK
end
end Go.Fw
