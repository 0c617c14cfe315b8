/- Paths: what a value holds at the end of a path. -/
import Derived.Test.YtgkkceoocaincaaFwS
namespace Go.Fw

theorem RelC.ones {cx w s vs} (h : RelC cx w s vs) : ∀ v ∈ vs, v.oneCell' = true := by
  induction h with
  | v h => simpa using h
  | top h => simpa using h
  | nil => simp
  | cons _ _ ih1 ih2 => intro v hv; exact (List.mem_append.1 hv).elim (ih1 v) (ih2 v)
  | ba h => intro v hv; obtain ⟨x, _, rfl⟩ := List.mem_map.1 hv; rfl
  | _ => intro v hv; simp at hv; subst hv; rfl

theorem RelC.agg_inv {cx w s cs vs} (h : RelC cx w (.agg (s :: cs)) vs) : ∃ us ws, vs = us ++ ws ∧ RelC cx w s us ∧ RelC cx w (.agg cs) ws := by
  cases h with
  | cons h1 h2 => exact ⟨_, _, rfl, h1, h2⟩
theorem wds_take_le : ∀ (cs : List SV) (j : Nat), wds (cs.take j) ≤ wds cs
  | [], j => by simp [wds]
  | s :: cs, 0 => by simp [wds]
  | s :: cs, j + 1 => by have := wds_take_le cs j; simp [wds]; omega
theorem nth_eq : ∀ (cs : List SV) (j : Nat), nth cs j = cs[j]?
  | [], j => by simp [nth]
  | s :: cs, 0 => by simp [nth]
  | s :: cs, j + 1 => by simp [nth, nth_eq cs j]
theorem nthB_eq : ∀ (cs : List OB) (j : Nat), nthB cs j = cs[j]?
  | [], j => by simp [nthB]
  | s :: cs, 0 => by simp [nthB]
  | s :: cs, j + 1 => by simp [nthB, nthB_eq cs j]
theorem setL_eq {α : Type} : ∀ (cs : List α) (j : Nat) (y : α), setL cs j y = cs.set j y
  | [], j, y => by simp [setL]
  | s :: cs, 0, y => by simp [setL]
  | s :: cs, j + 1, y => by simp [setL, setL_eq cs j]
theorem len_eq {α : Type} : ∀ (l : List α), len l = l.length
  | [] => rfl
  | _ :: r => by simp [len, len_eq r]
theorem app_eq {α : Type} : ∀ (l r : List α), app l r = l ++ r
  | [], _ => rfl
  | _ :: l, r => by simp [app, app_eq l r]
theorem snoc_eq {α : Type} : ∀ (l : List α) (y : α), snoc l y = l ++ [y]
  | [], _ => rfl
  | _ :: l, y => by simp [snoc, snoc_eq l y]

theorem dropA {α : Type} (xs ws : List α) (n : Nat) : (xs ++ ws).drop (xs.length + n) = ws.drop n := by
  rw [← List.drop_drop, List.drop_left]
theorem wds_get : ∀ (cs : List SV) (j : Nat) (s : SV), cs[j]? = some s → wds (cs.take j) + wd s ≤ wds cs
  | [], j, s, h => by simp at h
  | x :: cs, 0, s, h => by simp at h; subst h; simp [wds]
  | x :: cs, j + 1, s, h => by simp at h; have := wds_get cs j s h; simp [wds]; omega
theorem RelC.get {cx w} : ∀ {cs : List SV} {vs : List Value} (j : Nat) (s : SV), RelC cx w (.agg cs) vs → cs[j]? = some s →
    RelC cx w s ((vs.drop (wds (cs.take j))).take (wd s))
  | [], _, j, s, _, h => by simp at h
  | x :: cs, vs, 0, s, hr, h => by
    simp at h; subst h
    obtain ⟨us, ws, rfl, h1, h2⟩ := hr.agg_inv
    have := h1.width
    simpa [wds, ← this] using h1
  | x :: cs, vs, j + 1, s, hr, h => by
    simp at h
    obtain ⟨us, ws, rfl, h1, h2⟩ := hr.agg_inv
    have := RelC.get j s h2 h
    have hu := h1.width
    simp only [List.take_succ_cons, wds, ← hu]
    rw [dropA]
    exact this
theorem RelC.set {cx w} : ∀ {cs : List SV} {vs : List Value} (j : Nat) (s y : SV) (us : List Value), RelC cx w (.agg cs) vs → cs[j]? = some s → RelC cx w y us → wd y = wd s →
    RelC cx w (.agg (cs.set j y)) (vs.take (wds (cs.take j)) ++ us ++ vs.drop (wds (cs.take j) + us.length))
  | [], _, j, s, _, _, _, h, _, _ => by simp at h
  | x :: cs, vs, 0, s, y, us, hr, h, hy, hw => by
    simp at h; subst h
    obtain ⟨xs, ws, rfl, h1, h2⟩ := hr.agg_inv
    have h3 := h1.width
    have h4 := hy.width
    have : xs.length = us.length := by omega
    simp only [List.set_cons_zero, List.take_zero, wds, List.take_zero, List.nil_append, Nat.zero_add]
    rw [← this, List.drop_left]
    exact .cons hy h2
  | x :: cs, vs, j + 1, s, y, us, hr, h, hy, hw => by
    simp at h
    obtain ⟨xs, ws, rfl, h1, h2⟩ := hr.agg_inv
    have h3 := h1.width
    have := RelC.set j s y us h2 h hy hw
    simp only [List.set_cons_succ, List.take_succ_cons, wds, ← h3]
    have e := RelC.cons h1 this
    rw [List.take_append, Nat.add_assoc, dropA]
    simpa [List.take_of_length_le] using e
theorem wds_set : ∀ (cs : List SV) (j : Nat) (s y : SV), cs[j]? = some s → wd y = wd s → wds (cs.set j y) = wds cs
  | [], j, s, y, h, _ => by simp at h
  | x :: cs, 0, s, y, h, hw => by simp at h; subst h; simp [wds, hw]
  | x :: cs, j + 1, s, y, h, hw => by simp at h; simp [wds, wds_set cs j s y h hw]
theorem wds_all (E : Nat) : ∀ (cs : List SV), (cs.all fun s => Nat.beq (wd s) E) = true → ∀ j, j ≤ cs.length → wds (cs.take j) = j * E
  | [], _, j, hj => by simp at hj; subst hj; simp [wds]
  | s :: cs, h, 0, _ => by simp [wds]
  | s :: cs, h, j + 1, hj => by
    simp only [List.all_cons, Bool.and_eq_true] at h
    have h1 := Nat.eq_of_beq_eq_true h.1
    have := wds_all E cs h.2 j (by simpa using hj)
    simp [wds, this, h1, Nat.add_mul]; omega

theorem need_iff {p K : Prop} : Need p K ↔ p ∧ K := by unfold Need; exact Iff.rfl
theorem elem_iff {rows : List SV} {i : Nat} {K : SV → Prop} : Elem rows i K ↔ ∃ s, rows[i]? = some s ∧ K s := by unfold Elem; exact Iff.rfl

theorem follow_sound : ∀ (p : List PS) (s : SV) (K : SV → Prop), follow p s K →
    ∃ y, K y ∧ offs p + wd y ≤ wd s ∧ ∀ cx w vs, RelC cx w s vs → RelC cx w y ((vs.drop (offs p)).take (wd y))
  | [], s, K, h => ⟨s, h, by simp [offs], fun cx w vs hr => by have := hr.width; simpa [offs, ← this] using hr⟩
  | .fld j off :: p, s, K, h => by
    simp only [follow] at h
    split at h
    · rename_i cs
      split at h
      · rename_i ho
        have ho := Nat.eq_of_beq_eq_true ho
        split at h
        · rename_i s' hs
          rw [nth_eq] at hs
          obtain ⟨y, hk, hle, hy⟩ := follow_sound p s' K h
          have h1 := wds_get cs j s' hs
          refine ⟨y, hk, by simp only [offs, wd]; omega, fun cx w vs hr => ?_⟩
          have h2 := hy cx w _ (hr.get j s' hs)
          rw [List.drop_take, List.take_take, List.drop_drop, ho] at h2
          simpa [offs, Nat.min_eq_left (show wd y ≤ wd s' - offs p by omega)] using h2
        · exact h.elim
      · exact h.elim
    · exact h.elim
  | .ix E n i :: p, s, K, h => by
    simp only [follow] at h
    split at h
    · rename_i m l
      split at h
      · split at h
        · rename_i hE hn
          have hE := Nat.eq_of_beq_eq_true hE
          have hn := Nat.eq_of_beq_eq_true hn
          subst hE hn
          obtain ⟨hi, h⟩ := need_iff.1 h
          refine ⟨_, h, by simp [offs, wd]; omega, fun cx w vs hr => ?_⟩
          cases hr with
          | ba hl =>
            subst hl
            have : ((l.map fun x => Value.int .u8 x).drop i).take 1 = [.int .u8 (l.getD i 0)] := by
              rw [← List.map_drop, ← List.map_take, List.take_one, List.head?_drop]
              simp [List.getD, hi]
            simpa [offs, wd, this] using (RelC.v (cx := cx) (w := w) (x := .int .u8 (l.getD i 0)) rfl)
        · exact h.elim
      · exact h.elim
    · rename_i cs
      obtain ⟨hall, h⟩ := need_iff.1 h
      obtain ⟨s', hs, h⟩ := elem_iff.1 h
      obtain ⟨y, hk, hle, hy⟩ := follow_sound p s' K h
      have h1 := wds_get cs i s' hs
      have hlt : i < cs.length := (List.getElem?_eq_some_iff.1 hs).1
      have ho := wds_all E cs hall i (by omega)
      refine ⟨y, hk, by simp only [offs, wd]; omega, fun cx w vs hr => ?_⟩
      have h2 := hy cx w _ (hr.get i s' hs)
      rw [List.drop_take, List.take_take, List.drop_drop, ho] at h2
      simpa [offs, Nat.min_eq_left (show wd y ≤ wd s' - offs p by omega)] using h2
    · exact h.elim

theorem place_sound : ∀ (p : List PS) (s x : SV) (K : SV → Prop), place p s x K →
    ∃ z, K z ∧ wd z = wd s ∧ offs p + wd x ≤ wd s ∧ ∀ cx w vs us, RelC cx w s vs → RelC cx w x us → RelC cx w z (vs.take (offs p) ++ us ++ vs.drop (offs p + us.length))
  | [], s, x, K, h => by
    simp only [place] at h
    split at h
    · rename_i hw
      have hw := Nat.eq_of_beq_eq_true hw
      refine ⟨x, h, hw.symm, by simp [offs]; omega, fun cx w vs us hr hx => ?_⟩
      have h1 := hr.width
      have h2 := hx.width
      simpa [offs, List.drop_eq_nil_of_le (show vs.length ≤ us.length by omega)] using hx
    · exact h.elim
  | .fld j off :: p, s, x, K, h => by
    simp only [place] at h
    split at h
    · rename_i cs
      split at h
      · rename_i ho
        have ho := Nat.eq_of_beq_eq_true ho
        split at h
        · rename_i s' hs
          rw [nth_eq] at hs
          obtain ⟨z, hk, hwz, hle, hz⟩ := place_sound p s' x _ h
          rw [setL_eq] at hk
          have h1 := wds_get cs j s' hs
          refine ⟨_, hk, by simp only [wd]; exact wds_set cs j s' z hs hwz, by simp only [offs, wd]; omega, fun cx w vs us hr hx => ?_⟩
          have hu := hx.width
          have hv := hr.width
          simp only [wd] at hv
          have h2 := hz cx w _ us (hr.get j s' hs) hx
          have h3 := hr.set j s' z _ hs h2 hwz
          rw [ho] at h3
          have e : vs.take off ++ (((vs.drop off).take (wd s')).take (offs p) ++ us ++ ((vs.drop off).take (wd s')).drop (offs p + us.length)) ++
              vs.drop (off + (((vs.drop off).take (wd s')).take (offs p) ++ us ++ ((vs.drop off).take (wd s')).drop (offs p + us.length)).length) =
              vs.take (off + offs p) ++ us ++ vs.drop (off + offs p + us.length) := by
            have hl : (((vs.drop off).take (wd s')).take (offs p) ++ us ++ ((vs.drop off).take (wd s')).drop (offs p + us.length)).length = wd s' := by
              simp; omega
            rw [hl, List.take_take, Nat.min_eq_left (by omega), List.drop_take, List.drop_drop, List.take_add]
            have : vs.drop (off + offs p + us.length) = (vs.drop (off + (offs p + us.length))).take (wd s' - (offs p + us.length)) ++ vs.drop (off + wd s') := by
              have := List.take_append_drop (wd s' - (offs p + us.length)) (vs.drop (off + (offs p + us.length)))
              rw [List.drop_drop] at this
              rw [show off + wd s' = off + (offs p + us.length) + (wd s' - (offs p + us.length)) by omega, show off + offs p + us.length = off + (offs p + us.length) by omega]
              exact this.symm
            rw [this]
            simp
          rw [e] at h3
          simpa [offs] using h3
        · exact h.elim
      · exact h.elim
    · exact h.elim
  | .ix E n i :: p, s, x, K, h => by
    simp only [place] at h
    split at h
    · rename_i m l
      split at h
      · rename_i z
        split at h
        · rename_i hE hn
          have hE := Nat.eq_of_beq_eq_true hE
          have hn := Nat.eq_of_beq_eq_true hn
          subst hE hn
          obtain ⟨hi, h⟩ := need_iff.1 h
          refine ⟨_, h, rfl, by simp [offs, wd]; omega, fun cx w vs us hr hx => ?_⟩
          cases hr with
          | ba hl =>
            cases hx with
            | v =>
              have e : (l.set i z).map (fun x => Value.int .u8 x) = (l.map fun x => Value.int .u8 x).take i ++ [.int .u8 z] ++ (l.map fun x => Value.int .u8 x).drop (i + 1) := by
                rw [List.map_set, List.set_eq_take_append_cons_drop]
                simp [hl, hi]
              simp only [offs, Nat.mul_one, Nat.add_zero, List.length_singleton]
              rw [← e]
              exact .ba (by simpa using hl)
        · exact h.elim
      · exact h.elim
    · rename_i cs
      · obtain ⟨hall, h⟩ := need_iff.1 h
        obtain ⟨s', hs, h⟩ := elem_iff.1 h
        obtain ⟨z, hk, hwz, hle, hz⟩ := place_sound p s' x _ h
        have h1 := wds_get cs i s' hs
        have hlt : i < cs.length := (List.getElem?_eq_some_iff.1 hs).1
        have ho := wds_all E cs hall i (by omega)
        refine ⟨_, hk, by simp only [wd]; exact wds_set cs i s' z hs hwz, by simp only [offs, wd]; omega, fun cx w vs us hr hx => ?_⟩
        have hu := hx.width
        have hv := hr.width
        simp only [wd] at hv
        have h2 := hz cx w _ us (hr.get i s' hs) hx
        have h3 := hr.set i s' z _ hs h2 hwz
        rw [ho] at h3
        have e : vs.take (i * E) ++ (((vs.drop (i * E)).take (wd s')).take (offs p) ++ us ++ ((vs.drop (i * E)).take (wd s')).drop (offs p + us.length)) ++
            vs.drop (i * E + (((vs.drop (i * E)).take (wd s')).take (offs p) ++ us ++ ((vs.drop (i * E)).take (wd s')).drop (offs p + us.length)).length) =
            vs.take (i * E + offs p) ++ us ++ vs.drop (i * E + offs p + us.length) := by
          have hl : (((vs.drop (i * E)).take (wd s')).take (offs p) ++ us ++ ((vs.drop (i * E)).take (wd s')).drop (offs p + us.length)).length = wd s' := by
            simp; omega
          rw [hl, List.take_take, Nat.min_eq_left (by omega), List.drop_take, List.drop_drop, List.take_add]
          have : vs.drop (i * E + offs p + us.length) = (vs.drop (i * E + (offs p + us.length))).take (wd s' - (offs p + us.length)) ++ vs.drop (i * E + wd s') := by
            have := List.take_append_drop (wd s' - (offs p + us.length)) (vs.drop (i * E + (offs p + us.length)))
            rw [List.drop_drop] at this
            rw [show i * E + wd s' = i * E + (offs p + us.length) + (wd s' - (offs p + us.length)) by omega, show i * E + offs p + us.length = i * E + (offs p + us.length) by omega]
            exact this.symm
          rw [this]
          simp
        rw [e] at h3
        simpa [offs] using h3
    · exact h.elim
end Go.Fw
