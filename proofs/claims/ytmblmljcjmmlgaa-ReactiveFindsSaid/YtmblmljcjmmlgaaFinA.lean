/- ReactiveFinds: paths, and the flood of requests and replies (plain law). -/
import Derived.Test.YtmblmljcjmmlgaaFin0
namespace Go.Fw
set_option maxRecDepth 4000
set_option maxHeartbeats 1000000
namespace Fnd
theorem nodup_le {α : Type} [DecidableEq α] : ∀ {L cs : List α}, L.Nodup → (∀ x ∈ L, x ∈ cs) → L.length ≤ cs.length
  | [], cs, _, _ => Nat.zero_le _
  | a :: L, cs, hn, hm => by
    obtain ⟨h1, h2⟩ := List.nodup_cons.1 hn
    have ha : a ∈ cs := hm a List.mem_cons_self
    have h3 := nodup_le (L := L) (cs := cs.erase a) h2 fun x hx => by
      have hxa : x ≠ a := fun e => h1 (e ▸ hx)
      exact (List.mem_erase_of_ne hxa).2 (hm x (List.mem_cons_of_mem _ hx))
    have h4 := List.length_erase_of_mem ha
    have h5 := List.length_pos_of_mem ha
    simp only [List.length_cons]
    omega
/-- The cost of a link; of a path. -/
theorem tfE {b : Bool} {p : Prop} (h : b = true) (g : b = false) : p := absurd (h.symm.trans g) (by decide)
def lc (i j : Nat) : Nat := 1 + (i + 1) * (j + 1)
theorem lc_symm (i j : Nat) : lc i j = lc j i := by unfold lc; rw [Nat.mul_comm]
theorem lc_pos (i j : Nat) : 1 ≤ lc i j := by unfold lc; omega
def pc : List Nat → Nat
  | a :: b :: r => lc a b + pc (b :: r)
  | _ => 0
/-- A path without circles, from its head to o. -/
inductive Pt (A : Nat → Nat → Bool) (o : Nat) : List Nat → Prop
  | one : Pt A o [o]
  | cons {a b : Nat} {r : List Nat} (h : A a b = true) (n : a ∉ b :: r) (t : Pt A o (b :: r)) : Pt A o (a :: b :: r)
structure Gr (n : Nat) (A : Nat → Nat → Bool) : Prop where
  n5 : n ≤ 5
  sy : ∀ i j, A i j = A j i
  rg : ∀ i j, A i j = true → i < n ∧ j < n
  ir : ∀ i, A i i = false
theorem Gr.rg2 {n : Nat} {A : Nat → Nat → Bool} (g : Gr n A) {i j : Nat} (h : A i j = true) : i < n := (g.rg i j h).1
section
variable {A : Nat → Nat → Bool} {o : Nat}
theorem Pt.ne {q : List Nat} (h : Pt A o q) : q ≠ [] := by cases h <;> simp
theorem Pt.nodup {q : List Nat} (h : Pt A o q) : q.Nodup := by
  induction h with
  | one => simp
  | cons h n t ih => exact List.nodup_cons.2 ⟨n, ih⟩
theorem Pt.mem {q : List Nat} (h : Pt A o q) : o ∈ q := by
  induction h with
  | one => simp
  | cons h n t ih => exact List.mem_cons_of_mem _ ih
theorem Pt.lt {n : Nat} (g : Gr n A) (ho : o < n) {q : List Nat} (h : Pt A o q) : ∀ x ∈ q, x < n := by
  induction h with
  | one => intro x hx; rw [List.mem_singleton] at hx; omega
  | cons h n t ih =>
    intro x hx
    rcases List.mem_cons.1 hx with rfl | hx
    · exact g.rg2 h
    · exact ih x hx
theorem Pt.len {n : Nat} (g : Gr n A) (ho : o < n) {q : List Nat} (h : Pt A o q) : q.length ≤ n := by
  have := nodup_le (cs := List.range n) h.nodup fun x hx => List.mem_range.2 (h.lt g ho x hx)
  rwa [List.length_range] at this
theorem pc_le {n : Nat} (h5 : n ≤ 5) : ∀ {q : List Nat}, (∀ x ∈ q, x < n) → pc q ≤ 26 * (q.length - 1)
  | [], _ => Nat.zero_le _
  | [_], _ => Nat.zero_le _
  | a :: b :: r, h => by
    have := pc_le h5 (q := b :: r) fun x hx => h x (List.mem_cons_of_mem _ hx)
    have ha := h a (by simp)
    have hb := h b (by simp)
    have hl : lc a b ≤ 26 := by
      unfold lc
      have : (a + 1) * (b + 1) ≤ 5 * 5 := Nat.mul_le_mul (by omega) (by omega)
      omega
    simp only [pc, List.length_cons] at this ⊢
    omega
theorem Pt.pc_le {n : Nat} (g : Gr n A) (ho : o < n) {q : List Nat} (h : Pt A o q) : pc q ≤ 104 := by
  have h1 := h.len g ho
  have h2 := Fnd.pc_le g.n5 (h.lt g ho)
  have := g.n5
  omega
/-- The rest of a path is a path. -/
theorem Pt.suf {q s : List Nat} (h : Pt A o q) (hs : s <:+ q) (h0 : s ≠ []) : Pt A o s ∧ pc s ≤ pc q := by
  induction h with
  | one =>
    rcases List.suffix_cons_iff.1 hs with rfl | h
    · exact ⟨.one, Nat.le_refl _⟩
    · exact absurd (List.suffix_nil.1 h) h0
  | cons h n t ih =>
    rcases List.suffix_cons_iff.1 hs with rfl | h'
    · exact ⟨.cons h n t, Nat.le_refl _⟩
    · obtain ⟨h1, h2⟩ := ih h'
      exact ⟨h1, by simp only [pc]; omega⟩
theorem suf_of_mem {a : Nat} : ∀ {q : List Nat}, a ∈ q → ∃ t, (a :: t) <:+ q
  | b :: r, h => by
    rcases List.mem_cons.1 h with rfl | h
    · exact ⟨r, List.suffix_refl _⟩
    · obtain ⟨t, ht⟩ := suf_of_mem h
      exact ⟨t, ht.trans (List.suffix_cons _ _)⟩
/-- One node more ahead: a path without circles that is not longer. -/
theorem Pt.ext {u a : Nat} {r : List Nat} (h : Pt A o (u :: r)) (hA : A a u = true) : ∃ r', Pt A o (a :: r') ∧ pc (a :: r') ≤ lc a u + pc (u :: r) := by
  by_cases g : a ∈ u :: r
  · obtain ⟨t, ht⟩ := suf_of_mem g
    obtain ⟨h1, h2⟩ := h.suf ht (by simp)
    exact ⟨t, h1, by omega⟩
  · exact ⟨u :: r, .cons hA g h, Nat.le_refl _⟩
/-- A path to T, walked from T on, ahead of a path to o. -/
theorem Pt.walk (sy : ∀ i j, A i j = A j i) {T : Nat} {p : List Nat} (h : Pt A T p) : ∀ {x : Nat} {p' r : List Nat}, p = x :: p' → Pt A o (x :: r) → ∃ r', Pt A o (T :: r') ∧ pc (T :: r') ≤ pc p + pc (x :: r) := by
  induction h with
  | one =>
    intro x p' r e hr
    cases e
    exact ⟨r, hr, by simp [pc]⟩
  | @cons a b q hA n t ih =>
    intro x p' r e hr
    cases e
    obtain ⟨r1, h1, h2⟩ := hr.ext (a := b) (by rw [sy]; exact hA)
    obtain ⟨r2, h3, h4⟩ := ih rfl h1
    refine ⟨r2, h3, ?_⟩
    have := lc_symm b a
    simp only [pc] at h2 h4 ⊢
    omega
theorem pc_rev (x : Nat) (t : List Nat) : ∀ (p : List Nat), p ≠ [] → ∀ (x : Nat) (t : List Nat), pc (p.reverse ++ x :: t) = pc (x :: p) + pc (x :: t)
  | [], h, _, _ => absurd rfl h
  | [a], _, x, t => by
    have := lc_symm a x
    simp only [List.reverse_cons, List.reverse_nil, List.nil_append, List.cons_append, pc]
    omega
  | a :: b :: r, _, x, t => by
    have ih := pc_rev x t (b :: r) (by simp) a (x :: t)
    rw [List.reverse_cons, List.append_assoc]
    show pc ((b :: r).reverse ++ a :: x :: t) = _
    rw [ih]
    have := lc_symm a x
    simp only [pc]
    omega
end
/-! ### The flood -/
structure Fl where
  to : Nat
  rep : Bool
  p : List Nat
  deriving DecidableEq, Inhabited
abbrev Gh := Nat → Option (List Nat)
def upd (Q : Gh) (x : Nat) (q : List Nat) : Gh := fun v => if v = x then some q else Q v
theorem upd_same {Q : Gh} {x : Nat} {q : List Nat} : upd Q x q x = some q := if_pos rfl
theorem upd_ne {Q : Gh} {x v : Nat} {q : List Nat} (h : v ≠ x) : upd Q x q v = Q v := if_neg h
def accQ (Q : Gh) (x : Nat) (q : List Nat) : Bool := match Q x with | none => true | some r => decide (pc (x :: q) < pc r)
def accP (P : Gh) (x : Nat) (p : List Nat) : Bool := match P x with | none => true | some r => decide (pc (x :: p) < pc r ∨ (pc (x :: p) = pc r ∧ r.tail.headD 0 = p.headD 0))
def nbs (A : Nat → Nat → Bool) (n x : Nat) : List Nat := (List.range n).filter (A x)
def outQ (A : Nat → Nat → Bool) (n T x : Nat) (q : List Nat) : List Fl := if x = T then [⟨q.headD 0, true, [T]⟩] else (nbs A n x).map fun j => ⟨j, false, x :: q⟩
def outP (Q : Gh) (x : Nat) (p : List Nat) : List Fl := if x = 0 then [] else match Q x with | some (_ :: w :: _) => [⟨w, true, x :: p⟩] | _ => []
def Dom (Q : Gh) (q : List Nat) : Prop := ∀ u t, (u :: t) <:+ q → t ≠ [] → Q u = some (u :: t) ∨ ∃ s, Q u = some s ∧ pc s < pc (u :: t)
def DomP (P : Gh) (p : List Nat) : Prop := ∀ u t, (u :: t) <:+ p → t ≠ [] → ∃ s, P u = some s ∧ pc s ≤ pc (u :: t)
def Opt (A : Nat → Nat → Bool) (T : Nat) (q : List Nat) : Prop := Pt A 0 q ∧ (∃ r, q = T :: r) ∧ ∀ r, Pt A 0 (T :: r) → pc q ≤ pc (T :: r)
structure Inv (A : Nat → Nat → Bool) (T : Nat) (Q P : Gh) (F : List Fl) : Prop where
  q1 : ∀ v q, Q v = some q → ∃ r, q = v :: r ∧ r ≠ [] ∧ Pt A 0 q ∧ T ∉ r ∧ Dom Q r
  q2 : ∀ f ∈ F, f.rep = false → Pt A 0 f.p ∧ T ∉ f.p ∧ Dom Q f.p ∧ A f.to (f.p.headD 0) = true
  cv : ∀ v q, (Q v = some q ∧ v ≠ T ∨ v = 0 ∧ q = [0]) → ∀ x, A v x = true → x ≠ 0 → (⟨x, false, q⟩ : Fl) ∈ F ∨ ∃ s, Q x = some s ∧ pc s ≤ pc (x :: q)
  p1 : ∀ v p, P v = some p → ∃ r, p = v :: r ∧ r ≠ [] ∧ Pt A T p ∧ 0 ∉ r ∧ DomP P r
  p2 : ∀ f ∈ F, f.rep = true → Pt A T f.p ∧ 0 ∉ f.p ∧ DomP P f.p ∧ A f.to (f.p.headD 0) = true
  tk : ∀ q, Opt A T q → Q T = some q → (∃ p, P 0 = some p) ∨ ∃ p x t, (⟨x, true, p⟩ : Fl) ∈ F ∧ p.reverse ++ x :: t = q
section
variable {A : Nat → Nat → Bool} {n T : Nat} {Q P : Gh} {F F' : List Fl} {x : Nat} {q p : List Nat}
theorem Pt.consH {o : Nat} (h : Pt A o q) (hA : A x (q.headD 0) = true) (n : x ∉ q) : Pt A o (x :: q) := by
  cases q with
  | nil => exact absurd rfl h.ne
  | cons b r => exact .cons hA n h
theorem Pt.t0 {o u : Nat} {t : List Nat} (h : Pt A o (u :: t)) (hu : u ≠ o) : t ≠ [] := by
  rintro rfl
  cases h
  exact hu rfl
theorem Pt.adj {o u w : Nat} {t : List Nat} (h : Pt A o (u :: w :: t)) : A u w = true := by
  cases h; assumption
theorem pc_lt (h : q ≠ []) : pc q < pc (x :: q) := by
  cases q with
  | nil => exact absurd rfl h
  | cons b r => have := lc_pos x b; simp only [pc]; omega
/-- A better request improves what is known. -/
theorem updQ_le (ha : accQ Q x q = true) {u : Nat} {s : List Nat} (h : Q u = some s) : ∃ s', upd Q x (x :: q) u = some s' ∧ (s' = s ∨ pc s' < pc s) := by
  by_cases g : u = x
  · subst g
    refine ⟨u :: q, upd_same, .inr ?_⟩
    simp only [accQ, h, decide_eq_true_eq] at ha
    exact ha
  · exact ⟨s, by rw [upd_ne g]; exact h, .inl rfl⟩
theorem Dom.upd (ha : accQ Q x q = true) {r : List Nat} (h : Dom Q r) : Dom (upd Q x (x :: q)) r := fun u t hs ht => by
  rcases h u t hs ht with h1 | ⟨s, h1, h2⟩
  · obtain ⟨s', h3, h4⟩ := updQ_le ha h1
    rcases h4 with rfl | h4
    · exact .inl h3
    · exact .inr ⟨s', h3, h4⟩
  · obtain ⟨s', h3, h4⟩ := updQ_le ha h1
    refine .inr ⟨s', h3, ?_⟩
    rcases h4 with rfl | h4 <;> omega
theorem updP_le (ha : accP P x p = true) {u : Nat} {s : List Nat} (h : P u = some s) : ∃ s', upd P x (x :: p) u = some s' ∧ pc s' ≤ pc s := by
  by_cases g : u = x
  · subst g
    refine ⟨u :: p, upd_same, ?_⟩
    simp only [accP, h, decide_eq_true_eq] at ha
    omega
  · exact ⟨s, by rw [upd_ne g]; exact h, Nat.le_refl _⟩
theorem DomP.upd (ha : accP P x p = true) {r : List Nat} (h : DomP P r) : DomP (upd P x (x :: p)) r := fun u t hs ht => by
  obtain ⟨s, h1, h2⟩ := h u t hs ht
  obtain ⟨s', h3, h4⟩ := updP_le ha h1
  exact ⟨s', h3, by omega⟩
/-- What is accepted has not been here. -/
theorem accQ_new (h : Pt A 0 q) (hd : Dom Q q) (hx : x ≠ 0) (ha : accQ Q x q = true) : x ∉ q := fun hm => by
  obtain ⟨t, ht⟩ := suf_of_mem hm
  obtain ⟨h1, h2⟩ := h.suf ht (by simp)
  have h3 := pc_lt (x := x) h.ne
  rcases hd x t ht (h1.t0 hx) with h4 | ⟨s, h4, h5⟩
  · simp only [accQ, h4, decide_eq_true_eq] at ha; omega
  · simp only [accQ, h4, decide_eq_true_eq] at ha; omega
theorem accP_new (h : Pt A T p) (hd : DomP P p) (hx : x ≠ T) (ha : accP P x p = true) : x ∉ p := fun hm => by
  obtain ⟨t, ht⟩ := suf_of_mem hm
  obtain ⟨h1, h2⟩ := h.suf ht (by simp)
  have h3 := pc_lt (x := x) h.ne
  obtain ⟨s, h4, h5⟩ := hd x t ht (h1.t0 hx)
  simp only [accP, h4, decide_eq_true_eq] at ha
  omega
theorem mem_nbs {j : Nat} (g : Gr n A) (h : A x j = true) : j ∈ nbs A n x := List.mem_filter.2 ⟨List.mem_range.2 (g.rg x j h).2, h⟩
theorem nbs_mem {j : Nat} (h : j ∈ nbs A n x) : A x j = true := (List.mem_filter.1 h).2
/-- A request is refused. -/
theorem Inv.noQ (I : Inv A T Q P F) {f : Fl} (hf : f.rep = false) (ha : f.to = 0 ∨ accQ Q f.to f.p = false) (h1 : ∀ g ∈ F', g ∈ F) (h2 : ∀ g ∈ F, g = f ∨ g ∈ F') : Inv A T Q P F' := by
  refine ⟨I.q1, fun g hg => I.q2 g (h1 g hg), fun v q hv x hx h0 => ?_, I.p1, fun g hg => I.p2 g (h1 g hg), fun q ho hq => ?_⟩
  · rcases I.cv v q hv x hx h0 with h | h
    · rcases h2 _ h with rfl | h
      · rcases ha with ha | ha
        · exact absurd ha h0
        · right
          simp only [accQ] at ha
          cases hQ : Q x with
          | none => rw [hQ] at ha; cases ha
          | some s =>
            rw [hQ] at ha
            simp only [decide_eq_false_iff_not] at ha
            exact ⟨s, rfl, by omega⟩
      · exact .inl h
    · exact .inr h
  · rcases I.tk q ho hq with h | ⟨p, x, t, h, e⟩
    · exact .inl h
    · rcases h2 _ h with rfl | h
      · cases hf
      · exact .inr ⟨p, x, t, h, e⟩
/-- A request is accepted. -/
theorem Inv.yesQ (g : Gr n A) (hT : T ≠ 0) (I : Inv A T Q P F) {f : Fl} (hm : f ∈ F) (hf : f.rep = false) (h0 : f.to ≠ 0) (ha : accQ Q f.to f.p = true)
    (h1 : ∀ g ∈ F', g ∈ F ∨ g ∈ outQ A n T f.to f.p) (h2 : ∀ g ∈ F, g = f ∨ g ∈ F') (h3 : ∀ g ∈ outQ A n T f.to f.p, g ∈ F') : Inv A T (upd Q f.to (f.to :: f.p)) P F' := by
  obtain ⟨f1, f2, f3, f4⟩ := I.q2 f hm hf
  have hn := accQ_new f1 f3 h0 ha
  have hp := f1.consH f4 hn
  have hd : Dom (upd Q f.to (f.to :: f.p)) (f.to :: f.p) := fun u t hs ht => by
    rcases List.suffix_cons_iff.1 hs with e | hs
    · cases e; exact .inl upd_same
    · exact f3.upd ha u t hs ht
  refine ⟨fun v q hv => ?_, fun y hy hr => ?_, fun v q hv x hx hx0 => ?_, I.p1, fun y hy hr => ?_, fun q ho hq => ?_⟩
  · by_cases e : v = f.to
    · subst e
      rw [upd_same] at hv
      cases hv
      exact ⟨f.p, rfl, f1.ne, hp, f2, f3.upd ha⟩
    · rw [upd_ne e] at hv
      obtain ⟨r, r1, r2, r3, r4, r5⟩ := I.q1 v q hv
      exact ⟨r, r1, r2, r3, r4, r5.upd ha⟩
  · rcases h1 y hy with h | h
    · obtain ⟨y1, y2, y3, y4⟩ := I.q2 y h hr
      exact ⟨y1, y2, y3.upd ha, y4⟩
    · unfold outQ at h
      split at h
      · rw [List.mem_singleton] at h; subst h; cases hr
      · rename_i hxT
        obtain ⟨j, hj, rfl⟩ := List.mem_map.1 h
        refine ⟨hp, ?_, hd, ?_⟩
        · intro hh
          rcases List.mem_cons.1 hh with e | hh
          · exact hxT e.symm
          · exact f2 hh
        · show A j f.to = true
          rw [g.sy]; exact nbs_mem hj
  · by_cases e : v = f.to
    · subst e
      rcases hv with ⟨hv, hvT⟩ | ⟨hv, _⟩
      · rw [upd_same] at hv
        cases hv
        refine .inl (h3 _ ?_)
        unfold outQ
        rw [if_neg hvT]
        exact List.mem_map.2 ⟨x, mem_nbs g hx, rfl⟩
      · exact absurd hv h0
    · rw [upd_ne e] at hv
      rcases I.cv v q hv x hx hx0 with h | ⟨s, h, hs⟩
      · rcases h2 _ h with rfl | h
        · exact .inr ⟨x :: q, upd_same, Nat.le_refl _⟩
        · exact .inl h
      · obtain ⟨s', h5, h6⟩ := updQ_le ha h
        refine .inr ⟨s', h5, ?_⟩
        rcases h6 with rfl | h6 <;> omega
  · rcases h1 y hy with h | h
    · exact I.p2 y h hr
    · unfold outQ at h
      split at h
      · rename_i e
        rw [List.mem_singleton] at h
        subst h
        refine ⟨.one, ?_, fun u t hs ht => ?_, ?_⟩
        · intro hh; exact hT (List.mem_singleton.1 hh).symm
        · rcases List.suffix_cons_iff.1 hs with e | hs
          · cases e; exact absurd rfl ht
          · exact absurd (List.suffix_nil.1 hs) (by simp)
        · show A (f.p.headD 0) T = true
          rw [g.sy, ← e]; exact f4
      · obtain ⟨j, hj, rfl⟩ := List.mem_map.1 h
        cases hr
  · by_cases e : f.to = T
    · rw [e, upd_same] at hq
      cases hq
      right
      cases hfp : f.p with
      | nil => exact absurd hfp f1.ne
      | cons b r =>
        refine ⟨[T], b, r, h3 _ ?_, rfl⟩
        unfold outQ
        rw [if_pos e, hfp]
        simp
    · rw [upd_ne (Ne.symm e)] at hq
      rcases I.tk q ho hq with h | ⟨p, x, t, h, e⟩
      · exact .inl h
      · rcases h2 _ h with rfl | h
        · cases hf
        · exact .inr ⟨p, x, t, h, e⟩
end
/-! ### Replies -/
/-- All lists of at most k of the nodes 1 to 4. -/
def lists : Nat → List (List Nat)
  | 0 => [[]]
  | k + 1 => [] :: (lists k).flatMap fun l => [1, 2, 3, 4].map fun a => a :: l
theorem mem_lists : ∀ {k : Nat} {l : List Nat}, l.length ≤ k → (∀ x ∈ l, 1 ≤ x ∧ x ≤ 4) → l ∈ lists k
  | 0, l, h, _ => by
    have : l = [] := List.length_eq_zero_iff.1 (by omega)
    subst this; simp [lists]
  | k + 1, [], _, _ => by simp [lists]
  | k + 1, a :: l, h, g => by
    refine List.mem_cons_of_mem _ (List.mem_flatMap.2 ⟨l, mem_lists (by simp at h; omega) fun x hx => g x (List.mem_cons_of_mem _ hx), List.mem_map.2 ⟨a, ?_, rfl⟩⟩)
    have := g a List.mem_cons_self
    have : a = 1 ∨ a = 2 ∨ a = 3 ∨ a = 4 := by omega
    rcases this with rfl | rfl | rfl | rfl <;> simp
def nodB : List Nat → Bool
  | [] => true
  | a :: r => !r.contains a && nodB r
theorem nodB_iff : ∀ {l : List Nat}, l.Nodup → nodB l = true
  | [], _ => rfl
  | a :: r, h => by
    obtain ⟨h1, h2⟩ := List.nodup_cons.1 h
    simp [nodB, h1, nodB_iff h2]
def simples : List (List Nat) := (lists 4).filter nodB
/-- No two paths among the nodes 1 to 4, with the same ends, have the same cost. -/
theorem no_tie : (simples.all fun p => simples.all fun q => !(p.headD 0 == q.headD 0 && (p.getLastD 0 == q.getLastD 0 && pc p == pc q)) || p == q) = true := by decide +kernel
theorem Pt.last {A : Nat → Nat → Bool} {o : Nat} {q : List Nat} (h : Pt A o q) : q.getLastD 0 = o := by
  induction h with
  | one => rfl
  | @cons a b r h n t ih => rw [← ih]; rfl
theorem Pt.simple {A : Nat → Nat → Bool} {n T : Nat} {q : List Nat} (g : Gr n A) (hT : T < n) (h : Pt A T q) (h0 : 0 ∉ q) : q ∈ simples := by
  have hr : ∀ x ∈ q, 1 ≤ x ∧ x ≤ 4 := fun x hx => by
    have h1 := h.lt g hT x hx
    have h2 := g.n5
    have h3 : x ≠ 0 := fun e => h0 (e ▸ hx)
    omega
  have hl : q.length ≤ 4 := by
    have := nodup_le (cs := [1, 2, 3, 4]) h.nodup fun x hx => by
      have := hr x hx
      have : x = 1 ∨ x = 2 ∨ x = 3 ∨ x = 4 := by omega
      rcases this with rfl | rfl | rfl | rfl <;> simp
    exact this
  exact List.mem_filter.2 ⟨mem_lists hl hr, nodB_iff h.nodup⟩
theorem Pt.uniq {A : Nat → Nat → Bool} {n T : Nat} {p q : List Nat} (g : Gr n A) (hT : T < n) (h : Pt A T p) (h' : Pt A T q) (h0 : 0 ∉ p) (h0' : 0 ∉ q) (hh : p.headD 0 = q.headD 0) (hc : pc p = pc q) : p = q := by
  have := List.all_eq_true.1 (List.all_eq_true.1 no_tie p (h.simple g hT h0)) q (h'.simple g hT h0')
  simp only [hh, h.last, h'.last, hc, beq_self_eq_true, Bool.and_self, Bool.not_true, Bool.false_or, beq_iff_eq] at this
  exact this
section
variable {A : Nat → Nat → Bool} {n T : Nat} {Q P : Gh} {F F' : List Fl} {x : Nat} {q p : List Nat}
/-- The token: what is known at the node that it comes to. -/
theorem Inv.token (g : Gr n A) (I : Inv A T Q P F) {q : List Nat} (ho : Opt A T q) (hq : Q T = some q) {p t : List Nat} {x : Nat} (h : (⟨x, true, p⟩ : Fl) ∈ F) (e : p.reverse ++ x :: t = q) :
    Pt A T (x :: p) ∧ Pt A 0 (x :: t) ∧ x ≠ T ∧ pc q = pc (x :: p) + pc (x :: t) := by
  obtain ⟨p1, p2, p3, p4⟩ := I.p2 _ h rfl
  dsimp only at p1 p2 p3 p4
  obtain ⟨o1, ⟨r, o2⟩, o3⟩ := ho
  have nd := o1.nodup
  rw [← e, List.nodup_append] at nd
  obtain ⟨n1, n2, n3⟩ := nd
  have hxp : x ∉ p := fun hx => n3 x (List.mem_reverse.2 hx) x List.mem_cons_self rfl
  refine ⟨p1.consH p4 hxp, (o1.suf (s := x :: t) ⟨p.reverse, e⟩ (by simp)).1, fun hx => ?_, ?_⟩
  · subst hx; exact hxp p1.mem
  · rw [← e]; exact pc_rev x t p p1.ne x t
/-- A reply is refused. -/
theorem Inv.noP (g : Gr n A) (hTn : T < n) (I : Inv A T Q P F) {f : Fl} (hm : f ∈ F) (hf : f.rep = true) (ha : f.to = T ∨ accP P f.to f.p = false) (h1 : ∀ g ∈ F', g ∈ F) (h2 : ∀ g ∈ F, g = f ∨ g ∈ F') : Inv A T Q P F' := by
  refine ⟨I.q1, fun g hg => I.q2 g (h1 g hg), fun v q hv x hx h0 => ?_, I.p1, fun g hg => I.p2 g (h1 g hg), fun q ho hq => ?_⟩
  · rcases I.cv v q hv x hx h0 with h | h
    · rcases h2 _ h with rfl | h
      · cases hf
      · exact .inl h
    · exact .inr h
  · rcases I.tk q ho hq with h | ⟨p, x, t, h, e⟩
    · exact .inl h
    · rcases h2 _ h with rfl | h'
      · obtain ⟨k1, k2, k3, k4⟩ := I.token g ho hq h e
        dsimp only at ha
        rcases ha with ha | ha
        · exact absurd ha k3
        · simp only [accP] at ha
          cases hP : P x with
          | none => rw [hP] at ha; cases ha
          | some s =>
            rw [hP] at ha
            simp only [decide_eq_false_iff_not] at ha
            by_cases hx0 : x = 0
            · subst hx0; exact .inl ⟨s, hP⟩
            · exfalso
              obtain ⟨r, r1, r2, r3, r4, r5⟩ := I.p1 x s hP
              obtain ⟨r', w1, w2⟩ := r3.walk g.sy r1 k2
              have := ho.2.2 r' w1
              have hle : pc (x :: p) = pc s := by omega
              obtain ⟨p1, p2, p3, p4⟩ := I.p2 _ h rfl
              have hu : x :: p = s := k1.uniq g hTn r3 (by
                intro hh
                rcases List.mem_cons.1 hh with e | hh
                · exact hx0 e.symm
                · exact p2 hh) (by
                rw [r1]
                intro hh
                rcases List.mem_cons.1 hh with e | hh
                · exact hx0 e.symm
                · exact r4 hh) (by rw [r1]; rfl) hle
              exact ha (.inr ⟨hle, by rw [← hu]; rfl⟩)
      · exact .inr ⟨p, x, t, h', e⟩
/-- A reply is accepted. -/
theorem Inv.yesP (g : Gr n A) (hT : T ≠ 0) (I : Inv A T Q P F) {f : Fl} (hm : f ∈ F) (hf : f.rep = true) (hxT : f.to ≠ T) (ha : accP P f.to f.p = true)
    (h1 : ∀ g ∈ F', g ∈ F ∨ g ∈ outP Q f.to f.p) (h2 : ∀ g ∈ F, g = f ∨ g ∈ F') (h3 : ∀ g ∈ outP Q f.to f.p, g ∈ F') : Inv A T Q (upd P f.to (f.to :: f.p)) F' := by
  obtain ⟨f1, f2, f3, f4⟩ := I.p2 f hm hf
  have hn := accP_new f1 f3 hxT ha
  have hp := f1.consH f4 hn
  have ho : ∀ y ∈ outP Q f.to f.p, f.to ≠ 0 ∧ ∃ w r, Q f.to = some (f.to :: w :: r) ∧ A f.to w = true ∧ y = ⟨w, true, f.to :: f.p⟩ := fun y hy => by
    unfold outP at hy
    split at hy
    · cases hy
    · rename_i h0
      refine ⟨h0, ?_⟩
      split at hy
      · rename_i a w r hQ
        obtain ⟨r', r1, r2, r3, r4, r5⟩ := I.q1 _ _ hQ
        cases r1
        exact ⟨w, r, hQ, r3.adj, List.mem_singleton.1 hy⟩
      · cases hy
  refine ⟨I.q1, fun y hy hr => ?_, fun v q hv x hx hx0 => ?_, fun v p hv => ?_, fun y hy hr => ?_, fun q hq hqT => ?_⟩
  · rcases h1 y hy with h | h
    · exact I.q2 y h hr
    · obtain ⟨_, w, r, _, _, rfl⟩ := ho y h
      cases hr
  · rcases I.cv v q hv x hx hx0 with h | h
    · rcases h2 _ h with rfl | h
      · cases hf
      · exact .inl h
    · exact .inr h
  · by_cases e : v = f.to
    · subst e
      rw [upd_same] at hv
      cases hv
      exact ⟨f.p, rfl, f1.ne, hp, f2, f3.upd ha⟩
    · rw [upd_ne e] at hv
      obtain ⟨r, r1, r2, r3, r4, r5⟩ := I.p1 v p hv
      exact ⟨r, r1, r2, r3, r4, r5.upd ha⟩
  · rcases h1 y hy with h | h
    · obtain ⟨y1, y2, y3, y4⟩ := I.p2 y h hr
      exact ⟨y1, y2, y3.upd ha, y4⟩
    · obtain ⟨h0, w, r, hQ, hA, rfl⟩ := ho y h
      refine ⟨hp, ?_, fun u t hs ht => ?_, ?_⟩
      · intro hh
        rcases List.mem_cons.1 hh with e | hh
        · exact h0 e.symm
        · exact f2 hh
      · rcases List.suffix_cons_iff.1 hs with e | hs
        · cases e; exact ⟨_, upd_same, Nat.le_refl _⟩
        · exact f3.upd ha u t hs ht
      · show A w f.to = true
        rw [g.sy]; exact hA
  · rcases I.tk q hq hqT with ⟨p, h⟩ | ⟨p, x, t, h, e⟩
    · obtain ⟨s, h5, _⟩ := updP_le ha h
      exact .inl ⟨s, h5⟩
    · rcases h2 _ h with rfl | h'
      · dsimp only at hxT ha f1 f2 f3 f4 hn hp h3
        obtain ⟨k1, k2, k3, k4⟩ := I.token g hq hqT h e
        by_cases hx0 : x = 0
        · subst hx0; exact .inl ⟨_, upd_same⟩
        · right
          obtain ⟨r, r1, r2, r3, r4, r5⟩ := I.q1 T q hqT
          have hs : (x :: t) <:+ r := by
            have hs : (x :: t) <:+ q := ⟨p.reverse, e⟩
            rw [r1] at hs
            rcases List.suffix_cons_iff.1 hs with e | hs
            · cases e; exact absurd rfl k3
            · exact hs
          have ht := k2.t0 hx0
          have hQ : Q x = some (x :: t) := by
            rcases r5 x t hs ht with h | ⟨s, h, hlt⟩
            · exact h
            · exfalso
              obtain ⟨r', e1, e2, e3, e4, e5⟩ := I.q1 x s h
              rw [e1] at e3 hlt
              obtain ⟨r2, w1, w2⟩ := k1.walk g.sy rfl e3
              have := hq.2.2 r2 w1
              omega
          cases ht' : t with
          | nil => exact absurd ht' ht
          | cons w t' =>
            refine ⟨x :: p, w, t', h3 _ ?_, ?_⟩
            · unfold outP
              rw [if_neg hx0, hQ, ht']
              simp
            · rw [← e, ht', List.reverse_cons, List.append_assoc]; rfl
      · exact .inr ⟨p, x, t, h', e⟩
/-! ### The start, the end -/
theorem Inv.init (g : Gr n A) (hT : T ≠ 0) : Inv A T (fun _ => none) (fun _ => none) ((nbs A n 0).map fun j => ⟨j, false, [0]⟩) := by
  refine ⟨fun v q h => (by cases h), fun f hf _ => ?_, fun v q hv x hx h0 => ?_, fun v p h => (by cases h), fun f hf hr => ?_, fun q ho hq => (by cases hq)⟩
  · obtain ⟨j, hj, rfl⟩ := List.mem_map.1 hf
    refine ⟨.one, ?_, fun u t hs ht => ?_, ?_⟩
    · intro h; exact hT (List.mem_singleton.1 h)
    · rcases List.suffix_cons_iff.1 hs with e | hs
      · cases e; exact absurd rfl ht
      · exact absurd (List.suffix_nil.1 hs) (by simp)
    · show A j 0 = true
      rw [g.sy]; exact nbs_mem hj
  · rcases hv with ⟨h, _⟩ | ⟨rfl, rfl⟩
    · cases h
    · exact .inl (List.mem_map.2 ⟨x, mem_nbs g hx, rfl⟩)
  · obtain ⟨j, hj, rfl⟩ := List.mem_map.1 hf
    cases hr
/-- All is quiet: every node knows a path that is not longer than any. -/
theorem Inv.best (g : Gr n A) (I : Inv A T Q P []) : ∀ {q : List Nat}, Pt A 0 q → ∀ {u : Nat} {t : List Nat}, q = u :: t → t ≠ [] → T ∉ t → ∃ s, Q u = some s ∧ pc s ≤ pc q := by
  intro q h
  induction h with
  | one => intro u t e ht; cases e; exact absurd rfl ht
  | @cons a b r hA n t ih =>
    intro u t' e ht hnT
    obtain ⟨rfl, rfl⟩ := List.cons.inj e
    have hu0 : a ≠ 0 := fun e => n (e ▸ t.mem)
    have hbT : b ≠ T := fun e => hnT (e ▸ List.mem_cons_self)
    by_cases hr : r = []
    · subst hr
      have hb : b = 0 := by cases t; rfl
      subst hb
      rcases I.cv 0 [0] (.inr ⟨rfl, rfl⟩) a (by rw [g.sy]; exact hA) hu0 with h | h
      · cases h
      · exact h
    · obtain ⟨s, h1, h2⟩ := ih rfl hr (fun h => hnT (List.mem_cons_of_mem _ h))
      rcases I.cv b s (.inl ⟨h1, hbT⟩) a (by rw [g.sy]; exact hA) hu0 with h | ⟨s', h3, h4⟩
      · cases h
      · obtain ⟨r', e1, _⟩ := I.q1 b s h1
        refine ⟨s', h3, ?_⟩
        rw [e1] at h4 h2
        simp only [pc] at h4 h2 ⊢
        omega
theorem minQ : ∀ (c : Nat) (r : List Nat), Pt A 0 (T :: r) → pc (T :: r) ≤ c → ∃ q, Opt A T q := by
  intro c
  induction c with
  | zero => intro r h hc; exact ⟨T :: r, h, ⟨r, rfl⟩, fun r' h' => by omega⟩
  | succ c ih =>
    intro r h hc
    by_cases g : ∃ r', Pt A 0 (T :: r') ∧ pc (T :: r') < pc (T :: r)
    · obtain ⟨r', h1, h2⟩ := g
      exact ih r' h1 (by omega)
    · exact ⟨T :: r, h, ⟨r, rfl⟩, fun r' h' => Nat.le_of_not_lt fun hl => g ⟨r', h', hl⟩⟩
/-- The search has found a path, if there is one. -/
theorem Inv.found (g : Gr n A) (hT : T ≠ 0) (I : Inv A T Q P []) {r : List Nat} (h : Pt A 0 (T :: r)) : ∃ p, P 0 = some p := by
  obtain ⟨q, ho⟩ := minQ (A := A) _ r h (Nat.le_refl _)
  obtain ⟨o1, ⟨t, o2⟩, o3⟩ := ho
  have ht : t ≠ [] := by rw [o2] at o1; exact o1.t0 hT
  have hn : T ∉ t := by have := o1.nodup; rw [o2] at this; exact (List.nodup_cons.1 this).1
  obtain ⟨s, h1, h2⟩ := I.best g o1 o2 ht hn
  obtain ⟨r1, e1, e2, e3, e4, e5⟩ := I.q1 T s h1
  have hs : Opt A T s := ⟨e3, ⟨r1, e1⟩, fun r' h' => Nat.le_trans h2 (o3 r' h')⟩
  rcases I.tk s hs h1 with h | ⟨p, x, t, h, _⟩
  · exact h
  · cases h
/-- The next node on the way to T. -/
theorem Inv.next (I : Inv A T Q P F) {v : Nat} {p : List Nat} (h : P v = some p) : ∃ y r, p = v :: y :: r ∧ A v y = true ∧ (y = T ∨ ∃ s, P y = some s ∧ pc s < pc p) := by
  obtain ⟨r, r1, r2, r3, r4, r5⟩ := I.p1 v p h
  cases r with
  | nil => exact absurd rfl r2
  | cons y r =>
    subst r1
    refine ⟨y, r, rfl, r3.adj, ?_⟩
    by_cases e : y = T
    · exact .inl e
    · right
      have hs := (r3.suf (s := y :: r) (List.suffix_cons _ _) (by simp)).1
      obtain ⟨s, h1, h2⟩ := r5 y r (List.suffix_refl _) (hs.t0 e)
      have := lc_pos v y
      exact ⟨s, h1, by simp only [pc]; omega⟩
/-! ### How long it takes -/
def pot : Option (List Nat) → Nat
  | none => 105
  | some q => pc q
def wt (f : Fl) : Nat := if f.rep = true then 6 - f.p.length else 1
def sumN (f : Nat → Nat) : Nat → Nat
  | 0 => 0
  | k + 1 => sumN f k + f k
def wts : List Fl → Nat
  | [] => 0
  | f :: r => wt f + wts r
def phi (n : Nat) (Q : Gh) (F : List Fl) : Nat := 6 * sumN (fun v => pot (Q v)) n + wts F
theorem sumN_upd {Q : Gh} {x : Nat} {q : List Nat} : ∀ {k : Nat}, x < k → sumN (fun v => pot (upd Q x q v)) k + pot (Q x) = sumN (fun v => pot (Q v)) k + pc q
  | k + 1, h => by
    rcases Nat.lt_or_ge x k with g | g
    · have := sumN_upd (Q := Q) (q := q) g
      simp only [sumN]
      rw [upd_ne (x := x) (v := k) (by omega)]
      omega
    · obtain rfl : x = k := by omega
      have : ∀ {j : Nat}, j ≤ x → sumN (fun v => pot (upd Q x q v)) j = sumN (fun v => pot (Q v)) j := by
        intro j
        induction j with
        | zero => intro _; rfl
        | succ j ih => intro hj; simp only [sumN]; rw [ih (by omega), upd_ne (by omega)]
      simp only [sumN]
      rw [this (Nat.le_refl _), upd_same]
      simp only [pot]
      omega
theorem wts_app : ∀ {a b : List Fl}, wts (a ++ b) = wts a + wts b
  | [], b => by simp [wts]
  | f :: a, b => by simp only [List.cons_append, wts]; rw [wts_app]; omega
theorem wts_map {q : List Nat} : ∀ {l : List Nat}, wts (l.map fun j => ⟨j, false, q⟩) = l.length
  | [] => rfl
  | a :: l => by simp only [List.map_cons, wts, List.length_cons]; rw [wts_map]; simp [wt]; omega
theorem nbs_len (g : Gr n A) : (nbs A n x).length ≤ 5 := by
  have := List.length_filter_le (A x) (List.range n)
  rw [List.length_range] at this
  have := g.n5
  unfold nbs; omega
theorem phi0 (g : Gr n A) : phi n (fun _ => none) ((nbs A n 0).map fun j => ⟨j, false, [0]⟩) ≤ 3155 := by
  unfold phi
  rw [wts_map]
  have h1 := nbs_len (x := 0) g
  have h2 : ∀ k, sumN (fun _ => pot none) k = 105 * k := by
    intro k
    induction k with
    | zero => rfl
    | succ k ih => simp only [sumN]; rw [ih]; simp only [pot]; omega
  rw [h2]
  have := g.n5
  omega
theorem phi_no {f : Fl} {a b : List Fl} (hw : 1 ≤ wt f) : phi n Q (a ++ b) + 1 ≤ phi n Q (a ++ f :: b) := by
  unfold phi
  rw [wts_app, wts_app]
  simp only [wts]
  omega
theorem wt_rep (g : Gr n A) (hT : T < n) {f : Fl} (h : f.rep = true → Pt A T f.p) : 1 ≤ wt f := by
  unfold wt
  split
  · rename_i hr
    have := (h hr).len g hT
    have := g.n5
    omega
  · omega
theorem phi_yesQ (g : Gr n A) (hn : 0 < n) {f : Fl} {a b : List Fl} (I : Inv A T Q P (a ++ f :: b)) (hf : f.rep = false) (h0 : f.to ≠ 0) (ha : accQ Q f.to f.p = true) :
    phi n (upd Q f.to (f.to :: f.p)) (a ++ b ++ outQ A n T f.to f.p) + 1 ≤ phi n Q (a ++ f :: b) := by
  obtain ⟨f1, f2, f3, f4⟩ := I.q2 f (by simp) hf
  have hp := f1.consH f4 (accQ_new f1 f3 h0 ha)
  have h1 := hp.pc_le g hn
  have h2 := sumN_upd (Q := Q) (q := f.to :: f.p) (g.rg2 f4)
  have h3 : pc (f.to :: f.p) + 1 ≤ pot (Q f.to) := by
    cases hQ : Q f.to with
    | none => simp only [pot]; omega
    | some s => simp only [accQ, hQ, decide_eq_true_eq] at ha; simp only [pot]; omega
  have h4 : wts (outQ A n T f.to f.p) ≤ 5 := by
    unfold outQ
    split
    · simp [wts, wt]
    · rw [wts_map]; exact nbs_len g
  unfold phi
  rw [wts_app, wts_app, wts_app]
  simp only [wts]
  omega
theorem phi_yesP (g : Gr n A) (hT : T < n) {f : Fl} {a b : List Fl} (I : Inv A T Q P (a ++ f :: b)) (hf : f.rep = true) :
    phi n Q (a ++ b ++ outP Q f.to f.p) + 1 ≤ phi n Q (a ++ f :: b) := by
  obtain ⟨f1, f2, f3, f4⟩ := I.p2 f (by simp) hf
  have h1 := f1.len g hT
  have h5 := g.n5
  have h2 : wts (outP Q f.to f.p) + 1 ≤ wt f := by
    unfold outP
    split
    · simp only [wts, wt, hf, if_pos]; omega
    · split
      · simp only [wts, wt, hf, if_pos, List.length_cons]; omega
      · simp only [wts, wt, hf, if_pos]; omega
  unfold phi
  rw [wts_app, wts_app, wts_app]
  simp only [wts]
  omega
end
end Fnd
end Go.Fw
