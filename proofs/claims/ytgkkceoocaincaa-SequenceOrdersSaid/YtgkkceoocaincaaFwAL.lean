/- The executor is sound: code. -/
import Derived.Test.YtgkkceoocaincaaFwAK
import Derived.LoopN
import Derived.Tactics
namespace Go.Fw

theorem wp_iff {P : Program} {n : Sz} {c : Code} {e : List (Nat × SV)} {h : List OB} {K : Exit → List (Nat × SV) → List OB → Prop} :
    WP P n c e h K ↔ ∀ (B : Base) (cx : Cx) (a : Act) (w : World) (Q : Exit → Act → World → Prop), B.n = n → Sat B cx e h a w →
    (∀ x e' h' cx' a' w', K x e' h' → Sat B cx' e' h' a' w' → Q x a' w') → c.wp P Q a w := by
  unfold WP; exact Iff.rfl

section
variable {P : Program} {TT : Nat → TI} {n : Sz}

theorem world_drawn {B cx sl hp a} {w : World} (hs : SatF B cx sl hp a w) (d : Nat) : SatF B cx sl hp a { w with drawn := d } :=
  hs.later (ext_heap rfl) (mem_heap hs.mem rfl) (fr_heap rfl)

theorem exec_sound (hT : TTok P TT) (hmix : P.follows .mixedOrders = true) {T0 : Nat} : ∀ (c : Code) {e : List (Nat × SV)} {h : List OB} {K : Exit → List (Nat × SV) → List OB → Prop}, exec P TT T0 n c e h K → WP P n c e h K
  | .skip, e, h, K, hk => by
    rw [wp_iff]
    intro B cx a w Q hB hs hK
    exact wp_skip (hK _ _ _ _ _ _ hk hs)
  | .region id ops draw, e, h, K, hk => by
    rw [wp_iff]
    intro B cx a w Q hB hs hK
    simp only [exec] at hk
    obtain ⟨e1, h1, hk⟩ := prune_sound hk
    obtain ⟨rcs, e', h', hd, hk⟩ := execOps_sound hT hk
    have hs1 : SatF B cx (lk e1) (nthB h) a w := SatF.less hs fun t s ht => (h1 t s ht).2.2
    cases draw
    · refine wp_region ?_
      rw [List.range_eq_range', ← Array.length_toList]
      exact der_seq hd 0 (fun i o ho => by simpa using ho) hB hs1 fun cx' a' w' hs' => hK _ _ _ _ _ _ hk hs'
    · obtain ⟨hok, hk⟩ := need_iff.1 hk
      rw [List.append_nil, List.reverse_reverse] at hok
      refine wp_region_any hmix ?_
      refine draw_sound hd hok hB (fun cx' a' w' hs' => hK _ _ _ _ _ _ hk hs') ops.size (List.range ops.size) _ (fun _ => false) (by simp) List.nodup_range (by simp) (by simp) (fun i hi => by simp [hi]) (fun _ _ => rfl) (fun _ _ _ h => by cases h) cx a _ ?_
      have none : ∀ {α : Type} {u : (Nat → Option α) → Rec → Nat → Option α} (l : List Rec) (k : Nat) (f : Nat → Option α), fold u (fun _ => false) k l f = f := by
        intro α u l
        induction l with
        | nil => intro _ _; rfl
        | cons x xs ihx => intro k f; exact ihx (k + 1) f
      rw [none, none]
      exact world_drawn hs1 _
  | .seq x y, e, h, K, hk => by
    have h1 := exec_sound hT hmix x hk
    rw [wp_iff] at h1 ⊢
    intro B cx a w Q hB hs hK
    refine wp_seq (h1 B cx a w _ hB hs fun x' e' h' cx' a' w' hk' hs' => ?_)
    cases x'
    case normal =>
      have h2 := exec_sound hT hmix y hk'
      rw [wp_iff] at h2
      exact h2 B cx' a' w' Q hB hs' hK
    all_goals exact hK _ _ _ _ _ _ hk' hs'
  | .cond c x y, e, h, K, hk => by
    rw [wp_iff]
    intro B cx a w Q hB hs hK
    simp only [exec] at hk
    obtain ⟨s, h1, hk⟩ := opd_sound hk
    split at hk
    · rename_i t
      have hv := relV_v (h1.rel (Reads.of_sat hs (ts := slotsOf [c]) fun _ _ => rfl) fun t ht => mem_slotsOf (by simp [ht]))
      cases t
      · have h2 := exec_sound hT hmix y hk
        rw [wp_iff] at h2
        exact wp_cond_false hv (h2 B cx a w Q hB hs hK)
      · have h2 := exec_sound hT hmix x hk
        rw [wp_iff] at h2
        exact wp_cond_true hv (h2 B cx a w Q hB hs hK)
    · exact hk.elim
  | .block id c, e, h, K, hk => by
    have h1 := exec_sound hT hmix c hk
    rw [wp_iff] at h1 ⊢
    intro B cx a w Q hB hs hK
    refine wp_block (h1 B cx a w _ hB hs fun x' e' h' cx' a' w' hk' hs' => ?_)
    cases x'
    case exit i =>
      simp only at hk'
      simp only [Exit.inBlock]
      split at hk'
      · rename_i hi
        rw [if_pos (Nat.eq_of_beq_eq_true hi)]
        exact hK _ _ _ _ _ _ hk' hs'
      · rename_i hi
        rw [if_neg (fun h => by subst h; simp at hi)]
        exact hK _ _ _ _ _ _ hk' hs'
    all_goals exact hK _ _ _ _ _ _ hk' hs'
  | .loop c, e, h, K, hk => hk
  | .exit id, e, h, K, hk => by
    rw [wp_iff]
    intro B cx a w Q hB hs hK
    exact wp_exit (hK _ _ _ _ _ _ hk hs)
  | .ret, e, h, K, hk => by
    rw [wp_iff]
    intro B cx a w Q hB hs hK
    exact wp_ret (hK _ _ _ _ _ _ hk hs)

/-- From the one state to the other, with no step taken. -/
def Sub (n : Sz) (e : List (Nat × SV)) (h : List OB) (e' : List (Nat × SV)) (h' : List OB) : Prop :=
  ∀ (B : Base) (cx : Cx) (a : Act) (w : World), B.n = n → Sat B cx e h a w → ∃ cx', Sat B cx' e' h' a w
theorem Sub.refl {e : List (Nat × SV)} {h : List OB} : Sub n e h e h := fun _ cx _ _ _ hs => ⟨cx, hs⟩
theorem Sub.trans {e1 e2 e3 : List (Nat × SV)} {h1 h2 h3 : List OB} (s1 : Sub n e1 h1 e2 h2) (s2 : Sub n e2 h2 e3 h3) : Sub n e1 h1 e3 h3 := fun B cx a w hB hs =>
  let ⟨cx1, hs1⟩ := s1 B cx a w hB hs
  s2 B cx1 a w hB hs1
theorem Sub.env {e e' : List (Nat × SV)} {h : List OB} (hl : ∀ t s, lk e' t = some s → lk e t = some s) : Sub n e h e' h := fun _ cx _ _ _ hs => ⟨cx, SatF.less hs hl⟩
/-- each slot of the second state stands so in the first -/
def within (e : List (Nat × SV)) : List (Nat × SV) → Prop
  | [] => True
  | (t, s) :: r => lk e t = some s ∧ within e r
theorem within_sound {e : List (Nat × SV)} : ∀ {e' : List (Nat × SV)}, within e e' → ∀ t s, lk e' t = some s → lk e t = some s
  | [], _, _, _, h => by cases h
  | (t0, s0) :: r, hw, t, s, h => by
    rw [lk_cons_if] at h
    split at h
    · rename_i he; subst he; cases h; exact hw.1
    · exact within_sound hw.2 t s h
theorem Sub.of {e e' : List (Nat × SV)} {h : List OB} (hw : within e e') : Sub n e h e' h := .env (within_sound hw)

theorem wp_sub {c : Code} {e e' : List (Nat × SV)} {h h' : List OB} {K : Exit → List (Nat × SV) → List OB → Prop} (hs : Sub n e h e' h') (hw : WP P n c e' h' K) : WP P n c e h K := by
  rw [wp_iff] at hw ⊢
  intro B cx a w Q hB hsat hK
  obtain ⟨cx1, hs1⟩ := hs B cx a w hB hsat
  exact hw B cx1 a w Q hB hs1 hK

def loopK {ι : Type} (n : Sz) (Ie : ι → List (Nat × SV)) (Ih : ι → List OB) (μ : ι → Nat) (i : ι) (K : Exit → List (Nat × SV) → List OB → Prop) : Exit → List (Nat × SV) → List OB → Prop := fun x e' h' =>
  match x with
  | .normal => ∃ j, Sub n e' h' (Ie j) (Ih j) ∧ μ j < μ i
  | x => K x e' h'
/-- A loop under an invariant. -/
theorem wp_loop_inv (hT : TTok P TT) (hmix : P.follows .mixedOrders = true) {T0 : Nat} {ι : Type} {c : Code} {e : List (Nat × SV)} {h : List OB} {K : Exit → List (Nat × SV) → List OB → Prop} (Ie : ι → List (Nat × SV)) (Ih : ι → List OB) (μ : ι → Nat) (i0 : ι)
    (h0 : Sub n e h (Ie i0) (Ih i0)) (round : ∀ i, exec P TT T0 n c (Ie i) (Ih i) (loopK n Ie Ih μ i K)) : WP P n (.loop c) e h K := by
  refine wp_sub h0 ?_
  rw [wp_iff]
  intro B cx a w Q hB hs hK
  have key : ∀ (m : Nat) (i : ι) (cx : Cx) (a : Act) (w : World), μ i < m → Sat B cx (Ie i) (Ih i) a w → Code.rounds P c Q m a w := by
    intro m
    induction m with
    | zero => intro i _ _ _ h; omega
    | succ m ih =>
      intro i cx a w hm hs
      have h1 := exec_sound hT hmix c (round i)
      rw [wp_iff] at h1
      refine h1 B cx a w _ hB hs fun x e' h' cx' a' w' hk hs' => ?_
      cases x
      case normal =>
        obtain ⟨j, hj, hlt⟩ := hk
        obtain ⟨cx2, hs2⟩ := hj B cx' a' w' hB hs'
        exact ih j cx2 a' w' (by omega) hs2
      all_goals exact hK _ _ _ _ _ _ hk hs'
  exact wp_loop_rounds _ (key (μ i0 + 1) i0 cx a w (by omega) hs)
end
end Go.Fw
