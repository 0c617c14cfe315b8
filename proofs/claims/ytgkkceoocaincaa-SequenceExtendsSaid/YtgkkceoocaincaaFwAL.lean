/- The executor is sound: code. -/
import Derived.Test.YtgkkceoocaincaaFwAK
import Derived.LoopN
import Derived.Tactics
namespace Go.Fw

theorem loopN_iff {P : Program} {n : Sz} {c : Code} {e : List (Nat × SV)} {h : List OB} {K : Exit → List (Nat × SV) → List OB → Prop} :
    LoopN P n c e h K ↔ WPd P n (.loop c) e h K := by
  unfold LoopN; exact Iff.rfl

section
variable {P : Program} {TT : Nat → TI} {n : Sz}

theorem world_drawn {B cx sl hp a} {w : World} (hs : SatF B cx sl hp a w) (d : Nat) : SatF B cx sl hp a { w with drawn := d } :=
  hs.later (ext_heap rfl) (mem_heap hs.mem rfl) (fr_heap rfl)

theorem exec_sound (hT : TTok P TT) (hmix : P.follows .mixedOrders = true) {T0 : Nat} : ∀ (c : Code) {e : List (Nat × SV)} {h : List OB} {K : Exit → List (Nat × SV) → List OB → Prop}, exec P TT T0 n c e h K → WPd P n c e h K
  | .skip, e, h, K, hk => ⟨_, _, _, hk, fun B cx a w Q hB hs hK => wp_skip (hK _ _ _ hs)⟩
  | .region id ops draw, e, h, K, hk => by
    have hk : xRegion P TT T0 n ops draw e h K := hk
    unfold xRegion at hk
    obtain ⟨e1, h1, hk⟩ := prune_sound hk
    obtain ⟨rcs, e', h', hd, hk⟩ := execOps_sound hT hk
    cases draw
    · refine ⟨_, _, _, hk, fun B cx a w Q hB hs hK => ?_⟩
      have hs1 : SatF B cx (lk e1) (nthB h) a w := SatF.less hs fun t s ht => (h1 t s ht).2.2
      refine wp_region ?_
      rw [List.range_eq_range', ← Array.length_toList]
      exact der_seq hd 0 (fun i o ho => by simpa using ho) hB hs1 fun cx' a' w' hs' => hK _ _ _ hs'
    · obtain ⟨hok, hk⟩ := need_iff.1 hk
      rw [List.append_nil, List.reverse_reverse] at hok
      refine ⟨_, _, _, hk, fun B cx a w Q hB hs hK => ?_⟩
      have hs1 : SatF B cx (lk e1) (nthB h) a w := SatF.less hs fun t s ht => (h1 t s ht).2.2
      refine wp_region_any hmix ?_
      refine draw_sound hd hok hB (fun cx' a' w' hs' => hK _ _ _ hs') ops.size (List.range ops.size) _ (fun _ => false) (by simp) List.nodup_range (by simp) (by simp) (fun i hi => by simp [hi]) (fun _ _ => rfl) (fun _ _ _ h => by cases h) cx a _ ?_
      have none : ∀ {α : Type} {u : (Nat → Option α) → Rec → Nat → Option α} (l : List Rec) (k : Nat) (f : Nat → Option α), fold u (fun _ => false) k l f = f := by
        intro α u l
        induction l with
        | nil => intro _ _; rfl
        | cons x xs ihx => intro k f; exact ihx (k + 1) f
      rw [none, none]
      exact world_drawn hs1 _
  | .seq x y, e, h, K, hk => by
    obtain ⟨x1, e1, h1, hk1, hw1⟩ := exec_sound hT hmix x (show exec P TT T0 n x e h _ from hk)
    cases x1
    case normal =>
      obtain ⟨x2, e2, h2, hk2, hw2⟩ := exec_sound hT hmix y hk1
      exact ⟨_, _, _, hk2, fun B cx a w Q hB hs hK => wp_seq (hw1 B cx a w _ hB hs fun cx' a' w' hs' => hw2 B cx' a' w' Q hB hs' hK)⟩
    all_goals exact ⟨_, _, _, hk1, fun B cx a w Q hB hs hK => wp_seq (hw1 B cx a w _ hB hs fun cx' a' w' hs' => hK cx' a' w' hs')⟩
  | .cond c x y, e, h, K, hk => by
    have hk : xCond c (exec P TT T0 n x) (exec P TT T0 n y) e h K := hk
    unfold xCond at hk
    obtain ⟨s, h1, hk⟩ := opd_sound hk
    split at hk
    · rename_i t
      have hv : ∀ {B : Base} {cx : Cx} {a : Act} {w : World}, Sat B cx e h a w → a.eval c = .bool t := fun hs => relV_v (h1.rel (Reads.of_sat hs (ts := slotsOf [c]) fun _ _ => rfl) fun t ht => mem_slotsOf (by simp [ht]))
      cases t
      · obtain ⟨x2, e2, h2, hk2, hw2⟩ := exec_sound hT hmix y hk
        exact ⟨_, _, _, hk2, fun B cx a w Q hB hs hK => wp_cond_false (hv hs) (hw2 B cx a w Q hB hs hK)⟩
      · obtain ⟨x2, e2, h2, hk2, hw2⟩ := exec_sound hT hmix x hk
        exact ⟨_, _, _, hk2, fun B cx a w Q hB hs hK => wp_cond_true (hv hs) (hw2 B cx a w Q hB hs hK)⟩
    · exact hk.elim
  | .block id c, e, h, K, hk => by
    obtain ⟨x1, e1, h1, hk1, hw1⟩ := exec_sound hT hmix c (show exec P TT T0 n c e h _ from hk)
    cases x1
    case exit i =>
      simp only at hk1
      split at hk1
      · rename_i hi
        refine ⟨_, _, _, hk1, fun B cx a w Q hB hs hK => wp_block (hw1 B cx a w _ hB hs fun cx' a' w' hs' => ?_)⟩
        simp only [Exit.inBlock]
        rw [if_pos (Nat.eq_of_beq_eq_true hi)]
        exact hK _ _ _ hs'
      · rename_i hi
        refine ⟨_, _, _, hk1, fun B cx a w Q hB hs hK => wp_block (hw1 B cx a w _ hB hs fun cx' a' w' hs' => ?_)⟩
        simp only [Exit.inBlock]
        rw [if_neg (fun h => by subst h; simp at hi)]
        exact hK _ _ _ hs'
    all_goals exact ⟨_, _, _, hk1, fun B cx a w Q hB hs hK => wp_block (hw1 B cx a w _ hB hs fun cx' a' w' hs' => hK _ _ _ hs')⟩
  | .loop c, e, h, K, hk => loopN_iff.1 hk
  | .exit id, e, h, K, hk => ⟨_, _, _, hk, fun B cx a w Q hB hs hK => wp_exit (hK _ _ _ hs)⟩
  | .ret, e, h, K, hk => ⟨_, _, _, hk, fun B cx a w Q hB hs hK => wp_ret (hK _ _ _ hs)⟩

/-- From the one state to the other, with no step taken. -/
def Sub (n : Sz) (e : List (Nat × SV)) (h : List OB) (e' : List (Nat × SV)) (h' : List OB) : Prop :=
  ∀ (B : Base) (cx : Cx) (a : Act) (w : World), B.n = n → Sat B cx e h a w → ∃ cx', Sat B cx' e' h' a w
theorem Sub.refl {e : List (Nat × SV)} {h : List OB} : Sub n e h e h := fun _ cx _ _ _ hs => ⟨cx, hs⟩
theorem Sub.trans {e1 e2 e3 : List (Nat × SV)} {h1 h2 h3 : List OB} (s1 : Sub n e1 h1 e2 h2) (s2 : Sub n e2 h2 e3 h3) : Sub n e1 h1 e3 h3 := fun B cx a w hB hs =>
  let ⟨cx1, hs1⟩ := s1 B cx a w hB hs
  s2 B cx1 a w hB hs1
theorem Sub.env {e e' : List (Nat × SV)} {h : List OB} (hl : ∀ t s, lk e' t = some s → lk e t = some s) : Sub n e h e' h := fun _ cx _ _ _ hs => ⟨cx, SatF.less hs hl⟩
/-- each slot of the second state stands so in the first -/
def within (e : List (Nat × SV)) : List (Nat × SV) → Prop
  | [] => True
  | (t, s) :: r => lk e t = some s ∧ within e r
theorem within_sound {e : List (Nat × SV)} : ∀ {e' : List (Nat × SV)}, within e e' → ∀ t s, lk e' t = some s → lk e t = some s
  | [], _, _, _, h => by cases h
  | (t0, s0) :: r, hw, t, s, h => by
    rw [lk_cons_if] at h
    split at h
    · rename_i he; subst he; cases h; exact hw.1
    · exact within_sound hw.2 t s h
theorem Sub.of {e e' : List (Nat × SV)} {h : List OB} (hw : within e e') : Sub n e h e' h := .env (within_sound hw)

def loopK {ι : Type} (n : Sz) (Ie : ι → List (Nat × SV)) (Ih : ι → List OB) (μ : ι → Nat) (i : ι) (K : Exit → List (Nat × SV) → List OB → Prop) : Exit → List (Nat × SV) → List OB → Prop := fun x e' h' =>
  match x with
  | .normal => ∃ j, Sub n e' h' (Ie j) (Ih j) ∧ μ j < μ i
  | x => K x e' h'
/-- A loop under an invariant. -/
theorem loop_inv (hT : TTok P TT) (hmix : P.follows .mixedOrders = true) {T0 : Nat} {ι : Type} {c : Code} {e : List (Nat × SV)} {h : List OB} {K : Exit → List (Nat × SV) → List OB → Prop} (Ie : ι → List (Nat × SV)) (Ih : ι → List OB) (μ : ι → Nat) (i0 : ι)
    (h0 : Sub n e h (Ie i0) (Ih i0)) (round : ∀ i, exec P TT T0 n c (Ie i) (Ih i) (loopK n Ie Ih μ i K)) : LoopN P n c e h K := by
  have key : ∀ (m : Nat) (i : ι), μ i < m → ∃ x e' h', K x e' h' ∧ ∀ (B : Base) (cx : Cx) (a : Act) (w : World) (Q : Exit → Act → World → Prop), B.n = n → Sat B cx (Ie i) (Ih i) a w →
      (∀ cx' a' w', Sat B cx' e' h' a' w' → Q x a' w') → Code.rounds P c Q m a w := by
    intro m
    induction m with
    | zero => intro i h; omega
    | succ m ih =>
      intro i hm
      obtain ⟨x1, e1, h1, hk1, hw1⟩ := exec_sound hT hmix c (round i)
      cases x1
      case normal =>
        obtain ⟨j, hj, hlt⟩ := hk1
        obtain ⟨x2, e2, h2, hk2, hw2⟩ := ih j (by omega)
        refine ⟨x2, e2, h2, hk2, fun B cx a w Q hB hs hK => hw1 B cx a w _ hB hs fun cx' a' w' hs' => ?_⟩
        obtain ⟨cx2, hs2⟩ := hj B cx' a' w' hB hs'
        exact hw2 B cx2 a' w' Q hB hs2 hK
      all_goals exact ⟨_, _, _, hk1, fun B cx a w Q hB hs hK => hw1 B cx a w _ hB hs fun cx' a' w' hs' => hK _ _ _ hs'⟩
  obtain ⟨x, e', h', hk, hw⟩ := key (μ i0 + 1) i0 (by omega)
  rw [loopN_iff]
  refine ⟨x, e', h', hk, fun B cx a w Q hB hs hK => wp_loop_rounds (μ i0 + 1) ?_⟩
  obtain ⟨cx1, hs1⟩ := h0 B cx a w hB hs
  exact hw B cx1 a w Q hB hs1 hK
/-- The ends of a loop that meet behind it in one family of states. -/
theorem LoopN.cut {κ : Type} {c : Code} {e : List (Nat × SV)} {h : List OB} {K : Exit → List (Nat × SV) → List OB → Prop} (x0 : Exit) (Xe : κ → List (Nat × SV)) (Xh : κ → List OB)
    (hl : LoopN P n c e h fun x e' h' => (x = x0 ∧ ∃ k, Sub n e' h' (Xe k) (Xh k)) ∨ K x e' h') (hk : ∀ k, K x0 (Xe k) (Xh k)) : LoopN P n c e h K := by
  rw [loopN_iff] at hl ⊢
  obtain ⟨x, e', h', hx, hw⟩ := hl
  rcases hx with ⟨rfl, k, hs⟩ | hx
  · refine ⟨x, Xe k, Xh k, hk k, fun B cx a w Q hB hsat hK => hw B cx a w Q hB hsat fun cx' a' w' hs' => ?_⟩
    obtain ⟨cx2, hs2⟩ := hs B cx' a' w' hB hs'
    exact hK cx2 a' w' hs2
  · exact ⟨x, e', h', hx, hw⟩
theorem LoopN.mono {c : Code} {e : List (Nat × SV)} {h : List OB} {K K' : Exit → List (Nat × SV) → List OB → Prop} (hl : LoopN P n c e h K') (hk : ∀ x e' h', K' x e' h' → K x e' h') : LoopN P n c e h K := by
  rw [loopN_iff] at hl ⊢
  obtain ⟨x, e', h', hx, hw⟩ := hl
  exact ⟨x, e', h', hk _ _ _ hx, hw⟩
end
end Go.Fw
