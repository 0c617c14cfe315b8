/- The executor is sound: code. -/
import Derived.Test.YtlkhjalnnciocaaGreatFm4
import Derived.LoopN
import Derived.Scope
import Derived.Tactics
import Derived.ChangeArms
import Derived.OpenShut
import Derived.WideKeyArgs
import Derived.Handed
import Derived.ProofKit
import Derived.Test.YtlkhjalnnciocaaGreatFm3
import Derived.Lib.Bytealg
import Derived.Lib.Bytes
import Derived.Lib.Overlaps

namespace Go.Fw

theorem loopN_iff {P : Program} {n : Sz} {c : Code} {e : List (Nat × SV)} {h : List OB} {K : Exit → List (Nat × SV) → List OB → Prop} :
    LoopN P n c e h K ↔ WPd P n (.loop c) e h K := by
  exact ⟨fun ⟨h⟩ => h, fun h => ⟨h⟩⟩

theorem frzE_sound {h : List OB} {n0 k : Nat} : ∀ {e : List (Nat × SV)} {K : List (Nat × SV) → Prop}, frzE h n0 k e K → ∃ e', K e' ∧ ∀ t s', lk e' t = some s' → ∃ s, lk e t = some s ∧ ∀ cx w v, Mem cx w (nthB h) → RelV cx w s v → RelV (cx.minus [k]) w s' v
  | [], K, hk => ⟨[], hk, fun _ _ h => (by cases h)⟩
  | (t, s) :: r, K, hk => by
    have same : ∀ {K : List (Nat × SV) → Prop}, frzE h n0 k r (fun l => K ((t, s) :: l)) → ∃ e', K e' ∧ ∀ t' s', lk e' t' = some s' → ∃ s2, lk ((t, s) :: r) t' = some s2 ∧ ∀ cx w v, Mem cx w (nthB h) → RelV cx w s2 v → RelV (cx.minus [k]) w s' v := by
      intro K hk
      obtain ⟨e', h1, h2⟩ := frzE_sound hk
      refine ⟨_, h1, fun t' s' hl => ?_⟩
      rw [lk_cons_if] at hl ⊢
      split at hl
      · rename_i he
        cases hl
        rw [if_pos he]
        exact ⟨s, rfl, fun cx w v _ hr => hr.mono (ext_minus cx w [k])⟩
      · rename_i he
        rw [if_neg he]
        exact h2 t' s' hl
    unfold frzE at hk
    split at hk
    · rename_i E j off m
      split at hk
      · rename_i hj
        have hj := Nat.eq_of_beq_eq_true hj
        subst hj
        obtain ⟨s', ks, hk1, hcold, _, hsh, hg⟩ := frzOne_sound (h := h) (n0 := n0) (s := .ov E j off m) (K := fun s' ks => frzE h n0 j r (fun l => K ((t, s') :: l)) ∧ ∀ k ∈ ks, k ∈ [j]) (by
          unfold frzOne at hk ⊢
          dsimp only at hk ⊢
          split at hk
          · rename_i x E' rows h1 h2
            obtain ⟨g1, hk⟩ := okT_iff.1 hk
            obtain ⟨g2, hk⟩ := need_iff.1 hk
            rw [nm_eq] at hk
            refine okT_iff.2 ⟨g1, need_iff.2 ⟨g2, ?_⟩⟩
            rw [nm_eq]
            exact ⟨hk, fun _ h => h⟩
          · exact hk.elim)
        obtain ⟨hk2, hks⟩ := hk1
        obtain ⟨e', h1, h2⟩ := frzE_sound hk2
        refine ⟨_, h1, fun t' s2 hl => ?_⟩
        rw [lk_cons_if] at hl ⊢
        split at hl
        · rename_i he
          cases hl
          rw [if_pos he]
          refine ⟨_, rfl, fun cx w v hm hr => ?_⟩
          have hr : RelC cx w (.ov E j off m) [v] := hr
          have := hg cx w [v] (nthB h) [j] (fun _ _ => rfl) hks hm hr
          rcases hsh with ⟨_, _, _, rfl⟩ | rfl
          · exact this
          · exact this
        · rename_i he
          rw [if_neg he]
          exact h2 t' s2 hl
      · exact same hk
    · exact same hk
theorem frzH_sound {h : List OB} {n0 k : Nat} : ∀ {l : List OB} {K : List OB → Prop}, frzH h n0 k l K → ∃ l', K l' ∧ l'.length = l.length ∧ ∀ (j : Nat) ob', l'[j]? = some ob' → ∃ ob, l[j]? = some ob ∧
    (ob' = ob ∨ ∃ s s', ob = .cells s ∧ ob' = .cells s' ∧ ∀ cx w vs, Mem cx w (nthB h) → RelC cx w s vs → RelC (cx.minus [k]) w s' vs)
  | [], K, hk => ⟨[], hk, rfl, fun j ob' h => by simp at h⟩
  | ob :: r, K, hk => by
    have same : ∀ {K : List OB → Prop}, frzH h n0 k r (fun l => K (ob :: l)) → ∃ l', K l' ∧ l'.length = (ob :: r).length ∧ ∀ (j : Nat) ob', l'[j]? = some ob' → ∃ ob2, (ob :: r)[j]? = some ob2 ∧
        (ob' = ob2 ∨ ∃ s s', ob2 = .cells s ∧ ob' = .cells s' ∧ ∀ cx w vs, Mem cx w (nthB h) → RelC cx w s vs → RelC (cx.minus [k]) w s' vs) := by
      intro K hk
      obtain ⟨l', h1, h2, h3⟩ := frzH_sound hk
      refine ⟨_, h1, by simp [h2], fun j ob' hj => ?_⟩
      cases j with
      | zero => simp at hj; subst hj; exact ⟨_, rfl, .inl rfl⟩
      | succ j => exact h3 j ob' (by simpa using hj)
    unfold frzH at hk
    split at hk
    · rename_i cs
      split at hk
      · obtain ⟨cs', ks, hk1, hcold, _, hg⟩ := frzL_sound hk
        obtain ⟨hks, hk2⟩ := okT_iff.1 hk1
        obtain ⟨l', h1, h2, h3⟩ := frzH_sound hk2
        refine ⟨_, h1, by simp [h2], fun j ob' hj => ?_⟩
        cases j with
        | zero =>
          simp at hj
          subst hj
          refine ⟨_, rfl, .inr ⟨_, _, rfl, rfl, fun cx w vs hm hr => ?_⟩⟩
          exact hg cx w vs (nthB h) [k] (fun _ _ => rfl) (fun j hj => by
            have := List.all_eq_true.1 hks j hj
            rw [← Nat.eq_of_beq_eq_true this]; exact List.mem_singleton.2 rfl) hm hr
        | succ j => exact h3 j ob' (by simpa using hj)
      · exact same hk
    · exact same hk
theorem frzK_sound {n0 : Nat} {h : List OB} {k : Nat} {e : List (Nat × SV)} {K : List (Nat × SV) → List OB → Prop} (hk : frzK n0 h k e K) : ∃ e' h', K e' h' ∧
    ∀ (B : Base) (cx : Cx) (a : Act) (w : World), B.n.n0 = n0 → SatF B cx (lk e) (nthB h) a w → SatF B (cx.minus [k]) (lk e') (nthB h') a w := by
  unfold frzK at hk
  split at hk
  · rename_i x E rows hn hb
    obtain ⟨e', hk1, he⟩ := frzE_sound hk
    obtain ⟨h1, hk2, hl1, hh1⟩ := frzH_sound hk1
    obtain ⟨h', hh, hk3⟩ := setH_sound _ _ _ _ hk2
    refine ⟨e', h', hk3, fun B cx a w hB hs => ?_⟩
    have hs2 := hs.minus (ks := [k]) fun j hj => by
      rw [List.mem_singleton.1 hj, hB]
      exact ⟨Nat.le_of_ble_eq_true hn, _, hb, by simp⟩
    have old : ∀ (j : Nat) ob', nthB h' j = some ob' → j ≠ k → ∃ ob, nthB h j = some ob ∧ updHp (nthB h) (goneL [k]) j = some ob ∧
        (ob' = ob ∨ ∃ s s', ob = .cells s ∧ ob' = .cells s' ∧ ∀ cx w vs, Mem cx w (nthB h) → RelC cx w s vs → RelC (cx.minus [k]) w s' vs) := by
      intro j ob' hj hjk
      rw [hh] at hj
      simp only [if_neg hjk] at hj
      rw [nthB_eq] at hj
      obtain ⟨ob, g1, g2⟩ := hh1 j ob' hj
      refine ⟨ob, by rw [nthB_eq]; exact g1, ?_, g2⟩
      rw [goneL_get, if_neg (by simpa using hjk), nthB_eq]; exact g1
    have hgone : ∀ ob', nthB h' k = some ob' → ob' = .gone := fun ob' hj => by
      rw [hh] at hj
      simp at hj
      exact hj.symm
    refine ⟨hs2.df, hs2.sz, fun t s ht => ?_, ⟨fun j ob' hj => ?_, fun j j' o1 o2 b C C' q1 q2 n1 n2 b1 b2 => ?_, fun j hj => ?_, hs2.mem.lt⟩, hs2.fr⟩
    · obtain ⟨s0, h1, h2⟩ := he t s ht
      obtain ⟨v, h3, h4⟩ := hs.sl t s0 h1
      exact ⟨v, h3, h2 cx w v hs.mem h4⟩
    · by_cases hjk : j = k
      · subst hjk
        rw [hgone ob' hj]; trivial
      · obtain ⟨ob, g1, g2, g3⟩ := old j ob' hj hjk
        rcases g3 with rfl | ⟨s, s', rfl, rfl, g4⟩
        · exact hs2.mem.live j _ g2
        · have l1 := hs.mem.live j _ g1
          have l2 := hs2.mem.live j _ g2
          rcases l1 with ⟨b, C, p1, p2, vs, T, p3, p4⟩ | ⟨_, E', p1⟩
          · rcases l2 with ⟨b2, C2, r1, r2, _⟩ | ⟨r1, E', r2⟩
            · have e1 : cx.bl j = some (.at b2 C2) := r1
              rw [p1] at e1
              cases e1
              exact .inl ⟨b, C, p1, r2, vs, T, p3, g4 cx w vs hs.mem p4⟩
            · cases r2
          · cases p1
    · have nk : ∀ (j : Nat) ob', nthB h' j = some ob' → ob' ≠ .gone → j ≠ k := fun j ob' hj hg e => by
        subst e
        exact hg (hgone ob' hj)
      obtain ⟨ob1, _, u1, v1⟩ := old j o1 q1 (nk j o1 q1 n1)
      obtain ⟨ob2, _, u2, v2⟩ := old j' o2 q2 (nk j' o2 q2 n2)
      have m1 : ob1 ≠ .gone := by rcases v1 with rfl | ⟨_, _, rfl, _, _⟩; exact n1; simp
      have m2 : ob2 ≠ .gone := by rcases v2 with rfl | ⟨_, _, rfl, _, _⟩; exact n2; simp
      exact hs2.mem.inj j j' ob1 ob2 b C C' u1 u2 m1 m2 b1 b2
    · refine hs2.mem.dom j ?_
      rw [hh] at hj
      by_cases hjk : j = k
      · simp [hjk] at hj
      · simp only [if_neg hjk] at hj
        rw [goneL_get, if_neg (by simpa using hjk), nthB_eq]
        rw [nthB_eq] at hj
        have := List.getElem?_eq_none_iff.1 hj
        rw [hl1] at this
        exact List.getElem?_eq_none this
  · exact hk.elim

section
variable {P : Program} {TT : Nat → TI} {n : Sz}

theorem world_drawn {B cx sl hp a} {w : World} (hs : SatF B cx sl hp a w) (d : Nat) : SatF B cx sl hp a { w with drawn := d } :=
  hs.later (ext_heap rfl) (mem_heap hs.mem rfl) (fr_heap rfl)

theorem exec_sound (hT : TTok P TT) (hmix : P.follows .mixedOrders = true) {T0 : Nat} : ∀ (c : Code) {e : List (Nat × SV)} {h : List OB} {K : Exit → List (Nat × SV) → List OB → Prop}, exec P TT T0 n c e h K → WPd P n c e h K
  | .skip, e, h, K, hk => ⟨_, _, _, hk, fun B cx a w Q hB hs hK => wp_skip (hK _ _ _ hs)⟩
  | .region id ops draw, e, h, K, hk => by
    have hk : xRegion P TT T0 n ops draw e h K := hk
    unfold xRegion at hk
    obtain ⟨e1, h1, hk⟩ := prune_sound hk
    cases draw
    · obtain ⟨rcs, e', h', hd, hk⟩ := execOps_sound hT hk
      refine ⟨_, _, _, hk, fun B cx a w Q hB hs hK => ?_⟩
      have hs1 : SatF B cx (lk e1) (nthB h) a w := SatF.less hs fun t s ht => (h1 t s ht).2.2
      refine wp_region ?_
      rw [List.range_eq_range', ← Array.length_toList]
      exact der_seq hd 0 (fun i o ho => by simpa using ho) hB hs1 fun cx' a' w' hs' => hK _ _ _ hs'
    · have hsat : ∃ e2 h2, xDraw P TT n ops e2 h2 K ∧ ∀ (B : Base) (cx : Cx) (a : Act) (w : World), B.n = n → SatF B cx (lk e1) (nthB h) a w → ∃ cx', SatF B cx' (lk e2) (nthB h2) a w := by
        obtain ⟨o, hk⟩ := frz_iff.1 hk
        cases o with
        | none => exact ⟨e1, h, hk, fun B cx a w _ hs => ⟨cx, hs⟩⟩
        | some k =>
          obtain ⟨e2, h2, hk2, hf⟩ := frzK_sound hk
          exact ⟨e2, h2, hk2, fun B cx a w hB hs => ⟨_, hf B cx a w (by rw [hB]) hs⟩⟩
      obtain ⟨e2, h2, hk, hsat⟩ := hsat
      unfold xDraw at hk
      obtain ⟨rcs, e', h', hd, hk⟩ := execOps_sound hT hk
      obtain ⟨hok, hk⟩ := need_iff.1 hk
      rw [List.append_nil, List.reverse_reverse] at hok
      refine ⟨_, _, _, hk, fun B cx a w Q hB hs hK => ?_⟩
      obtain ⟨cx, hs1⟩ := hsat B cx a w hB (SatF.less hs fun t s ht => (h1 t s ht).2.2)
      refine wp_region_any hmix ?_
      refine draw_sound (m := mskF e2) (fun t ht => mskF_none ht) hd hok hB (fun cx' a' w' hs' => hK _ _ _ hs') ops.size (List.range ops.size) _ (fun _ => false) (by simp) List.nodup_range (by simp) (by simp) (fun i hi => by simp [hi]) (fun _ _ => rfl) (fun _ _ _ h => by cases h) cx a _ ?_
      have none : ∀ {α : Type} {u : (Nat → Option α) → Rec → Nat → Option α} (l : List Rec) (k : Nat) (f : Nat → Option α), fold u (fun _ => false) k l f = f := by
        intro α u l
        induction l with
        | nil => intro _ _; rfl
        | cons x xs ihx => intro k f; exact ihx (k + 1) f
      rw [none, none]
      exact world_drawn hs1 _
  | .seq x y, e, h, K, hk => by
    obtain ⟨x1, e1, h1, hk1, hw1⟩ := exec_sound hT hmix x (show exec P TT T0 n x e h _ from hk)
    cases x1
    case normal =>
      obtain ⟨x2, e2, h2, hk2, hw2⟩ := exec_sound hT hmix y hk1
      exact ⟨_, _, _, hk2, fun B cx a w Q hB hs hK => wp_seq (hw1 B cx a w _ hB hs fun cx' a' w' hs' => hw2 B cx' a' w' Q hB hs' hK)⟩
    all_goals exact ⟨_, _, _, hk1, fun B cx a w Q hB hs hK => wp_seq (hw1 B cx a w _ hB hs fun cx' a' w' hs' => hK cx' a' w' hs')⟩
  | .cond c x y, e, h, K, hk => by
    have hk : xCond c (exec P TT T0 n x) (exec P TT T0 n y) e h K := hk
    unfold xCond at hk
    obtain ⟨s, h1, hk⟩ := opd_sound hk
    split at hk
    · rename_i t
      have hv : ∀ {B : Base} {cx : Cx} {a : Act} {w : World}, Sat B cx e h a w → a.eval c = .bool t := fun hs => relV_v (h1.rel (Reads.of_sat hs (ts := slotsOf [c]) fun _ _ => rfl) fun t ht => mem_slotsOf (by simp [ht]))
      cases t
      · obtain ⟨x2, e2, h2, hk2, hw2⟩ := exec_sound hT hmix y hk.1
        exact ⟨_, _, _, hk2, fun B cx a w Q hB hs hK => wp_cond_false (hv hs) (hw2 B cx a w Q hB hs hK)⟩
      · obtain ⟨x2, e2, h2, hk2, hw2⟩ := exec_sound hT hmix x hk.1
        exact ⟨_, _, _, hk2, fun B cx a w Q hB hs hK => wp_cond_true (hv hs) (hw2 B cx a w Q hB hs hK)⟩
    · exact hk.elim
  | .block id c, e, h, K, hk => by
    obtain ⟨x1, e1, h1, hk1, hw1⟩ := exec_sound hT hmix c (show exec P TT T0 n c e h _ from hk)
    cases x1
    case exit i =>
      simp only at hk1
      split at hk1
      · rename_i hi
        refine ⟨_, _, _, hk1, fun B cx a w Q hB hs hK => wp_block (hw1 B cx a w _ hB hs fun cx' a' w' hs' => ?_)⟩
        simp only [Exit.inBlock]
        rw [if_pos (Nat.eq_of_beq_eq_true hi)]
        exact hK _ _ _ hs'
      · rename_i hi
        refine ⟨_, _, _, hk1, fun B cx a w Q hB hs hK => wp_block (hw1 B cx a w _ hB hs fun cx' a' w' hs' => ?_)⟩
        simp only [Exit.inBlock]
        rw [if_neg (fun h => by subst h; simp at hi)]
        exact hK _ _ _ hs'
    all_goals exact ⟨_, _, _, hk1, fun B cx a w Q hB hs hK => wp_block (hw1 B cx a w _ hB hs fun cx' a' w' hs' => hK _ _ _ hs')⟩
  | .loop c, e, h, K, hk => loopN_iff.1 hk
  | .exit id, e, h, K, hk => ⟨_, _, _, hk, fun B cx a w Q hB hs hK => wp_exit (hK _ _ _ hs)⟩
  | .label l, e, h, K, hk => ⟨_, _, _, hk, fun B cx a w Q hB hs hK => wp_label (hK _ _ _ hs)⟩
  | .scope c, e, h, K, hk => by
    obtain ⟨x1, e1, h1, hk1, hw1⟩ := exec_sound hT hmix c (show exec P TT T0 n c e h _ from hk)
    cases x1
    case goto => exact hk1.elim
    all_goals exact ⟨_, _, _, hk1, fun B cx a w Q hB hs hK => wp_scope_straight (hw1 B cx a w _ hB hs fun cx' a' w' hs' => hK _ _ _ hs')⟩
  | .ret, e, h, K, hk => ⟨_, _, _, hk, fun B cx a w Q hB hs hK => wp_ret (hK _ _ _ hs)⟩

/-- From the one state to the other, with no step taken. -/
def Sub (n : Sz) (e : List (Nat × SV)) (h : List OB) (e' : List (Nat × SV)) (h' : List OB) : Prop :=
  ∀ (B : Base) (cx : Cx) (a : Act) (w : World), B.n = n → Sat B cx e h a w → ∃ cx', Sat B cx' e' h' a w
theorem Sub.refl {e : List (Nat × SV)} {h : List OB} : Sub n e h e h := fun _ cx _ _ _ hs => ⟨cx, hs⟩
theorem Sub.trans {e1 e2 e3 : List (Nat × SV)} {h1 h2 h3 : List OB} (s1 : Sub n e1 h1 e2 h2) (s2 : Sub n e2 h2 e3 h3) : Sub n e1 h1 e3 h3 := fun B cx a w hB hs =>
  let ⟨cx1, hs1⟩ := s1 B cx a w hB hs
  s2 B cx1 a w hB hs1
theorem Sub.env {e e' : List (Nat × SV)} {h : List OB} (hl : ∀ t s, lk e' t = some s → lk e t = some s) : Sub n e h e' h := fun _ cx _ _ _ hs => ⟨cx, SatF.less hs hl⟩
/-- each slot of the second state stands so in the first -/
def within (e : List (Nat × SV)) : List (Nat × SV) → Prop
  | [] => True
  | (t, s) :: r => lk e t = some s ∧ within e r
theorem within_sound {e : List (Nat × SV)} : ∀ {e' : List (Nat × SV)}, within e e' → ∀ t s, lk e' t = some s → lk e t = some s
  | [], _, _, _, h => by cases h
  | (t0, s0) :: r, hw, t, s, h => by
    rw [lk_cons_if] at h
    split at h
    · rename_i he; subst he; cases h; exact hw.1
    · exact within_sound hw.2 t s h
theorem Sub.of {e e' : List (Nat × SV)} {h : List OB} (hw : within e e') : Sub n e h e' h := .env (within_sound hw)

def loopK {ι : Type} (n : Sz) (Ie : ι → List (Nat × SV)) (Ih : ι → List OB) (μ : ι → Nat) (i : ι) (K : Exit → List (Nat × SV) → List OB → Prop) : Exit → List (Nat × SV) → List OB → Prop := fun x e' h' =>
  match x with
  | .normal => ∃ j, Sub n e' h' (Ie j) (Ih j) ∧ μ j < μ i
  | x => K x e' h'
/-- The ends of a loop that meet behind it in one family of states. -/
theorem LoopN.cut {κ : Type} {c : Code} {e : List (Nat × SV)} {h : List OB} {K : Exit → List (Nat × SV) → List OB → Prop} (x0 : Exit) (Xe : κ → List (Nat × SV)) (Xh : κ → List OB)
    (hl : LoopN P n c e h fun x e' h' => (x = x0 ∧ ∃ k, Sub n e' h' (Xe k) (Xh k)) ∨ K x e' h') (hk : ∀ k, K x0 (Xe k) (Xh k)) : LoopN P n c e h K := by
  rw [loopN_iff] at hl ⊢
  obtain ⟨x, e', h', hx, hw⟩ := hl
  rcases hx with ⟨rfl, k, hs⟩ | hx
  · refine ⟨x, Xe k, Xh k, hk k, fun B cx a w Q hB hsat hK => hw B cx a w Q hB hsat fun cx' a' w' hs' => ?_⟩
    obtain ⟨cx2, hs2⟩ := hs B cx' a' w' hB hs'
    exact hK cx2 a' w' hs2
  · exact ⟨x, e', h', hx, hw⟩
theorem LoopN.mono {c : Code} {e : List (Nat × SV)} {h : List OB} {K K' : Exit → List (Nat × SV) → List OB → Prop} (hl : LoopN P n c e h K') (hk : ∀ x e' h', K' x e' h' → K x e' h') : LoopN P n c e h K := by
  rw [loopN_iff] at hl ⊢
  obtain ⟨x, e', h', hx, hw⟩ := hl
  exact ⟨x, e', h', hk _ _ _ hx, hw⟩
end
end Go.Fw

/- From the run of a body to the function's contract. -/
namespace Go.Fw

mutual
theorem ren_id : ∀ (s : SV), ren (fun k => k) s = s
  | .v _ => rfl
  | .ba .. => rfl
  | .fs .. => rfl
  | .pf .. => rfl
  | .top => rfl
  | .ov .. => rfl
  | .sb .. => rfl
  | .pb .. => rfl
  | .pe .. => rfl
  | .clo _ cs => by simp only [ren, rens_id cs]
  | .agg cs => by simp only [ren, rens_id cs]
  | .tup cs => by simp only [ren, rens_id cs]
theorem rens_id : ∀ (cs : List SV), rens (fun k => k) cs = cs
  | [] => rfl
  | s :: r => by simp only [rens, ren_id s, rens_id r]
end

mutual
/-- Only blocks below m are named. -/
def below (m : Nat) : SV → Bool
  | .pb j _ => Nat.blt j m
  | .pe _ j _ _ => Nat.blt j m
  | .ov _ j _ _ => Nat.blt j m
  | .sb j _ _ _ => Nat.blt j m
  | .agg cs => belows m cs
  | .clo _ cs => belows m cs
  | .tup cs => belows m cs
  | _ => true
def belows (m : Nat) : List SV → Bool
  | [] => true
  | s :: r => match below m s with | true => belows m r | false => false
end
mutual
theorem below_ment {m k : Nat} : ∀ (s : SV), below m s = true → ment k s = true → k < m
  | .v _, _, h => by cases h
  | .ba .., _, h => by cases h
  | .fs .., _, h => by cases h
  | .pf .., _, h => by cases h
  | .top, _, h => by cases h
  | .pb j _, h, g => by simp only [below, ment] at h g; rw [← Nat.eq_of_beq_eq_true g]; simpa using h
  | .pe _ j _ _, h, g => by simp only [below, ment] at h g; rw [← Nat.eq_of_beq_eq_true g]; simpa using h
  | .ov _ j _ _, h, g => by simp only [below, ment] at h g; rw [← Nat.eq_of_beq_eq_true g]; simpa using h
  | .sb j _ _ _, h, g => by simp only [below, ment] at h g; rw [← Nat.eq_of_beq_eq_true g]; simpa using h
  | .agg cs, h, g => by simp only [below, ment] at h g; exact belows_ment cs h g
  | .clo _ cs, h, g => by simp only [below, ment] at h g; exact belows_ment cs h g
  | .tup cs, h, g => by simp only [below, ment] at h g; exact belows_ment cs h g
theorem belows_ment {m k : Nat} : ∀ (cs : List SV), belows m cs = true → ments k cs = true → k < m
  | [], _, h => by cases h
  | s :: r, h, g => by
    simp only [belows] at h
    simp only [ments] at g
    split at h
    · rename_i h1
      split at g
      · rename_i g1; exact below_ment s h1 g1
      · exact belows_ment r h g
    · cases h
end
def belowB (m : Nat) : OB → Bool
  | .cells s => below m s
  | _ => true

def Cx.upto (cx : Cx) (m : Nat) : Cx := ⟨fun k => if k < m then cx.bl k else none, cx.O⟩
theorem ren_upto {cx : Cx} {m : Nat} {w : World} {M : Nat → Prop} (h : ∀ k, M k → k < m) : Ren (fun k => k) M cx w (cx.upto m) :=
  ⟨fun k x hm hx => by simp [Cx.upto, h k hm, hx], fun _ _ h => h⟩
theorem RelC.upto {cx : Cx} {m : Nat} {w : World} {s : SV} {vs : List Value} (h : RelC cx w s vs) (hb : Fw.below m s = true) : RelC (cx.upto m) w s vs := by
  have := h.ren (g := fun k => k) (ren_upto (m := m) fun k hk => below_ment s hb hk)
  rwa [ren_id] at this
theorem RelV.upto {cx : Cx} {m : Nat} {w : World} {s : SV} {v : Value} (h : RelV cx w s v) (hb : below m s = true) : RelV (cx.upto m) w s v := by
  have := h.ren (g := fun k => k) (ren_upto (m := m) fun k hk => below_ment s hb hk)
  rwa [ren_id] at this

theorem mem_upto {cx : Cx} {w : World} {h : List OB} {m : Nat} (hm : Mem cx w (nthB h)) (hb : ∀ ob ∈ h.take m, belowB m ob = true) : Mem (cx.upto m) w (nthB (h.take m)) := by
  have low : ∀ k ob, nthB (h.take m) k = some ob → k < m ∧ nthB h k = some ob := by
    intro k ob hk
    rw [nthB_eq, List.getElem?_take] at hk
    split at hk
    · rename_i hlt; exact ⟨hlt, by rw [nthB_eq]; exact hk⟩
    · cases hk
  have eb : ∀ k, k < m → (cx.upto m).bl k = cx.bl k := fun k hk => by simp [Cx.upto, hk]
  refine ⟨fun k ob hk => ?_, fun j j' ob ob' b C C' h1 h2 n1 n2 b1 b2 => ?_, fun j hj => ?_, hm.lt⟩
  · obtain ⟨hlt, hk2⟩ := low k ob hk
    have hl := hm.live k ob hk2
    have hbo := hb ob (by rw [nthB_eq] at hk; exact List.mem_of_getElem? hk)
    cases ob with
    | gone => trivial
    | cells s =>
      rcases hl with ⟨b, C, h1, h2, vs, T, h3, h4⟩ | ⟨_, E, h2⟩
      · exact .inl ⟨b, C, by rw [eb k hlt]; exact h1, h2, vs, T, h3, h4.upto hbo⟩
      · cases h2
    | arr x E rows =>
      rcases hl with ⟨b, C, h1, h2, h3⟩ | ⟨h1, h2⟩
      · exact .inl ⟨b, C, by rw [eb k hlt]; exact h1, h2, h3⟩
      · exact .inr ⟨by rw [eb k hlt]; exact h1, h2⟩
  · obtain ⟨l1, h1⟩ := low _ _ h1
    obtain ⟨l2, h2⟩ := low _ _ h2
    rw [eb _ l1] at b1
    rw [eb _ l2] at b2
    exact hm.inj _ _ _ _ _ _ _ h1 h2 n1 n2 b1 b2
  · simp only [Cx.upto]
    split
    · rename_i hlt
      refine hm.dom j ?_
      rw [nthB_eq, List.getElem?_take, if_pos hlt] at hj
      rw [nthB_eq]; exact hj
    · rfl
theorem fr_upto {keep : Nat → Prop} {cx0 cx : Cx} {w0 w : World} {m : Nat} (hf : Fr keep cx0 w0 cx w) (hk : ∀ k, keep k → k < m) : Fr keep cx0 w0 (cx.upto m) w := by
  refine ⟨hf.le, hf.same, hf.own, hf.old, fun k b C h => ?_, fun k hk2 => ?_, hf.wk⟩
  · simp only [Cx.upto] at h
    split at h
    · exact hf.blk k b C h
    · cases h
  · simp only [Cx.upto, if_pos (hk k hk2)]
    exact hf.keep k hk2

/-- The end of a body: what is left of its blocks, and of its result. -/
def Out (n0 : Nat) (s : SV) (h : List OB) (r : SV) (hp' : List OB) : Prop :=
  ∀ (keep : Nat → Prop) (cx0 cx : Cx) (w0 w : World) (v : Value), (∀ k, keep k → k < n0) → (∀ k, n0 ≤ k → cx0.bl k = none) → RelV cx w s v → Mem cx w (nthB h) → Fr keep cx0 w0 cx w →
    ∃ cx', RelV cx' w r v ∧ Mem cx' w (nthB hp') ∧ Fr keep cx0 w0 cx' w
theorem Out.refl {n0 : Nat} {s : SV} {h : List OB} : Out n0 s h s h := fun _ _ cx _ _ _ _ _ h1 h2 h3 => ⟨cx, h1, h2, h3⟩
theorem Out.cut {n0 m : Nat} {s : SV} {h : List OB} (hm : n0 ≤ m) (hs : below m s = true) (hb : (h.take m).all (belowB m) = true) : Out n0 s h s (h.take m) := by
  intro keep cx0 cx w0 w v hk _ h1 h2 h3
  exact ⟨cx.upto m, h1.upto hs, mem_upto h2 (fun ob ho => List.all_eq_true.1 hb ob ho), fr_upto h3 fun k hk2 => Nat.lt_of_lt_of_le (hk k hk2) hm⟩

theorem Out.inv {n0 : Nat} {s r : SV} {h hp' : List OB} (ho : Out n0 s h r hp') : ∀ (keep : Nat → Prop) (cx0 cx : Cx) (w0 w : World) (v : Value), (∀ k, keep k → k < n0) → (∀ k, n0 ≤ k → cx0.bl k = none) → RelV cx w s v → Mem cx w (nthB h) → Fr keep cx0 w0 cx w →
    ∃ cx', RelV cx' w r v ∧ Mem cx' w (nthB hp') ∧ Fr keep cx0 w0 cx' w := ho
theorem Out.none {s r : SV} {h : List OB} (hs : s = r) (hb : below 0 r = true) : Out 0 s h r [] := by
  subst hs
  have := Out.cut (n0 := 0) (m := 0) (h := h) (Nat.le_refl 0) hb (by simp)
  simpa using this
theorem Out.keep {n0 : Nat} {s r : SV} {h : List OB} (m : Nat) {hp' : List OB} (hs : s = r) (hh : h.take m = hp') (hm : n0 ≤ m) (hb : below m r = true) (hb2 : hp'.all (belowB m) = true) : Out n0 s h r hp' := by
  subst hs hh
  exact Out.cut hm hb hb2
attribute [irreducible] Out

/-- The same for a state: blocks that are not named any more. -/
theorem Sub.cut {n : Sz} {e : List (Nat × SV)} {h : List OB} {m : Nat} (hm : n.n0 ≤ m) (he : e.all (fun p => below m p.2) = true) (hb : (h.take m).all (belowB m) = true) : Sub n e h e (h.take m) := by
  intro B cx a w hB hs
  refine ⟨cx.upto m, hs.df, hs.sz, fun t s ht => ?_, mem_upto hs.mem (fun ob ho => List.all_eq_true.1 hb ob ho), fr_upto hs.fr fun k hk => ?_⟩
  · obtain ⟨v, h1, h2⟩ := hs.sl t s ht
    refine ⟨v, h1, h2.upto ?_⟩
    have mem : ∀ (e : List (Nat × SV)), lk e t = some s → (t, s) ∈ e := by
      intro e
      induction e with
      | nil => intro h; cases h
      | cons p r ih =>
        obtain ⟨t', s'⟩ := p
        intro h
        rw [lk_cons_if] at h
        split at h
        · rename_i he; subst he; cases h; exact List.mem_cons_self
        · exact List.mem_cons_of_mem _ (ih h)
    exact List.all_eq_true.1 he (t, s) (mem e ht)
  · have := B.kn k hk
    rw [hB] at this
    omega

/-- To another state: these slots, and the first m blocks. -/
theorem Sub.go {n : Sz} {e e' : List (Nat × SV)} {h h' : List OB} (m : Nat) (hw : within e e') (hh : h.take m = h') (hm : n.n0 ≤ m) (he : e'.all (fun p => below m p.2) = true) (hb : h'.all (belowB m) = true) : Sub n e h e' h' := by
  subst hh
  exact (Sub.env (within_sound hw)).trans (Sub.cut hm he hb)

def lkT : List (Nat × TI) → Nat → TI
  | [], _ => .none
  | (j, ti) :: r, t => match Nat.beq j t with | true => ti | false => lkT r t
def TIoks (P : Program) : List (Nat × TI) → Prop
  | [] => True
  | (t, ti) :: r => TIok P t ti ∧ TIoks P r
theorem lkT_ok {P : Program} : ∀ {l : List (Nat × TI)}, TIoks P l → TTok P (lkT l)
  | [], _, t => ⟨fun h => (h rfl).elim, trivial⟩
  | (j, ti) :: r, h, t => by
    simp only [lkT]
    split
    · rename_i hb; rw [← Nat.eq_of_beq_eq_true hb]; exact h.1
    · exact lkT_ok h.2 t

def envOf : Nat → List SV → List (Nat × SV)
  | _, [] => []
  | j, s :: r => (j, s) :: envOf (j + 1) r
theorem envOf_lk : ∀ (l : List SV) (j t : Nat) (s : SV), lk (envOf j l) t = some s → j ≤ t ∧ l[t - j]? = some s
  | [], _, _, _, h => by cases h
  | x :: r, j, t, s, h => by
    rw [envOf, lk_cons_if] at h
    split at h
    · rename_i he; subst he; cases h; simp
    · obtain ⟨h1, h2⟩ := envOf_lk r (j + 1) t s h
      refine ⟨by omega, ?_⟩
      rw [show t - j = (t - (j + 1)) + 1 by omega]
      simpa using h2
theorem RelV1.toV {cx w s v} (h : RelV1 cx w s v) : RelV cx w s v := by
  cases s <;> first | exact h | exact h.elim
theorem RelVL.get {cx w l vs} (h : RelVL cx w l vs) : vs.length = l.length ∧ ∀ (i : Nat) s, l[i]? = some s → ∃ v, vs[i]? = some v ∧ RelV cx w s v := by
  induction h with
  | nil => exact ⟨rfl, fun i s h => by simp at h⟩
  | cons h1 _ ih =>
    refine ⟨by simp [ih.1], fun i s hi => ?_⟩
    cases i with
    | zero => simp at hi; subst hi; exact ⟨_, rfl, h1.toV⟩
    | succ i => obtain ⟨v, g1, g2⟩ := ih.2 i s (by simpa using hi); exact ⟨v, by simpa using g1, g2⟩

/-- Where a result stands: in a slot, or in the cells that a slot points to. -/
inductive RV where
  | tmp (t : Nat)
  | cell (t T : Nat)
def RV.of : RV → ResultVar
  | .tmp t => .tmp t
  | .cell t T => .cell t T
def resOne (TT : Nat → TI) (e : List (Nat × SV)) (h : List OB) : RV → (SV → Prop) → Prop
  | .tmp t, K => match lk e t with | some s => K s | none => False
  | .cell t T, K => match lk e t with
    | some (.pb k p) => match nthB h k with
      | some (.cells s) => follow p s fun y => okT (ofType (TT T) y) (K y)
      | _ => False
    | _ => False
def resAll (TT : Nat → TI) (e : List (Nat × SV)) (h : List OB) : List RV → (List SV → Prop) → Prop
  | [], K => K []
  | r :: rs, K => resOne TT e h r fun s => resAll TT e h rs fun l => K (s :: l)
def fin (l : List SV) (K : SV → Prop) : Prop :=
  match l with
  | [s] => K s
  | l => okT (l.all argOK) (K (.tup l))
section
variable {P : Program} {TT : Nat → TI}
def evRes (tmps : Array Value) : ResultVar → Sem Value
  | .tmp t => pure (tmps.getD t undef)
  | .cell a t => do loadVar t (← asAddr (tmps.getD a undef))
theorem resOne_sound (hT : TTok P TT) {e : List (Nat × SV)} {h : List OB} : ∀ {r : RV} {K : SV → Prop}, resOne TT e h r K → ∃ s, K s ∧ ∀ (B : Base) (cx : Cx) (a : Act) (w : World), Sat B cx e h a w → ∃ v, (evRes a.tmps r.of).run P w = .ok v w ∧ RelV cx w s v
  | .tmp t, K, hk => by
    simp only [resOne] at hk
    split at hk
    · rename_i s hs
      refine ⟨s, hk, fun B cx a w hsat => ?_⟩
      obtain ⟨v, h1, h2⟩ := hsat.sl t s hs
      exact ⟨v, by simp [evRes, RV.of, h1], h2⟩
    · exact hk.elim
  | .cell t T, K, hk => by
    simp only [resOne] at hk
    split at hk
    · rename_i k p hs
      split at hk
      · rename_i s0 hs0
        obtain ⟨y, hk, hle, hy⟩ := follow_sound _ _ _ hk
        obtain ⟨hty, hk⟩ := okT_of hk
        refine ⟨y, hk, fun B cx a w hsat => ?_⟩
        obtain ⟨v, h1, h2⟩ := hsat.sl t _ hs
        have h2 : RelC cx w (.pb k p) [v] := h2
        cases h2 with
        | pb hb =>
          rcases hsat.mem.live k _ hs0 with ⟨b', C', hb', _, vs, T', hh, hrc⟩ | ⟨_, _, hb'⟩
          · rw [hb] at hb'; cases hb'
            obtain ⟨u, h3, h4⟩ := run_load_rel (hT T) hty (hy cx w vs hrc) (fun j u hu => block_cells hh j u hu)
            exact ⟨u, by simp [evRes, RV.of, h1, asAddr, h3], h4⟩
          · cases hb'
      · exact hk.elim
    · exact hk.elim
theorem resAll_sound (hT : TTok P TT) {e : List (Nat × SV)} {h : List OB} : ∀ {rs : List RV} {K : List SV → Prop}, resAll TT e h rs K → ∃ l, K l ∧ l.length = rs.length ∧ ∀ (B : Base) (cx : Cx) (a : Act) (w : World), Sat B cx e h a w →
    ∃ vs : List Value, vs.length = rs.length ∧ ((rs.map RV.of).mapM (evRes a.tmps)).run P w = .ok vs w ∧ ∀ (i : Nat) s v, l[i]? = some s → vs[i]? = some v → RelV cx w s v
  | [], K, hk => ⟨[], hk, rfl, fun B cx a w _ => ⟨[], rfl, by simp, fun i s v h => by simp at h⟩⟩
  | r :: rs, K, hk => by
    obtain ⟨s, hk, h1⟩ := resOne_sound hT hk
    obtain ⟨l, hk, hl, h2⟩ := resAll_sound hT hk
    refine ⟨_, hk, by simp [hl], fun B cx a w hsat => ?_⟩
    obtain ⟨v, h3, h4⟩ := h1 B cx a w hsat
    obtain ⟨vs, h5, h6, h7⟩ := h2 B cx a w hsat
    refine ⟨v :: vs, by simp [h5], by simp only [List.map_cons, List.mapM_cons, Sem.run_bind, h3, Result.andThen_ok, h6, Sem.run_pure], fun i s v h8 h9 => ?_⟩
    cases i with
    | zero => simp at h8 h9; subst h8 h9; exact h4
    | succ i => exact h7 i s v (by simpa using h8) (by simpa using h9)
theorem run_results {fn : Func} {rs : List RV} (hres : fn.results = (rs.map RV.of).toArray) {tmps : Array Value} {w : World} {vs : List Value} (hr : ((rs.map RV.of).mapM (evRes tmps)).run P w = .ok vs w) :
    (results fn tmps).run P w = .ok (if h : vs.length = 1 then vs[0] else .tuple vs.toArray) w := by
  have e : (fn.results.mapM (evRes tmps)).run P w = .ok vs.toArray w := by
    rw [hres, List.mapM_toArray, Sem.run_map, hr]; rfl
  have e2 : results fn tmps = (do let vs ← fn.results.mapM (evRes tmps); pure (if h : vs.size = 1 then vs[0] else .tuple vs) : Sem Value) := by
    unfold results
    congr 1
  rw [e2]
  simp only [Sem.run_bind, e, Result.andThen_ok, Sem.run_pure, List.size_toArray]
  rfl

theorem fin_inv {l : List SV} {K : SV → Prop} (h : fin l K) : ∃ s, ((∃ x, l = [x] ∧ s = x) ∨ (l.length ≠ 1 ∧ s = .tup l ∧ l.all argOK = true)) ∧ K s := by
  unfold fin at h
  split at h
  · rename_i s; exact ⟨s, .inl ⟨s, rfl, rfl⟩, h⟩
  · rename_i hne
    obtain ⟨h1, h2⟩ := okT_of h
    refine ⟨_, .inr ⟨fun hl => ?_, rfl, h1⟩, h2⟩
    obtain ⟨x, rfl⟩ := list_one hl.symm
    exact hne x rfl
theorem fin_mono {l : List SV} {K K' : SV → Prop} (hk : ∀ s, K s → K' s) (h : fin l K) : fin l K' := by
  unfold fin at h ⊢
  split at h
  · exact hk _ h
  · obtain ⟨h1, h2⟩ := okT_of h
    exact okT_iff.2 ⟨h1, hk _ h2⟩
theorem okT_mono {b : Bool} {K K' : Prop} (h : okT b K) (hk : K → K') : okT b K' := by
  cases b
  · exact h
  · exact hk h
theorem resAll_mono {e : List (Nat × SV)} {h : List OB} {K K' : List SV → Prop} (hk : ∀ l, K l → K' l) : ∀ {rs : List RV}, resAll TT e h rs K → resAll TT e h rs K' := by
  intro rs
  induction rs generalizing K K' with
  | nil => exact hk []
  | cons r rs ih =>
    simp only [resAll]
    have one : ∀ {K K' : SV → Prop}, (∀ s, K s → K' s) → resOne TT e h r K → resOne TT e h r K' := by
      intro K K' hk hr
      cases r <;> simp only [resOne] at hr ⊢ <;> split at hr <;> first | exact hr.elim | skip
      · rename_i hs; exact hk _ hr
      · split at hr <;> first | exact hr.elim | skip
        have fm : ∀ (p : List PS) (s : SV) {K K' : SV → Prop}, (∀ s, K s → K' s) → follow p s K → follow p s K' := by
          intro p
          induction p with
          | nil => intro s K K' hk h; exact hk _ h
          | cons x p ih =>
            intro s K K' hk h
            cases x <;> simp only [follow] at h ⊢ <;> split at h <;> first | exact h.elim | skip
            · split at h
              · split at h
                · exact ih _ hk h
                · exact h.elim
              · exact h.elim
            · split at h
              · split at h
                · rw [need_iff] at h ⊢; exact ⟨h.1, hk _ h.2⟩
                · exact h.elim
              · exact h.elim
            · rw [need_iff] at h ⊢
              obtain ⟨h0, h⟩ := h
              refine ⟨h0, ?_⟩
              rw [elem_iff] at h ⊢
              obtain ⟨s, h1, h2⟩ := h
              exact ⟨s, h1, ih _ hk h2⟩
        exact fm _ _ (fun s h => okT_mono h (hk s)) hr
    exact one fun s hr => ih (fun l => hk (s :: l)) hr
end
end Go.Fw

/- What comes in: an argument that reads as data of a type has a shape, and stands in the relation to it. -/
namespace Go.Fw
open Go.ChangeShapes Go.RowKit

/-- A value of a type, as it comes in. -/
def Shp (P : Program) (TT : Nat → TI) : Nat → Nat → SV → Prop
  | 0, _, _ => False
  | d + 1, t, s => match TT t with
    | .int k => ∃ n, s = .v (.int k n) ∧ (Lit.int k n).wf = true
    | .bool => ∃ b, s = .v (.bool b)
    | .slc E _ _ => ∃ rows, s = .fs .no E rows ∧ rows.length ≤ maxLen ∧ ∀ e, P.underlying t = some (.slice e) → ∀ r ∈ rows, Shp P TT d e r
    | .arr n _ el _ => match TT el with
      | .int .u8 => ∃ l, s = .ba n l ∧ l.length = n ∧ ∀ x ∈ l, 0 ≤ x ∧ x ≤ 255
      | _ => ∃ cs, s = .agg cs ∧ cs.length = n ∧ ∀ c ∈ cs, Shp P TT d el c
    | .str _ ft _ => ∃ cs, s = .agg cs ∧ cs.length = ft.length ∧ ∀ (i : Nat) u c, ft[i]? = some u → cs[i]? = some c → Shp P TT d u c
    | _ => False
/-- The types within are known. -/
def deepT (P : Program) (TT : Nat → TI) : Nat → Nat → Bool
  | 0, _ => false
  | d + 1, t => match TT t with
    | .int _ => true
    | .bool => true
    | .slc E _ _ => Nat.blt 0 E && (match P.underlying t with | some (.slice e) => deepT P TT d e | _ => false)
    | .arr n E el z => Nat.beq (wd z) (n * E) && deepT P TT d el
    | .str _ ft _ => !ft.isEmpty && ft.all (deepT P TT d)
    | _ => false

section
variable {H : Type} {enc : TypeId × Value → H} {P : Program} {TT : Nat → TI} {w : World} {base : Nat}

theorem listOf {α β : Type} {Q : Nat → α → β → Prop} : ∀ (n : Nat), (∀ i, i < n → ∃ a b, Q i a b) → ∃ (l : List α) (m : List β), l.length = n ∧ m.length = n ∧ ∀ i a b, l[i]? = some a → m[i]? = some b → Q i a b
  | 0, _ => ⟨[], [], rfl, rfl, fun i a b h => by simp at h⟩
  | n + 1, h => by
    obtain ⟨l, m, h1, h2, h3⟩ := listOf (Q := Q) n (fun i hi => h i (by omega))
    obtain ⟨a, b, hab⟩ := h n (by omega)
    refine ⟨l ++ [a], m ++ [b], by simp [h1], by simp [h2], fun i x y hx hy => ?_⟩
    rcases Nat.lt_trichotomy i n with hi | hi | hi
    · rw [List.getElem?_append_left (by omega)] at hx hy
      exact h3 i x y hx hy
    · subst hi
      rw [List.getElem?_append_right (by omega)] at hx hy
      simp [h1] at hx
      simp [h2] at hy
      subst hx hy
      exact hab
    · rw [List.getElem?_eq_none (by simp; omega)] at hx
      cases hx

theorem relC_pieces {cx : Cx} {w : World} : ∀ (ss : List SV) (cs : List Value), (∀ (i : Nat) s, ss[i]? = some s → RelC cx w s ((cs.drop (wds (ss.take i))).take (wd s))) → cs.length = wds ss → RelC cx w (.agg ss) cs
  | [], cs, _, hl => by
    have : cs = [] := List.length_eq_zero_iff.1 (by simpa [wds] using hl)
    subst this; exact .nil
  | s :: ss, cs, h, hl => by
    have h0 := h 0 s rfl
    simp only [List.take_zero, wds, List.drop_zero] at h0
    have hrest := relC_pieces ss (cs.drop (wd s)) (fun i u hu => by
      have := h (i + 1) u (by simpa using hu)
      simpa [wds, List.drop_drop] using this) (by simp [wds] at hl ⊢; omega)
    have := RelC.cons h0 hrest
    rwa [List.take_append_drop] at this

theorem cells_get {a : Addr} {n : Nat} {vs : List Value} (h : w.cells? 0 a n = some vs) : vs.length = n ∧ ∀ (j : Nat) x, vs[j]? = some x → w.cell? (a.add j) = some x := by
  unfold World.cells? at h
  rw [if_pos (Nat.zero_le _)] at h
  refine ⟨by simpa using mapM_some_length h, fun j x hx => ?_⟩
  have hj : j < n := by
    have := (List.getElem?_eq_some_iff.1 hx).1
    have := mapM_some_length h
    simp at this; omega
  rw [mapM_some_get h j j (by simp [hj]), hx]
theorem spot_none {a : Addr} {x : Value} (h : w.cell? a = some x) : a = ⟨a.block, a.off, none⟩ ∧ ∃ cs T fz, w.heap[a.block]? = some (.cells cs T fz) := by
  unfold World.cell? at h
  split at h
  · rename_i c T fz hc
    split at h
    · cases h
    · rename_i hs
      obtain ⟨b, o, sp⟩ := a
      cases sp with
      | none => exact ⟨rfl, _, _, _, hc⟩
      | some x => simp at hs
  · cases h

theorem bytes_of : ∀ (ss : List SV), (∀ c ∈ ss, ∃ x, c = .v (.int .u8 x) ∧ (Lit.int .u8 x).wf = true) → ∃ l : List Int, ss = l.map (fun x => .v (.int .u8 x)) ∧ ∀ x ∈ l, 0 ≤ x ∧ x ≤ 255
  | [], _ => ⟨[], rfl, fun _ h => by cases h⟩
  | c :: r, h => by
    obtain ⟨x, rfl, hx⟩ := h c (by simp)
    obtain ⟨l, rfl, hl⟩ := bytes_of r fun c hc => h c (by simp [hc])
    refine ⟨x :: l, rfl, fun y hy => ?_⟩
    rcases List.mem_cons.1 hy with rfl | hy
    · exact bounds_u8 hx
    · exact hl y hy
theorem relC_bytes {cx : Cx} {w : World} : ∀ (l : List Int) (cs : List Value), RelC cx w (.agg (l.map fun x => .v (.int .u8 x))) cs → cs = l.map fun x => .int .u8 x
  | [], cs, h => by cases h; rfl
  | x :: l, cs, h => by
    obtain ⟨us, ws, rfl, h1, h2⟩ := h.agg_inv
    cases h1
    rw [relC_bytes l ws h2]; rfl
theorem layout_of : ∀ (zs ss : List SV), zs.map wd = ss.map wd → ∀ i, wds (zs.take i) = wds (ss.take i)
  | [], [], _, i => by simp
  | [], _ :: _, h, _ => by simp at h
  | _ :: _, [], h, _ => by simp at h
  | z :: zs, s :: ss, h, 0 => by simp
  | z :: zs, s :: ss, h, i + 1 => by
    simp only [List.map_cons, List.cons.injEq] at h
    simp [wds, h.1, layout_of zs ss h.2 i]
theorem wds_map : ∀ (zs ss : List SV), zs.map wd = ss.map wd → wds zs = wds ss
  | [], [], _ => rfl
  | [], _ :: _, h => by simp at h
  | _ :: _, [], h => by simp at h
  | z :: zs, s :: ss, h => by
    simp only [List.map_cons, List.cons.injEq] at h
    simp [wds, h.1, wds_map zs ss h.2]

theorem open_trod (hT : TTok P TT) : ∀ (d t : Nat) (cs : List Value) (fuel : Nat) (x : DataW H × List MemPlace), deepT P TT d t = true → DataW.trod enc P w 0 (fun _ => true) true fuel t cs = some x →
    ∃ s, Shp P TT d t s ∧ RelC ⟨fun _ => none, fun _ => False⟩ w s cs ∧ wd s = P.cellsOf t
  | 0, _, _, _, _, h, _ => by cases h
  | d + 1, t, cs, fuel, x, hd, hx => by
    have ht := hT t
    have hne : TT t ≠ .none := fun e => by simp [deepT, e] at hd
    obtain ⟨⟨by_, hi⟩, hz⟩ := ht.info hne
    obtain ⟨inf, hi1, hi2, _, _⟩ := hi.mk
    have hcell : P.cellsOf t = wd (TT t).zero := by simp [Program.cellsOf, hi1, hi2]
    have hdesc := ht.desc
    simp only [deepT] at hd
    simp only [Shp]
    generalize hti : TT t = ti at *
    cases ti with
    | int k =>
      obtain ⟨n, rfl, _, hwf⟩ := DataW.trod_int hdesc hx
      exact ⟨_, ⟨n, rfl, hwf⟩, .v rfl, by rw [hcell]; rfl⟩
    | bool =>
      obtain ⟨b, rfl, _⟩ := DataW.trod_bool hdesc hx
      exact ⟨_, ⟨b, rfl⟩, .v rfl, by rw [hcell]; rfl⟩
    | slc E bytes z =>
      obtain ⟨e, hu, hie, hzz, hwz, _⟩ := hdesc
      obtain ⟨ie, hj1, hj2, _, _⟩ := hie.mk
      have hce : P.cellsOf e = E := by simp [Program.cellsOf, hj1, hj2]
      rw [hu] at hd
      simp only [Bool.and_eq_true] at hd
      obtain ⟨hE, hde⟩ := hd
      have hE : 0 < E := by simpa using hE
      rcases DataW.trod_slice hu hx with ⟨rfl, _⟩ | ⟨a, len, cap, elems, rest, n, _, rfl, _, _, hlc, hcm, hel, hget, hrest, _⟩
      · exact ⟨_, ⟨[], rfl, by simp, fun _ _ r hr => by cases hr⟩, .fs0 Tg.ok_no, by rw [hcell]; rfl⟩
      · have hone : ∀ i, i < len → ∃ s vs, Shp P TT d e s ∧ RelC ⟨fun _ => none, fun _ => False⟩ w s vs ∧ vs.length = E ∧ ∀ (j : Nat) x, vs[j]? = some x → w.cell? ((a.add (i * E)).add j) = some x := by
          intro i hi
          have h1 := hget i hi
          rw [hce, List.getElem?_eq_getElem (by omega), Option.bind_eq_some_iff] at h1
          obtain ⟨vs, h2, h3⟩ := h1
          obtain ⟨h4, h5⟩ := cells_get h2
          obtain ⟨s, h6, h7, _⟩ := open_trod hT d e vs n _ hde h3
          exact ⟨s, vs, h6, h7, h4, h5⟩
        by_cases hc0 : cap = 0
        · subst hc0
          obtain rfl : len = 0 := by omega
          exact ⟨_, ⟨[], rfl, by simp, fun _ _ r hr => by cases hr⟩, .fs0 Tg.ok_no, by rw [hcell]; rfl⟩
        · have hfirst : ∃ x, w.cell? (a.add 0) = some x := by
            by_cases hl0 : len = 0
            · subst hl0
              have h1 := (hrest rfl).2 0 (by omega)
              have hlen := (hrest rfl).1
              rw [hce, List.getElem?_eq_getElem (by omega), Option.bind_eq_some_iff] at h1
              obtain ⟨vs, h2, _⟩ := h1
              obtain ⟨h4, h5⟩ := cells_get h2
              refine ⟨vs[0], ?_⟩
              have := h5 0 vs[0] (List.getElem?_eq_getElem (by omega))
              simpa [Addr.add] using this
            · obtain ⟨s, vs, _, _, h4, h5⟩ := hone 0 (by omega)
              refine ⟨vs[0], ?_⟩
              have := h5 0 vs[0] (List.getElem?_eq_getElem (by omega))
              simpa [Addr.add] using this
          obtain ⟨x0, hx0⟩ := hfirst
          have hx0 : w.cell? a = some x0 := by simpa [Addr.add] using hx0
          obtain ⟨ha, cs, T, fz, hb⟩ := spot_none hx0
          obtain ⟨rows, vss, hr1, hr2, hr3⟩ := listOf len hone
          rw [ha]
          refine ⟨.fs .no E rows, ⟨rows, rfl, by rw [hr1]; omega, fun e' he' r hr => ?_⟩, ?_, by rw [hcell]; rfl⟩
          · rw [hu] at he'
            simp only [Option.some.injEq, TypeDesc.slice.injEq] at he'
            subst he'
            obtain ⟨i, hi⟩ := List.mem_iff_getElem?.1 hr
            have hil := (List.getElem?_eq_some_iff.1 hi).1
            exact (hr3 i r _ hi (List.getElem?_eq_getElem (by omega))).1
          · have := RelC.fs (cx := ⟨fun _ => none, fun _ => False⟩) (w := w) (t := .no) (E := E) (rows := rows) (off := a.off) (cap := cap) (fun i => (vss[i]?).getD []) hb (fun h => h) (by omega) Tg.ok_no
              (fun i s hs => by
                have hil := (List.getElem?_eq_some_iff.1 hs).1
                have hv := List.getElem?_eq_getElem (l := vss) (i := i) (by omega)
                simp only [hv, Option.getD_some]
                exact (hr3 i s _ hs hv).2.1)
              (fun i hi => by
                have hv := List.getElem?_eq_getElem (l := vss) (i := i) (by omega)
                simp only [hv, Option.getD_some]
                exact (hr3 i _ _ (List.getElem?_eq_getElem (by omega)) hv).2.2.1)
              (fun i hi j x hj => by
                have hv := List.getElem?_eq_getElem (l := vss) (i := i) (by omega)
                simp only [hv, Option.getD_some] at hj
                have := (hr3 i _ _ (List.getElem?_eq_getElem (by omega)) hv).2.2.2 j x hj
                rw [ha, add_none, add_none, cell_of hb] at this
                exact this)
            rw [hr1] at this
            exact this
    | arr n E el z =>
      obtain ⟨hu, ⟨b', z', hie⟩, _⟩ := hdesc
      obtain ⟨ie, hj1, hj2, _, _⟩ := hie.mk
      have hce : P.cellsOf el = E := by simp [Program.cellsOf, hj1, hj2]
      obtain ⟨xs, m, _, _, hlen, hxl, hget⟩ := DataW.trod_array hu hx
      have hone : ∀ i, i < n → ∃ (s : SV) (_ : Unit), Shp P TT d el s ∧ RelC ⟨fun _ => none, fun _ => False⟩ w s ((cs.drop (i * E)).take E) ∧ wd s = E := by
        intro i hi
        have h1 := hget i hi
        rw [hce, List.getElem?_eq_getElem (by omega)] at h1
        obtain ⟨s, h6, h7, h8⟩ := open_trod hT d el _ m _ (by simp only [Bool.and_eq_true] at hd; exact hd.2) h1
        exact ⟨s, (), h6, h7, h8.trans hce⟩
      obtain ⟨ss, us, hs1, hs2, hs3⟩ := listOf n hone
      have hs3 : ∀ (i : Nat) s, ss[i]? = some s → Shp P TT d el s ∧ RelC ⟨fun _ => none, fun _ => False⟩ w s ((cs.drop (i * E)).take E) ∧ wd s = E := fun i s hs => by
        have := (List.getElem?_eq_some_iff.1 hs).1
        exact hs3 i s _ hs (List.getElem?_eq_getElem (by omega))
      have hall : ∀ c ∈ ss, wd c = E := fun c hc => by
        obtain ⟨i, hi⟩ := List.mem_iff_getElem?.1 hc
        exact (hs3 i c hi).2.2
      have hd0 := hd
      simp only [Bool.and_eq_true] at hd
      have hzw := Nat.eq_of_beq_eq_true hd.1
      have hcl : cs.length = n * E := by rw [hlen, hcell]; exact hzw
      have hwds : wds ss = n * E := by rw [wds_const hall, hs1]
      have hagg : RelC ⟨fun _ => none, fun _ => False⟩ w (.agg ss) cs := relC_pieces ss cs (fun i s hs => by
        have hil := (List.getElem?_eq_some_iff.1 hs).1
        rw [wds_all E ss (by simpa [Nat.beq_eq] using hall) i (by omega), (hs3 i s hs).2.2]
        exact (hs3 i s hs).2.1) (by rw [hcl, hwds])
      have hwt : wd (.agg ss) = P.cellsOf t := by
        rw [hcell]
        show wds ss = wd z
        rw [hwds, hzw]
      cases hel : TT el with
      | int k =>
        cases k with
        | u8 =>
          obtain ⟨l, hl, hb⟩ := bytes_of ss fun c hc => by
            obtain ⟨i, hi⟩ := List.mem_iff_getElem?.1 hc
            have := (hs3 i c hi).1
            cases d with
            | zero => exact this.elim
            | succ d => simpa [Shp, hel] using this
          have hln : l.length = n := by rw [← hs1, hl]; simp
          rw [hl] at hagg
          have hcs := relC_bytes l cs hagg
          refine ⟨.ba n l, (by simp only [hel]; exact ⟨l, rfl, hln, hb⟩), by rw [hcs]; exact .ba hln, ?_⟩
          have : wds ss = n := by rw [hl, wds_const (E := 1) (fun c hc => by obtain ⟨x, _, rfl⟩ := List.mem_map.1 hc; rfl)]; simp [hln]
          rw [← hwt]
          show n = wds ss
          exact this.symm
        | _ => exact ⟨.agg ss, (by simp only [hel]; exact ⟨ss, rfl, hs1, fun c hc => by obtain ⟨i, hi⟩ := List.mem_iff_getElem?.1 hc; exact (hs3 i c hi).1⟩), hagg, hwt⟩
      | _ => exact ⟨.agg ss, (by simp only [hel]; exact ⟨ss, rfl, hs1, fun c hc => by obtain ⟨i, hi⟩ := List.mem_iff_getElem?.1 hc; exact (hs3 i c hi).1⟩), hagg, hwt⟩
    | str fs ft z =>
      obtain ⟨hs, ⟨zc, hzc, hfs⟩, hrest⟩ := hdesc
      simp only [Bool.and_eq_true, Bool.not_eq_true', List.isEmpty_eq_false_iff] at hd
      obtain ⟨hft, hall⟩ := hd
      have hty := (hrest hft).1
      unfold structOf at hs
      unfold typesOf at hty
      split at hs
      case h_2 => cases hs
      rename_i fields hu
      rw [hu] at hty
      simp only [Option.some.injEq] at hs
      have hty : fields.toList.map (fun f => f.type) = ft := by
        cases hb : fields.toList.all fun f => f.name != "_" with
        | true => simp only [hb, Option.some.injEq] at hty; exact hty
        | false => simp only [hb] at hty; cases hty
      obtain ⟨xs, m, _, _, hlen, hxl, hget⟩ := DataW.trod_struct hu hx
      have hfl : fields.size = ft.length := by rw [← hty]; simp
      have hfsl : fs.length = ft.length := by
        have := congrArg List.length hs
        simp at this; omega
      have hfield : ∀ (i : Nat), i < ft.length → ∃ (f : Field) (q : Nat × Nat), fields[i]? = some f ∧ fs[i]? = some q ∧ ft[i]? = some f.type ∧ f.offset = q.1 ∧ P.cellsOf f.type = q.2 := by
        intro i hi
        have h1 : fields.toList[i]? = some (fields.toList[i]'(by simpa using (show i < fields.size by omega))) := List.getElem?_eq_getElem _
        generalize (fields.toList[i]'(by simpa using (show i < fields.size by omega))) = f at h1
        have h2 := congrArg (fun l => l[i]?) hs
        simp only [List.getElem?_map, h1, Option.map_some] at h2
        have h3 := congrArg (fun l => l[i]?) hty
        simp only [List.getElem?_map, h1, Option.map_some] at h3
        have hq := List.getElem?_eq_getElem (l := fs) (i := i) (by omega)
        rw [hq] at h2
        simp only [Option.map_some, Option.some.injEq] at h2
        cases hfi : P.info? f.type with
        | none => rw [hfi] at h2; cases h2
        | some fi =>
          rw [hfi] at h2
          simp only [Option.map_some, Option.some.injEq] at h2
          refine ⟨f, _, by rw [← Array.getElem?_toList]; exact h1, hq, h3.symm, ?_, ?_⟩
          · rw [← h2]
          · rw [← h2]; simp [Program.cellsOf, hfi]
      have hone : ∀ i, i < ft.length → ∃ (s : SV) (_ : Unit), ∃ u q, ft[i]? = some u ∧ fs[i]? = some q ∧ Shp P TT d u s ∧ RelC ⟨fun _ => none, fun _ => False⟩ w s ((cs.drop q.1).take q.2) ∧ wd s = q.2 := by
        intro i hi
        obtain ⟨f, q, h1, h2, h3, h4, h5⟩ := hfield i hi
        have h6 := hget i f h1
        rw [List.getElem?_eq_getElem (by omega), h4, h5] at h6
        obtain ⟨s, h7, h8, h9⟩ := open_trod hT d f.type _ m _ (List.all_eq_true.1 hall _ (List.mem_of_getElem? h3)) h6
        exact ⟨s, (), f.type, q, h3, h2, h7, h8, h9.trans h5⟩
      obtain ⟨ss, us, hs1, hs2, hs3⟩ := listOf ft.length hone
      have hs3 : ∀ (i : Nat) s, ss[i]? = some s → ∃ u q, ft[i]? = some u ∧ fs[i]? = some q ∧ Shp P TT d u s ∧ RelC ⟨fun _ => none, fun _ => False⟩ w s ((cs.drop q.1).take q.2) ∧ wd s = q.2 := fun i s hs => by
        have := (List.getElem?_eq_some_iff.1 hs).1
        exact hs3 i s _ hs (List.getElem?_eq_getElem (by omega))
      have hzl : zc.length = ft.length := by
        have := layout_len zc 0
        rw [← hfs] at this; omega
      have hmap : zc.map wd = ss.map wd := by
        apply List.ext_getElem?
        intro i
        rw [List.getElem?_map, List.getElem?_map]
        cases hsi : ss[i]? with
        | none =>
          rw [List.getElem?_eq_none_iff] at hsi
          rw [List.getElem?_eq_none (by omega)]
        | some s =>
          have hil := (List.getElem?_eq_some_iff.1 hsi).1
          obtain ⟨u, q, _, h2, _, _, h5⟩ := hs3 i s hsi
          have hz := List.getElem?_eq_getElem (l := zc) (i := i) (by omega)
          have := layout_get zc 0 i _ hz
          rw [← hfs, h2] at this
          simp only [Option.some.injEq] at this
          rw [hz]
          simp [h5, this]
      have hwt : wd (.agg ss) = P.cellsOf t := by
        rw [hcell]
        show wds ss = wd z
        rw [hzc]
        exact (wds_map _ _ hmap).symm
      refine ⟨.agg ss, ⟨ss, rfl, hs1, fun i u c h1 h2 => ?_⟩, relC_pieces ss cs (fun i s hsi => ?_) (hlen.trans hwt.symm), hwt⟩
      · obtain ⟨u', q, h3, _, h4, _⟩ := hs3 i c h2
        rw [h1] at h3
        cases h3
        exact h4
      · obtain ⟨u, q, _, h2, _, h4, h5⟩ := hs3 i s hsi
        have hil := (List.getElem?_eq_some_iff.1 hsi).1
        have hz := List.getElem?_eq_getElem (l := zc) (i := i) (by omega)
        have := layout_get zc 0 i _ hz
        rw [← hfs, h2] at this
        simp only [Option.some.injEq] at this
        rw [← layout_of zc ss hmap i, h5, this]
        rw [this] at h4
        simpa using h4
    | _ => simp at hd

/-- The arguments, each with its shape. -/
def ShpL (P : Program) (TT : Nat → TI) (d : Nat) : List Nat → List SV → Prop
  | [], [] => True
  | t :: ts, s :: ss => Shp P TT d t s ∧ ShpL P TT d ts ss
  | _, _ => False

theorem open_all (hT : TTok P TT) (d : Nat) : ∀ (ts : List Nat) (vs : List Value) (ds : List (DataW H)) (ps : List MemPlace), (∀ t ∈ ts, deepT P TT d t = true) → DataW.TrodAll enc P w 0 (fun _ => true) true ts vs ds ps →
    (∀ (j : Nat) t v, ts[j]? = some t → vs[j]? = some v → Value.okWide P w .any base t v) →
    ∃ ss, ShpL P TT d ts ss ∧ RelVL ⟨fun _ => none, fun _ => False⟩ w ss vs
  | [], [], ds, ps, _, h, _ => ⟨[], trivial, .nil⟩
  | [], _ :: _, ds, ps, _, h, _ => by cases ds <;> exact h.elim
  | _ :: _, [], ds, ps, _, h, _ => by cases ds <;> exact h.elim
  | t :: ts, v :: vs, [], ps, _, h, _ => h.elim
  | t :: ts, v :: vs, d0 :: ds, ps, hd, h, hok => by
    obtain ⟨p, q, ⟨fuel, h1⟩, h2, _⟩ := h
    obtain ⟨ss, h3, h4⟩ := open_all hT d ts vs ds q (fun t ht => hd t (by simp [ht])) h2 (fun j t v h1 h2 => hok (j + 1) t v (by simpa using h1) (by simpa using h2))
    obtain ⟨s, h5, h6, _⟩ := open_trod hT d t _ fuel _ (hd t (by simp)) h1
    refine ⟨s :: ss, ⟨h5, h3⟩, .cons ?_ h4⟩
    have hv := hok 0 t v rfl rfl
    have hdt := hd t (by simp)
    have hdesc := (hT t).desc
    cases d with
    | zero => exact h5.elim
    | succ d =>
      simp only [Shp] at h5
      have cell : ∀ {x : Value}, (∀ us, v ≠ .agg us) → v.cells.toList = [x] → v = x := by
        intro x hne hc
        cases v with
        | agg us => exact absurd rfl (hne us)
        | _ => simpa [Value.cells] using hc
      generalize hti : TT t = ti at *
      cases ti with
      | int k =>
        obtain ⟨n, rfl, _⟩ := h5
        have hu : P.underlying t = some (.int k) := hdesc
        have hne : ∀ us, v ≠ .agg us := fun us e => by subst e; simp [Value.okWide, hu, Cell.okWide, Cell.ok] at hv
        generalize hc : v.cells.toList = cs at h6
        cases h6 with
        | v ho => rw [cell hne hc]; exact .v ho
      | bool =>
        obtain ⟨n, rfl⟩ := h5
        have hu : P.underlying t = some .bool := hdesc
        have hne : ∀ us, v ≠ .agg us := fun us e => by subst e; simp [Value.okWide, hu, Cell.okWide, Cell.ok] at hv
        generalize hc : v.cells.toList = cs at h6
        cases h6 with
        | v ho => rw [cell hne hc]; exact .v ho
      | slc E bytes z =>
        obtain ⟨rows, rfl, _⟩ := h5
        obtain ⟨e, hu, _⟩ := hdesc
        have hne : ∀ us, v ≠ .agg us := fun us e => by subst e; simp [Value.okWide, hu, Cell.okWide, Cell.ok] at hv
        generalize hc : v.cells.toList = cs at h6
        have : ∃ x, cs = [x] := by cases h6 <;> exact ⟨_, rfl⟩
        obtain ⟨x, rfl⟩ := this
        rw [cell hne hc]; exact h6
      | arr n E el z =>
        obtain ⟨hu, _⟩ := hdesc
        have hag : ∃ cs, v = .agg cs ∧ cs.size = P.cellsOf t ∧ Row.okWide P w .any base t cs := by simpa [Value.okWide, hu] using hv
        obtain ⟨us, rfl, _⟩ := hag
        simp only [Value.cells] at h6
        have hs : (∃ l, s = .ba n l) ∨ ∃ cs, s = .agg cs := by
          dsimp only at h5
          split at h5
          · obtain ⟨l, rfl, _⟩ := h5; exact .inl ⟨_, rfl⟩
          · obtain ⟨cs, rfl, _⟩ := h5; exact .inr ⟨_, rfl⟩
        rcases hs with ⟨l, rfl⟩ | ⟨cs, rfl⟩
        · exact ⟨us.toList, by simp, h6⟩
        · exact ⟨us.toList, by simp, h6⟩
      | str fs ft z =>
        obtain ⟨hst, _⟩ := hdesc
        have hu : ∃ f, P.underlying t = some (.struct f) := by
          unfold structOf at hst
          split at hst
          · exact ⟨_, by assumption⟩
          · cases hst
        obtain ⟨f, hu⟩ := hu
        have hag : ∃ cs, v = .agg cs ∧ cs.size = P.cellsOf t ∧ Row.okWide P w .any base t cs := by simpa [Value.okWide, hu] using hv
        obtain ⟨us, rfl, _⟩ := hag
        simp only [Value.cells] at h6
        obtain ⟨cs, rfl, _⟩ := h5
        exact ⟨us.toList, by simp, h6⟩
      | _ => exact h5.elim
end
end Go.Fw

/- A law: from its contract at every shape of its arguments to the given form. -/
namespace Go.Fw
open Go.ChangeShapes Go.RowKit Go.WideElems

section
variable {H : Type} {enc : TypeId × Value → H} {P : Program} {TT : Nat → TI} {w : World} {base : Nat}

theorem Does.calls {P : Program} {f : FuncId} {args : Array Value} {w : World} {R : Ending → World → Prop} (hE : Enters P f) (h : Does P f args w R) : Calls P f args w R := by
  rcases h with ⟨_, h⟩ | ⟨v, w', h1, _⟩
  · exact h
  · rw [run_callFunc hE] at h1
    cases h1
theorem lift_bool2 {f : FuncId} {args : List SV} {vals : Array Value} {w : World} (hE : Enters P f) (hgl : Glob ⟨fun _ => none, fun _ => False⟩ w) (h : Con P f args [] (.v (.bool true)) []) (hv : RelVL ⟨fun _ => none, fun _ => False⟩ w args vals.toList) :
    Calls P f vals w fun e w' => e = .returned (.bool true) ∧ RowKit.Grown w w' ∧ ∀ b, b < w.heap.size → w'.heap[b]? = w.heap[b]? := by
  have hm : Mem ⟨fun _ => none, fun _ => False⟩ w (nthB []) := ⟨fun k ob hk => by simp [nthB] at hk, fun k k' ob ob' b C C' h => by simp [nthB] at h, fun _ _ => rfl, fun _ h => h.elim⟩
  have := (h _ w vals.toList hgl hm hv).calls hE
  rw [Array.toArray_toList] at this
  refine this.mono ?_
  rintro e w' ⟨cx', v, rfl, hr, _, hf⟩
  rw [relV_v hr]
  have hs : ∀ b, b < w.heap.size → w'.heap[b]? = w.heap[b]? := fun i hi => hf.same i hi (fun k C h => by cases h)
  refine ⟨rfl, ⟨⟨hf.wk.os, hf.wk.out, fun i hi => ?_⟩, hf.wk.fz, hf.le⟩, hs⟩
  rw [hs i hi]
  cases w.heap[i]? with
  | none => trivial
  | some o => cases o <;> simp

theorem trodAll_stays (hl : laidOutB P = true) {W W' : World} {sp : Nat → Bool} : ∀ (ts : List Nat) (vs : List Value) (ds : List (DataW H)) (ps : List MemPlace), (∀ t ∈ ts, P.readableRec t = true ∧ t < P.types.size) →
    DataW.TrodAll enc P W 0 (fun _ => true) true ts vs ds ps → (∀ p ∈ ps, W.sameAt W' p) → (∀ p ∈ ps, sp p.block = true) → DataW.TrodAll enc P W' 0 sp true ts vs ds ps
  | [], [], [], ps, _, h, _, _ => h
  | [], [], _ :: _, ps, _, h, _, _ => h.elim
  | [], _ :: _, ds, ps, _, h, _, _ => by cases ds <;> exact h.elim
  | _ :: _, [], ds, ps, _, h, _, _ => by cases ds <;> exact h.elim
  | t :: ts, v :: vs, [], ps, _, h, _, _ => h.elim
  | t :: ts, v :: vs, d :: ds, ps, hr, h, hs, hp => by
    obtain ⟨p, q, h1, h2, rfl⟩ := h
    exact ⟨p, q, Trod_stays hl (hr t (by simp)).1 (hr t (by simp)).2 h1 (fun x hx => hs x (by simp [hx])) (fun x hx => hp x (by simp [hx])),
      trodAll_stays hl ts vs ds q (fun t ht => hr t (by simp [ht])) h2 (fun x hx => hs x (by simp [hx])) (fun x hx => hp x (by simp [hx])), rfl⟩
theorem trodAll_len : ∀ (ts : List Nat) (vs : List Value) (ds : List (DataW H)) (ps : List MemPlace), DataW.TrodAll enc P w 0 (fun _ => true) true ts vs ds ps → ds.length = ts.length
  | [], [], [], ps, _ => rfl
  | [], [], _ :: _, ps, h => h.elim
  | [], _ :: _, ds, ps, h => by cases ds <;> exact h.elim
  | _ :: _, [], ds, ps, h => by cases ds <;> exact h.elim
  | t :: ts, v :: vs, [], ps, h => h.elim
  | t :: ts, v :: vs, d :: ds, ps, h => by
    obtain ⟨p, q, _, h2, rfl⟩ := h
    simp [trodAll_len ts vs ds q h2]

theorem rows_of {α : Type} (f : α → SV) (R : α → Prop) : ∀ {rows : List SV}, (∀ r ∈ rows, ∃ a, r = f a ∧ R a) → ∃ l : List α, rows = l.map f ∧ ∀ a ∈ l, R a
  | [], _ => ⟨[], rfl, fun _ h => by cases h⟩
  | x :: r, h => by
    obtain ⟨a, rfl, ha⟩ := h x (by simp)
    obtain ⟨l, rfl, hl⟩ := rows_of f R (rows := r) fun y hy => h y (by simp [hy])
    refine ⟨a :: l, rfl, fun b hb => ?_⟩
    rcases List.mem_cons.1 hb with rfl | hb
    · exact ha
    · exact hl b hb
theorem Glob.none {cx : Cx} {w : World} (h : ∀ g, glob g = Option.none) : Glob cx w := fun g s hg => by rw [h g] at hg; cases hg
/-- The given form of a law, from its contract. -/
theorem lift_law {C : Checked} {os : Os} {f : FuncId} {fn : Func} {s : ChangeSpec} {conds : List PathCond} {apart fresh handsOn again : Bool} {a : Assume} {tb : TypeId}
    (own : ownKnob C.prog.godebug = none) (started : os.Started) (noInit : C.prog.inits.idxOf? f = none) (hfn : C.prog.funcs[f]? = some fn)
    (witness : ∃ (w : World) (tape : Tape) (i : Input), w.os = os ∧ (w.forCall tape i).Shaped C.prog ∧ i.vars = [] ∧ Input.okWide C.prog (w.forCall tape i) .any w.heap.size f i ∧
      s.pre6 enc C.prog fn conds apart (w.forCall tape i).memory i.args ∧ a.holds C.prog (lone (Frame.enter C.prog f i.args .normal) [] (w.forCall tape i)))
    (hl : laidOutB C.prog = true) (hvars : s.vars = []) (hspec : ∀ ds : List (DataW H), ds.length = fn.params.size → (s.fn H ds).results = [.lit (.bool true)] ∧ (s.fn H ds).args = ds ∧ (s.fn H ds).vars = [])
    (hres : fn.resultTypes = #[tb]) (htb : C.prog.underlying tb = some .bool) (hread : (fn.params.toList.all fun t => C.prog.readableRec t && Nat.blt t C.prog.types.size) = true)
    (hT : TTok C.prog TT) (d : Nat) (hdeep : (fn.params.toList.all (deepT C.prog TT d)) = true)
    (hgl : ∀ g, glob g = none)
    (hent : (!(fn.name == "runtime.NumGoroutine") && !fn.body.isNone) = true)
    (hcon : ∀ svs, ShpL C.prog TT d fn.params.toList svs → Con C.prog f svs [] (.v (.bool true)) []) :
    ReturnsInHanded a C os f .any (s.pre6 enc C.prog fn conds apart) (s.post enc C.prog fn apart fresh handsOn again) := by
  refine returnsInHanded_of_change own started noInit hfn witness ?_
  have hE : Enters C.prog f := ⟨fn, hfn, by simp only [Bool.and_eq_true, Bool.not_eq_true'] at hent; exact hent.1, by simp only [Bool.and_eq_true, Bool.not_eq_true'] at hent; exact hent.2⟩
  have hread : ∀ t ∈ fn.params.toList, C.prog.readableRec t = true ∧ t < C.prog.types.size := fun t ht => by
    have := List.all_eq_true.1 hread t ht
    simp only [Bool.and_eq_true] at this
    exact ⟨this.1, by simpa using this.2⟩
  have hdeep : ∀ t ∈ fn.params.toList, deepT C.prog TT d t = true := List.all_eq_true.1 hdeep
  intro W b0 args ds gs before hval hW _ _
  have hW' := hW
  obtain ⟨p, q, hA, hV, hps, _, _⟩ := hW
  rw [hvars] at hV
  have hgs : gs = [] ∧ q = [] := by
    cases gs with
    | nil => exact ⟨rfl, hV⟩
    | cons => exact hV.elim
  obtain ⟨rfl, rfl⟩ := hgs
  have hlen := trodAll_len _ _ _ _ hA
  obtain ⟨h1, h2, h3⟩ := hspec ds (by simpa using hlen)
  obtain ⟨svs, hsh, hrel⟩ := open_all hT d _ _ _ _ hdeep hA (fun j t v hj hv => hval j t v (by simpa using hj) (by simpa using hv))
  have hlt : ∀ x ∈ p, x.block < W.heap.size := fun x hx => hW'.lt x (by rw [hps]; simp [hx])
  refine (lift_bool2 hE (Glob.none hgl) (hcon svs hsh) hrel).mono fun e W' ⟨he, hg, hsame⟩ => ?_
  subst he
  refine ⟨_, rfl, post_of_same (pa := p) (pv := []) hW' ?_ ?_ ?_ hps (hg.frame _) hg.2.1 (ok_one hres rfl (okWide_bool_mk htb _))⟩
  · intro b sp hd
    rw [hres, List.append_nil, h1]
    exact trodAll_cons_mk (shut_bool htb _) trodAll_mk0
  · intro sp hsp
    rw [List.append_nil, h2]
    refine trodAll_stays hl _ _ _ _ hread hA (fun x hx => ?_) (fun x hx => hsp x (by rw [hps]; simp [hx]))
    have := hsame x.block (hlt x hx)
    cases x with
    | cell b off => simp only [World.sameAt, World.cell?]; rw [show W'.heap[b]? = W.heap[b]? from this]
    | map b => exact this
  · intro sp _
    rw [hvars, List.append_nil, h3]
    rfl
end
end Go.Fw

/- A nil slice is taken for an owned slice without elements, before a loop that appends to it. -/
namespace Go.Fw
theorem nthB_snoc (h : List OB) (x : OB) : nthB (h ++ [x]) = fun i => if i = h.length then some x else nthB h i := by
  funext i
  simp only [nthB_eq]
  split
  · rename_i he; subst he; simp
  · rename_i he
    rcases Nat.lt_or_ge i h.length with hl | hl
    · rw [List.getElem?_append_left hl]
    · rw [List.getElem?_append_right hl, List.getElem?_eq_none hl]
      rw [List.getElem?_eq_none]; simp; omega
theorem Sub.adopt {n : Sz} {e : List (Nat × SV)} {h : List OB} (t E : Nat) (ht : lk e t = some (.v (.slice none 0 0))) (hm : n.n0 ≤ h.length) :
    Sub n e h ((t, .ov E h.length 0 0) :: e) (h ++ [.arr none E []]) := by
  intro B cx a w hB hs
  have hk : nthB h h.length = none := by rw [nthB_eq]; simp
  have hkc := hs.mem.dom _ hk
  have hnk : ¬ B.keep h.length := fun hc => by have := B.kn _ hc; rw [hB] at this; omega
  refine ⟨cx.with h.length .virt cx.O, hs.df, hs.sz, fun t' s' h' => ?_, ?_, hs.fr.trans (fr_virt B.keep cx w h.length hnk) fun _ h => h⟩
  · rw [lk_cons_if] at h'
    split at h'
    · rename_i he
      subst he
      cases h'
      obtain ⟨v, h1, h2⟩ := hs.sl _ _ ht
      have h3 := relV_v h2
      subst h3
      exact ⟨_, h1, RelC.ov0 (by simp [Cx.with])⟩
    · obtain ⟨v, h1, h2⟩ := hs.sl _ _ h'
      exact ⟨v, h1, h2.mono (ext_virt cx w _ hkc)⟩
  · have := mem_virt hs.mem h.length E hk
    rw [nthB_snoc]; exact this
section
attribute [local semireducible] Out
theorem Out.trans {n0 : Nat} {s r r2 : SV} {h h2 h3 : List OB} (h1 : Out n0 s h r h2) (g : Out n0 r h2 r2 h3) : Out n0 s h r2 h3 := by
  intro keep cx0 cx w0 w v hk hd a1 a2 a3
  obtain ⟨cx1, b1, b2, b3⟩ := h1 keep cx0 cx w0 w v hk hd a1 a2 a3
  exact g keep cx0 cx1 w0 w v hk hd b1 b2 b3
theorem Out.adopt {n0 : Nat} {h : List OB} (E : Nat) (hm : n0 ≤ h.length) : Out n0 (.v (.slice Option.none 0 0)) h (.ov E h.length 0 0) (h ++ [.arr Option.none E []]) := by
  intro keep cx0 cx w0 w v hk hd a1 a2 a3
  have hn : nthB h h.length = Option.none := by rw [nthB_eq]; simp
  have hkc := a2.dom _ hn
  have hnk : ¬ keep h.length := fun hc => by have := hk _ hc; omega
  have hv := relV_v a1
  subst hv
  refine ⟨cx.with h.length .virt cx.O, RelC.ov0 (by simp [Cx.with]), ?_, a3.trans (fr_virt keep cx w h.length hnk) fun _ h => h⟩
  have := mem_virt a2 h.length E hn
  rw [nthB_snoc]; exact this
/-- Nothing was handed over, and a slice is returned: its block is the first one. -/
theorem Out.pick {E k off n E' : Nat} {x : Option Nat} {rows : List SV} {h : List OB} (hk : nthB h k = some (.arr x E' rows)) : Out 0 (.ov E k off n) h (.ov E 0 off n) [.arr x E' rows] := by
  intro keep cx0 cx w0 w v hkp hd a1 a2 a3
  refine ⟨⟨fun j => if j = 0 then cx.bl k else Option.none, cx.O⟩, ?_, ⟨fun j ob hj => ?_, fun j j' ob ob' b C C' h1 h2 _ _ _ _ => ?_, fun j hj => ?_, a2.lt⟩, ⟨a3.le, a3.same, a3.own, a3.old, fun j b C hj => ?_, fun j hj => absurd (hkp j hj) (by omega), a3.wk⟩⟩
  · have h1 : RelC cx w (.ov E k off n) [v] := a1
    show RelC _ w (.ov E 0 off n) [v]
    cases h1 with
    | ov h1 h2 => exact .ov (by simpa using h1) h2
    | ov0 h1 => exact .ov0 (by simpa using h1)
    | ovz h1 => exact .ovz (by simpa using h1)
  · rw [nthB_eq] at hj
    match j, hj with
    | 0, hj =>
      simp at hj
      subst hj
      exact a2.live k _ hk
    | j + 1, hj => simp at hj
  · rw [nthB_eq] at h1 h2
    match j, j', h1, h2 with
    | 0, 0, _, _ => rfl
    | 0, j + 1, _, h2 => simp at h2
    | j + 1, _, h1, _ => simp at h1
  · rw [nthB_eq] at hj
    match j, hj with
    | 0, hj => simp at hj
    | j + 1, _ => simp
  · simp only at hj
    split at hj
    · rcases a3.blk k b C hj with ⟨k', _, h⟩ | h
      · rw [hd k' (Nat.zero_le _)] at h; cases h
      · exact .inr h
    · cases hj
end
/-- Nothing was handed over, and nil is returned. -/
theorem Out.nil {h : List OB} (E : Nat) : Out 0 (.v (.slice Option.none 0 0)) h (.ov E 0 0 0) [.arr Option.none E []] :=
  (Out.none rfl rfl).trans (Out.adopt (h := []) E (Nat.le_refl 0))
end Go.Fw

/- For the walks' own automation: lists of like values, tests as propositions, loops whose other slots stay, the ends of rounds and of bodies. -/
namespace Go.Fw

/-! ### Lists of like values -/
def lst {α : Type} (f : α → SV) (l : List α) : List SV := l.map f
def gt {α : Type} [Inhabited α] (l : List α) (i : Nat) : α := l.getD i default
section
variable {α : Type} {f : α → SV}
theorem lst_len (l : List α) : (lst f l).length = l.length := by simp [lst]
theorem gt_eq [Inhabited α] {l : List α} {i : Nat} (h : i < l.length) : gt l i = l[i] := by simp [gt, h]
theorem gt_mem [Inhabited α] {l : List α} {i : Nat} (h : i < l.length) : gt l i ∈ l := by rw [gt_eq h]; exact List.getElem_mem h
theorem gt_set [Inhabited α] {l : List α} {k i : Nat} {x : α} (h : k < l.length) : gt (l.set k x) i = if i = k then x else gt l i := by
  simp only [gt, List.getD_eq_getElem?_getD, List.getElem?_set]
  by_cases e : k = i
  · subst e; simp [h]
  · rw [if_neg e, if_neg (fun h => e h.symm)]
theorem gt_app [Inhabited α] {l r : List α} {i : Nat} : gt (l ++ r) i = if i < l.length then gt l i else gt r (i - l.length) := by
  simp only [gt, List.getD_eq_getElem?_getD]
  split
  · rename_i h; rw [List.getElem?_append_left h]
  · rename_i h; rw [List.getElem?_append_right (by omega)]
theorem gt_take [Inhabited α] {l : List α} {n i : Nat} (h : i < n) : gt (l.take n) i = gt l i := by
  simp only [gt, List.getD_eq_getElem?_getD, List.getElem?_take, if_pos h]
theorem gt_drop [Inhabited α] {l : List α} {n i : Nat} : gt (l.drop n) i = gt l (n + i) := by
  simp only [gt, List.getD_eq_getElem?_getD, List.getElem?_drop]
theorem gt_map [Inhabited α] {β : Type} [Inhabited β] {g : β → α} {l : List β} {i : Nat} (h : i < l.length) : gt (l.map g) i = g (gt l i) := by simp [gt, h]
theorem ext_gt [Inhabited α] {a b : List α} (hl : a.length = b.length) (h : ∀ i, i < a.length → gt a i = gt b i) : a = b :=
  List.ext_getElem hl fun i h1 h2 => by rw [← gt_eq h1, ← gt_eq h2]; exact h i h1
theorem take_gt [Inhabited α] {l : List α} {i : Nat} (h : i < l.length) : l.take (i + 1) = l.take i ++ [gt l i] := by
  rw [gt_eq h]; exact List.take_succ_eq_append_getElem h
theorem drop_gt [Inhabited α] {l : List α} {i : Nat} (h : i < l.length) : l.drop i = gt l i :: l.drop (i + 1) := by
  rw [gt_eq h]; exact List.drop_eq_getElem_cons h
theorem lst_get [Inhabited α] {l : List α} {i : Nat} (h : i < l.length) : (lst f l)[i]? = some (f (gt l i)) := by simp [lst, gt_eq h, h]
theorem lst_set (l : List α) (i : Nat) (x : α) : (lst f l).set i (f x) = lst f (l.set i x) := by simp [lst, List.map_set]
theorem lst_app (a b : List α) : lst f a ++ lst f b = lst f (a ++ b) := by simp [lst]
theorem lst_snoc (a : List α) (x : α) : lst f a ++ [f x] = lst f (a ++ [x]) := by simp [lst]
theorem lst_take (l : List α) (n : Nat) : (lst f l).take n = lst f (l.take n) := by simp [lst, List.map_take]
theorem lst_drop (l : List α) (n : Nat) : (lst f l).drop n = lst f (l.drop n) := by simp [lst, List.map_drop]
theorem lst_rep (n : Nat) (x : α) : List.replicate n (f x) = lst f (List.replicate n x) := by simp [lst]
theorem lst_nil : lst f [] = [] := rfl
theorem Elem.lst [Inhabited α] {l : List α} {i : Nat} {K : SV → Prop} (h : i < l.length) (k : K (f (gt l i))) : Elem (Fw.lst f l) i K := Elem.mk _ (lst_get h) k
theorem Nm.set {l : List α} {i : Nat} {s : SV} {K : List SV → Prop} (x : α) (h : s = f x) (k : K (Fw.lst f (l.set i x))) : Nm ((Fw.lst f l).set i s) K := by
  subst h; exact Nm.mk (lst_set l i x) k
theorem Nm.snoc {l : List α} {s : SV} {K : List SV → Prop} (x : α) (h : s = f x) (k : K (Fw.lst f (l ++ [x]))) : Nm (Fw.lst f l ++ [s]) K := by
  subst h; exact Nm.mk (lst_snoc l x) k
theorem Nm.rep {n : Nat} {s : SV} {K : List SV → Prop} (x : α) (h : s = f x) (k : K (Fw.lst f (List.replicate n x))) : Nm (List.replicate n s) K := by
  subst h; exact Nm.mk (lst_rep n x) k
end

theorem step_lt {p : Nat → Prop} {k : Nat} (h : ∀ j, j < k → p j) (hk : p k) : ∀ j, j < k + 1 → p j := fun j hj => by
  rcases Nat.lt_or_ge j k with h8 | h8
  · exact h j h8
  · rw [show j = k by omega]; exact hk
theorem none_lt {p : Nat → Prop} : ∀ j, j < 0 → p j := fun j hj => absurd hj (Nat.not_lt_zero j)
/-- The lengths, for simp. -/
theorem lns : (∀ p : Prop, (True ∧ p) = p) ∧ (∀ p : Prop, (p ∧ True) = p) ∧
    (∀ (α : Type) (i : Nat) (y : α), setL [] i y = []) ∧ (∀ (α : Type) (x : α) (r : List α) (y : α), setL (x :: r) 0 y = y :: r) ∧ (∀ (α : Type) (x : α) (r : List α) (i : Nat) (y : α), setL (x :: r) (i + 1) y = x :: setL r i y) ∧
    (∀ (α : Type) (x : α), reps 0 x = []) ∧ (∀ (α : Type) (n : Nat) (x : α), reps (n + 1) x = x :: reps n x) ∧
    (∀ (α : Type) (f : α → SV) (l : List α), (lst f l).length = l.length) ∧
    (∀ (α : Type) (a b : List α), (a ++ b).length = a.length + b.length) ∧ (∀ (α : Type) (a : α) (l : List α), (a :: l).length = l.length + 1) ∧ (∀ α : Type, ([] : List α).length = 0) ∧
    (∀ (α : Type) (n : Nat) (l : List α), (l.take n).length = min n l.length) ∧ (∀ (α : Type) (n : Nat) (l : List α), (l.drop n).length = l.length - n) ∧
    (∀ (α : Type) (l : List α) (n : Nat) (x : α), (l.set n x).length = l.length) ∧ (∀ (α : Type) (n : Nat) (x : α), (List.replicate n x).length = n) ∧
    (∀ n : Nat, 0 + n = n) ∧ (∀ n : Nat, n + 0 = n) ∧ (∀ n : Nat, ((n : Int)).toNat = n) ∧ Int.toNat 0 = 0 ∧ (∀ n : Nat, n - 0 = n) ∧
    (∀ (α : Type) (l : List α), l.drop 0 = l) ∧ (∀ (α : Type) (a : α) (l : List α) (i : Nat), (a :: l).take (i + 1) = a :: l.take i) ∧ (∀ (α : Type) (l : List α), l.take 0 = []) ∧ (∀ (α : Type) (l : List α), l.take l.length = l) ∧
    (∀ (α : Type) (f : α → SV) (l : List α) (n : Nat), (lst f l).take n = lst f (l.take n)) ∧ (∀ (α : Type) (f : α → SV) (l : List α) (n : Nat), (lst f l).drop n = lst f (l.drop n)) ∧
    (∀ (α : Type) (f : α → SV) (a b : List α), lst f a ++ lst f b = lst f (a ++ b)) ∧ (∀ (α : Type) (f : α → SV), lst f [] = []) :=
  ⟨fun p => by simp, fun p => by simp, fun _ _ _ => rfl, fun _ _ _ _ => rfl, fun _ _ _ _ _ => rfl, fun _ _ => rfl, fun _ _ _ => rfl, fun _ _ l => lst_len l, fun _ _ _ => List.length_append, fun _ _ _ => rfl, fun _ => rfl,
    fun _ _ _ => List.length_take, fun _ _ _ => List.length_drop, fun _ _ _ _ => List.length_set, fun _ _ _ => List.length_replicate, Nat.zero_add, Nat.add_zero, Int.toNat_natCast, rfl, Nat.sub_zero, fun _ _ => rfl, fun _ _ _ _ => rfl, fun _ _ => rfl, fun _ _ => List.take_length,
    fun _ _ l n => lst_take l n, fun _ _ l n => lst_drop l n, fun _ _ a b => lst_app a b, fun _ _ => rfl⟩
/-! ### Tests -/
theorem Bif.dec {p : Prop} [Decidable p] {A B : Prop} (h : p → A) (g : ¬ p → B) : Bif (decide p) A B :=
  Bif.mk (fun e => h (of_decide_eq_true e)) (fun e => g (of_decide_eq_false e))
theorem Bif.beq {α : Type} [BEq α] [LawfulBEq α] {a b : α} {A B : Prop} (h : a = b → A) (g : a ≠ b → B) : Bif (a == b) A B :=
  Bif.mk (fun e => h (eq_of_beq e)) (fun e => g (ne_of_beq_false e))
theorem Bif.bne {α : Type} [BEq α] [LawfulBEq α] {a b : α} {A B : Prop} (h : a ≠ b → A) (g : a = b → B) : Bif (a != b) A B :=
  Bif.mk (fun e => h (by simpa using e)) (fun e => g (by simpa using e))

theorem CleanP.nil {r : SV} (h : cl2 r = true) : CleanP r [] := ⟨h, fun _ h => by cases h⟩
theorem CleanP.lst {α : Type} {f : α → SV} {l : List α} {r : SV} {x : Option Nat} {E : Nat} (h : cl2 r = true) (g : ∀ a, cl (f a) = true) : CleanP r [.arr x E (Fw.lst f l)] :=
  ⟨h, fun ob ho => by
    rw [List.mem_singleton] at ho
    subst ho
    intro s hs
    obtain ⟨a, _, rfl⟩ := List.mem_map.1 hs
    exact g a⟩
/-! ### From state to state -/
/-- Two terms that ought to be one. -/
inductive Same {α : Type} (x y : α) (K : Prop) : Prop where
  | up (h : x = y ∧ K)
theorem Same.rfl {α : Type} {x : α} {K : Prop} (k : K) : Same x x K := ⟨Eq.refl x, k⟩
theorem Same.mk {α : Type} {x y : α} {K : Prop} (h : x = y) (k : K) : Same x y K := ⟨h, k⟩
theorem same_iff {α : Type} {x y : α} {K : Prop} : Same x y K ↔ x = y ∧ K := ⟨fun ⟨h⟩ => h, fun h => ⟨h⟩⟩
theorem Same.int {k : IntKind} {x y : Int} {K : Prop} (h : x = y) (g : K) : Same (SV.v (.int k x)) (SV.v (.int k y)) K := ⟨by rw [h], g⟩
theorem Same.bool {x y : Bool} {K : Prop} (h : x = y) (g : K) : Same (SV.v (.bool x)) (SV.v (.bool y)) K := ⟨by rw [h], g⟩
theorem Same.ov {E k o n o' n' : Nat} {K : Prop} (h : o = o') (h2 : n = n') (g : K) : Same (SV.ov E k o n) (SV.ov E k o' n') K := ⟨by rw [h, h2], g⟩
theorem Same.lst {α : Type} {f : α → SV} {a b : List α} {K : Prop} (h : a = b) (g : K) : Same (Fw.lst f a) (Fw.lst f b) K := ⟨by rw [h], g⟩

def subE (e : List (Nat × SV)) : List (Nat × SV) → Prop → Prop
  | [], K => K
  | (t, s) :: r, K => match lk e t with | some s' => Same s' s (subE e r K) | none => False
def subX : Option Nat → Option Nat → Prop → Prop
  | none, none, K => K
  | some c, some d, K => Same c d K
  | _, _, _ => False
def subH : List OB → List OB → Prop → Prop
  | _, [], K => K
  | .arr x E r :: h, .arr x' E' r' :: h', K => match Nat.beq E E' with | true => subX x x' (Same r r' (subH h h' K)) | false => False
  | .cells s :: h, .cells s' :: h', K => Same s s' (subH h h' K)
  | .gone :: h, .gone :: h', K => subH h h' K
  | _, _ :: _, _ => False
/-- From the one state to the other, and then K. -/
def SubK (n : Sz) (e : List (Nat × SV)) (h : List OB) (e' : List (Nat × SV)) (h' : List OB) (K : Prop) : Prop :=
  subE e e' (subH h h' (okT (Nat.ble n.n0 (len h')) (okT (e'.all fun p => below (len h') p.2) (okT (h'.all (belowB (len h'))) K))))
theorem subE_sound {e : List (Nat × SV)} : ∀ {e' : List (Nat × SV)} {K : Prop}, subE e e' K → within e e' ∧ K
  | [], _, h => ⟨trivial, h⟩
  | (t, s) :: r, K, h => by
    simp only [subE] at h
    split at h
    · rename_i s' hs
      obtain ⟨h1, h2⟩ := same_iff.1 h
      obtain ⟨h3, h4⟩ := subE_sound h2
      exact ⟨⟨by rw [hs, h1], h3⟩, h4⟩
    · exact h.elim
theorem subX_sound {x y : Option Nat} {K : Prop} (h : subX x y K) : x = y ∧ K := by
  cases x <;> cases y <;> simp only [subX] at h
  · exact ⟨rfl, h⟩
  · obtain ⟨h1, h2⟩ := same_iff.1 h; exact ⟨by rw [h1], h2⟩
theorem subH_sound : ∀ {h h' : List OB} {K : Prop}, subH h h' K → h.take h'.length = h' ∧ K
  | h, [], K, hk => by simp only [subH] at hk; exact ⟨by simp, hk⟩
  | [], .arr .. :: _, _, hk => hk.elim
  | [], .cells _ :: _, _, hk => hk.elim
  | [], .gone :: _, _, hk => hk.elim
  | .arr x E r :: h, .arr x' E' r' :: h', K, hk => by
    simp only [subH] at hk
    split at hk
    · rename_i hE
      obtain ⟨h1, g1⟩ := subX_sound hk
      obtain ⟨h2, g2⟩ := same_iff.1 g1
      obtain ⟨h3, g3⟩ := subH_sound g2
      have hE := Nat.eq_of_beq_eq_true hE
      rw [h1, h2, hE]
      exact ⟨by simp [h3], g3⟩
    · exact hk.elim
  | .cells s :: h, .cells s' :: h', K, hk => by
    simp only [subH] at hk
    obtain ⟨h2, g2⟩ := same_iff.1 hk
    obtain ⟨h3, g3⟩ := subH_sound g2
    rw [h2]
    exact ⟨by simp [h3], g3⟩
  | .gone :: h, .gone :: h', K, hk => by
    simp only [subH] at hk
    obtain ⟨h3, hk⟩ := subH_sound hk
    exact ⟨by simp [h3], hk⟩
  | .arr .. :: _, .cells _ :: _, _, hk => hk.elim
  | .arr .. :: _, .gone :: _, _, hk => hk.elim
  | .cells _ :: _, .arr .. :: _, _, hk => hk.elim
  | .cells _ :: _, .gone :: _, _, hk => hk.elim
  | .gone :: _, .arr .. :: _, _, hk => hk.elim
  | .gone :: _, .cells _ :: _, _, hk => hk.elim
theorem subK_sound {n : Sz} {e e' : List (Nat × SV)} {h h' : List OB} {K : Prop} (hk : SubK n e h e' h' K) : Sub n e h e' h' ∧ K := by
  obtain ⟨h1, hk⟩ := subE_sound hk
  obtain ⟨h2, hk⟩ := subH_sound hk
  obtain ⟨h3, hk⟩ := okT_iff.1 hk
  obtain ⟨h4, hk⟩ := okT_iff.1 hk
  obtain ⟨h5, hk⟩ := okT_iff.1 hk
  rw [len_eq] at h3 h4 h5
  exact ⟨Sub.go h'.length h1 h2 (Nat.le_of_ble_eq_true h3) h4 h5, hk⟩
theorem Sub.k {n : Sz} {e e' : List (Nat × SV)} {h h' : List OB} (hk : SubK n e h e' h' True) : Sub n e h e' h' := (subK_sound hk).1

end Go.Fw

/- The end of a body, reckoned: which blocks the result names, what they hold, what is forgotten. -/
namespace Go.Fw

abbrev BM := List (Nat × Option Nat)
def lkB : BM → Nat → Option (Option Nat)
  | [], _ => none
  | (j, x) :: r, k => match Nat.beq j k with | true => some x | false => lkB r k
def tagLe (t t' : Tg) (K : Prop) : Prop :=
  match t'.nn && !t.nn with
  | true => False
  | false => match t'.cap with
    | none => K
    | some c => match t.cap with | some d => Same d c K | none => False
def isNilS : SV → Bool
  | .v (.slice none 0 0) => true
  | _ => false
/-- What a closure has taken in, said anew. -/
def capsV : List SV → List SV → BM → (BM → Prop) → Prop
  | [], [], m, K => K m
  | s :: l, r :: l', m, K => match r with
    | .pb k p' => match s with
      | .pb j p => Same p p' (capsV l l' ((k, some j) :: m) K)
      | _ => False
    | r => match noRef r with | true => Same s r (capsV l l' m K) | false => False
  | _, _, _, _ => False
mutual
/-- The value s, said as r: which of r's blocks is which of s's (or is nil). -/
def outV : SV → SV → BM → (BM → Prop) → Prop
  | s, .ov E' k o' n', m, K => match s with
    | .ov E j o n => match Nat.beq E E' with | true => Same o o' (Same n n' (K ((k, some j) :: m))) | false => False
    | s => match isNilS s with | true => Same 0 o' (Same 0 n' (K ((k, none) :: m))) | false => False
  | s, .fs t' E' rows', m, K => match s with
    | .fs t E rows => match Nat.beq E E' with | true => tagLe t t' (Same rows rows' (K m)) | false => False
    | s => match isNilS s, t'.nn, t'.cap with | true, false, none => Same [] rows' (K m) | true, false, some c => Same 0 c (Same [] rows' (K m)) | _, _, _ => False
  | s, .pb k p', m, K => match s with
    | .pb j p => Same p p' (K ((k, some j) :: m))
    | _ => False
  | s, .agg cs', m, K => match s with
    | .agg cs => outVs cs cs' m K
    | _ => False
  | s, .tup cs', m, K => match s with
    | .tup cs => outVs cs cs' m K
    | _ => False
  | s, .clo f' cs', m, K => match s with
    | .clo f cs => match Nat.beq f f' with | true => capsV cs cs' m K | false => False
    | _ => False
  | s, r, m, K => match noRef r with | true => Same s r (K m) | false => False
def outVs : List SV → List SV → BM → (BM → Prop) → Prop
  | [], [], m, K => K m
  | s :: l, r :: l', m, K => outV s r m fun m => outVs l l' m K
  | _, _, _, _ => False
end
def outB (ob ob' : OB) (m : BM) (K : BM → Prop) : Prop :=
  match ob, ob' with
  | .cells s, .cells s' => outV s s' m K
  | .arr x E rows, .arr x' E' rows' => match Nat.beq E E' with
    | true => match x' with
      | none => Cut (Same rows rows' (K m)) (Same (rows.take rows'.length) rows' (K m))
      | some c' => match x with | some c => Same c c' (Same rows rows' (K m)) | none => False
    | false => False
  | _, .gone => K m
  | _, _ => False
/-- A block that lies nowhere. -/
def outN (ob' : OB) (K : Prop) : Prop :=
  match ob' with
  | .arr none _ rows' => Same [] rows' K
  | .gone => K
  | _ => False
/-- A block that is not kept. -/
def outL (ob' : OB) (K : Prop) : Prop :=
  match ob' with
  | .gone => K
  | _ => botN
/-- The blocks behind the body, one after the other. -/
def outBs (n0 : Nat) (h : List OB) : Nat → List OB → BM → (BM → Prop) → Prop
  | _, [], m, K => K m
  | k, ob' :: r, m, K => match lkB m k with
    | some (some j) => match nthB h j with
      | some ob => outB ob ob' m fun m => outBs n0 h (k + 1) r m K
      | none => False
    | some none => outN ob' (outBs n0 h (k + 1) r m K)
    | none => match Nat.blt k n0 with
      | true => match nthB h k with
        | some ob => outB ob ob' ((k, some k) :: m) fun m => outBs n0 h (k + 1) r m K
        | none => False
      | false => outL ob' (outBs n0 h (k + 1) r m K)
def isCellsB : OB → Bool
  | .cells _ => true
  | _ => false
/-- The map is one map, blocks that came as boxes stay where they are, and no two are one. -/
def agrees (m : BM) : BM → Bool
  | [] => true
  | (k, x) :: r => match lkB m k, x with
    | some (some a), some b => match Nat.beq a b with | true => agrees m r | false => false
    | some none, none => agrees m r
    | _, _ => false
def stays (m : BM) : Nat → List OB → Bool
  | _, [] => true
  | k, ob :: r => match isCellsB ob with
    | true => match lkB m k with
      | some (some j) => match Nat.beq j k with | true => stays m (k + 1) r | false => false
      | _ => false
    | false => stays m (k + 1) r
def apart (m : BM) : BM → Bool
  | [] => true
  | (k, some j) :: r => match m.all (fun p => match p with | (k', some j') => !(Nat.beq j j') || Nat.beq k k' | _ => true) with | true => apart m r | false => false
  | (_, none) :: r => apart m r
def inside (n : Nat) : BM → Bool
  | [] => true
  | (k, _) :: r => match Nat.blt k n with | true => inside n r | false => false
def outK (hp0 : List OB) (s : SV) (h : List OB) (r : SV) (hp' : List OB) : Prop :=
  outV s r [] fun m => outBs (len hp0) h 0 hp' m fun m => okT (agrees m m) (okT (stays m 0 hp0) (okT (apart m m) (okT (inside (len hp') m) True)))

def okM' (cx : Cx) (M : Nat → Option (Option Nat)) : Cx := ⟨fun k => match M k with | some (some j) => cx.bl j | some none => some .virt | none => none, cx.O⟩
def Agree' (M : Nat → Option (Option Nat)) (m : BM) : Prop := ∀ k x, (k, x) ∈ m → M k = some x

theorem tagLe_sound {t t' : Tg} {K : Prop} (h : tagLe t t' K) : (∀ a c, t.ok a c → t'.ok a c) ∧ K := by
  unfold tagLe at h
  split at h
  · exact h.elim
  · rename_i hn
    have hnn : t'.nn = true → t.nn = true := fun h1 => by
      cases h2 : t.nn
      · rw [h1, h2] at hn; cases hn
      · rfl
    split at h
    · rename_i hc
      exact ⟨fun a c ho => ⟨fun h1 => ho.1 (hnn h1), fun c' h2 => by rw [hc] at h2; cases h2⟩, h⟩
    · rename_i c' hc
      split at h
      · rename_i d hd
        obtain ⟨h1, h2⟩ := same_iff.1 h
        refine ⟨fun a c ho => ⟨fun h1 => ho.1 (hnn h1), fun c2 h3 => ?_⟩, h2⟩
        rw [hc] at h3; cases h3
        rw [← h1]; exact ho.2 _ hd
      · exact h.elim
theorem isNilS_eq {s : SV} (h : isNilS s = true) : s = .v (.slice none 0 0) := by
  unfold isNilS at h
  split at h
  · rfl
  · cases h
theorem relC_noRef {cx cx' : Cx} {w : World} {s : SV} {vs : List Value} (h : RelC cx w s vs) (hn : noRef s = true) (hO : cx'.O = cx.O) : RelC cx' w s vs := by
  have h1 := noRef_bare h hn
  exact h1.mono ⟨fun _ _ h => (by cases h), fun _ _ _ => rfl, fun b h => .inl (by rw [hO] at h; exact h)⟩

theorem capsV_sound (cx : Cx) (w : World) : ∀ (l l' : List SV) (m : BM) (K : BM → Prop), capsV l l' m K → ∃ m', K m' ∧ (∀ p ∈ m, p ∈ m') ∧ l.length = l'.length ∧
    ∀ M, Agree' M m' → ∀ (i : Nat) r, l'[i]? = some r → ∃ s, l[i]? = some s ∧ ∀ x, RelC cx w s [x] → RelC (okM' cx M) w r [x]
  | [], [], m, K, h => ⟨m, h, fun _ h => h, rfl, fun _ _ i r hi => by simp at hi⟩
  | [], _ :: _, m, K, h => h.elim
  | _ :: _, [], m, K, h => h.elim
  | s :: l, r :: l', m, K, h => by
    unfold capsV at h
    split at h
    · rename_i k p'
      split at h
      · rename_i j p
        obtain ⟨e1, g⟩ := same_iff.1 h
        subst e1
        obtain ⟨m', h1, h2, h3, h4⟩ := capsV_sound cx w l l' _ K g
        refine ⟨m', h1, fun q hq => h2 q (List.mem_cons_of_mem _ hq), by simp [h3], fun M hM i r hi => ?_⟩
        cases i with
        | zero =>
          simp at hi
          subst hi
          refine ⟨_, rfl, fun x hr => ?_⟩
          have e : (okM' cx M).bl k = cx.bl j := by simp [okM', hM k (some j) (h2 _ (by simp))]
          cases hr with
          | pb h1 => exact .pb (by rw [e]; exact h1)
        | succ i => simpa using h4 M hM i r (by simpa using hi)
      · exact h.elim
    · rename_i r hr0
      split at h
      · rename_i hn
        obtain ⟨e1, g⟩ := same_iff.1 h
        subst e1
        obtain ⟨m', h1, h2, h3, h4⟩ := capsV_sound cx w l l' _ K g
        refine ⟨m', h1, h2, by simp [h3], fun M hM i r hi => ?_⟩
        cases i with
        | zero =>
          simp at hi
          subst hi
          exact ⟨_, rfl, fun x hr => relC_noRef hr hn rfl⟩
        | succ i => simpa using h4 M hM i r (by simpa using hi)
      · exact h.elim
/-- What outV keeps of the cells of a value. -/
theorem outV_sound (cx : Cx) (w : World) : ∀ (r s : SV) (m : BM) (K : BM → Prop), outV s r m K → ∃ m', K m' ∧ (∀ p ∈ m, p ∈ m') ∧ ((∃ l, r = .tup l) ∨ wd s = wd r) ∧ (∀ l, r = .tup l → ∃ l', s = .tup l') ∧
    (∀ M, Agree' M m' → ∀ vs, RelC cx w s vs → RelC (okM' cx M) w r vs) ∧ (∀ M, Agree' M m' → ∀ v, RelV cx w s v → RelV (okM' cx M) w r v) := by
  intro r
  refine SV.rec (motive_1 := fun r => ∀ (s : SV) (m : BM) (K : BM → Prop), outV s r m K → ∃ m', K m' ∧ (∀ p ∈ m, p ∈ m') ∧ ((∃ l, r = .tup l) ∨ wd s = wd r) ∧ (∀ l, r = .tup l → ∃ l', s = .tup l') ∧
      (∀ M, Agree' M m' → ∀ vs, RelC cx w s vs → RelC (okM' cx M) w r vs) ∧ (∀ M, Agree' M m' → ∀ v, RelV cx w s v → RelV (okM' cx M) w r v))
    (motive_2 := fun l' => ∀ (l : List SV) (m : BM) (K : BM → Prop), outVs l l' m K → ∃ m', K m' ∧ (∀ p ∈ m, p ∈ m') ∧ wds l = wds l' ∧
      (∀ M, Agree' M m' → ∀ vs, RelC cx w (.agg l) vs → RelC (okM' cx M) w (.agg l') vs) ∧ (∀ M, Agree' M m' → ∀ vs, RelVL cx w l vs → RelVL (okM' cx M) w l' vs)) ?_ ?_ ?_ ?_ ?_ ?_ ?_ ?_ ?_ ?_ ?_ ?_ ?_ ?_ r
  case refine_1 => -- v
    intro x s m K h
    simp only [outV, noRef] at h
    obtain ⟨e0, h'⟩ := same_iff.1 h
    subst e0
    exact ⟨m, h', fun _ h => h, .inr rfl, fun _ h => (by cases h), fun M _ vs hr => relC_noRef hr rfl rfl, fun M _ v hr => relC_noRef (show RelC cx w (.v x) [v] from hr) rfl rfl⟩
  case refine_2 => -- agg
    intro cs ih s m K h
    unfold outV at h
    split at h
    · rename_i cs0
      obtain ⟨m', h1, h2, h3, h4, _⟩ := ih cs0 m K h
      exact ⟨m', h1, h2, .inr (by simp only [wd, h3]), fun _ h => (by cases h), h4, fun M hM v hr => by
        obtain ⟨vs, e, hr⟩ := (show ∃ vs : List Value, v = .agg vs.toArray ∧ RelC cx w (.agg cs0) vs from hr)
        exact ⟨vs, e, h4 M hM vs hr⟩⟩
    · exact h.elim
  case refine_3 => -- ba
    intro n l s m K h
    simp only [outV, noRef] at h
    obtain ⟨e0, h'⟩ := same_iff.1 h
    subst e0
    exact ⟨m, h', fun _ h => h, .inr rfl, fun _ h => (by cases h), fun M _ vs hr => relC_noRef hr rfl rfl, fun M _ v hr => by
      obtain ⟨vs, e, hr⟩ := (show ∃ vs : List Value, v = .agg vs.toArray ∧ RelC cx w (.ba n l) vs from hr)
      exact ⟨vs, e, relC_noRef hr rfl rfl⟩⟩
  case refine_4 => -- fs
    intro t' E' rows' ih s m K h
    unfold outV at h
    split at h
    · rename_i t E rows
      split at h
      · rename_i hE
        have hE := Nat.eq_of_beq_eq_true hE
        subst hE
        obtain ⟨ht, g1⟩ := tagLe_sound h
        obtain ⟨e1, g2⟩ := same_iff.1 g1
        subst e1
        have key : ∀ M vs, RelC cx w (.fs t E rows) vs → RelC (okM' cx M) w (.fs t' E rows) vs := by
          intro M vs hr
          have hr2 := relC_noRef (cx' := okM' cx M) hr rfl rfl
          cases hr2 with
          | fs0 h1 => exact .fs0 (ht _ _ h1)
          | fs f hb hO hc ho hr3 hl hx => exact .fs f hb hO hc (ht _ _ ho) hr3 hl hx
        exact ⟨m, g2, fun _ h => h, .inr rfl, fun _ h => (by cases h), fun M _ vs hr => key M vs hr, fun M _ v hr => key M [v] hr⟩
      · exact h.elim
    · rename_i s hs
      have main : ∀ s, isNilS s = true → t'.nn = false → (t'.cap = none ∨ t'.cap = some 0) → rows' = [] → K m → ∃ m', K m' ∧ (∀ p ∈ m, p ∈ m') ∧ ((∃ l, SV.fs t' E' rows' = .tup l) ∨ wd s = wd (SV.fs t' E' rows')) ∧ (∀ l, SV.fs t' E' rows' = .tup l → ∃ l', s = .tup l') ∧
          (∀ M, Agree' M m' → ∀ vs, RelC cx w s vs → RelC (okM' cx M) w (SV.fs t' E' rows') vs) ∧ (∀ M, Agree' M m' → ∀ v, RelV cx w s v → RelV (okM' cx M) w (SV.fs t' E' rows') v) := fun s h1 h2 h3 h4 h5 => by
        have hsn := isNilS_eq h1
        subst hsn h4
        have key : ∀ M vs, RelC cx w (.v (.slice none 0 0)) vs → RelC (okM' cx M) w (.fs t' E' []) vs := by
          intro M vs hr
          cases hr with
          | v _ => exact .fs0 ⟨fun h => (by rw [h2] at h; cases h), fun c hc => by rcases h3 with h3 | h3 <;> rw [h3] at hc <;> cases hc; rfl⟩
        exact ⟨m, h5, fun _ h => h, .inr rfl, fun _ h => (by cases h), fun M _ vs hr => key M vs hr, fun M _ v hr => key M [v] hr⟩
      split at h
      · rename_i h1 h2 h3
        obtain ⟨h4, h5⟩ := same_iff.1 h
        exact main _ h1 h2 (.inl h3) h4.symm h5
      · rename_i c h1 h2 h3
        obtain ⟨h4, h5⟩ := same_iff.1 h
        obtain ⟨h6, h7⟩ := same_iff.1 h5
        exact main _ h1 h2 (.inr (by rw [h3, h4])) h6.symm h7
      · exact h.elim
  case refine_5 => -- ov
    intro E' k o' n' s m K h
    unfold outV at h
    split at h
    · rename_i E j o n
      split at h
      · rename_i hE
        have hE := Nat.eq_of_beq_eq_true hE
        subst hE
        obtain ⟨e1, g1⟩ := same_iff.1 h
        obtain ⟨e2, g2⟩ := same_iff.1 g1
        subst e1 e2
        have key : ∀ M, Agree' M ((k, some j) :: m) → ∀ vs, RelC cx w (.ov E j o n) vs → RelC (okM' cx M) w (.ov E k o n) vs := by
          intro M hM vs hr
          have e : (okM' cx M).bl k = cx.bl j := by simp [okM', hM k (some j) (by simp)]
          cases hr with
          | ov h1 h2 => exact .ov (by rw [e]; exact h1) h2
          | ov0 h1 => exact .ov0 (by rw [e]; exact h1)
          | ovz h1 => exact .ovz (by rw [e]; exact h1)
        exact ⟨_, g2, fun _ h => List.mem_cons_of_mem _ h, .inr rfl, fun _ h => (by cases h), key, fun M hM v hr => key M hM [v] hr⟩
      · exact h.elim
    · rename_i s _
      split at h
      · rename_i h1
        have hsn := isNilS_eq h1
        subst hsn
        obtain ⟨e1, g1⟩ := same_iff.1 h
        obtain ⟨e2, g2⟩ := same_iff.1 g1
        subst e1 e2
        have key : ∀ M, Agree' M ((k, none) :: m) → ∀ vs, RelC cx w (.v (.slice none 0 0)) vs → RelC (okM' cx M) w (.ov E' k 0 0) vs := by
          intro M hM vs hr
          have e : (okM' cx M).bl k = some .virt := by simp [okM', hM k none (by simp)]
          cases hr with
          | v _ => exact .ov0 e
        exact ⟨_, g2, fun _ h => List.mem_cons_of_mem _ h, .inr rfl, fun _ h => (by cases h), key, fun M hM v hr => key M hM [v] hr⟩
      · exact h.elim
  case refine_6 => -- sb
    intro k p off n s m K h
    simp only [outV, noRef] at h
  case refine_7 => -- pb
    intro k p' s m K h
    unfold outV at h
    split at h
    · rename_i j p
      obtain ⟨e1, g2⟩ := same_iff.1 h
      subst e1
      have key : ∀ M, Agree' M ((k, some j) :: m) → ∀ vs, RelC cx w (.pb j p) vs → RelC (okM' cx M) w (.pb k p) vs := by
        intro M hM vs hr
        have e : (okM' cx M).bl k = cx.bl j := by simp [okM', hM k (some j) (by simp)]
        cases hr with
        | pb h1 => exact .pb (by rw [e]; exact h1)
      exact ⟨_, g2, fun _ h => List.mem_cons_of_mem _ h, .inr rfl, fun _ h => (by cases h), key, fun M hM v hr => key M hM [v] hr⟩
    · exact h.elim
  case refine_8 => -- pe
    intro E k i p s m K h
    simp only [outV, noRef] at h
  case refine_9 => -- pf
    intro E rows i p ih s m K h
    simp only [outV, noRef] at h
    obtain ⟨e0, h'⟩ := same_iff.1 h
    subst e0
    exact ⟨m, h', fun _ h => h, .inr rfl, fun _ h => (by cases h), fun M _ vs hr => relC_noRef hr rfl rfl, fun M _ v hr => relC_noRef (show RelC cx w (.pf E rows i p) [v] from hr) rfl rfl⟩
  case refine_10 => -- clo
    intro f' cs' ih s m K h
    unfold outV at h
    split at h
    · rename_i f cs
      split at h
      · rename_i hf
        have hf := Nat.eq_of_beq_eq_true hf
        subst hf
        obtain ⟨m', h1, h2, h3, h4⟩ := capsV_sound cx w cs cs' m K h
        have key : ∀ M, Agree' M m' → ∀ vs, RelC cx w (.clo f cs) vs → RelC (okM' cx M) w (.clo f cs') vs := by
          intro M hM vs hr
          cases hr with
          | clo us hl hu =>
            refine .clo us (by rw [hl, h3]) fun i r x g1 g2 => ?_
            obtain ⟨s, e1, e2⟩ := h4 M hM i r g1
            exact e2 x (hu i s x e1 g2)
        exact ⟨m', h1, h2, .inr rfl, fun _ h => (by cases h), fun M hM vs hr => key M hM vs hr, fun M hM v hr => key M hM [v] hr⟩
      · exact h.elim
    · exact h.elim
  case refine_11 => -- tup
    intro cs ih s m K h
    unfold outV at h
    split at h
    · rename_i cs0
      obtain ⟨m', h1, h2, _, _, h5⟩ := ih cs0 m K h
      refine ⟨m', h1, h2, .inl ⟨_, rfl⟩, fun _ h => ⟨_, rfl⟩, fun M _ vs hr => (by cases hr), fun M hM v hr => ?_⟩
      obtain ⟨vs, e, hr⟩ := (show ∃ vs : List Value, v = .tuple vs.toArray ∧ RelVL cx w cs0 vs from hr)
      exact ⟨vs, e, h5 M hM vs hr⟩
    · exact h.elim
  case refine_12 => -- top
    intro s m K h
    simp only [outV, noRef] at h
  case refine_13 => -- nil
    intro l m K h
    cases l with
    | nil =>
      simp only [outVs] at h
      refine ⟨m, h, fun _ h => h, rfl, fun M _ vs hr => ?_, fun M _ vs hr => ?_⟩
      · cases hr with
        | nil => exact .nil
      · cases hr; exact .nil
    | cons => simp only [outVs] at h
  case refine_14 => -- cons
    intro r l' ih1 ih2 l m K h
    cases l with
    | nil => simp only [outVs] at h
    | cons s l =>
      simp only [outVs] at h
      obtain ⟨m1, h1, h2, h3, h3', h4, h5⟩ := ih1 s m _ h
      obtain ⟨m2, g1, g2, g3, g4, g5⟩ := ih2 l m1 K h1
      have up : ∀ M, Agree' M m2 → Agree' M m1 := fun M hM k x hx => hM k x (g2 _ hx)
      refine ⟨m2, g1, fun p hp => g2 p (h2 p hp), ?_, fun M hM vs hr => ?_, fun M hM vs hr => ?_⟩
      · rcases h3 with ⟨l0, e⟩ | h3
        · obtain ⟨l1, e1⟩ := h3' l0 e
          simp only [wds, g3, e, e1, wd]
        · simp only [wds, h3, g3]
      · obtain ⟨us, ws, rfl, a1, a2⟩ := hr.agg_inv
        exact .cons (h4 M (up M hM) us a1) (g4 M hM ws a2)
      · cases hr with
        | cons hr1 hr2 =>
          refine .cons ?_ (g5 M hM _ hr2)
          have a := h5 M (up M hM) _ hr1.toV
          rcases h3 with ⟨l0, e⟩ | _
          · obtain ⟨l1, e1⟩ := h3' l0 e
            subst e1; exact hr1.elim
          · cases r <;> first | exact a | (obtain ⟨l1, e1⟩ := h3' _ rfl; subst e1; exact hr1.elim)
theorem live_arr {cx cx' : Cx} {w : World} {j k : Nat} {x x' : Option Nat} {E : Nat} {rows : List SV} (hl : Live cx w j (.arr x E rows)) (hx : ∀ c, x' = some c → x = some c) (hb : cx'.bl k = cx.bl j) (hO : cx'.O = cx.O) : Live cx' w k (.arr x' E rows) := by
  have hbare : cx'.bare = cx.bare := by simp [Cx.bare, hO]
  rcases hl with ⟨b, C, h1, h2, vs, T, h3, h4, h5, h6⟩ | ⟨h1, E', h2⟩
  · exact .inl ⟨b, C, by rw [hb]; exact h1, by rw [hO]; exact h2, vs, T, h3, h4, ⟨h5.le, fun c hc => h5.cap c (hx c hc), h5.ones⟩, by rw [hbare]; exact h6⟩
  · refine .inr ⟨by rw [hb]; exact h1, E', ?_⟩
    have h3 : x = x0 (.arr x E rows) ∧ E = E' ∧ rows = [] := by simpa using h2
    obtain ⟨h3, h4, h5⟩ := h3
    subst h4 h5
    cases x' with
    | none => rfl
    | some c =>
      have := hx c rfl
      subst this
      simp only [x0] at h3 ⊢
      rw [h3]

theorem live_take {cx cx' : Cx} {w : World} {j k : Nat} {x : Option Nat} {E n : Nat} {rows : List SV} (hl : Live cx w j (.arr x E rows)) (hb : cx'.bl k = cx.bl j) (hO : cx'.O = cx.O) : Live cx' w k (.arr none E (rows.take n)) := by
  have hbare : cx'.bare = cx.bare := by simp [Cx.bare, hO]
  rcases hl with ⟨b, C, h1, h2, vs, T, h3, h4, h5, h6⟩ | ⟨h1, E', h2⟩
  · refine .inl ⟨b, C, by rw [hb]; exact h1, by rw [hO]; exact h2, vs, T, h3, h4, ⟨?_, fun c hc => (by cases hc), h5.ones⟩, fun i s hs => ?_⟩
    · have := h5.le; rw [List.length_take]; omega
    · rw [hbare]
      rw [List.getElem?_take] at hs
      split at hs
      · exact h6 i s hs
      · cases hs
  · refine .inr ⟨by rw [hb]; exact h1, E', ?_⟩
    have h3 : x = x0 (.arr x E rows) ∧ E = E' ∧ rows = [] := by simpa using h2
    obtain ⟨_, h4, h5⟩ := h3
    subst h4 h5
    simp [x0]
theorem outB_sound (cx : Cx) (w : World) {ob ob' : OB} {m : BM} {K : BM → Prop} (h : outB ob ob' m K) : ∃ m', K m' ∧ (∀ p ∈ m, p ∈ m') ∧ (ob' ≠ .gone → ob ≠ .gone) ∧
    ∀ M, Agree' M m' → ∀ j k, Live cx w j ob → (okM' cx M).bl k = cx.bl j → Live (okM' cx M) w k ob' := by
  unfold outB at h
  split at h
  · rename_i s s'
    obtain ⟨m', h1, h2, _, _, h3, _⟩ := outV_sound cx w s' s m K h
    refine ⟨m', h1, h2, fun _ h => (by cases h), fun M hM j k hl hb => ?_⟩
    rcases hl with ⟨b, C, g1, g2, vs, T, g3, g4⟩ | ⟨_, E, g2⟩
    · exact .inl ⟨b, C, by rw [hb]; exact g1, g2, vs, T, g3, h3 M hM vs g4⟩
    · cases g2
  · rename_i x E rows x' E' rows'
    split at h
    · rename_i hE
      have hE := Nat.eq_of_beq_eq_true hE
      subst hE
      split at h
      · rcases h.inv with h | h
        · obtain ⟨e1, g1⟩ := same_iff.1 h
          subst e1
          exact ⟨m, g1, fun _ h => h, fun _ h => (by cases h), fun M _ j k hl hb => live_arr hl (fun c hc => by cases hc) hb rfl⟩
        · obtain ⟨e1, g1⟩ := same_iff.1 h
          rw [← e1]
          exact ⟨m, g1, fun _ h => h, fun _ h => (by cases h), fun M _ j k hl hb => live_take hl hb rfl⟩
      · rename_i c'
        split at h
        · rename_i c
          obtain ⟨e0, g0⟩ := same_iff.1 h
          obtain ⟨e1, g1⟩ := same_iff.1 g0
          subst e0 e1
          exact ⟨m, g1, fun _ h => h, fun _ h => (by cases h), fun M _ j k hl hb => live_arr hl (fun c hc => hc) hb rfl⟩
        · exact h.elim
    · exact h.elim
  · exact ⟨m, h, fun _ h => h, fun h => absurd rfl h, fun _ _ _ _ _ _ => trivial⟩
  · exact h.elim

theorem lkB_mem : ∀ {m : BM} {k : Nat} {x : Option Nat}, lkB m k = some x → (k, x) ∈ m
  | [], _, _, h => by cases h
  | (j, y) :: r, k, x, h => by
    simp only [lkB] at h
    split at h
    · rename_i hb
      have hb := Nat.eq_of_beq_eq_true hb
      cases h; subst hb; exact List.mem_cons_self
    · exact List.mem_cons_of_mem _ (lkB_mem h)
theorem lkB_inside {n : Nat} : ∀ {m : BM}, inside n m = true → ∀ {k : Nat} {x : Option Nat}, (k, x) ∈ m → k < n
  | [], _, _, _, h => by cases h
  | (j, y) :: r, hi, k, x, h => by
    simp only [inside] at hi
    split at hi
    · rename_i hb
      rcases List.mem_cons.1 h with e | h
      · cases e; simpa using hb
      · exact lkB_inside hi h
    · cases hi
theorem agrees_sound {m : BM} : ∀ {r : BM}, agrees m r = true → Agree' (lkB m) r
  | [], _, _, _, h => by cases h
  | (j, y) :: r, ha, k, x, h => by
    simp only [agrees] at ha
    split at ha
    · rename_i a b h1
      split at ha
      · rename_i hb
        have hb := Nat.eq_of_beq_eq_true hb
        rcases List.mem_cons.1 h with e | h
        · cases e; rw [h1, hb]
        · exact agrees_sound ha k x h
      · cases ha
    · rename_i h1
      rcases List.mem_cons.1 h with e | h
      · cases e; exact h1
      · exact agrees_sound ha k x h
    · cases ha
theorem stays_sound {m : BM} : ∀ {hp0 : List OB} {k : Nat}, stays m k hp0 = true → ∀ i s, hp0[i]? = some (OB.cells s) → lkB m (k + i) = some (some (k + i))
  | [], _, _, i, s, h => by simp at h
  | ob :: r, k, hs, i, s, h => by
    simp only [stays] at hs
    have tl : stays m (k + 1) r = true := by
      split at hs
      · split at hs
        · split at hs
          · exact hs
          · cases hs
        · cases hs
      · exact hs
    cases i with
    | zero =>
      simp at h
      subst h
      simp only [isCellsB] at hs
      split at hs
      · rename_i j hj
        split at hs
        · rename_i hb
          have hb := Nat.eq_of_beq_eq_true hb
          subst hb; exact hj
        · cases hs
      · cases hs
    | succ i =>
      have := stays_sound tl i s (by simpa using h)
      rwa [show k + 1 + i = k + (i + 1) by omega] at this
theorem apart_sound {m : BM} : ∀ {r : BM}, apart m r = true → ∀ k j k', (k, some j) ∈ r → (k', some j) ∈ m → k = k'
  | [], _, _, _, _, h, _ => by cases h
  | (k0, none) :: r, ha, k, j, k', h, g => by
    simp only [apart] at ha
    rcases List.mem_cons.1 h with e | h
    · cases e
    · exact apart_sound ha k j k' h g
  | (k0, some j0) :: r, ha, k, j, k', h, g => by
    simp only [apart] at ha
    split at ha
    · rename_i hall
      rcases List.mem_cons.1 h with e | h
      · cases e
        have := List.all_eq_true.1 hall _ g
        simp at this
        exact this
      · exact apart_sound ha k j k' h g
    · cases ha
/-- The blocks. -/
theorem outBs_sound (cx : Cx) (w : World) {n0 : Nat} {h : List OB} : ∀ {hp' : List OB} {k : Nat} {m : BM} {K : BM → Prop}, outBs n0 h k hp' m K → ∃ m', K m' ∧ (∀ p ∈ m, p ∈ m') ∧
    ∀ i ob', hp'[i]? = some ob' → ob' = .gone ∨ (∃ j ob, (k + i, some j) ∈ m' ∧ nthB h j = some ob ∧ ob ≠ .gone ∧ ∀ M, Agree' M m' → Live cx w j ob → (okM' cx M).bl (k + i) = cx.bl j → Live (okM' cx M) w (k + i) ob') ∨
      ((k + i, none) ∈ m' ∧ ∃ E, ob' = .arr none E [])
  | [], k, m, K, hk => by
    simp only [outBs] at hk
    exact ⟨m, hk, fun _ h => h, fun i ob' h => by simp at h⟩
  | ob' :: r, k, m, K, hk => by
    have main : ∀ {j : Nat} {ob : OB} {m0 : BM}, nthB h j = some ob → (k, some j) ∈ m0 → (∀ p ∈ m, p ∈ m0) → outB ob ob' m0 (fun m => outBs n0 h (k + 1) r m K) → ∃ m', K m' ∧ (∀ p ∈ m, p ∈ m') ∧
        ∀ i ob2, (ob' :: r)[i]? = some ob2 → ob2 = .gone ∨ (∃ j ob, (k + i, some j) ∈ m' ∧ nthB h j = some ob ∧ ob ≠ .gone ∧ ∀ M, Agree' M m' → Live cx w j ob → (okM' cx M).bl (k + i) = cx.bl j → Live (okM' cx M) w (k + i) ob2) ∨
          ((k + i, none) ∈ m' ∧ ∃ E, ob2 = .arr none E []) := by
      intro j ob m0 hj hm0 hsub hb
      obtain ⟨m1, g1, g2, g3, g4⟩ := outB_sound cx w hb
      obtain ⟨m2, f1, f2, f3⟩ := outBs_sound cx w g1
      refine ⟨m2, f1, fun p hp => f2 p (g2 p (hsub p hp)), fun i ob2 hi => ?_⟩
      cases i with
      | zero =>
        simp at hi
        subst hi
        by_cases hg : ob' = .gone
        · exact .inl hg
        · exact .inr (.inl ⟨j, ob, f2 _ (g2 _ hm0), hj, g3 hg, fun M hM hl he => g4 M (fun a b hab => hM a b (f2 _ hab)) j k hl he⟩)
      | succ i =>
        have := f3 i ob2 (by simpa using hi)
        rwa [show k + 1 + i = k + (i + 1) by omega] at this
    have lost : ob' = .gone → outBs n0 h (k + 1) r m K → ∃ m', K m' ∧ (∀ p ∈ m, p ∈ m') ∧
        ∀ i ob2, (ob' :: r)[i]? = some ob2 → ob2 = .gone ∨ (∃ j ob, (k + i, some j) ∈ m' ∧ nthB h j = some ob ∧ ob ≠ .gone ∧ ∀ M, Agree' M m' → Live cx w j ob → (okM' cx M).bl (k + i) = cx.bl j → Live (okM' cx M) w (k + i) ob2) ∨
          ((k + i, none) ∈ m' ∧ ∃ E, ob2 = .arr none E []) := by
      intro he hb
      obtain ⟨m2, f1, f2, f3⟩ := outBs_sound cx w hb
      refine ⟨m2, f1, f2, fun i ob2 hi => ?_⟩
      cases i with
      | zero => simp at hi; subst hi; exact .inl he
      | succ i =>
        have := f3 i ob2 (by simpa using hi)
        rwa [show k + 1 + i = k + (i + 1) by omega] at this
    simp only [outBs] at hk
    split at hk
    · rename_i j hj
      split at hk
      · rename_i ob hob
        exact main hob (lkB_mem hj) (fun _ h => h) hk
      · exact hk.elim
    · rename_i hj
      unfold outN at hk
      split at hk
      · rename_i E rows'
        obtain ⟨e, g1⟩ := same_iff.1 hk
        subst e
        obtain ⟨m2, f1, f2, f3⟩ := outBs_sound cx w g1
        refine ⟨m2, f1, f2, fun i ob2 hi => ?_⟩
        cases i with
        | zero => simp at hi; subst hi; exact .inr (.inr ⟨f2 _ (lkB_mem hj), E, rfl⟩)
        | succ i =>
          have := f3 i ob2 (by simpa using hi)
          rwa [show k + 1 + i = k + (i + 1) by omega] at this
      · exact lost rfl hk
      · exact hk.elim
    · split at hk
      · split at hk
        · rename_i ob hob
          exact main (m0 := (k, some k) :: m) hob (by simp) (fun p hp => List.mem_cons_of_mem _ hp) hk
        · exact hk.elim
      · unfold outL at hk
        split at hk
        · exact lost rfl hk
        · exact hk.elim

theorem outK_sound {hp0 h hp' : List OB} {s r : SV} (hk : outK hp0 s h r hp') {keep : Nat → Prop} {cx0 cx : Cx} {w0 w : World} {v : Value} (hkeep : ∀ k, keep k → isCells (nthB hp0) k)
    (hv : RelV cx w s v) (hm : Mem cx w (nthB h)) (hf : Fr keep cx0 w0 cx w) : ∃ cx', RelV cx' w r v ∧ Mem cx' w (nthB hp') ∧ Fr keep cx0 w0 cx' w := by
  unfold outK at hk
  obtain ⟨m1, h1, _, _, _, _, hrv⟩ := outV_sound cx w r s [] _ hk
  obtain ⟨m, h2, hsub, hbs⟩ := outBs_sound cx w h1
  obtain ⟨ha, h2⟩ := okT_iff.1 h2
  obtain ⟨hst, h2⟩ := okT_iff.1 h2
  obtain ⟨hap, h2⟩ := okT_iff.1 h2
  obtain ⟨hin, _⟩ := okT_iff.1 h2
  have hM : Agree' (lkB m) m := agrees_sound ha
  have hM1 : Agree' (lkB m) m1 := fun k x hx => hM k x (hsub _ hx)
  have stay : ∀ k, keep k → lkB m k = some (some k) := fun k hk => by
    obtain ⟨s0, hs0⟩ := hkeep k hk
    rw [nthB_eq] at hs0
    have := stays_sound hst k s0 hs0
    simpa using this
  have bls : ∀ k b C, (okM' cx (lkB m)).bl k = some (.at b C) → ∃ j, lkB m k = some (some j) ∧ cx.bl j = some (.at b C) := by
    intro k b C hb
    simp only [okM'] at hb
    split at hb
    · rename_i j hj; exact ⟨j, hj, hb⟩
    · cases hb
    · cases hb
  refine ⟨okM' cx (lkB m), hrv _ hM1 v hv, ⟨fun k ob' hk => ?_, fun k k' ob1 ob2 b C C' g1 g2 n1 n2 b1 b2 => ?_, fun k hk => ?_, hm.lt⟩, ⟨hf.le, hf.same, hf.own, hf.old, fun k b C hb => ?_, fun k hk => ?_, hf.wk⟩⟩
  · rw [nthB_eq] at hk
    rcases hbs k ob' hk with rfl | ⟨j, ob, g1, g2, g3, g4⟩ | ⟨g1, E, rfl⟩
    · trivial
    · rw [Nat.zero_add] at g1 g4
      exact g4 _ hM (hm.live j ob g2) (by simp [okM', hM k _ g1])
    · rw [Nat.zero_add] at g1
      exact .inr ⟨by simp [okM', hM k _ g1], E, rfl⟩
  · rw [nthB_eq] at g1 g2
    obtain ⟨j, m1', c1⟩ := bls k b C b1
    obtain ⟨j', m2', c2⟩ := bls k' b C' b2
    have live : ∀ k ob j, hp'[k]? = some ob → ob ≠ .gone → lkB m k = some (some j) → ∃ o, nthB h j = some o ∧ o ≠ .gone := by
      intro k ob j hk hn hj
      rcases hbs k ob hk with e | ⟨j2, o, f1, f2, f3, _⟩ | ⟨f1, _⟩
      · exact absurd e hn
      · rw [Nat.zero_add] at f1
        have := hM k _ f1
        rw [hj] at this
        cases this
        exact ⟨o, f2, f3⟩
      · rw [Nat.zero_add] at f1
        have := hM k _ f1
        rw [hj] at this
        cases this
    obtain ⟨o1, p1, q1⟩ := live k ob1 j g1 n1 m1'
    obtain ⟨o2, p2, q2⟩ := live k' ob2 j' g2 n2 m2'
    have := hm.inj j j' o1 o2 b C C' p1 p2 q1 q2 c1 c2
    subst this
    exact apart_sound hap k j k' (lkB_mem m1') (lkB_mem m2')
  · rw [nthB_eq] at hk
    have hlt : ¬ k < hp'.length := fun h => by rw [List.getElem?_eq_getElem h] at hk; cases hk
    have : lkB m k = none := by
      cases hl : lkB m k with
      | none => rfl
      | some x =>
        have := lkB_inside hin (lkB_mem hl)
        rw [len_eq] at this
        omega
    simp [okM', this]
  · obtain ⟨j, m1', c1⟩ := bls k b C hb
    rcases hf.blk j b C c1 with ⟨k', g1, g2⟩ | g1
    · refine .inl ⟨k', ?_, g2⟩
      rcases g1 with rfl | g1
      · by_cases hkk : keep k'
        · have h5 := stay k' hkk
          have := apart_sound hap k k' k' (lkB_mem m1') (lkB_mem h5)
          exact .inl this.symm
        · exact .inr hkk
      · exact .inr g1
    · exact .inr g1
  · have h5 := stay k hk
    simp only [okM', h5]
    exact hf.keep k hk

def staysN (m : BM) : Nat → Bool
  | 0 => true
  | k + 1 => match lkB m k with
    | some (some j) => match Nat.beq j k with | true => staysN m k | false => false
    | _ => false
theorem staysN_sound {m : BM} : ∀ {n : Nat}, staysN m n = true → ∀ k, k < n → lkB m k = some (some k)
  | 0, _, k, h => absurd h (Nat.not_lt_zero k)
  | n + 1, hs, k, h => by
    simp only [staysN] at hs
    split at hs
    · rename_i j hj
      split at hs
      · rename_i hb
        have hb := Nat.eq_of_beq_eq_true hb
        rcases Nat.lt_or_ge k n with h1 | h1
        · exact staysN_sound hs k h1
        · rw [show k = n by omega, hj, hb]
      · cases hs
    · cases hs
def outKK (hp0 : List OB) (s : SV) (h : List OB) (r : SV) (hp' : List OB) : Prop :=
  outV s r [] fun m => outBs (len hp0) h 0 hp' m fun m => okT (agrees m m) (okT (staysN m (len hp0)) (okT (apart m m) (okT (inside (len hp') m) True)))
theorem outKK_sound {hp0 h hp' : List OB} {s r : SV} (hk : outKK hp0 s h r hp') {keep : Nat → Prop} {cx0 cx : Cx} {w0 w : World} {v : Value} (hkeep : ∀ k, keep k → k < hp0.length)
    (hv : RelV cx w s v) (hm : Mem cx w (nthB h)) (hf : Fr keep cx0 w0 cx w) : ∃ cx', RelV cx' w r v ∧ Mem cx' w (nthB hp') ∧ Fr keep cx0 w0 cx' w := by
  unfold outKK at hk
  obtain ⟨m1, h1, _, _, _, _, hrv⟩ := outV_sound cx w r s [] _ hk
  obtain ⟨m, h2, hsub, hbs⟩ := outBs_sound cx w h1
  obtain ⟨ha, h2⟩ := okT_iff.1 h2
  obtain ⟨hst, h2⟩ := okT_iff.1 h2
  obtain ⟨hap, h2⟩ := okT_iff.1 h2
  obtain ⟨hin, _⟩ := okT_iff.1 h2
  have hM : Agree' (lkB m) m := agrees_sound ha
  have hM1 : Agree' (lkB m) m1 := fun k x hx => hM k x (hsub _ hx)
  have stay : ∀ k, keep k → lkB m k = some (some k) := fun k hk => staysN_sound hst k (by rw [len_eq]; exact hkeep k hk)
  have bls : ∀ k b C, (okM' cx (lkB m)).bl k = some (.at b C) → ∃ j, lkB m k = some (some j) ∧ cx.bl j = some (.at b C) := by
    intro k b C hb
    simp only [okM'] at hb
    split at hb
    · rename_i j hj; exact ⟨j, hj, hb⟩
    · cases hb
    · cases hb
  refine ⟨okM' cx (lkB m), hrv _ hM1 v hv, ⟨fun k ob' hk => ?_, fun k k' ob1 ob2 b C C' g1 g2 n1 n2 b1 b2 => ?_, fun k hk => ?_, hm.lt⟩, ⟨hf.le, hf.same, hf.own, hf.old, fun k b C hb => ?_, fun k hk => ?_, hf.wk⟩⟩
  · rw [nthB_eq] at hk
    rcases hbs k ob' hk with rfl | ⟨j, ob, g1, g2, g3, g4⟩ | ⟨g1, E, rfl⟩
    · trivial
    · rw [Nat.zero_add] at g1 g4
      exact g4 _ hM (hm.live j ob g2) (by simp [okM', hM k _ g1])
    · rw [Nat.zero_add] at g1
      exact .inr ⟨by simp [okM', hM k _ g1], E, rfl⟩
  · rw [nthB_eq] at g1 g2
    obtain ⟨j, m1', c1⟩ := bls k b C b1
    obtain ⟨j', m2', c2⟩ := bls k' b C' b2
    have live : ∀ k ob j, hp'[k]? = some ob → ob ≠ .gone → lkB m k = some (some j) → ∃ o, nthB h j = some o ∧ o ≠ .gone := by
      intro k ob j hk hn hj
      rcases hbs k ob hk with e | ⟨j2, o, f1, f2, f3, _⟩ | ⟨f1, _⟩
      · exact absurd e hn
      · rw [Nat.zero_add] at f1
        have := hM k _ f1
        rw [hj] at this
        cases this
        exact ⟨o, f2, f3⟩
      · rw [Nat.zero_add] at f1
        have := hM k _ f1
        rw [hj] at this
        cases this
    obtain ⟨o1, p1, q1⟩ := live k ob1 j g1 n1 m1'
    obtain ⟨o2, p2, q2⟩ := live k' ob2 j' g2 n2 m2'
    have := hm.inj j j' o1 o2 b C C' p1 p2 q1 q2 c1 c2
    subst this
    exact apart_sound hap k j k' (lkB_mem m1') (lkB_mem m2')
  · rw [nthB_eq] at hk
    have hlt : ¬ k < hp'.length := fun h => by rw [List.getElem?_eq_getElem h] at hk; cases hk
    have : lkB m k = none := by
      cases hl : lkB m k with
      | none => rfl
      | some x =>
        have := lkB_inside hin (lkB_mem hl)
        rw [len_eq] at this
        omega
    simp [okM', this]
  · obtain ⟨j, m1', c1⟩ := bls k b C hb
    rcases hf.blk j b C c1 with ⟨k', g1, g2⟩ | g1
    · refine .inl ⟨k', ?_, g2⟩
      rcases g1 with rfl | g1
      · by_cases hkk : keep k'
        · have h5 := stay k' hkk
          have := apart_sound hap k k' k' (lkB_mem m1') (lkB_mem h5)
          exact .inl this.symm
        · exact .inr hkk
      · exact .inr g1
    · exact .inr g1
  · have h5 := stay k hk
    simp only [okM', h5]
    exact hf.keep k hk

/-! ### From state to state, where blocks change places -/
/-- As it stands; or with the blocks in other places. -/
inductive Turn (A B : Prop) : Prop where
  | up (h : A ∨ B)
theorem Turn.l {A B : Prop} (h : A) : Turn A B := ⟨.inl h⟩
theorem Turn.r {A B : Prop} (h : B) : Turn A B := ⟨.inr h⟩
theorem Turn.inv {A B : Prop} : Turn A B → A ∨ B := fun ⟨h⟩ => h
def outE (e : List (Nat × SV)) : List (Nat × SV) → BM → (BM → Prop) → Prop
  | [], m, K => K m
  | (t, r) :: l, m, K => match lk e t with
    | some s => outV s r m fun m => outE e l m K
    | none => False
def turnK (n0 : Nat) (e : List (Nat × SV)) (h : List OB) (e' : List (Nat × SV)) (h' : List OB) (K : Prop) : Prop :=
  outE e e' [] fun m => outBs n0 h 0 h' m fun m => okT (agrees m m) (okT (staysN m n0) (okT (apart m m) (okT (inside (len h') m) K)))
theorem outE_sound (cx : Cx) (w : World) {e : List (Nat × SV)} : ∀ {e' : List (Nat × SV)} {m : BM} {K : BM → Prop}, outE e e' m K → ∃ m', K m' ∧ (∀ p ∈ m, p ∈ m') ∧
    ∀ t r, lk e' t = some r → ∃ s, lk e t = some s ∧ ∀ M, Agree' M m' → ∀ v, RelV cx w s v → RelV (okM' cx M) w r v
  | [], m, K, h => ⟨m, h, fun _ h => h, fun t r h => by cases h⟩
  | (t, r) :: l, m, K, h => by
    simp only [outE] at h
    split at h
    · rename_i s hs
      obtain ⟨m1, g1, g2, _, _, _, g3⟩ := outV_sound cx w r s m _ h
      obtain ⟨m2, f1, f2, f3⟩ := outE_sound cx w g1
      refine ⟨m2, f1, fun p hp => f2 p (g2 p hp), fun t' r' ht => ?_⟩
      rw [lk_cons_if] at ht
      split at ht
      · rename_i he
        subst he
        cases ht
        exact ⟨s, hs, fun M hM v hv => g3 M (fun k x hx => hM k x (f2 _ hx)) v hv⟩
      · exact f3 t' r' ht
    · exact h.elim
theorem turnK_sound {n : Sz} {e e' : List (Nat × SV)} {h h' : List OB} {K : Prop} (hk : turnK n.n0 e h e' h' K) : Sub n e h e' h' ∧ K := by
  unfold turnK at hk
  have hK : K := by
    obtain ⟨m1, h1, _, _⟩ := outE_sound ⟨fun _ => none, fun _ => False⟩ default hk
    obtain ⟨m, h2, _, _⟩ := outBs_sound ⟨fun _ => none, fun _ => False⟩ default h1
    obtain ⟨_, h2⟩ := okT_iff.1 h2
    obtain ⟨_, h2⟩ := okT_iff.1 h2
    obtain ⟨_, h2⟩ := okT_iff.1 h2
    exact (okT_iff.1 h2).2
  refine ⟨fun B cx a w hB hs => ?_, hK⟩
  obtain ⟨m1, h1, _, hev⟩ := outE_sound cx w hk
  obtain ⟨m, h2, hsub, hbs⟩ := outBs_sound cx w h1
  obtain ⟨ha, h2⟩ := okT_iff.1 h2
  obtain ⟨hst, h2⟩ := okT_iff.1 h2
  obtain ⟨hap, h2⟩ := okT_iff.1 h2
  obtain ⟨hin, _⟩ := okT_iff.1 h2
  have hM : Agree' (lkB m) m := agrees_sound ha
  have hM1 : Agree' (lkB m) m1 := fun k x hx => hM k x (hsub _ hx)
  have hm := hs.mem
  have hf := hs.fr
  have stay : ∀ k, B.keep k → lkB m k = some (some k) := fun k hk => staysN_sound hst k (by have := B.kn k hk; rw [hB] at this; exact this)
  have bls : ∀ k b C, (okM' cx (lkB m)).bl k = some (.at b C) → ∃ j, lkB m k = some (some j) ∧ cx.bl j = some (.at b C) := by
    intro k b C hb
    simp only [okM'] at hb
    split at hb
    · rename_i j hj; exact ⟨j, hj, hb⟩
    · cases hb
    · cases hb
  refine ⟨okM' cx (lkB m), hs.df, hs.sz, fun t r ht => ?_, ⟨fun k ob' hk => ?_, fun k k' ob1 ob2 b C C' g1 g2 n1 n2 b1 b2 => ?_, fun k hk => ?_, hm.lt⟩, ⟨hf.le, hf.same, hf.own, hf.old, fun k b C hb => ?_, fun k hk => ?_, hf.wk⟩⟩
  · obtain ⟨s, h3, h4⟩ := hev t r ht
    obtain ⟨v, h5, h6⟩ := hs.sl t s h3
    exact ⟨v, h5, h4 _ hM1 v h6⟩
  · rw [nthB_eq] at hk
    rcases hbs k ob' hk with rfl | ⟨j, ob, g1, g2, g3, g4⟩ | ⟨g1, E, rfl⟩
    · trivial
    · rw [Nat.zero_add] at g1 g4
      exact g4 _ hM (hm.live j ob g2) (by simp [okM', hM k _ g1])
    · rw [Nat.zero_add] at g1
      exact .inr ⟨by simp [okM', hM k _ g1], E, rfl⟩
  · rw [nthB_eq] at g1 g2
    obtain ⟨j, m1', c1⟩ := bls k b C b1
    obtain ⟨j', m2', c2⟩ := bls k' b C' b2
    have live : ∀ k ob j, h'[k]? = some ob → ob ≠ .gone → lkB m k = some (some j) → ∃ o, nthB h j = some o ∧ o ≠ .gone := by
      intro k ob j hk hn hj
      rcases hbs k ob hk with e | ⟨j2, o, f1, f2, f3, _⟩ | ⟨f1, _⟩
      · exact absurd e hn
      · rw [Nat.zero_add] at f1
        have := hM k _ f1
        rw [hj] at this
        cases this
        exact ⟨o, f2, f3⟩
      · rw [Nat.zero_add] at f1
        have := hM k _ f1
        rw [hj] at this
        cases this
    obtain ⟨o1, p1, q1⟩ := live k ob1 j g1 n1 m1'
    obtain ⟨o2, p2, q2⟩ := live k' ob2 j' g2 n2 m2'
    have := hm.inj j j' o1 o2 b C C' p1 p2 q1 q2 c1 c2
    subst this
    exact apart_sound hap k j k' (lkB_mem m1') (lkB_mem m2')
  · rw [nthB_eq] at hk
    have hlt : ¬ k < h'.length := fun h => by rw [List.getElem?_eq_getElem h] at hk; cases hk
    have : lkB m k = none := by
      cases hl : lkB m k with
      | none => rfl
      | some x =>
        have := lkB_inside hin (lkB_mem hl)
        rw [len_eq] at this
        omega
    simp [okM', this]
  · obtain ⟨j, m1', c1⟩ := bls k b C hb
    rcases hf.blk j b C c1 with ⟨k', g1, g2⟩ | g1
    · refine .inl ⟨k', ?_, g2⟩
      rcases g1 with rfl | g1
      · by_cases hkk : B.keep k'
        · have h5 := stay k' hkk
          have := apart_sound hap k k' k' (lkB_mem m1') (lkB_mem h5)
          exact .inl this.symm
        · exact .inr hkk
      · exact .inr g1
    · exact .inr g1
  · have h5 := stay k hk
    simp only [okM', h5]
    exact hf.keep k hk

/-! ### Loops -/
/-- These slots, as they stand. -/
def keepK (e : List (Nat × SV)) : List Nat → (List (Nat × SV) → Prop) → Prop
  | [], K => K []
  | t :: ts, K => match lk e t with | some s => keepK e ts fun E => K ((t, s) :: E) | none => False
theorem keepK_sound {e : List (Nat × SV)} : ∀ {ts : List Nat} {K : List (Nat × SV) → Prop}, keepK e ts K → ∃ E, K E
  | [], _, h => ⟨_, h⟩
  | t :: ts, K, h => by
    simp only [keepK] at h
    split at h
    · exact let ⟨E, hE⟩ := keepK_sound h; ⟨_, hE⟩
    · exact h.elim
section
variable {P : Program} {TT : Nat → TI} {n : Sz}
def loopKK {ι : Type} (n : Sz) (Ie : ι → List (Nat × SV)) (Ih : ι → List OB) (μ : ι → Nat) (i : ι) (K : Exit → List (Nat × SV) → List OB → Prop) : Exit → List (Nat × SV) → List OB → Prop := fun x e' h' =>
  match x with
  | .normal => ∃ j, Turn (SubK n e' h' (Ie j) (Ih j) (Need (μ j < μ i) True)) (turnK n.n0 e' h' (Ie j) (Ih j) (Need (μ j < μ i) True))
  | x => K x e' h'
theorem exec_mono_loop {ι : Type} {Ie : ι → List (Nat × SV)} {Ih : ι → List OB} {μ : ι → Nat} {i : ι} {K : Exit → List (Nat × SV) → List OB → Prop} {x : Exit} {e' : List (Nat × SV)} {h' : List OB}
    (hk : loopKK n Ie Ih μ i K x e' h') : loopK n Ie Ih μ i K x e' h' := by
  cases x
  case normal =>
    obtain ⟨j, hj⟩ := hk
    rcases hj.inv with hj | hj
    · exact ⟨j, (subK_sound hj).1, (need_iff.1 (subK_sound hj).2).1⟩
    · exact ⟨j, (turnK_sound hj).1, (need_iff.1 (turnK_sound hj).2).1⟩
  all_goals exact hk
/-- A loop under an invariant: the slots ks stay, 'ch' says what stands in the others. -/
theorem loop_keep (hT : TTok P TT) (hmix : P.follows .mixedOrders = true) {T0 : Nat} {ι : Type} {c : Code} {e : List (Nat × SV)} {h : List OB} {K : Exit → List (Nat × SV) → List OB → Prop} (ks : List Nat)
    (ch : ι → List (Nat × SV)) (Ih : ι → List OB) (μ : ι → Nat) (i0 : ι)
    (H : keepK e ks fun E => SubK n e h (app (ch i0) E) (Ih i0) (∀ i, exec P TT T0 n c (app (ch i) E) (Ih i) (loopKK n (fun i => app (ch i) E) Ih μ i K))) : LoopN P n c e h K := by
  obtain ⟨E, hE⟩ := keepK_sound H
  obtain ⟨h0, round⟩ := subK_sound hE
  have key : ∀ (m : Nat) (i : ι), μ i < m → ∃ x e' h', K x e' h' ∧ ∀ (B : Base) (cx : Cx) (a : Act) (w : World) (Q : Exit → Act → World → Prop), B.n = n → Sat B cx (app (ch i) E) (Ih i) a w →
      (∀ cx' a' w', Sat B cx' e' h' a' w' → Q x a' w') → Code.rounds P c Q m a w := by
    intro m
    induction m with
    | zero => intro i h; omega
    | succ m ih =>
      intro i hm
      obtain ⟨x1, e1, h1, hk1, hw1⟩ := exec_sound hT hmix c (round i)
      have hk1 := exec_mono_loop hk1
      cases x1
      case normal =>
        obtain ⟨j, hj, hlt⟩ := hk1
        obtain ⟨x2, e2, h2, hk2, hw2⟩ := ih j (by omega)
        refine ⟨x2, e2, h2, hk2, fun B cx a w Q hB hs hK => hw1 B cx a w _ hB hs fun cx' a' w' hs' => ?_⟩
        obtain ⟨cx2, hs2⟩ := hj B cx' a' w' hB hs'
        exact hw2 B cx2 a' w' Q hB hs2 hK
      all_goals exact ⟨_, _, _, hk1, fun B cx a w Q hB hs hK => hw1 B cx a w _ hB hs fun cx' a' w' hs' => hK _ _ _ hs'⟩
  obtain ⟨x, e', h', hk, hw⟩ := key (μ i0 + 1) i0 (by omega)
  rw [loopN_iff]
  refine ⟨x, e', h', hk, fun B cx a w Q hB hs hK => wp_loop_rounds (μ i0 + 1) ?_⟩
  obtain ⟨cx1, hs1⟩ := h0 B cx a w hB hs
  exact hw B cx1 a w Q hB hs1 hK
/-- Ahead of a loop: a nil slot is taken for an owned slice without elements. -/
theorem LoopN.adopt {c : Code} {e : List (Nat × SV)} {h : List OB} {K : Exit → List (Nat × SV) → List OB → Prop} (t E : Nat) (ht : lk e t = some (.v (.slice none 0 0))) (hm : n.n0 ≤ h.length)
    (hk : LoopN P n c ((t, .ov E h.length 0 0) :: e) (h ++ [.arr none E []]) K) : LoopN P n c e h K := by
  rw [loopN_iff] at hk ⊢
  obtain ⟨x, e', h', h1, h2⟩ := hk
  refine ⟨x, e', h', h1, fun B cx a w Q hB hs hK => ?_⟩
  obtain ⟨cx1, hs1⟩ := Sub.adopt t E ht hm B cx a w hB hs
  exact h2 B cx1 a w Q hB hs1 hK
end
/-! ### From the run of a body to the contract -/
def isRet : Exit → Bool
  | .ret => true
  | .normal => true
  | _ => false
theorem bodyPost_is {P : Program} {fn : Func} {R : Ending → World → Prop} {a : Act} {w : World} {v : Value} {x : Exit} (hx : isRet x = true) (hr : (results fn a.tmps).run P w = .ok v w) (hd : a.defers = []) (h : R (.returned v) w) : bodyPost P fn R x a w := by
  cases x <;> simp [isRet] at hx <;> exact ⟨hd, v, hr, h⟩
def retZK (TT : Nat → TI) (hp0 : List OB) (ts : List RV) (R : SV → List OB → Prop) : Exit → List (Nat × SV) → List OB → Prop := fun x e h =>
  match isRet x with
  | true => resAll TT e h ts fun l => fin l fun s => ∃ r hp', R r hp' ∧ outKK hp0 s h r hp'
  | false => botN
def retYK (TT : Nat → TI) (hp0 : List OB) (ts : List RV) (r : SV) (hp' : List OB) : Exit → List (Nat × SV) → List OB → Prop := fun x e h =>
  match isRet x with
  | true => resAll TT e h ts fun l => fin l fun s => outKK hp0 s h r hp'
  | false => botN
def retZ (TT : Nat → TI) (hp0 : List OB) (ts : List RV) (R : SV → List OB → Prop) : Exit → List (Nat × SV) → List OB → Prop := fun x e h =>
  match isRet x with
  | true => resAll TT e h ts fun l => fin l fun s => ∃ r hp', R r hp' ∧ outK hp0 s h r hp'
  | false => botN
def retY (TT : Nat → TI) (hp0 : List OB) (ts : List RV) (r : SV) (hp' : List OB) : Exit → List (Nat × SV) → List OB → Prop := fun x e h =>
  match isRet x with
  | true => resAll TT e h ts fun l => fin l fun s => outK hp0 s h r hp'
  | false => botN
section
variable {P : Program} {TT : Nat → TI}
theorem spec_of_wpdZ (hT : TTok P TT) {f : FuncId} {fn : Func} {c : Code} {args : List SV} {hp : List OB} {R : SV → List OB → Prop} {ts : List RV} (N : Nat) (hf : P.funcs[f]? = some fn)
    (hname : (fn.name == "runtime.NumGoroutine") = false) (hb : fn.body = some c) (hN : fn.ntmps = N) (hlen : args.length ≤ N) (hres : fn.results = (ts.map RV.of).toArray)
    (h : WPd P ⟨N, hp.length, hp⟩ c (envOf 0 args) hp (retZ TT hp ts R)) : ∃ r hp', R r hp' ∧ Con P f args hp r hp' := by
  obtain ⟨x, e', h', hk, hw⟩ := h
  unfold retZ at hk
  split at hk
  case h_2 => exact hk.elim
  rename_i hx
  obtain ⟨l, hk, hll, hres2⟩ := resAll_sound hT hk
  obtain ⟨s0, hs0, r, hp', hR, hout⟩ := fin_inv hk
  refine ⟨r, hp', hR, fun cx w vals hgl hm hv => .inl ⟨⟨fn, hf, hname, by rw [hb]; rfl⟩, ?_⟩⟩
  obtain ⟨hvl, hvg⟩ := hv.get
  refine calls_of_wp hf hb ?_
  let B : Base := ⟨⟨N, hp.length, hp⟩, cx, w, isCells (nthB hp), fun k ⟨s, hk⟩ => by
    rcases hm.live k _ hk with ⟨b, C, h1, _⟩ | ⟨h1, _⟩ <;> rw [h1] <;> simp, fun k ⟨s, hk⟩ => by
    rw [nthB_eq] at hk; exact (List.getElem?_eq_some_iff.1 hk).1, fun k hk => hm.dom k (by rw [nthB_eq]; exact List.getElem?_eq_none hk), hgl, fun k ⟨s, hk⟩ => by simp only [hk, isArrO]⟩
  refine hw B cx _ w _ rfl ⟨rfl, ?_, fun t s ht => ?_, hm, .refl _ _ _⟩ ?_
  · simp [hvl, hN, B]; omega
  · obtain ⟨h1, h2⟩ := envOf_lk args 0 t s ht
    obtain ⟨v, h3, h4⟩ := hvg t s (by simpa using h2)
    refine ⟨v, ?_, h4⟩
    have : t < vals.length := (List.getElem?_eq_some_iff.1 h3).1
    simp only
    rw [Array.getElem?_append_left (by simpa using this)]
    simpa using h3
  · intro cx' a' w' hs'
    obtain ⟨vs, hvs, hrun, hrel⟩ := hres2 B cx' a' w' hs'
    have hrun2 := run_results hres hrun
    have hval : RelV cx' w' s0 (if h : vs.length = 1 then vs[0] else .tuple vs.toArray) := by
      rcases hs0 with ⟨x, rfl, rfl⟩ | ⟨hne, rfl, hok⟩
      · have hone : vs.length = 1 := by simpa using hvs.trans hll.symm
        rw [dif_pos hone]
        obtain ⟨v, rfl⟩ := list_one hone.symm
        exact hrel 0 _ v rfl rfl
      · rw [dif_neg (by omega)]
        refine ⟨vs, rfl, relVL_of (by omega) fun i s v h1 h2 => ?_⟩
        have h3 := hrel i s v h1 h2
        have hok2 : argOK s = true := List.all_eq_true.1 hok s (List.mem_of_getElem? h1)
        cases s <;> first | exact h3 | (simp [argOK] at hok2)
    obtain ⟨cx2, g1, g2, g3⟩ := outK_sound hout (fun k hk => hk) hval hs'.mem hs'.fr
    exact bodyPost_is hx hrun2 hs'.df ⟨cx2, _, rfl, g1, g2, g3⟩
theorem spec_of_run (hT : TTok P TT) (hmix : P.follows .mixedOrders = true) {f : FuncId} {fn : Func} {c : Code} {T0 : Nat} {args : List SV} {hp hp' : List OB} {r : SV} {ts : List RV} (N : Nat) (hf : P.funcs[f]? = some fn)
    (hname : (fn.name == "runtime.NumGoroutine") = false) (hb : fn.body = some c) (hN : fn.ntmps = N) (hlen : args.length ≤ N) (hres : fn.results = (ts.map RV.of).toArray)
    (h : exec P TT T0 ⟨N, hp.length, hp⟩ c (envOf 0 args) hp (retY TT hp ts r hp')) : Con P f args hp r hp' := by
  obtain ⟨x, e', h', hk, hw⟩ := exec_sound hT hmix c h
  have h2 : WPd P ⟨N, hp.length, hp⟩ c (envOf 0 args) hp (retZ TT hp ts fun r2 hp2 => r2 = r ∧ hp2 = hp') := by
    refine ⟨x, e', h', ?_, hw⟩
    unfold retY at hk
    unfold retZ
    split at hk
    · exact resAll_mono (fun l h => fin_mono (fun s h => ⟨r, hp', ⟨rfl, rfl⟩, h⟩) h) hk
    · exact hk.elim
  obtain ⟨r2, hp2, ⟨rfl, rfl⟩, hc⟩ := spec_of_wpdZ hT N hf hname hb hN hlen hres h2
  exact hc
theorem spec_of_runR (hT : TTok P TT) (hmix : P.follows .mixedOrders = true) {f : FuncId} {fn : Func} {c : Code} {T0 : Nat} {args : List SV} {hp : List OB} {R : SV → List OB → Prop} {ts : List RV} (N : Nat) (hf : P.funcs[f]? = some fn)
    (hname : (fn.name == "runtime.NumGoroutine") = false) (hb : fn.body = some c) (hN : fn.ntmps = N) (hlen : args.length ≤ N) (hres : fn.results = (ts.map RV.of).toArray)
    (h : exec P TT T0 ⟨N, hp.length, hp⟩ c (envOf 0 args) hp (retZ TT hp ts R)) : ∃ r hp', R r hp' ∧ Con P f args hp r hp' :=
  spec_of_wpdZ hT N hf hname hb hN hlen hres (exec_sound hT hmix c h)
theorem spec_of_wpdZK (hT : TTok P TT) {f : FuncId} {fn : Func} {c : Code} {args : List SV} {hp : List OB} {R : SV → List OB → Prop} {ts : List RV} (N : Nat) (hf : P.funcs[f]? = some fn)
    (hname : (fn.name == "runtime.NumGoroutine") = false) (hb : fn.body = some c) (hN : fn.ntmps = N) (hlen : args.length ≤ N) (hres : fn.results = (ts.map RV.of).toArray)
    (h : WPd P ⟨N, hp.length, []⟩ c (envOf 0 args) hp (retZK TT hp ts R)) : ∃ r hp', R r hp' ∧ ConK P f args hp r hp' := by
  obtain ⟨x, e', h', hk, hw⟩ := h
  unfold retZK at hk
  split at hk
  case h_2 => exact hk.elim
  rename_i hx
  obtain ⟨l, hk, hll, hres2⟩ := resAll_sound hT hk
  obtain ⟨s0, hs0, r, hp', hR, hout⟩ := fin_inv hk
  refine ⟨r, hp', hR, fun cx w vals hgl hm hv => .inl ⟨⟨fn, hf, hname, by rw [hb]; rfl⟩, ?_⟩⟩
  obtain ⟨hvl, hvg⟩ := hv.get
  refine calls_of_wp hf hb ?_
  let B : Base := ⟨⟨N, hp.length, []⟩, cx, w, isLive (nthB hp), fun k ⟨ob, hk, hg⟩ => by
    cases ob with
    | gone => exact absurd rfl hg
    | _ => rcases hm.live k _ hk with ⟨b, C, h1, _⟩ | ⟨h1, _⟩ <;> rw [h1] <;> simp, fun k ⟨ob, hk, _⟩ => by
    rw [nthB_eq] at hk; exact (List.getElem?_eq_some_iff.1 hk).1, fun k hk => hm.dom k (by rw [nthB_eq]; exact List.getElem?_eq_none hk), hgl, fun k _ => rfl⟩
  refine hw B cx _ w _ rfl ⟨rfl, ?_, fun t s ht => ?_, hm, .refl _ _ _⟩ ?_
  · simp [hvl, hN, B]; omega
  · obtain ⟨h1, h2⟩ := envOf_lk args 0 t s ht
    obtain ⟨v, h3, h4⟩ := hvg t s (by simpa using h2)
    refine ⟨v, ?_, h4⟩
    have : t < vals.length := (List.getElem?_eq_some_iff.1 h3).1
    simp only
    rw [Array.getElem?_append_left (by simpa using this)]
    simpa using h3
  · intro cx' a' w' hs'
    obtain ⟨vs, hvs, hrun, hrel⟩ := hres2 B cx' a' w' hs'
    have hrun2 := run_results hres hrun
    have hval : RelV cx' w' s0 (if h : vs.length = 1 then vs[0] else .tuple vs.toArray) := by
      rcases hs0 with ⟨x, rfl, rfl⟩ | ⟨hne, rfl, hok⟩
      · have hone : vs.length = 1 := by simpa using hvs.trans hll.symm
        rw [dif_pos hone]
        obtain ⟨v, rfl⟩ := list_one hone.symm
        exact hrel 0 _ v rfl rfl
      · rw [dif_neg (by omega)]
        refine ⟨vs, rfl, relVL_of (by omega) fun i s v h1 h2 => ?_⟩
        have h3 := hrel i s v h1 h2
        have hok2 : argOK s = true := List.all_eq_true.1 hok s (List.mem_of_getElem? h1)
        cases s <;> first | exact h3 | (simp [argOK] at hok2)
    obtain ⟨cx2, g1, g2, g3⟩ := outKK_sound hout (fun k ⟨ob, hk, _⟩ => by rw [nthB_eq] at hk; exact (List.getElem?_eq_some_iff.1 hk).1) hval hs'.mem hs'.fr
    exact bodyPost_is hx hrun2 hs'.df ⟨cx2, _, rfl, g1, g2, g3⟩
theorem spec_of_runK (hT : TTok P TT) (hmix : P.follows .mixedOrders = true) {f : FuncId} {fn : Func} {c : Code} {T0 : Nat} {args : List SV} {hp hp' : List OB} {r : SV} {ts : List RV} (N : Nat) (hf : P.funcs[f]? = some fn)
    (hname : (fn.name == "runtime.NumGoroutine") = false) (hb : fn.body = some c) (hN : fn.ntmps = N) (hlen : args.length ≤ N) (hres : fn.results = (ts.map RV.of).toArray)
    (h : exec P TT T0 ⟨N, hp.length, []⟩ c (envOf 0 args) hp (retYK TT hp ts r hp')) : ConK P f args hp r hp' := by
  obtain ⟨x, e', h', hk, hw⟩ := exec_sound hT hmix c h
  have h2 : WPd P ⟨N, hp.length, []⟩ c (envOf 0 args) hp (retZK TT hp ts fun r2 hp2 => r2 = r ∧ hp2 = hp') := by
    refine ⟨x, e', h', ?_, hw⟩
    unfold retYK at hk
    unfold retZK
    split at hk
    · exact resAll_mono (fun l h => fin_mono (fun s h => ⟨r, hp', ⟨rfl, rfl⟩, h⟩) h) hk
    · exact hk.elim
  obtain ⟨r2, hp2, ⟨rfl, rfl⟩, hc⟩ := spec_of_wpdZK hT N hf hname hb hN hlen hres h2
  exact hc
end
end Go.Fw

/- Contracts: turned from one state to another; those of the model's own entries. -/
namespace Go.Fw

/-! ### An array of unknown room -/
/-! ### Arguments that are more than they need to be -/
def ArgLe (s s' : SV) : Prop := ∀ cx w v, RelV1 cx w s v → RelV1 cx w s' v
def ArgsLe : List SV → List SV → Prop
  | [], [] => True
  | a :: l, b :: l' => ArgLe a b ∧ ArgsLe l l'
  | _, _ => False
theorem ArgLe.rfl {s : SV} : ArgLe s s := fun _ _ _ h => h
theorem ArgLe.nil {E : Nat} : ArgLe (.v (.slice none 0 0)) (.fs .no E []) := fun cx w v h => by
  have h : RelC cx w (.v (.slice none 0 0)) [v] := h
  cases h with
  | v _ => exact RelC.fs0 Tg.ok_no
theorem ArgLe.fs {t : Tg} {E : Nat} {rows : List SV} : ArgLe (.fs t E rows) (.fs .no E rows) := fun cx w v h => by
  have h : RelC cx w (.fs t E rows) [v] := h
  cases h with
  | fs0 _ => exact RelC.fs0 Tg.ok_no
  | fs f a1 a2 a3 a4 a5 a6 a7 => exact RelC.fs f a1 a2 a3 Tg.ok_no a5 a6 a7
theorem RelVL.le {cx : Cx} {w : World} : ∀ {l l' : List SV} {vs : List Value}, ArgsLe l l' → RelVL cx w l vs → RelVL cx w l' vs
  | [], [], _, _, h => h
  | _ :: _, _ :: _, _, ⟨h1, h2⟩, .cons g1 g2 => .cons (h1 _ _ _ g1) (RelVL.le h2 g2)
  | [], _ :: _, _, h, _ => h.elim
  | _ :: _, [], _, h, _ => h.elim
theorem Con.le {P : Program} {f : FuncId} {args args' : List SV} {hp : List OB} {r : SV} {hp' : List OB} (h : Con P f args' hp r hp') (hl : ArgsLe args args') : Con P f args hp r hp' :=
  fun cx w vals hgl hm hv => h cx w vals hgl hm (hv.le hl)
theorem CallN.le {P : Program} {f : FuncId} {args args' : List SV} {hp : List OB} {K : SV → List OB → Prop} {KR : SV → Prop} {r : SV} {hp' : List OB} (h : Con P f args' hp r hp') (hl : ArgsLe args args') (k : K r hp') :
    CallN P f args hp K KR := CallN.mk (h.le hl) k
theorem CleanP.cell {r s : SV} (h : cl2 r = true) (g : cl s = true) : CleanP r [.cells s] :=
  ⟨h, fun ob ho => by rw [List.mem_singleton] at ho; subst ho; exact g⟩
theorem Bif.of {b c : Bool} {A B : Prop} (h : b = c) (k : Bif c A B) : Bif b A B := h ▸ k
/-! ### The model's own entries -/
/-! ### A nil slice in a box -/
/-! ### The same, of a nil slice within a struct in a box -/
/-- The second is the first, with nil taken for a slice of the array m without elements. -/
def NilTo (E m : Nat) (s s' : SV) : Prop := ∀ (cx : Cx) (w : World) (vs : List Value), cx.bl m = some .virt → RelC cx w s vs → RelC cx w s' vs
theorem NilTo.rfl {E m : Nat} {s : SV} : NilTo E m s s := fun _ _ _ _ h => h
theorem NilTo.nil {E m : Nat} : NilTo E m (.v (.slice none 0 0)) (.ov E m 0 0) := fun cx w vs hb h => by cases h; exact .ov0 hb
theorem NilTo.cons {E m : Nat} {s s' : SV} {cs cs' : List SV} (h : NilTo E m s s') (g : NilTo E m (.agg cs) (.agg cs')) : NilTo E m (.agg (s :: cs)) (.agg (s' :: cs')) := fun cx w vs hb hr => by
  cases hr with
  | cons a b => exact .cons (h cx w _ hb a) (g cx w _ hb b)
/-- Ahead of a loop: the owned blocks change their places. -/
theorem LoopN.turn {P : Program} {n : Sz} {c : Code} {e : List (Nat × SV)} {h : List OB} {K : Exit → List (Nat × SV) → List OB → Prop} (ks : List Nat) (ch : List (Nat × SV)) (h' : List OB)
    (H : keepK e ks fun E => turnK n.n0 e h (app ch E) h' (LoopN P n c (app ch E) h' K)) : LoopN P n c e h K := by
  obtain ⟨E, hE⟩ := keepK_sound H
  obtain ⟨hsub, hl⟩ := turnK_sound (n := n) hE
  rw [loopN_iff] at hl ⊢
  obtain ⟨x, e', h1, h2, h3⟩ := hl
  refine ⟨x, e', h1, h2, fun B cx a w Q hB hs hK => ?_⟩
  obtain ⟨cx1, hs1⟩ := hsub B cx a w hB hs
  exact h3 B cx1 a w Q hB hs1 hK
end Go.Fw

/- A result that is an owned slice, given up: the array goes among the shared ones. -/
namespace Go.Fw
/-- The owned slices of a value become shared ones: arrays from block m on. -/
inductive FzR (hp : List OB) (m : Nat) : SV → SV → Prop where
  | fz {E k off n : Nat} {x : Option Nat} {rows rs : List SV} (h1 : m ≤ k) (h2 : hp[k]? = some (.arr x E rows)) (h3 : off + n ≤ rows.length) (h4 : (rows.drop off).take n = rs) : FzR hp m (.ov E k off n) (.fs ⟨x.map (· - off), false⟩ E rs)
  | aggN : FzR hp m (.agg []) (.agg [])
  | aggC {s s' : SV} {cs cs' : List SV} (h : FzR hp m s s') (g : FzR hp m (.agg cs) (.agg cs')) : FzR hp m (.agg (s :: cs)) (.agg (s' :: cs'))
  | same {s : SV} : FzR hp m s s
theorem FzR.whole {hp : List OB} {m k E : Nat} {α : Type} {f : α → SV} {l : List α} (h1 : m ≤ k) (h2 : hp[k]? = some (.arr none E (lst f l))) : FzR hp m (.ov E k 0 l.length) (.fs .no E (lst f l)) :=
  .fz (x := none) h1 h2 (by simp [lst]) (by simp [lst, List.take_of_length_le])
theorem FzR.wholeC {hp : List OB} {m k E c : Nat} {α : Type} {f : α → SV} {l : List α} (h1 : m ≤ k) (h2 : hp[k]? = some (.arr (some c) E (lst f l))) : FzR hp m (.ov E k 0 l.length) (.fs ⟨some c, false⟩ E (lst f l)) :=
  .fz (x := some c) h1 h2 (by simp [lst]) (by simp [lst, List.take_of_length_le])
theorem FzR.rel {hp : List OB} {m : Nat} {s s' : SV} (h : FzR hp m s s') : ∀ {cx : Cx} {w : World} {vs : List Value} {kk : List Nat}, (∀ k, m ≤ k → k < hp.length → k ∈ kk) → Mem cx w (nthB hp) → RelC cx w s vs → RelC (cx.minus kk) w s' vs := by
  induction h with
  | fz h1 h2 h3 h4 =>
    rename_i E k off n x rows rs
    intro cx w vs kk hkk hm hr
    have hlt : k < hp.length := by
      rcases Nat.lt_or_ge k hp.length with h | h
      · exact h
      · rw [List.getElem?_eq_none h] at h2; cases h2
    have hK : frzOne hp m (.ov E k off n) fun s ks => s = .fs ⟨x.map (· - off), false⟩ E rs ∧ ks = [k] := by
      have e1 : Nat.ble m k = true := Nat.ble_eq ▸ h1
      have e2 : nthB hp k = some (.arr x E rows) := by rw [nthB_eq]; exact h2
      unfold frzOne
      dsimp only
      rw [e1, e2]
      dsimp only
      refine okT_iff.2 ⟨by simp, need_iff.2 ⟨h3, ?_⟩⟩
      rw [nm_eq]
      exact ⟨by rw [h4], rfl⟩
    obtain ⟨s2, ks, ⟨rfl, rfl⟩, _, _, _, g⟩ := frzOne_sound hK
    exact g cx w vs (nthB hp) kk (fun _ _ => rfl) (fun k' hk' => by rw [List.mem_singleton.1 hk']; exact hkk k h1 hlt) hm hr
  | aggN => intro cx w vs kk _ _ hr; cases hr; exact .nil
  | aggC _ _ ih1 ih2 =>
    intro cx w vs kk hkk hm hr
    cases hr with
    | cons hr1 hr2 => exact .cons (ih1 hkk hm hr1) (ih2 hkk hm hr2)
  | same => intro cx w vs kk _ _ hr; exact hr.mono (ext_minus _ _ _)
theorem FzR.rel1 {hp : List OB} {m : Nat} {s s' : SV} (h : FzR hp m s s') {cx : Cx} {w : World} {v : Value} {kk : List Nat} (hkk : ∀ k, m ≤ k → k < hp.length → k ∈ kk) (hm : Mem cx w (nthB hp)) (hr : RelV1 cx w s v) : RelV1 (cx.minus kk) w s' v := by
  cases h with
  | fz h1 h2 h3 h4 => exact (FzR.fz h1 h2 h3 h4).rel hkk hm hr
  | aggN => exact hr.mono (ext_minus _ _ _)
  | aggC h g =>
    obtain ⟨vs, e, hr⟩ := hr
    exact ⟨vs, e, (FzR.aggC h g).rel hkk hm hr⟩
  | same => exact hr.mono (ext_minus _ _ _)
/-- The same of a result. -/
inductive FzT (hp : List OB) (m : Nat) : List SV → List SV → Prop where
  | nil : FzT hp m [] []
  | cons {s s' : SV} {l l' : List SV} (h : FzR hp m s s') (g : FzT hp m l l') : FzT hp m (s :: l) (s' :: l')
inductive FzV (hp : List OB) (m : Nat) : SV → SV → Prop where
  | one {s s' : SV} (h : FzR hp m s s') (hn : ∀ l, s ≠ .tup l) : FzV hp m s s'
  | tup {l l' : List SV} (h : FzT hp m l l') : FzV hp m (.tup l) (.tup l')
theorem FzT.rel {hp : List OB} {m : Nat} {l l' : List SV} (h : FzT hp m l l') {cx : Cx} {w : World} {kk : List Nat} (hkk : ∀ k, m ≤ k → k < hp.length → k ∈ kk) (hm : Mem cx w (nthB hp)) : ∀ {vs : List Value}, RelVL cx w l vs → RelVL (cx.minus kk) w l' vs := by
  induction h with
  | nil => intro vs hr; cases hr; exact .nil
  | cons h _ ih =>
    intro vs hr
    cases hr with
    | cons h1 h2 => exact .cons (h.rel1 hkk hm h1) (ih h2)
theorem FzR.notup {hp : List OB} {m : Nat} {s s' : SV} (h : FzR hp m s s') (hn : ∀ l, s ≠ .tup l) : ∀ l, s' ≠ .tup l := by
  cases h with
  | same => exact hn
  | _ => intro l hl; cases hl
theorem relV_of1 {cx : Cx} {w : World} {s : SV} {v : Value} (hn : ∀ l, s ≠ .tup l) : RelV cx w s v ↔ RelV1 cx w s v := by
  cases s <;> first | exact Iff.rfl | exact absurd rfl (hn _)
theorem FzV.rel {hp : List OB} {m : Nat} {s s' : SV} (h : FzV hp m s s') {cx : Cx} {w : World} {v : Value} {kk : List Nat} (hkk : ∀ k, m ≤ k → k < hp.length → k ∈ kk) (hm : Mem cx w (nthB hp)) (hr : RelV cx w s v) : RelV (cx.minus kk) w s' v := by
  cases h with
  | one h hn =>
    rw [relV_of1 hn] at hr
    rw [relV_of1 (h.notup hn)]
    exact h.rel1 hkk hm hr
  | tup h =>
    obtain ⟨vs, e, hr⟩ := hr
    exact ⟨vs, e, h.rel hkk hm hr⟩
/-- The blocks from m on are given up. -/
theorem Con.fz {P : Program} {f : FuncId} {args : List SV} {hp : List OB} {r r' : SV} {hp' hp2 : List OB} (h : Con P f args hp r hp') (m : Nat) (hm : hp.length ≤ m) (hr : FzV hp' m r r') (hr2 : below m r' = true)
    (ha : ∀ k ob, m ≤ k → hp'[k]? = some ob → ∃ x E rows, ob = .arr x E rows) (he : hp'.take m = hp2) (hb : hp2.all (belowB m) = true) : Con P f args hp r' hp2 := by
  intro cx w vals hgl hmm hv
  refine (h cx w vals hgl hmm hv).mono fun e w' ⟨cx1, v, h1, h2, h3, h4⟩ => ?_
  let kk := (List.range hp'.length).filter (fun k => decide (m ≤ k))
  have hkk : ∀ k, m ≤ k → k < hp'.length → k ∈ kk := fun k h1 h2 => List.mem_filter.2 ⟨List.mem_range.2 h2, by simpa using h1⟩
  have hkk2 : ∀ k ∈ kk, m ≤ k ∧ k < hp'.length := fun k hk => by
    obtain ⟨h1, h2⟩ := List.mem_filter.1 hk
    exact ⟨by simpa using h2, List.mem_range.1 h1⟩
  have hg : ∀ k ∈ kk, ∃ x E rows, nthB hp' k = some (.arr x E rows) := fun k hk => by
    obtain ⟨h1, h2⟩ := hkk2 k hk
    obtain ⟨x, E, rows, e⟩ := ha k _ h1 (List.getElem?_eq_getElem h2)
    exact ⟨x, E, rows, by rw [nthB_eq, List.getElem?_eq_getElem h2, e]⟩
  have hr3 := hr.rel hkk h3 h2
  have hm3 := mem_minus h3 (fun k hk => by obtain ⟨x, E, rows, h⟩ := hg k hk; exact ⟨_, h, by simp⟩)
  -- the blocks below m are as they were
  have low : ∀ k, k < m → updHp (nthB hp') (goneL kk) k = nthB hp' k := fun k hk => by
    rw [goneL_get, if_neg]
    exact fun hh => by have := (hkk2 k hh).1; omega
  have hm4 : Mem (cx1.minus kk) w' (nthB (hp2 ++ List.replicate (hp'.length - m) OB.gone)) := by
    have e : nthB (hp2 ++ List.replicate (hp'.length - m) OB.gone) = updHp (nthB hp') (goneL kk) := by
      funext k
      have hl2 : hp2.length = min m hp'.length := by rw [← he]; simp
      rw [nthB_eq, goneL_get]
      by_cases hk : k ∈ kk
      · obtain ⟨g1, g2⟩ := hkk2 k hk
        rw [if_pos hk, List.getElem?_append_right (by omega), List.getElem?_replicate, if_pos (by omega)]
      · rw [if_neg hk, nthB_eq]
        by_cases hlt : k < hp'.length
        · have hkm : k < m := Nat.lt_of_not_le fun hh => hk (hkk k hh hlt)
          rw [List.getElem?_append_left (by omega), ← he, List.getElem?_take, if_pos hkm]
        · rw [List.getElem?_eq_none (by simp; omega), List.getElem?_eq_none (by omega)]
    rw [e]; exact hm3
  have hup := mem_upto (m := m) hm4 (fun ob ho => by
    have : (hp2 ++ List.replicate (hp'.length - m) OB.gone).take m = hp2 ++ List.replicate (min (hp'.length - m) (m - hp2.length)) OB.gone := by
      have hl2 : hp2.length ≤ m := by rw [← he]; simp; omega
      rw [List.take_append, List.take_of_length_le hl2, List.take_replicate, Nat.min_comm]
    rw [this] at ho
    rcases List.mem_append.1 ho with h | h
    · exact List.all_eq_true.1 hb ob h
    · rw [(List.mem_replicate.1 h).2]; rfl)
  have e3 : nthB ((hp2 ++ List.replicate (hp'.length - m) OB.gone).take m) = nthB hp2 := by
    have hl2 : hp2.length = min m hp'.length := by rw [← he]; simp
    have : (hp2 ++ List.replicate (hp'.length - m) OB.gone).take m = hp2 := by
      rw [List.take_append, List.take_of_length_le (by omega), List.take_replicate]
      have : min (m - hp2.length) (hp'.length - m) = 0 := by omega
      rw [this]; simp
    rw [this]
  rw [e3] at hup
  refine ⟨(cx1.minus kk).upto m, v, h1, hr3.upto hr2, hup, ?_⟩
  have keeplt : ∀ k, isCells (nthB hp) k → k < m := fun k ⟨s, hk⟩ => by
    rw [nthB_eq] at hk
    have := (List.getElem?_eq_some_iff.1 hk).1
    omega
  refine fr_upto ⟨h4.le, h4.same, fun b hb => h4.own b hb.1, fun b hb hO => ?_, h4.blk, h4.keep, h4.wk⟩ keeplt
  rcases h4.old b hb hO with h0 | h0
  · by_cases hex : ∃ k ∈ kk, ∃ C, cx1.bl k = some (.at b C)
    · obtain ⟨k, hk, C, hc⟩ := hex
      rcases h4.blk k b C hc with ⟨k', g1, g2⟩ | g1
      · rcases g1 with rfl | g1
        · have := (hkk2 k' hk).1
          exact .inr ⟨k', C, fun hh => by have := keeplt k' hh; omega, g2⟩
        · exact .inr ⟨k', C, g1, g2⟩
      · omega
    · exact .inl ⟨h0, fun k hk C hc => hex ⟨k, hk, C, hc⟩⟩
  · exact .inr h0
/-! ### Less is said -/
inductive Wk : SV → SV → Prop where
  | rfl {s : SV} : Wk s s
  | nilS {E : Nat} : Wk (.v (.slice none 0 0)) (.fs .no E [])
  | fs {t : Tg} {E : Nat} {rows rows' : List SV} (h : rows.length = rows'.length) (g : ∀ (i : Nat) s s', rows[i]? = some s → rows'[i]? = some s' → Wk s s') : Wk (.fs t E rows) (.fs .no E rows')
  | cons {s s' : SV} {cs cs' : List SV} (h : Wk s s') (g : Wk (.agg cs) (.agg cs')) : Wk (.agg (s :: cs)) (.agg (s' :: cs'))
theorem Wk.rel {s s' : SV} (h : Wk s s') : ∀ {cx : Cx} {w : World} {vs : List Value}, RelC cx w s vs → RelC cx w s' vs := by
  induction h with
  | rfl => intro cx w vs hr; exact hr
  | nilS =>
    intro cx w vs hr
    cases hr
    exact .fs0 Tg.ok_no
  | fs h g ih =>
    intro cx w vs hr
    rename_i t E rows rows'
    cases hr with
    | fs0 _ =>
      have : rows' = [] := List.length_eq_zero_iff.1 h.symm
      subst this
      exact .fs0 Tg.ok_no
    | fs f hb hO hc ht hr hl hx =>
      rw [h]
      refine .fs f hb hO (by omega) Tg.ok_no (fun i s' hs' => ?_) (fun i hi => hl i (by omega)) (fun i hi => hx i (by omega))
      have hi : i < rows.length := by rw [h]; exact (List.getElem?_eq_some_iff.1 hs').1
      exact ih i _ s' (List.getElem?_eq_getElem hi) hs' (hr i _ (List.getElem?_eq_getElem hi))
  | cons _ _ ih1 ih2 =>
    intro cx w vs hr
    cases hr with
    | cons h1 h2 => exact .cons (ih1 h1) (ih2 h2)
theorem Wk.rel1 {s s' : SV} (h : Wk s s') {cx : Cx} {w : World} {v : Value} (hr : RelV1 cx w s v) : RelV1 cx w s' v := by
  cases h with
  | rfl => exact hr
  | nilS => exact Wk.nilS.rel hr
  | fs h g => exact (Wk.fs h g).rel hr
  | cons h g =>
    obtain ⟨vs, e, hr⟩ := hr
    exact ⟨vs, e, (Wk.cons h g).rel hr⟩
theorem Wk.lst {α β : Type} {f : α → SV} {g : β → SV} {t : Tg} {E : Nat} {l : List α} {m : List β} (hl : l.length = m.length) (h : ∀ (i : Nat) a b, l[i]? = some a → m[i]? = some b → Wk (f a) (g b)) : Wk (.fs t E (Fw.lst f l)) (.fs .no E (Fw.lst g m)) := by
  refine .fs (by simpa [Fw.lst] using hl) fun i s s' h1 h2 => ?_
  simp only [Fw.lst, List.getElem?_map, Option.map_eq_some_iff] at h1 h2
  obtain ⟨a, ha, rfl⟩ := h1
  obtain ⟨b, hb, rfl⟩ := h2
  exact h i a b ha hb
theorem Wk.map {α β : Type} {f : α → SV} {g : β → SV} {t : Tg} {E : Nat} {l : List α} {q : α → β} (h : ∀ a ∈ l, Wk (f a) (g (q a))) : Wk (.fs t E (Fw.lst f l)) (.fs .no E (Fw.lst g (l.map q))) :=
  .lst (by simp) fun i a b h1 h2 => by
    simp only [List.getElem?_map, h1, Option.map_some, Option.some.injEq] at h2
    subst h2
    exact h a (List.mem_of_getElem? h1)
theorem Wk.tag {t : Tg} {E : Nat} {rows : List SV} : Wk (.fs t E rows) (.fs .no E rows) := .fs (Eq.refl _) fun i s s' h1 h2 => by rw [h1] at h2; cases h2; exact .rfl
inductive WkT : List SV → List SV → Prop where
  | nil : WkT [] []
  | cons {s s' : SV} {l l' : List SV} (h : Wk s s') (g : WkT l l') : WkT (s :: l) (s' :: l')
inductive WkV : SV → SV → Prop where
  | one {s s' : SV} (h : Wk s s') (hn : ∀ l, s ≠ .tup l) : WkV s s'
  | tup {l l' : List SV} (h : WkT l l') : WkV (.tup l) (.tup l')
theorem WkT.rel {l l' : List SV} (h : WkT l l') : ∀ {cx : Cx} {w : World} {vs : List Value}, RelVL cx w l vs → RelVL cx w l' vs := by
  induction h with
  | nil => intro cx w vs hr; exact hr
  | cons h _ ih =>
    intro cx w vs hr
    cases hr with
    | cons h1 h2 => exact .cons (h.rel1 h1) (ih h2)
theorem WkV.rel {s s' : SV} (h : WkV s s') {cx : Cx} {w : World} {v : Value} (hr : RelV cx w s v) : RelV cx w s' v := by
  cases h with
  | one h hn =>
    have hn' : ∀ l, s' ≠ .tup l := by
      cases h with
      | rfl => exact hn
      | _ => intro l hl; cases hl
    rw [relV_of1 hn] at hr
    rw [relV_of1 hn']
    exact h.rel1 hr
  | tup h =>
    obtain ⟨vs, e, hr⟩ := hr
    exact ⟨vs, e, h.rel hr⟩
theorem Con.wk {P : Program} {f : FuncId} {args : List SV} {hp : List OB} {r r' : SV} {hp' : List OB} (h : Con P f args hp r hp') (hr : WkV r r') : Con P f args hp r' hp' := by
  intro cx w vals hgl hmm hv
  exact (h cx w vals hgl hmm hv).mono fun e w' ⟨cx1, v, h1, h2, h3, h4⟩ => ⟨cx1, v, h1, hr.rel h2, h3, h4⟩
inductive WkB : OB → OB → Prop where
  | rfl {ob : OB} : WkB ob ob
  | cells {s s' : SV} (h : Wk s s') : WkB (.cells s) (.cells s')
  | arr {x : Option Nat} {E : Nat} {rows rows' : List SV} (h : rows.length = rows'.length) (g : ∀ (i : Nat) s s', rows[i]? = some s → rows'[i]? = some s' → Wk s s') : WkB (.arr x E rows) (.arr x E rows')
theorem WkB.live {ob ob' : OB} (h : WkB ob ob') {cx : Cx} {w : World} {k : Nat} (hl : Live cx w k ob) : Live cx w k ob' := by
  cases h with
  | rfl => exact hl
  | cells h =>
    rcases hl with ⟨b, C, h1, h2, vs, T, h3, h4⟩ | ⟨_, E, he⟩
    · exact .inl ⟨b, C, h1, h2, vs, T, h3, h.rel h4⟩
    · cases he
  | arr h g =>
    rename_i x E rows rows'
    rcases hl with ⟨b, C, h1, h2, vs, T, h3, h4, h5, h6⟩ | ⟨h1, E', he⟩
    · refine .inl ⟨b, C, h1, h2, vs, T, h3, h4, ⟨by rw [← h]; exact h5.le, h5.cap, h5.ones⟩, fun i s' hs' => ?_⟩
      have hi : i < rows.length := by rw [h]; exact (List.getElem?_eq_some_iff.1 hs').1
      exact (g i _ s' (List.getElem?_eq_getElem hi) hs').rel (h6 i _ (List.getElem?_eq_getElem hi))
    · have : rows = [] := by injection he
      subst this
      have : rows' = [] := List.length_eq_zero_iff.1 h.symm
      subst this
      exact .inr ⟨h1, E', he⟩
theorem WkB.gone {ob ob' : OB} (h : WkB ob ob') : ob' ≠ .gone ↔ ob ≠ .gone := by
  cases h <;> simp
inductive WkH : List OB → List OB → Prop where
  | nil : WkH [] []
  | cons {ob ob' : OB} {h h' : List OB} (g : WkB ob ob') (r : WkH h h') : WkH (ob :: h) (ob' :: h')
theorem WkH.refl : ∀ {h : List OB}, WkH h h
  | [] => .nil
  | _ :: _ => .cons .rfl .refl
theorem WkH.get {h h' : List OB} (g : WkH h h') : ∀ (k : Nat) ob', h'[k]? = some ob' → ∃ ob, h[k]? = some ob ∧ WkB ob ob' := by
  induction g with
  | nil => intro k ob' hk; simp at hk
  | cons g _ ih =>
    intro k ob' hk
    cases k with
    | zero => simp at hk; subst hk; exact ⟨_, rfl, g⟩
    | succ k => exact ih k ob' (by simpa using hk)
theorem WkH.len {h h' : List OB} (g : WkH h h') : h'.length = h.length := by
  induction g with
  | nil => rfl
  | cons _ _ ih => simp [ih]
theorem WkH.mem {h h' : List OB} (g : WkH h h') {cx : Cx} {w : World} (hm : Mem cx w (nthB h)) : Mem cx w (nthB h') := by
  refine ⟨fun k ob' hk => ?_, fun j j' o1 o2 b C C' h1 h2 n1 n2 b1 b2 => ?_, fun k hk => ?_, hm.lt⟩
  · rw [nthB_eq] at hk
    obtain ⟨ob, h1, h2⟩ := g.get k ob' hk
    exact h2.live (hm.live k ob (by rw [nthB_eq]; exact h1))
  · rw [nthB_eq] at h1 h2
    obtain ⟨p1, q1, r1⟩ := g.get _ _ h1
    obtain ⟨p2, q2, r2⟩ := g.get _ _ h2
    exact hm.inj j j' p1 p2 b C C' (by rw [nthB_eq]; exact q1) (by rw [nthB_eq]; exact q2) (r1.gone.1 n1) (r2.gone.1 n2) b1 b2
  · refine hm.dom k ?_
    rw [nthB_eq] at hk ⊢
    have := List.getElem?_eq_none_iff.1 hk
    rw [g.len] at this
    exact List.getElem?_eq_none this
/-- Ahead of a loop less is said of the blocks. -/
theorem LoopN.wk {P : Program} {n : Sz} {c : Code} {e : List (Nat × SV)} {h : List OB} {K : Exit → List (Nat × SV) → List OB → Prop} (h' : List OB) (g : WkH h h') (hk : LoopN P n c e h' K) : LoopN P n c e h K := by
  rw [loopN_iff] at hk ⊢
  obtain ⟨x, e', h2, h3, h4⟩ := hk
  refine ⟨x, e', h2, h3, fun B cx a w Q hB hs hK => h4 B cx a w Q hB ⟨hs.df, hs.sz, hs.sl, g.mem hs.mem, hs.fr⟩ hK⟩
end Go.Fw

/- Contracts in a common form: what comes in and what goes out are shared slices. Loops that are unrolled. -/
namespace Go.Fw
theorem Wk.arg {s s' : SV} (h : Wk s s') : ArgLe s s' := fun _ _ _ hr => h.rel1 hr
inductive WkL : List SV → List SV → Prop where
  | nil : WkL [] []
  | cons {s s' : SV} {l l' : List SV} (h : Wk s s') (g : WkL l l') : WkL (s :: l) (s' :: l')
theorem WkL.len {l l' : List SV} (h : WkL l l') : l.length = l'.length := by induction h <;> simp_all
theorem WkL.get {l l' : List SV} (h : WkL l l') : ∀ (i : Nat) s s', l[i]? = some s → l'[i]? = some s' → Wk s s' := by
  induction h with
  | nil => intro i s s' h; simp at h
  | cons h _ ih =>
    intro i s s' h1 h2
    cases i with
    | zero => simp at h1 h2; subst h1 h2; exact h
    | succ i => exact ih i s s' (by simpa using h1) (by simpa using h2)
theorem Wk.lits {t : Tg} {E : Nat} {l l' : List SV} (h : WkL l l') : Wk (.fs t E l) (.fs .no E l') := .fs h.len h.get
/-- An owned slice becomes a shared one; less is said. -/
inductive ClR (hp : List OB) : SV → SV → Prop where
  | ov {E k off n : Nat} {x : Option Nat} {rows rs : List SV} {s : SV} (h2 : hp[k]? = some (.arr x E rows)) (h3 : off + n ≤ rows.length) (h4 : (rows.drop off).take n = rs) (w : Wk (.fs ⟨x.map (· - off), false⟩ E rs) s) : ClR hp (.ov E k off n) s
  | wk {s s' : SV} (b : below 0 s = true) (w : Wk s s') : ClR hp s s'
  | aggN : ClR hp (.agg []) (.agg [])
  | aggC {s s' : SV} {cs cs' : List SV} (h : ClR hp s s') (g : ClR hp (.agg cs) (.agg cs')) : ClR hp (.agg (s :: cs)) (.agg (s' :: cs'))
inductive ClT (hp : List OB) : List SV → List SV → Prop where
  | nil : ClT hp [] []
  | cons {s s' : SV} {l l' : List SV} (h : ClR hp s s') (g : ClT hp l l') : ClT hp (s :: l) (s' :: l')
inductive ClV (hp : List OB) : SV → SV → Prop where
  | one {s s' : SV} (h : ClR hp s s') (hn : ∀ l, s ≠ .tup l) : ClV hp s s'
  | tup {l l' : List SV} (h : ClT hp l l') : ClV hp (.tup l) (.tup l')
theorem ClR.all {hp : List OB} {E k n : Nat} {x : Option Nat} {α : Type} {f : α → SV} {l : List α} (h2 : hp[k]? = some (.arr x E (Fw.lst f l))) (h3 : n = l.length) : ClR hp (.ov E k 0 n) (.fs .no E (Fw.lst f l)) :=
  ClR.ov h2 (by subst h3; simp [Fw.lst]) (by subst h3; simp [Fw.lst, List.take_of_length_le]) Wk.tag
theorem clR_two {hp : List OB} {s s' : SV} (h : ClR hp s s') : ∃ s1, FzR hp 0 s s1 ∧ below 0 s1 = true ∧ Wk s1 s' := by
  induction h with
  | ov h2 h3 h4 w => exact ⟨_, .fz (Nat.zero_le _) h2 h3 h4, rfl, w⟩
  | wk b w => exact ⟨_, .same, b, w⟩
  | aggN => exact ⟨_, .aggN, rfl, .rfl⟩
  | @aggC s s' cs cs' h g ih1 ih2 =>
    obtain ⟨s1, a1, a2, a3⟩ := ih1
    obtain ⟨s2, b1, b2, b3⟩ := ih2
    obtain ⟨cs2, rfl⟩ : ∃ l, s2 = .agg l := by
      cases b1 with
      | aggN => exact ⟨_, rfl⟩
      | aggC _ _ => exact ⟨_, rfl⟩
      | same => exact ⟨_, rfl⟩
    refine ⟨_, .aggC a1 b1, ?_, .cons a3 b3⟩
    simp only [below, belows] at b2 ⊢
    rw [a2]; exact b2
theorem clT_two {hp : List OB} {l l' : List SV} (h : ClT hp l l') : ∃ l1, FzT hp 0 l l1 ∧ belows 0 l1 = true ∧ WkT l1 l' := by
  induction h with
  | nil => exact ⟨_, .nil, rfl, .nil⟩
  | cons h _ ih =>
    obtain ⟨s1, a1, a2, a3⟩ := clR_two h
    obtain ⟨l1, b1, b2, b3⟩ := ih
    exact ⟨_, .cons a1 b1, by simp only [belows]; rw [a2]; exact b2, .cons a3 b3⟩
def allArr : List OB → Bool
  | [] => true
  | .arr .. :: r => allArr r
  | _ :: _ => false
theorem allArr_get : ∀ {h : List OB} {k : Nat} {ob : OB}, allArr h = true → h[k]? = some ob → ∃ x E rows, ob = .arr x E rows
  | .arr x E rows :: r, 0, ob, _, hk => by simp at hk; exact ⟨x, E, rows, hk.symm⟩
  | .arr x E rows :: r, k + 1, ob, ha, hk => allArr_get (h := r) (k := k) ha (by simpa using hk)
  | [], k, ob, _, hk => by simp at hk
  | .cells _ :: _, _, _, ha, _ => by simp [allArr] at ha
  | .gone :: _, _, _, ha, _ => by simp [allArr] at ha
/-- What a function makes goes among the shared things. -/
theorem Con.cl {P : Program} {f : FuncId} {args : List SV} {r r' : SV} {hp' : List OB} (h : Con P f args [] r hp') (g : ClV hp' r r') (ha : allArr hp' = true) : Con P f args [] r' [] := by
  have key : ∃ r1, FzV hp' 0 r r1 ∧ below 0 r1 = true ∧ WkV r1 r' := by
    cases g with
    | one q hn =>
      obtain ⟨s1, a1, a2, a3⟩ := clR_two q
      exact ⟨_, .one a1 hn, a2, .one a3 (a1.notup hn)⟩
    | tup q =>
      obtain ⟨s1, a1, a2, a3⟩ := clT_two q
      exact ⟨_, .tup a1, a2, .tup a3⟩
  obtain ⟨r1, a1, a2, a3⟩ := key
  exact (Con.fz h 0 (Nat.le_refl _) a1 a2 (fun k ob _ hk => allArr_get ha hk) (by simp) rfl).wk a3

/-! ### Unrolled -/
section
variable {P : Program} {TT : Nat → TI} {n : Sz}
/-- So many rounds at most. -/
def unrK (P : Program) (TT : Nat → TI) (T0 : Nat) (n : Sz) (c : Code) (m : Nat) : List (Nat × SV) → List OB → KX → Prop :=
  @Nat.rec (fun _ => List (Nat × SV) → List OB → KX → Prop) (fun _ _ _ => False)
    (fun _ R e h K => exec P TT T0 n c e h fun x e' h' => match x with | .normal => R e' h' K | x => K x e' h') m
theorem LoopN.unr (m : Nat) (hT : TTok P TT) (hmix : P.follows .mixedOrders = true) {T0 : Nat} {c : Code} {e : List (Nat × SV)} {h : List OB} {K : KX} (H : unrK P TT T0 n c m e h K) : LoopN P n c e h K := by
  have key : ∀ (m : Nat) (e : List (Nat × SV)) (h : List OB), unrK P TT T0 n c m e h K → ∃ x e' h', K x e' h' ∧ ∀ (B : Base) (cx : Cx) (a : Act) (w : World) (Q : Exit → Act → World → Prop), B.n = n → Sat B cx e h a w →
      (∀ cx' a' w', Sat B cx' e' h' a' w' → Q x a' w') → Code.rounds P c Q m a w := by
    intro m
    induction m with
    | zero => intro e h hk; exact hk.elim
    | succ m ih =>
      intro e h hk
      obtain ⟨x1, e1, h1, hk1, hw1⟩ := exec_sound hT hmix c (show exec P TT T0 n c e h _ from hk)
      cases x1
      case normal =>
        obtain ⟨x2, e2, h2, hk2, hw2⟩ := ih e1 h1 hk1
        exact ⟨x2, e2, h2, hk2, fun B cx a w Q hB hs hK => hw1 B cx a w _ hB hs fun cx' a' w' hs' => hw2 B cx' a' w' Q hB hs' hK⟩
      all_goals exact ⟨_, _, _, hk1, fun B cx a w Q hB hs hK => hw1 B cx a w _ hB hs fun cx' a' w' hs' => hK _ _ _ hs'⟩
  obtain ⟨x, e', h', hk, hw⟩ := key m e h H
  rw [loopN_iff]
  exact ⟨x, e', h', hk, fun B cx a w Q hB hs hK => wp_loop_rounds m (hw B cx a w Q hB hs hK)⟩
end
end Go.Fw
