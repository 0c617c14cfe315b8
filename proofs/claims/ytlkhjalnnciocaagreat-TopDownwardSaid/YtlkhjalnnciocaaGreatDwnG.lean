/- TopDownward: the plain invariant. -/
import Derived.Test.YtlkhjalnnciocaaGreatDwnF
namespace Go.Fw
set_option maxRecDepth 4000
open Go.Proofs
set_option maxHeartbeats 8000000
def euiD (c : Nat) : Nat := 144115188075855873 + c
/-- The way up from i. -/
inductive Way (P : List Int) (i : Nat) : Nat → Prop where
  | here : Way P i i
  | up {c : Nat} (h : Way P i c) (hc : c ≠ 0) : Way P i (gt P c).toNat
/-- The parents: a tree, ordered by R. -/
structure Tree (n : Nat) (P : List Int) (R : Nat → Nat) : Prop where
  len : P.length = n
  rng : ∀ i, i < n → 0 ≤ gt P i ∧ gt P i < n
  up : ∀ i, i ≠ 0 → i < n → R (gt P i).toNat < R i
  top : ∀ i, i < n → R i + 1 ≤ n
  inj : ∀ i j, i < n → j < n → R i = R j → i = j
theorem Tree.way {n : Nat} {P : List Int} {R : Nat → Nat} (t : Tree n P R) {i : Nat} (hi : i < n) {c : Nat} (h : Way P i c) : c < n := by
  induction h with
  | here => exact hi
  | up h hc ih => have := t.rng _ ih; omega
/-- A leaf gets another parent. -/
theorem Tree.move {n : Nat} {P : List Int} {R : Nat → Nat} (t : Tree n P R) {x y : Nat} (hx : x < n) (hy : y < n) (hxy : y ≠ x) (leaf : ∀ i, i ≠ 0 → i < n → gt P i ≠ (x : Int)) :
    Tree n (P.set x (y : Int)) (fun j => if j = x then n - 1 else if R x < R j then R j - 1 else R j) := by
  have hl := t.len
  refine ⟨by rw [List.length_set]; exact hl, fun i hi => ?_, fun i h0 hi => ?_, fun i hi => ?_, fun i j hi hj h => ?_⟩
  · rw [gt_set (by omega)]
    split
    · omega
    · exact t.rng i hi
  · rw [gt_set (by omega)]
    have hR : ∀ j, j < n → j ≠ x → R j ≠ R x := fun j hj g e => g (t.inj j x hj hx e)
    by_cases g : i = x
    · rw [if_pos g, if_pos g, Int.toNat_natCast, if_neg hxy]
      have h1 := t.top y hy
      have h2 := t.top x hx
      have h3 := hR y hy hxy
      split <;> omega
    · rw [if_neg g, if_neg g]
      have hp := t.rng i hi
      have h1 := t.up i h0 hi
      have h2 : (gt P i).toNat ≠ x := fun e => leaf i h0 hi (by omega)
      rw [if_neg h2]
      have h3 := hR _ (by omega : (gt P i).toNat < n) h2
      have h4 := hR i hi g
      split <;> split <;> omega
  · have h1 := t.top i hi
    have h2 := t.top x hx
    split
    · omega
    · split <;> omega
  · have hR : ∀ j, j < n → j ≠ x → R j ≠ R x := fun j hj g e => g (t.inj j x hj hx e)
    have h1 := t.top i hi
    have h2 := t.top j hj
    have h3 := t.top x hx
    by_cases gi : i = x
    · by_cases gj : j = x
      · omega
      · rw [if_pos gi, if_neg gj] at h
        have := hR j hj gj
        split at h <;> omega
    · by_cases gj : j = x
      · rw [if_neg gi, if_pos gj] at h
        have := hR i hi gi
        split at h <;> omega
      · rw [if_neg gi, if_neg gj] at h
        have e1 := hR i hi gi
        have e2 := hR j hj gj
        refine t.inj i j hi hj ?_
        split at h <;> split at h <;> omega
theorem Way.head {P : List Int} {c d : Nat} (h : Way P c d) : d = c ∨ (c ≠ 0 ∧ Way P (gt P c).toNat d) := by
  induction h with
  | here => exact .inl rfl
  | up h hc ih =>
    rcases ih with rfl | ⟨h1, h2⟩
    · exact .inr ⟨hc, .here⟩
    · exact .inr ⟨h1, .up h2 hc⟩
theorem Way.zero {P : List Int} {d : Nat} (h : Way P 0 d) : d = 0 := by
  rcases h.head with h | h
  · exact h
  · exact absurd rfl h.1
/-- What holds between two events (but for the ways of ex). -/
structure Dw (n e ex : Nat) (P : List Int) (R : Nat → Nat) (S : List UInt8) (H : List Bool) (T : List (List Ro)) : Prop where
  t : Tree n P R
  sl : S.length = n
  hl : H.length = n
  tl : T.length = n
  tb : ∀ u, u < n → Tb (gt T u)
  b : ∀ u, u < n → ∀ r ∈ gt T u, r.i < n ∧ gt H r.i = true ∧ r.seq ≤ 255 ∧ (∃ k, k ≤ e ∧ (gt S r.i).toNat = incN r.seq k) ∧ 500 ≤ r.exp ∧ r.exp ≤ 1000
  a : ∀ i, i < n → i ≠ ex → gt H i = true → ∀ c, Way P i c → c ≠ 0 → ∃ r ∈ gt T (gt P c).toNat, r.i = i ∧ r.via = euiD c ∧ r.seq = (gt S i).toNat
/-- On the way up from x: T were the tables, T' they are; c is the child. -/
structure Up (n x s : Nat) (P : List Int) (R : Nat → Nat) (T T' : List (List Ro)) (c j : Nat) : Prop where
  way : Way P x c
  c0 : c ≠ 0
  jb : j + R c + 1 ≤ n
  tl : T'.length = n
  tb : ∀ u, u < n → Tb (gt T' u)
  un : ∀ u, u < n → R u < R c → gt T' u = gt T u
  nw : ∀ d, Way P x d → d ≠ 0 → (R c ≤ R (gt P d).toNat ∧ ∃ r ∈ gt T' (gt P d).toNat, r.i = x ∧ r.via = euiD d ∧ r.seq = s) ∨ Way P c d
  old : ∀ u, u < n → ∀ r : Ro, r.i ≠ x → (r ∈ gt T' u ↔ r ∈ gt T u)
  mem : ∀ u, u < n → ∀ r ∈ gt T' u, r.i = x → r ∈ gt T u ∨ (r.seq = s ∧ 500 ≤ r.exp ∧ r.exp ≤ 1000)
/-- The tables after one acceptance. -/
def stepT (P : List Int) (T : List (List Ro)) (c : Nat) (r : Ro) : List (List Ro) := T.set (gt P c).toNat (insR (gt T (gt P c).toNat) r)
theorem Up.step {n x s e : Nat} {P : List Int} {R : Nat → Nat} {T T' : List (List Ro)} {c j : Nat} (t : Tree n P R) (hx : x < 7) (hxn : x < n) (he : e ≤ 100) (h : Up n x s P R T T' c j) :
    let r : Ro := ⟨x, euiD c, s, e + 500⟩
    (∀ u, u < n → Tb (gt (stepT P T' c r) u)) ∧ (stepT P T' c r).length = n ∧
    (∀ u, u < n → R u < R (gt P c).toNat → gt (stepT P T' c r) u = gt T u) ∧
    (∀ d, Way P x d → d ≠ 0 → (R (gt P c).toNat ≤ R (gt P d).toNat ∧ ∃ y ∈ gt (stepT P T' c r) (gt P d).toNat, y.i = x ∧ y.via = euiD d ∧ y.seq = s) ∨ Way P (gt P c).toNat d) ∧
    (∀ u, u < n → ∀ y : Ro, y.i ≠ x → (y ∈ gt (stepT P T' c r) u ↔ y ∈ gt T u)) ∧
    (∀ u, u < n → ∀ y ∈ gt (stepT P T' c r) u, y.i = x → y ∈ gt T u ∨ (y.seq = s ∧ 500 ≤ y.exp ∧ y.exp ≤ 1000)) := by
  intro r
  have hcn := t.way hxn h.way
  have hp := t.rng c hcn
  have hu : (gt P c).toNat < n := by omega
  have hR := t.up c h.c0 hcn
  have tl := h.tl
  have hg : ∀ u, gt (stepT P T' c r) u = if u = (gt P c).toNat then insR (gt T' (gt P c).toNat) r else gt T' u := fun u => gt_set (by omega)
  have tu := h.tb _ hu
  refine ⟨fun u hn => ?_, by rw [stepT, List.length_set]; exact tl, fun u hn hlt => ?_, fun d hd h0 => ?_, fun u hn y hy => ?_, fun u hn y hm hy => ?_⟩
  · rw [hg]
    split
    · exact tu.ins ⟨hx, by show 144115188075855873 + c ≠ 0; omega, by show e + 500 ≤ _; omega⟩
    · exact h.tb u hn
  · rw [hg, if_neg (fun g => by subst g; omega)]
    exact h.un u hn (by omega)
  · rcases h.nw d hd h0 with ⟨h1, y, h2, h3⟩ | h1
    · refine .inl ⟨by omega, y, ?_, h3⟩
      rw [hg, if_neg (fun g => by rw [g] at h1; omega)]
      exact h2
    · rcases h1.head with e1 | ⟨_, h1⟩
      · rw [e1]
        refine .inl ⟨Nat.le_refl _, r, ?_, rfl, rfl, rfl⟩
        rw [hg, if_pos rfl]
        exact (mem_insR tu).2 (.inl rfl)
      · exact .inr h1
  · rw [hg]
    split
    · rename_i g
      subst g
      rw [mem_insR tu, ← h.old _ hn y hy]
      constructor
      · rintro (rfl | ⟨g, _⟩)
        · exact absurd rfl hy
        · exact g
      · exact fun g => .inr ⟨g, hy⟩
    · exact h.old u hn y hy
  · rw [hg] at hm
    split at hm
    · rename_i g
      subst g
      rcases (mem_insR tu).1 hm with rfl | ⟨g, g2⟩
      · exact .inr ⟨rfl, by show 500 ≤ e + 500; omega, by show e + 500 ≤ 1000; omega⟩
      · exact h.mem _ hn y g hy
    · exact h.mem u hn y hm hy
/-- What is known at the next node up is older. -/
theorem Up.oldR {n x e : Nat} {P : List Int} {R : Nat → Nat} {S : List UInt8} {H : List Bool} {T T' : List (List Ro)} {c j : Nat} (w : Dw n e x P R S H T) (hxn : x < n) (he : e ≤ 13) (h : Up n x (incC (gt S x).toNat) P R T T' c j) :
    OldR (gt T' (gt P c).toNat) x (incC (gt S x).toNat) ∧ ∀ r ∈ gt T' (gt P c).toNat, e < r.exp := by
  have hcn := w.t.way hxn h.way
  have hp := w.t.rng c hcn
  have hu : (gt P c).toNat < n := by omega
  have hR := w.t.up c h.c0 hcn
  rw [h.un _ hu hR]
  refine ⟨fun hf => ?_, fun r hr => ?_⟩
  · obtain ⟨h1, h2⟩ := fnR_mem hf
    obtain ⟨b1, b2, b3, ⟨k, hk, b4⟩, _, _⟩ := w.b _ hu _ h1
    rw [h2] at b4
    have := inc_old ⟨_, Nat.lt_succ_of_le b3⟩ ⟨k, by omega⟩
    rw [b4]
    exact ⟨this.1, this.2.1, b3⟩
  · have := w.b _ hu r hr
    omega
/-- All are accepted: what holds after the event. -/
theorem Up.done {n x e : Nat} {P : List Int} {R : Nat → Nat} {S : List UInt8} {H : List Bool} {T T2 : List (List Ro)} (w : Dw n e x P R S H T) (hxn : x < n)
    (tl : T2.length = n) (tb : ∀ u, u < n → Tb (gt T2 u))
    (nw : ∀ d, Way P x d → d ≠ 0 → ∃ y ∈ gt T2 (gt P d).toNat, y.i = x ∧ y.via = euiD d ∧ y.seq = incC (gt S x).toNat)
    (old : ∀ u, u < n → ∀ y : Ro, y.i ≠ x → (y ∈ gt T2 u ↔ y ∈ gt T u))
    (mem : ∀ u, u < n → ∀ y ∈ gt T2 u, y.i = x → y ∈ gt T u ∨ (y.seq = incC (gt S x).toNat ∧ 500 ≤ y.exp ∧ y.exp ≤ 1000)) :
    Dw n (e + 1) n P R (S.set x (UInt8.ofNat (incC (gt S x).toNat))) (H.set x true) T2 := by
  have sl := w.sl
  have hl := w.hl
  have hc : incC (gt S x).toNat ≤ 255 := by
    have := (gt S x).toNat_lt
    unfold incC
    split <;> omega
  have es : ∀ i, gt (S.set x (UInt8.ofNat (incC (gt S x).toNat))) i = if i = x then UInt8.ofNat (incC (gt S x).toNat) else gt S i := fun i => gt_set (by omega)
  have eh : ∀ i, gt (H.set x true) i = if i = x then true else gt H i := fun i => gt_set (by omega)
  have en : (UInt8.ofNat (incC (gt S x).toNat)).toNat = incC (gt S x).toNat := by rw [UInt8.toNat_ofNat', Nat.mod_eq_of_lt (by omega)]
  refine ⟨w.t, by rw [List.length_set]; exact sl, by rw [List.length_set]; exact hl, tl, tb, fun u hu y hy => ?_, fun i hi _ hH d hd h0 => ?_⟩
  · rw [es, eh]
    by_cases g : y.i = x
    · rw [if_pos g, if_pos g, en]
      rcases mem u hu y hy g with h | ⟨h1, h2, h3⟩
      · obtain ⟨b1, b2, b3, ⟨k, hk, b4⟩, b5, b6⟩ := w.b u hu y h
        rw [g] at b4
        exact ⟨by omega, rfl, b3, ⟨k + 1, by omega, by rw [b4]; rfl⟩, b5, b6⟩
      · exact ⟨by omega, rfl, by omega, ⟨0, by omega, by rw [h1]; rfl⟩, h2, h3⟩
    · rw [if_neg g, if_neg g]
      obtain ⟨b1, b2, b3, ⟨k, hk, b4⟩, b5, b6⟩ := w.b u hu y ((old u hu y g).1 hy)
      exact ⟨b1, b2, b3, ⟨k, by omega, b4⟩, b5, b6⟩
  · rw [eh] at hH
    rw [es]
    by_cases g : i = x
    · subst g
      rw [if_pos rfl, en]
      exact nw d hd h0
    · rw [if_neg g] at hH ⊢
      obtain ⟨y, h1, h2, h3, h4⟩ := w.a i hi g hH d hd h0
      have hdn := w.t.way hi hd
      have hp := w.t.rng d hdn
      exact ⟨y, (old _ (by omega) y (by omega)).2 h1, h2, h3, h4⟩
theorem Way.set {n x : Nat} {P : List Int} {R : Nat → Nat} (t : Tree n P R) (hx : x < n) (v : Int) (leaf : ∀ i, i ≠ 0 → i < n → gt P i ≠ (x : Int)) {i : Nat} (hi : i < n) (hix : i ≠ x) {d : Nat} (h : Way (P.set x v) i d) : Way P i d ∧ d ≠ x := by
  have hl := t.len
  induction h with
  | here => exact ⟨.here, hix⟩
  | @up c h hc ih =>
    obtain ⟨h1, h2⟩ := ih
    rw [gt_set (by omega), if_neg h2]
    have hcn := t.way hi h1
    have := leaf c hc hcn
    have hp := t.rng c hcn
    exact ⟨.up h1 hc, fun g => this (by omega)⟩
/-- A leaf moves. -/
theorem Dw.move {n e x y : Nat} {P : List Int} {R : Nat → Nat} {S : List UInt8} {H : List Bool} {T : List (List Ro)} (w : Dw n e n P R S H T) (hx : x < n) (hy : y < n) (hxy : y ≠ x) (leaf : ∀ i, i ≠ 0 → i < n → gt P i ≠ (x : Int)) :
    Dw n e x (P.set x (y : Int)) (fun j => if j = x then n - 1 else if R x < R j then R j - 1 else R j) S H T := by
  have hl := w.t.len
  refine ⟨w.t.move hx hy hxy leaf, w.sl, w.hl, w.tl, w.tb, w.b, fun i hi hix hH d hd h0 => ?_⟩
  obtain ⟨h1, h2⟩ := Way.set w.t hx _ leaf hi hix hd
  rw [gt_set (by omega), if_neg h2]
  exact w.a i hi (by omega) hH d h1 h0
theorem Dw.stay {n e x : Nat} {P : List Int} {R : Nat → Nat} {S : List UInt8} {H : List Bool} {T : List (List Ro)} (w : Dw n e n P R S H T) : Dw n e x P R S H T :=
  ⟨w.t, w.sl, w.hl, w.tl, w.tb, w.b, fun i hi _ => w.a i hi (by omega)⟩
theorem Way.trans {P : List Int} {i c d : Nat} (h : Way P i c) (g : Way P c d) : Way P i d := by
  induction g with
  | here => exact h
  | up _ hc ih => exact .up ih hc
theorem Tree.root {n : Nat} {P : List Int} {R : Nat → Nat} (t : Tree n P R) : ∀ (m i : Nat), R i ≤ m → i < n → Way P i 0 := by
  intro m
  induction m with
  | zero =>
    intro i h hi
    by_cases g : i = 0
    · rw [g]; exact .here
    · have := t.up i g hi; omega
  | succ m ih =>
    intro i h hi
    by_cases g : i = 0
    · rw [g]; exact .here
    · have h1 := t.up i g hi
      have h2 := t.rng i hi
      exact Way.trans (.up .here g) (ih _ (by omega) (by omega))
/-- One step down the way. -/
theorem Dw.down {n e i v : Nat} {P : List Int} {R : Nat → Nat} {S : List UInt8} {H : List Bool} {T : List (List Ro)} (w : Dw n e n P R S H T) (hi : i < n) (hH : gt H i = true) (hv : Way P i v) (hne : v ≠ i) :
    ∃ c, c ≠ 0 ∧ c < n ∧ gt P c = (v : Int) ∧ Way P i c ∧ R v < R c ∧ fnR (gt T v) i = true ∧ (gt (gt T v) (atR (gt T v) i)).via = euiD c := by
  cases hv with
  | here => exact absurd rfl hne
  | @up c h hc =>
    have hcn := w.t.way hi h
    have hp := w.t.rng c hcn
    have hR := w.t.up c hc hcn
    obtain ⟨y, h1, h2, h3, h4⟩ := w.a i hi (by omega) hH c h hc
    have hb := (w.tb _ (by omega)).mem_at h1
    rw [h2] at hb
    exact ⟨c, hc, hcn, by omega, h, hR, hb.1, by rw [hb.2]; exact h3⟩
theorem gt_repl {α : Type} [Inhabited α] {n i : Nat} {a : α} (h : i < n) : gt (List.replicate n a) i = a := by
  rw [gt_eq (by rw [List.length_replicate]; exact h), List.getElem_replicate]
theorem Dw.init {n : Nat} {P : List Int} {S : List UInt8} (hl : P.length = n) (hs : S.length = n) (h0 : 0 < n → gt P 0 = 0) (h : ∀ i, i ≠ 0 → i < n → 0 ≤ gt P i ∧ gt P i < i) :
    Dw n 0 n P id S (List.replicate n false) (List.replicate n []) := by
  refine ⟨⟨hl, fun i hi => ?_, fun i g hi => ?_, fun i hi => by show i + 1 ≤ n; omega, fun i j _ _ g => g⟩, hs, by simp, by simp, fun u hu => ?_, fun u hu r hr => ?_, fun i hi _ hH => ?_⟩
  · by_cases g : i = 0
    · subst g; rw [h0 hi]; omega
    · have := h i g hi; omega
  · have := h i g hi
    show (gt P i).toNat < i
    omega
  · rw [gt_repl hu]
    exact ⟨fun r hr => (by cases hr), fun k hk => absurd hk (Nat.not_lt_zero _)⟩
  · rw [gt_repl hu] at hr; cases hr
  · rw [gt_repl hi] at hH; cases hH
end Go.Fw
