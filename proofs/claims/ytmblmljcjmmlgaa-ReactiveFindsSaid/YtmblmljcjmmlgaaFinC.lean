/- ReactiveFinds: one message, in plain form; what spread returns; who is connected. -/
import Derived.Test.YtmblmljcjmmlgaaFinB
namespace Go.Fw
set_option maxRecDepth 4000
open Go.Proofs
set_option maxHeartbeats 4000000
namespace Fnd
/-- A message on its way: to, from, the message. -/
structure Air where
  to : Nat
  fr : Nat
  m : Msg
  deriving DecidableEq, Inhabited
def airOf (T : Nat) (f : Fl) : Air := ⟨f.to, f.p.headD 0, msgG T f⟩
def hits (A : Nat → Nat → Bool) (x : Nat) (s : Snd) (j : Nat) : Bool := A x j && (s.to == 0 || s.to == (j : Int) + 1)
def spr1 (A : Nat → Nat → Bool) (x : Nat) (s : Snd) (n : Nat) : List Air := ((List.range n).filter (hits A x s)).map fun j => ⟨j, x, s.msg⟩
def sprM (A : Nat → Nat → Bool) (n x : Nat) (l : List Snd) : List Air := l.flatMap fun s => spr1 A x s n
theorem spr1_succ (A : Nat → Nat → Bool) (x : Nat) (s : Snd) (n : Nat) : spr1 A x s (n + 1) = spr1 A x s n ++ if hits A x s n = true then [⟨n, x, s.msg⟩] else [] := by
  unfold spr1
  rw [List.range_succ, List.filter_append, List.map_append]
  congr 1
  by_cases h : hits A x s n = true
  · rw [if_pos h, List.filter_cons_of_pos h]; rfl
  · rw [if_neg h, List.filter_cons_of_neg h]; rfl
theorem spr_all {A : Nat → Nat → Bool} {n x : Nat} {m : Msg} : sprM A n x [⟨0, m⟩] = (nbs A n x).map fun j => ⟨j, x, m⟩ := by
  unfold sprM spr1 nbs
  rw [List.flatMap_singleton]
  congr 1
  exact List.filter_congr fun j _ => by simp [hits]
theorem spr_no {A : Nat → Nat → Bool} {x w : Nat} {m : Msg} : ∀ {k : Nat}, k ≤ w → spr1 A x ⟨(w : Int) + 1, m⟩ k = []
  | 0, _ => rfl
  | k + 1, h => by
    rw [spr1_succ, spr_no (by omega), if_neg]
    · rfl
    · unfold hits
      simp only [Bool.and_eq_true, Bool.or_eq_true, beq_iff_eq]
      omega
theorem spr_one {A : Nat → Nat → Bool} {x w : Nat} {m : Msg} (hA : A x w = true) : ∀ {k : Nat}, w < k → spr1 A x ⟨(w : Int) + 1, m⟩ k = [⟨w, x, m⟩]
  | 0, h => absurd h (Nat.not_lt_zero _)
  | k + 1, h => by
    rw [spr1_succ]
    by_cases e : w = k
    · subst e
      rw [spr_no (Nat.le_refl _), if_pos]
      · rfl
      · unfold hits; rw [hA]; simp
    · rw [spr_one hA (by omega), if_neg]
      · rfl
      · unfold hits
        simp only [Bool.and_eq_true, Bool.or_eq_true, beq_iff_eq]
        omega
theorem spr_uni {A : Nat → Nat → Bool} {n x w : Nat} {m : Msg} (g : Gr n A) (hA : A x w = true) : sprM A n x [⟨(w : Int) + 1, m⟩] = [⟨w, x, m⟩] := by
  unfold sprM
  rw [List.flatMap_singleton]
  exact spr_one hA (g.rg _ _ hA).2
theorem lc_le {n : Nat} (h5 : n ≤ 5) {a b : Nat} (ha : a < n) (hb : b < n) : lc a b ≤ 26 := by
  unfold lc
  have : (a + 1) * (b + 1) ≤ 5 * 5 := Nat.mul_le_mul (by omega) (by omega)
  omega
theorem reaG_ne {T : Nat} {Q P : Gh} {x v : Nat} {q : List Nat} (h : v ≠ x) : reaG T (upd Q x q) P v = reaG T Q P v := by
  unfold reaG; rw [upd_ne h]
theorem reaG_neP {T : Nat} {Q P : Gh} {x v : Nat} {q : List Nat} (h : v ≠ x) : reaG T Q (upd P x q) v = reaG T Q P v := by
  unfold reaG srG
  rw [upd_ne h]
  by_cases e : v = 0
  · subst e; rw [upd_ne h]
  · have h1 : ∀ P' : Gh, ¬ (v = 0 ∧ P' 0 = none) := fun _ g => e g.1
    rw [if_neg (h1 _), if_neg (h1 _)]
section
variable {A : Nat → Nat → Bool} {n T : Nat} {Q P : Gh} {F : List Fl}
theorem Inv.hok (g : Gr n A) (hT0 : T ≠ 0) (hTn : T < n) (I : Inv A T Q P F) {x : Nat} (hx : x < n) : HOK T Q P x := by
  have h5 := g.n5
  refine ⟨⟨by omega, by omega⟩, by omega, fun q e => ?_, fun p e => ?_⟩
  · obtain ⟨r, r1, r2, r3, _⟩ := I.q1 x q e
    refine ⟨fun e0 => ?_, by have := r3.pc_le g (by omega : 0 < n); omega⟩
    subst e0
    rw [r1] at r3
    cases r3 with
    | one => exact r2 rfl
    | cons h n t => exact n t.mem
  · obtain ⟨r, r1, r2, r3, _⟩ := I.p1 x p e
    refine ⟨fun e0 => ?_, by have := r3.pc_le g hTn; omega⟩
    subst e0
    rw [r1] at r3
    cases r3 with
    | one => exact r2 rfl
    | cons h n t => exact n t.mem
/-- One message is handled. -/
theorem Inv.step (g : Gr n A) (hT0 : T ≠ 0) (hTn : T < n) {f : Fl} {a b : List Fl} (I : Inv A T Q P (a ++ f :: b)) :
    f.to < n ∧ f.p.headD 0 < n ∧ f.p.headD 0 ≠ f.to ∧ ReaV (reaG T Q P f.to) ∧ ∃ (Q' P' : Gh) (out : List Fl) (snds : List Snd),
      hearM (reaG T Q P f.to) 6 ((f.p.headD 0 : Nat) + 1) (lc (f.p.headD 0) f.to : Nat) (msgG T f) = (reaG T Q' P' f.to, snds, 0) ∧ sprM A n f.to snds = out.map (airOf T) ∧
      Inv A T Q' P' (a ++ b ++ out) ∧ phi n Q' (a ++ b ++ out) + 1 ≤ phi n Q (a ++ f :: b) ∧ (∀ v, v ≠ f.to → reaG T Q' P' v = reaG T Q P v) ∧ snds.length ≤ 1 := by
  have h5 := g.n5
  have hm : f ∈ a ++ f :: b := by simp
  have s1 : ∀ y ∈ a ++ b ++ [], y ∈ a ++ f :: b := fun y hy => by
    rw [List.append_nil] at hy
    rcases List.mem_append.1 hy with h | h
    · exact List.mem_append_left _ h
    · exact List.mem_append_right _ (List.mem_cons_of_mem _ h)
  have s2 : ∀ o y, y ∈ a ++ f :: b → y = f ∨ y ∈ a ++ b ++ o := fun o y hy => by
    rcases List.mem_append.1 hy with h | h
    · exact .inr (List.mem_append_left _ (List.mem_append_left _ h))
    · rcases List.mem_cons.1 h with h | h
      · exact .inl h
      · exact .inr (List.mem_append_left _ (List.mem_append_right _ h))
  have s3 : ∀ o y, y ∈ a ++ b ++ o → y ∈ a ++ f :: b ∨ y ∈ o := fun o y hy => by
    rcases List.mem_append.1 hy with h | h
    · exact .inl (s1 y (by rw [List.append_nil]; exact h))
    · exact .inr h
  have hA : A f.to (f.p.headD 0) = true := by
    cases e : f.rep
    · exact (I.q2 f hm e).2.2.2
    · exact (I.p2 f hm e).2.2.2
  have hx := (g.rg _ _ hA).1
  have hy := (g.rg _ _ hA).2
  have H := I.hok g hT0 hTn hx
  have hne : f.p ≠ [] := by
    cases e : f.rep
    · exact (I.q2 f hm e).1.ne
    · exact (I.p2 f hm e).1.ne
  have hpt : f.p.length ≤ 5 ∧ pc f.p ≤ 1000 := by
    cases e : f.rep
    · have h := (I.q2 f hm e).1
      have := h.len g (by omega : 0 < n); have := h.pc_le g (by omega : 0 < n)
      omega
    · have h := (I.p2 f hm e).1
      have := h.len g hTn; have := h.pc_le g hTn
      omega
  have hl : 1 ≤ f.p.length ∧ f.p.length ≤ 5 := ⟨List.length_pos_iff.2 hne, hpt.1⟩
  have hxy : f.p.headD 0 ≠ f.to := fun e => by
    rw [e, g.ir] at hA
    cases hA
  have hd : pc f.p + lc (f.p.headD 0) f.to = pc (f.to :: f.p) := by
    cases e : f.p with
    | nil => exact absurd e hne
    | cons b r =>
      have := lc_symm b f.to
      simp only [pc, List.headD_cons]; omega
  have hc : 1 ≤ lc (f.p.headD 0) f.to ∧ lc (f.p.headD 0) f.to ≤ 1000 := ⟨lc_pos _ _, by have := lc_le h5 hy hx; omega⟩
  refine ⟨hx, hy, hxy, H.rv, ?_⟩
  cases hr : f.rep
  · have em : msgG T f = reqM T f.p := by unfold msgG; rw [hr]; rfl
    rw [em]
    by_cases ha : f.to = 0 ∨ accQ Q f.to f.p = false
    · refine ⟨Q, P, [], [], hear_noQ H (by omega) hxy hl hpt.2 hc hd rfl ha, rfl, I.noQ hr ha s1 (s2 []), ?_, fun _ _ => rfl, by simp⟩
      rw [List.append_nil]
      exact phi_no (by simp [wt, hr])
    · have h0 : f.to ≠ 0 := fun e => ha (.inl e)
      have h1 : accQ Q f.to f.p = true := by
        cases e : accQ Q f.to f.p
        · exact absurd (.inr e) ha
        · rfl
      refine ⟨upd Q f.to (f.to :: f.p), P, outQ A n T f.to f.p, _, hear_yesQ H (by omega) hxy hl hpt.2 hc hd rfl h0 h1, ?_, I.yesQ g hT0 hm hr h0 h1 (s3 _) (s2 _) (fun y hy => List.mem_append_right _ hy), phi_yesQ g (by omega) I hr h0 h1, fun v hv => reaG_ne hv, ?_⟩
      · unfold outQ
        by_cases hT : f.to = T
        · rw [if_pos hT, if_pos hT, spr_uni g hA]
          rw [hT]
          rfl
        · rw [if_neg hT, if_neg hT, spr_all, List.map_map]
          rfl
      · split <;> simp
  · have em : msgG T f = repM T f.p := by unfold msgG; rw [hr]; rfl
    rw [em]
    by_cases ha : f.to = T ∨ accP P f.to f.p = false
    · refine ⟨Q, P, [], [], hear_noP H (by omega) hxy hl hpt.2 hc hd rfl ha (fun r e => ?_) hne, rfl, I.noP g hTn hm hr ha s1 (s2 []), ?_, fun _ _ => rfl, by simp⟩
      · obtain ⟨r', e1, e2, _⟩ := I.p1 _ _ e
        rw [e1]; exact e2
      · rw [List.append_nil]
        exact phi_no (wt_rep g hTn fun h => (I.p2 f hm h).1)
    · have h0 : f.to ≠ T := fun e => ha (.inl e)
      have h1 : accP P f.to f.p = true := by
        cases e : accP P f.to f.p
        · exact absurd (.inr e) ha
        · rfl
      refine ⟨Q, upd P f.to (f.to :: f.p), outP Q f.to f.p, _, hear_yesP H (by omega) hxy hl hpt.2 hc hd rfl h0 h1, ?_, I.yesP g hT0 hm hr h0 h1 (s3 _) (s2 _) (fun y hy => List.mem_append_right _ hy), phi_yesP g hTn I hr, fun v hv => reaG_neP hv, ?_⟩
      · unfold outP
        by_cases e0 : f.to = 0
        · rw [if_pos e0, if_pos e0]; rfl
        · rw [if_neg e0, if_neg e0]
          cases e : Q f.to with
          | none => rfl
          | some q =>
            obtain ⟨r, r1, r2, r3, _⟩ := I.q1 _ _ e
            cases r with
            | nil => exact absurd rfl r2
            | cons w r =>
              subst r1
              show sprM A n f.to [⟨nx (f.to :: w :: r), repM T (f.to :: f.p)⟩] = _
              rw [show nx (f.to :: w :: r) = (w : Int) + 1 from rfl, spr_uni g r3.adj]
              rfl
      · split
        · simp
        · split <;> simp
/-! ### The way along the next hops -/
def below (P : Gh) (c : Nat) : Nat → Nat
  | 0 => 0
  | k + 1 => below P c k + (match P k with | some p => if pc p < c then 1 else 0 | none => 0)
theorem below_mono {c d : Nat} (h : c ≤ d) : ∀ k, below P c k ≤ below P d k
  | 0 => Nat.le_refl _
  | k + 1 => by
    have := below_mono h k
    simp only [below]
    split
    · split <;> split <;> omega
    · omega
theorem below_lt {c d : Nat} (h : c < d) {v : Nat} {p : List Nat} (hp : P v = some p) (hc : pc p = c) : ∀ k, v < k → below P c k + 1 ≤ below P d k
  | 0, hv => absurd hv (Nat.not_lt_zero _)
  | k + 1, hv => by
    simp only [below]
    by_cases e : v = k
    · subst e
      have := below_mono (P := P) (Nat.le_of_lt h) v
      rw [hp]
      dsimp only
      rw [if_neg (by omega), if_pos (by omega)]
      omega
    · have := below_lt h hp hc k (by omega)
      split
      · split <;> split <;> omega
      · omega
theorem below_le {c : Nat} : ∀ k, below P c k ≤ k
  | 0 => Nat.le_refl _
  | k + 1 => by
    have := below_le (c := c) k
    simp only [below]
    split
    · split <;> omega
    · omega
theorem below_no {c v : Nat} (hv : ∀ p, P v = some p → ¬ pc p < c) : ∀ k, v < k → below P c k + 1 ≤ k
  | 0, h => absurd h (Nat.not_lt_zero _)
  | k + 1, h => by
    simp only [below]
    by_cases e : v = k
    · subst e
      have := below_le (P := P) (c := c) v
      split
      · rename_i p hp
        rw [if_neg (hv p hp)]; omega
      · omega
    · have := below_no hv k (by omega)
      split
      · split <;> omega
      · omega
theorem nextG (g : Gr n A) (hT0 : T ≠ 0) (hTn : T < n) (I : Inv A T Q P F) {v : Nat} (hv : v < n) (hvT : v ≠ T) : nextM (reaG T Q P v) 7 ((T : Int) + 1) = match P v with | some p => (nx p, 0) | none => (0, 15) := by
  have H := I.hok g hT0 hTn hv
  obtain ⟨k1, k2⟩ := faT T H.t.1 (Q v) (P v)
  unfold nextM
  rw [if_pos ⟨H.rv.v, by omega, by show (T : Int) + 1 ≠ (v : Int) + 1; omega⟩, if_pos ⟨by omega, by omega⟩]
  show (if usbP (ps T (Q v) (P v)) 7 ((T : Int) + 1) = true then ((gt (ps T (Q v) (P v)) (atP (ps T (Q v) (P v)) ((T : Int) + 1))).nx, (0 : Int)) else (0, 15)) = _
  cases e : P v with
  | none =>
    rw [e] at k1
    rw [if_neg]
    unfold usbP curP
    rw [k1]; simp
  | some p =>
    rw [e] at k1 k2
    rw [if_pos]
    · rw [k2, gtT]; rfl
    · unfold usbP curP
      rw [k1, k2, gtT]; rfl
end
end Fnd
end Go.Fw
