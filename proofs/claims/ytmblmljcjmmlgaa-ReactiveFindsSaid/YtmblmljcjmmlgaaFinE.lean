/- ReactiveFinds: connected. -/
import Derived.Test.YtmblmljcjmmlgaaFinD
namespace Go.Fw
open Go.Proofs
set_option maxHeartbeats 8000000
set_option maxRecDepth 8000
namespace Fnd
def Rch (A : Nat → Nat → Bool) (v : Nat) : Prop := ∃ r, Pt A 0 (v :: r)
def upS (S : Nat → Bool) (j : Nat) : Nat → Bool := fun v => match Nat.beq v j with | true => true | false => S v
theorem upS_same {S : Nat → Bool} {j : Nat} : upS S j j = true := by simp [upS]
theorem upS_ne {S : Nat → Bool} {j v : Nat} (h : S v = true) : upS S j v = true := by unfold upS; split <;> first | rfl | exact h
theorem upS_cases {S : Nat → Bool} {j v : Nat} (h : upS S j v = true) : v = j ∨ S v = true := by
  unfold upS at h
  split at h
  · rename_i e; exact .inl (Nat.eq_of_beq_eq_true e)
  · exact .inr h
def seenV (S : Nat → Bool) : SV := .agg [bool (S 0), bool (S 1), bool (S 2), bool (S 3), bool (S 4), bool (S 5)]
theorem seen_at (S : Nat → Bool) {j : Nat} (h : j < 6) : ([bool (S 0), bool (S 1), bool (S 2), bool (S 3), bool (S 4), bool (S 5)] : List SV)[j]? = some (bool (S j)) := cell_at (fun _ => S) 0 h
/-- Between two rounds. -/
structure CnI (A : Nat → Nat → Bool) (n : Nat) where
  m : Nat
  S : Nat → Bool
  hm : m ≤ n
  so : ∀ v, S v = true → Rch A v
  co : ∀ u r, Pt A 0 (u :: r) → (u :: r).length ≤ m + 1 → S u = true
/-- Within a round: before the node i; within a node's part: before j. -/
structure CnJ (A : Nat → Nat → Bool) (n : Nat) (S0 : Nat → Bool) where
  i : Nat
  S : Nat → Bool
  hi : i ≤ n
  so : ∀ v, S v = true → Rch A v
  up : ∀ v, S0 v = true → S v = true
  dn : ∀ u, u < i → S0 u = true → ∀ j, j < n → A u j = true → S j = true
structure CnK (A : Nat → Nat → Bool) (n : Nat) (S0 : Nat → Bool) (i : Nat) where
  j : Nat
  S : Nat → Bool
  hj : j ≤ n
  so : ∀ v, S v = true → Rch A v
  up : ∀ v, S0 v = true → S v = true
  dn : ∀ u, u < i → S0 u = true → ∀ j, j < n → A u j = true → S j = true
  dk : S0 i = true → ∀ v, v < j → A i v = true → S v = true
theorem Rch.step {A : Nat → Nat → Bool} {n i j : Nat} (g : Gr n A) (h : Rch A i) (hA : A i j = true) : Rch A j := by
  obtain ⟨r, h⟩ := h
  obtain ⟨r', h', _⟩ := h.ext (a := j) (by rw [g.sy]; exact hA)
  exact ⟨r', h'⟩
theorem co_next {A : Nat → Nat → Bool} {n m : Nat} (g : Gr n A) {S0 S : Nat → Bool} (co : ∀ u r, Pt A 0 (u :: r) → (u :: r).length ≤ m + 1 → S0 u = true) (up : ∀ v, S0 v = true → S v = true)
    (dn : ∀ u, u < n → S0 u = true → ∀ j, j < n → A u j = true → S j = true) : ∀ u r, Pt A 0 (u :: r) → (u :: r).length ≤ m + 1 + 1 → S u = true := by
  intro u r h hl
  cases h with
  | one => exact up _ (co 0 [] .one (by simp))
  | @cons _ b r' hA hn t =>
    have h1 := co b r' t (by simp at hl ⊢; omega)
    have h2 := g.rg _ _ hA
    exact dn b h2.2 h1 u h2.1 (by rw [g.sy]; exact hA)
theorem k_connected (n b : Nat) (hb : b < n) (A : Nat → Nat → Bool) (g : Gr n A) (R : List Rea) (hR : R.length = n) :
    ∃ r hp', (∃ c, r = bool c ∧ hp' = [.cells (.agg [.ov 5 1 0 n, linkV A]), .arr none 5 (lst reaF R)] ∧ (c = true ↔ Rch A b)) ∧
      ConK Try.prog 30 [.pb 0 [], int 0, int (b : Int)] [.cells (.agg [.ov 5 1 0 n, linkV A]), .arr none 5 (lst reaF R)] r hp' := by
  have h5 := g.n5
  have st1 : ∀ v, upS (fun _ => false) 0 v = true → Rch A v := fun v h => by
    rcases upS_cases h with rfl | h
    · exact ⟨[], .one⟩
    · cases h
  have st2 : ∀ u r, Pt A 0 (u :: r) → (u :: r).length ≤ 0 + 1 → upS (fun _ => false) 0 u = true := fun u r h hl => by
    cases h with
    | one => exact upS_same
    | cons hA hn t => simp at hl
  refine spec_of_runRK ttok mixed (T0 := 1126020636215239) (ts := [.tmp 6]) 58 rfl rfl rfl rfl (by simp) rfl ?_
  conv => whnf
  repeat' (first | ((apply Elem.mk _ (seen_at (fun _ => false) (j := 0) (by decide))); (conv => whnf)) | ((first | ((with_reducible apply Nm.mk); focus ((try simp only [lns]); exact rfl)) | ((with_reducible apply Need.mk); focus first | omega | kernel_rfl) | (with_reducible apply Frz.l)) <;> conv => whnf) | fail)
  refine loop_keep ttok mixed (T0 := 1126020636215239) [2] (ι := CnI A n)
    (fun q => [(0, .pb 0 []), (7, .pb 2 []), (8, int (q.m : Int))])
    (fun q => [.cells (.agg [.ov 5 1 0 n, linkV A]), .arr none 5 (lst reaF R), .cells (seenV q.S)]) (fun q => n - q.m)
    ⟨0, upS (fun _ => false) 0, Nat.zero_le _, st1, st2⟩ ?_
  conv => whnf
  repeat' (first | ((apply Same.mk rfl); (conv => whnf)) | ((with_reducible apply Frz.l) <;> conv => whnf) | fail)
  rintro ⟨m, S0, hm, so0, co⟩
  dsimp only
  conv => whnf
  by_cases hmn : m < n
  · repeat' (first | ((first | ((with_reducible apply Bif.dec) <;> intro h <;> (try simp only [lns] at h) <;> (try (exfalso; omega))) | (with_reducible apply Frz.l)) <;> conv => whnf) | fail)
    refine loop_keep ttok mixed (T0 := 1126020636215239) [2, 8, 26] (ι := CnJ A n S0)
      (fun q => [(0, .pb 0 []), (7, .pb 2 []), (27, int (q.i : Int))])
      (fun q => [.cells (.agg [.ov 5 1 0 n, linkV A]), .arr none 5 (lst reaF R), .cells (seenV q.S)]) (fun q => n - q.i)
      ⟨0, S0, Nat.zero_le _, so0, fun _ h => h, fun u h => absurd h (Nat.not_lt_zero u)⟩ ?_
    conv => whnf
    repeat' (first | ((first | (with_reducible apply Same.rfl) | (apply Same.int; focus rfl) | (with_reducible apply Frz.l)) <;> conv => whnf) | fail)
    rintro ⟨i, S, hi, so, up, dn⟩
    dsimp only
    conv => whnf
    by_cases hin : i < n
    · repeat' (first | ((first | ((with_reducible apply Bif.dec) <;> intro h <;> (try simp only [lns] at h) <;> (try (exfalso; omega))) | (with_reducible apply Frz.l)) <;> conv => whnf) | fail)
      refine loop_keep ttok mixed (T0 := 1126020636215239) [2, 8, 26, 27, 9, 34] (ι := CnK A n S0 i)
        (fun q => [(0, .pb 0 []), (7, .pb 2 []), (35, int (q.j : Int))])
        (fun q => [.cells (.agg [.ov 5 1 0 n, linkV A]), .arr none 5 (lst reaF R), .cells (seenV q.S)]) (fun q => n - q.j)
        ⟨0, S, Nat.zero_le _, so, up, dn, fun _ v h => absurd h (Nat.not_lt_zero v)⟩ ?_
      conv => whnf
      repeat' (first | ((first | (with_reducible apply Same.rfl) | (apply Same.int; focus rfl) | (with_reducible apply Frz.l)) <;> conv => whnf) | fail)
      rintro ⟨j, S, hj, so, up, dn, dk⟩
      dsimp only
      conv => whnf
      by_cases hjn : j < n
      · have hx1 := row_at A (i := i) (by omega)
        have hx3 := seen_at S (j := i) (by omega)
        by_cases hh : S i = true ∧ A i j = true
        · obtain ⟨hS, hA⟩ := hh
          have sn : ∀ v, upS S j v = true → Rch A v := fun v h => by
            rcases upS_cases h with rfl | h
            · exact (so i hS).step g hA
            · exact so v h
          have su : ∀ v, S0 v = true → upS S j v = true := fun v h => upS_ne (up v h)
          have sd : ∀ u, u < i → S0 u = true → ∀ v, v < n → A u v = true → upS S j v = true := fun u hu h0 v hv hA => upS_ne (dn u hu h0 v hv hA)
          have sk : S0 i = true → ∀ v, v < j + 1 → A i v = true → upS S j v = true := fun h0 v hv hA => by
            by_cases e : v = j
            · subst e; exact upS_same
            · exact upS_ne (dk h0 v (by omega) hA)
          have hx4 := seen_at S (j := j) (by omega)
          have h4 : j = 0 ∨ j = 1 ∨ j = 2 ∨ j = 3 ∨ j = 4 := by omega
          have hx2 := cell_at A i (j := j) (by omega)
          rcases h4 with rfl | rfl | rfl | rfl | rfl
          all_goals (
            repeat' (first | ((apply Elem.mk _ hx1); (conv => whnf)) | ((apply Elem.mk _ hx2); (conv => whnf)) | ((apply Elem.mk _ hx3); (conv => whnf)) | ((apply Elem.mk _ hx4); (conv => whnf)) | ((first | ((with_reducible apply Nm.mk); focus ((try simp only [lns]); exact rfl)) | ((with_reducible apply Wr.i64); focus omega) | ((with_reducible apply Need.mk); focus first | omega | kernel_rfl) | (with_reducible apply Bif.T) | ((with_reducible apply Bif.dec) <;> intro h <;> (try simp only [lns] at h) <;> (try (exfalso; omega))) | ((with_reducible apply Bif.mk) <;> intro h <;> (try first | exact tfE hS h | exact tfE hA h)) | (with_reducible apply Frz.l)) <;> conv => whnf) | fail)
            (refine ⟨⟨_, upS S _, hjn, sn, su, sd, sk⟩, ?_⟩; (try dsimp only); conv => whnf); repeat' (first | with_reducible apply True.intro | ((apply Same.mk rfl); (conv => whnf)) | ((first | ((with_reducible apply Need.mk); focus omega) | (with_reducible apply Turn.l) | (with_reducible apply Frz.l)) <;> conv => whnf) | fail))
        · have hx2 := cell_at A i (j := j) (by omega)
          have sk : S0 i = true → ∀ v, v < j + 1 → A i v = true → S v = true := fun h0 v hv hA => by
            by_cases e : v = j
            · subst e; exact absurd ⟨up _ h0, hA⟩ hh
            · exact dk h0 v (by omega) hA
          repeat' (first | ((apply Elem.mk _ hx1); (conv => whnf)) | ((apply Elem.mk _ hx2); (conv => whnf)) | ((apply Elem.mk _ hx3); (conv => whnf)) | ((first | ((with_reducible apply Nm.mk); focus ((try simp only [lns]); exact rfl)) | ((with_reducible apply Wr.i64); focus omega) | ((with_reducible apply Need.mk); focus first | omega | kernel_rfl) | (with_reducible first | apply Bif.T | apply Bif.F) | ((with_reducible apply Bif.dec) <;> intro h <;> (try simp only [lns] at h) <;> (try (exfalso; omega))) | ((with_reducible apply Bif.mk) <;> intro h <;> (try ((refine absurd (And.intro ?_ ?_) hh); (focus assumption); (focus assumption)))) | (with_reducible apply Frz.l)) <;> conv => whnf) | fail)
          all_goals ((refine ⟨⟨j + 1, S, hjn, so, up, dn, sk⟩, ?_⟩; (try dsimp only); conv => whnf); repeat' (first | with_reducible apply True.intro | ((first | ((with_reducible apply Need.mk); focus omega) | (with_reducible apply Same.rfl) | (apply Same.int; focus rfl) | (with_reducible apply Turn.l) | (with_reducible apply Frz.l)) <;> conv => whnf) | fail))
      · obtain rfl : n = j := by omega
        repeat' (first | ((first | ((with_reducible apply Wr.i64); focus omega) | ((with_reducible apply Bif.dec) <;> intro h <;> (try simp only [lns] at h) <;> (try (exfalso; omega))) | (with_reducible apply Frz.l)) <;> conv => whnf) | fail)
        (refine ⟨⟨i + 1, S, hin, so, up, fun u hu h0 v hv hA => by
          by_cases e : u = i
          · subst e; exact dk h0 v hv hA
          · exact dn u (by omega) h0 v hv hA⟩, ?_⟩; (try dsimp only); conv => whnf); repeat' (first | with_reducible apply True.intro | ((first | ((with_reducible apply Need.mk); focus omega) | (with_reducible apply Same.rfl) | (apply Same.int; focus rfl) | (with_reducible apply Turn.l) | (with_reducible apply Frz.l)) <;> conv => whnf) | fail)
    · obtain rfl : n = i := by omega
      repeat' (first | ((first | ((with_reducible apply Wr.i64); focus omega) | ((with_reducible apply Bif.dec) <;> intro h <;> (try simp only [lns] at h) <;> (try (exfalso; omega))) | (with_reducible apply Frz.l)) <;> conv => whnf) | fail)
      (refine ⟨⟨m + 1, S, hmn, so, co_next g co up dn⟩, ?_⟩; (try dsimp only); conv => whnf); repeat' (first | with_reducible apply True.intro | ((first | ((with_reducible apply Need.mk); focus omega) | (with_reducible apply Same.rfl) | (apply Same.int; focus rfl) | (with_reducible apply Turn.l) | (with_reducible apply Frz.l)) <;> conv => whnf) | fail)
  · obtain rfl : n = m := by omega
    have hx3 := seen_at S0 (j := b) (by omega)
    repeat' (first | ((apply Elem.mk _ hx3); (conv => whnf)) | ((first | ((with_reducible apply Nm.mk); focus ((try simp only [lns]); exact rfl)) | ((with_reducible apply Need.mk); focus first | omega | kernel_rfl) | ((with_reducible apply Bif.dec) <;> intro h <;> (try simp only [lns] at h) <;> (try (exfalso; omega))) | (with_reducible apply Frz.l)) <;> conv => whnf) | fail)
    refine ⟨_, _, ⟨S0 b, rfl, rfl, so0 b, fun ⟨r, h⟩ => co b r h (by have := h.len g (by omega); omega)⟩, ?_⟩
    conv => whnf
    repeat' (first | with_reducible apply True.intro | ((first | (with_reducible apply Same.rfl) | (with_reducible apply Cut.l) | (with_reducible apply Frz.l)) <;> conv => whnf) | fail)
  done
end Fnd
end Go.Fw
