/- The plain law of oracle.Cycle: what its two walks keep. -/
import Derived.Test.YtkmcmhohelgjfaaOraD
namespace Go.Fw
set_option maxRecDepth 4000
set_option maxHeartbeats 1000000
def itx (l : List Int) : Nat → Int → Int
  | 0, i => i
  | k + 1, i => nx l (itx l k i)
theorem itx_add (l : List Int) (a b : Nat) (i : Int) : itx l (a + b) i = itx l b (itx l a i) := by
  induction b with
  | zero => rfl
  | succ b ih => show nx l (itx l (a + b) i) = nx l _; rw [ih]
theorem nx_out {l : List Int} {i : Int} (h : ¬ inN i l.length) : nx l i = i := by rw [nx, if_neg h]
theorem itx_out {l : List Int} {i : Int} (h : ¬ inN i l.length) (k : Nat) : itx l k i = i := by
  induction k with
  | zero => rfl
  | succ k ih => show nx l (itx l k i) = i; rw [ih, nx_out h]
theorem itx_mul {l : List Int} {p : Nat} {i : Int} (h : itx l p i = i) (q : Nat) : itx l (p * q) i = i := by
  induction q with
  | zero => rfl
  | succ q ih => rw [Nat.mul_succ, itx_add, ih, h]
/-- on a circle, from what it reaches one comes back -/
theorem cyc_back {l : List Int} {i z : Int} {p k : Nat} (h : itx l (p + 1) i = i) (hk : itx l k i = z) : ∃ m, itx l m z = i := by
  refine ⟨(p + 1) * k - k, ?_⟩
  have h1 := itx_mul h k
  have h2 : k ≤ (p + 1) * k := Nat.le_mul_of_pos_left k (by omega)
  rw [show (p + 1) * k = k + ((p + 1) * k - k) by omega, itx_add, hk] at h1
  exact h1
theorem cyc_in {l : List Int} {i : Int} {p : Nat} (hi : inN i l.length) (h : itx l (p + 1) i = i) (k : Nat) : inN (itx l k i) l.length := by
  by_cases hc : inN (itx l k i) l.length
  · exact hc
  · obtain ⟨m, hm⟩ := cyc_back h (rfl : itx l k i = itx l k i)
    rw [itx_out hc] at hm
    rw [hm]; exact hi
theorem stp_nx {l : List Int} {i : Int} (h1 : inN i l.length) (h2 : inN (nx l i) l.length) : stp l i = nx l i := by rw [stp, if_pos ⟨h1, h2⟩]
/-- a circle has at most as many nodes as there are -/
theorem cyc_short {l : List Int} {i : Int} {p : Nat} (hi : inN i l.length) (h : itx l (p + 1) i = i) : ∃ k, k < l.length ∧ itx l (k + 1) i = i := by
  have hex : ∃ k, itx l (k + 1) i = i := ⟨p, h⟩
  let P : Nat → Prop := fun k => itx l (k + 1) i = i
  obtain ⟨k, hk, hmin⟩ : ∃ k, P k ∧ ∀ j, j < k → ¬ P j := by
    have : ∀ n, P n → ∃ k, P k ∧ ∀ j, j < k → ¬ P j := by
      intro n
      induction n using Nat.strongRecOn with
      | _ n ih =>
        intro hn
        by_cases hc : ∃ j, j < n ∧ P j
        · obtain ⟨j, h1, h2⟩ := hc; exact ih j h1 h2
        · exact ⟨n, hn, fun j h1 h2 => hc ⟨j, h1, h2⟩⟩
    exact this p h
  refine ⟨k, ?_, hk⟩
  have nd : ((List.range (k + 1)).map fun j => itx l j i).Nodup := by
    have wl : ∀ a b, a < b → b < k + 1 → itx l a i = itx l b i → False := by
      intro a b h1 h2 h3
      have h4 : itx l (k + 1 - b + a) i = i := by
        rw [Nat.add_comm, itx_add, h3, ← itx_add, show b + (k + 1 - b) = k + 1 by omega]; exact hk
      exact hmin (k + 1 - b + a - 1) (by omega) (by show itx l _ i = i; rw [show k + 1 - b + a - 1 + 1 = k + 1 - b + a by omega]; exact h4)
    unfold List.Nodup
    rw [List.pairwise_map]
    refine List.Pairwise.imp_of_mem (fun {a b} _ hb hlt hab => wl a b hlt (List.mem_range.1 hb) hab) List.pairwise_lt_range
  have := nodup_len l.length _ nd (fun x hx => by
    obtain ⟨j, _, rfl⟩ := List.mem_map.1 hx
    exact cyc_in hi h j)
  simp at this
  omega
theorem itr_itx {l : List Int} {i : Int} {m : Nat} (hi : ∀ k, k ≤ m → inN (itx l k i) l.length) : ∀ k, k ≤ m → itr l k i = itx l k i := by
  intro k
  induction k with
  | zero => intro _; rfl
  | succ k ih =>
    intro hk
    show stp l (itr l k i) = nx l (itx l k i)
    rw [ih (by omega)]
    exact stp_nx (hi k (by omega)) (hi (k + 1) hk)
theorem onC_of {l : List Int} {i : Int} {p : Nat} (hi : inN i l.length) (h : itx l (p + 1) i = i) : onC l i = true := by
  obtain ⟨k, hk, he⟩ := cyc_short hi h
  rw [onC_iff]
  refine ⟨k, hk, ?_⟩
  rw [itr_itx (m := k + 1) (fun j _ => cyc_in hi h j) (k + 1) (Nat.le_refl _)]
  exact he
theorem of_onC {l : List Int} {i : Int} (hi : inN i l.length) (h : onC l i = true) : ∃ p, itx l (p + 1) i = i := by
  obtain ⟨k, _, he⟩ := onC_iff.1 h
  have pos : ∀ j, j ≤ k + 1 → 0 ≤ itr l j i := by
    intro j hj
    rcases Int.lt_or_le (itr l j i) 0 with h1 | h1
    · rcases Nat.lt_or_ge j (k + 1) with h2 | h2
      · have := itr_neg h1 (k + 1 - j - 1)
        rw [show j + (k + 1 - j - 1) + 1 = k + 1 by omega, he] at this
        have := hi.1; omega
      · rw [show j = k + 1 by omega, he] at h1
        have := hi.1; omega
    · exact h1
  have eq : ∀ j, j ≤ k + 1 → itr l j i = itx l j i := by
    intro j
    induction j with
    | zero => intro _; rfl
    | succ j ih =>
      intro hj
      have h1 := pos (j + 1) hj
      have h2 : itr l (j + 1) i = stp l (itr l j i) := rfl
      rw [h2, ih (by omega)] at h1 ⊢
      unfold stp at h1 ⊢
      split
      · rfl
      · rename_i hc; rw [if_neg hc] at h1; omega
  exact ⟨k, by rw [← eq (k + 1) (Nat.le_refl _)]; exact he⟩
end Go.Fw
