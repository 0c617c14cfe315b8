/- The package oracle: Path. -/
import Derived.Test.YtkmcmhohelgjfaaOraA
namespace Go.Fw
open Go.Proofs
set_option maxHeartbeats 1000000
attribute [local semireducible] Nm Wr Bif
/-- The nodes that are visited: so many steps on. -/
def pathF (l : List Int) : Nat → List Int → Int → List Int
  | 0, a, _ => a
  | f + 1, a, i => if inN i l.length ∧ i ∉ a then pathF l f (a ++ [i]) (nx l i) else a
theorem nodup_len : ∀ (n : Nat) (a : List Int), a.Nodup → (∀ x ∈ a, inN x n) → a.length ≤ n := by
  intro n
  induction n with
  | zero =>
    intro a _ h
    cases a with
    | nil => simp
    | cons x a => have := h x (by simp); unfold inN at this; omega
  | succ n ih =>
    intro a nd h
    have h1 := ih (a.erase (n : Int)) (nd.erase _) fun x hx => by
      have hx1 := h x (List.mem_of_mem_erase hx)
      have hx2 : x ≠ (n : Int) := (nd.mem_erase_iff.1 hx).1
      unfold inN at hx1 ⊢
      omega
    rw [List.length_erase] at h1
    split at h1 <;> omega
structure PathI (l : List Int) (s : Int) where
  a : List Int
  i : Int
  nd : a.Nodup
  mem : ∀ x ∈ a, inN x l.length
  eq : pathF l (l.length + 1 - a.length) a i = pathF l (l.length + 1) [] s
theorem PathI.len {l : List Int} {s : Int} (p : PathI l s) : p.a.length ≤ l.length := nodup_len _ _ p.nd p.mem
theorem PathI.stop {l : List Int} {s : Int} (p : PathI l s) (h : ¬ (inN p.i l.length ∧ p.i ∉ p.a)) : p.a = pathF l (l.length + 1) [] s := by
  have := p.len
  rw [← p.eq, show l.length + 1 - p.a.length = (l.length - p.a.length) + 1 by omega, pathF, if_neg h]
def PathI.next {l : List Int} {s : Int} (p : PathI l s) (h : inN p.i l.length ∧ p.i ∉ p.a) : PathI l s where
  a := p.a ++ [p.i]
  i := nx l p.i
  nd := by
    rw [List.nodup_append]
    refine ⟨p.nd, by simp, fun x hx y hy => ?_⟩
    simp at hy; subst hy
    exact fun e => h.2 (e ▸ hx)
  mem := fun x hx => by
    rcases List.mem_append.1 hx with hx | hx
    · exact p.mem x hx
    · simp at hx; subst hx; exact h.1
  eq := by
    rw [← p.eq]
    have := p.len
    have e : l.length + 1 - p.a.length = (l.length + 1 - (p.a ++ [p.i]).length) + 1 := by simp; omega
    rw [e, pathF, if_pos h]
def PathI.start (l : List Int) (s : Int) : PathI l s := ⟨[], s, by simp, by simp, by simp⟩
def visR (n : Nat) (a : List Int) : List SV := (List.range n).map fun (j : Nat) => bool (decide ((j : Int) ∈ a))
theorem visR_len (n : Nat) (a : List Int) : (visR n a).length = n := by simp [visR]
theorem visR_get {n k : Nat} (h : k < n) (a : List Int) : (visR n a)[k]? = some (bool (decide ((k : Int) ∈ a))) := by simp [visR, h]
theorem visR_set (n k : Nat) (a : List Int) : (visR n a).set k (bool true) = visR n (a ++ [(k : Int)]) := by
  apply List.ext_getElem?
  intro j
  rw [List.getElem?_set]
  by_cases hj : j < n
  · rw [visR_get hj, visR_get hj, visR_len]
    split
    · rename_i h; subst h; simp [hj]
    · rename_i h; have : (j : Int) ≠ (k : Int) := by omega
      simp [this]
  · have e : ∀ b, (visR n b)[j]? = none := fun b => by rw [List.getElem?_eq_none]; simp [visR_len]; omega
    rw [e, e, visR_len]
    split
    · rename_i h; subst h; simp [hj]
    · rfl
theorem visR_nil (n : Nat) : visR n [] = List.replicate n (bool false) := by
  apply List.ext_getElem?
  intro j
  by_cases hj : j < n
  · rw [visR_get hj]; simp [hj]
  · rw [List.getElem?_eq_none (by simp [visR_len]; omega), List.getElem?_eq_none (by simp; omega)]
def pathV (l : List Int) (s : Int) : List Int := if inN s l.length then pathF l (l.length + 1) [] s else []
theorem k_Path (l : List Int) (t : Tg) (s : Int) (hl : l.length < 100000) : Con Try.prog 14 [.fs t 1 (ints l), int s] [] (.ov 1 0 0 (pathV l s).length) [.arr none 1 (ints (pathV l s))] := by
  refine spec_of_exec ttok mixed (T0 := 40) (ts := [.tmp 4]) 40 rfl rfl rfl rfl (by simp) rfl ?_
  conv => whnf
  have hs := ints_len l
  refine CallN.mk (k_numbered _ _) ?_
  conv => whnf
  refine Bif.mk (fun h => ?_) (fun h => ?_)
  · conv => whnf
    have : ¬ inN s l.length := by simpa [ints_len] using h
    rw [pathV, if_neg this]
    exact Out.nil 1
  have hin : inN s l.length := by simpa [ints_len] using h
  conv => whnf
  refine Need.mk ⟨by omega, Int.le_refl _, by unfold roomOK; rw [hs]; simp; omega⟩ ?_
  conv => whnf
  refine loop_inv ttok mixed (T0 := 40) (ι := PathI l s)
    (fun p => [(0, .fs t 1 (ints l)), (5, int (l.length : Int)), (6, .ov 1 0 0 l.length), (7, .ov 1 1 0 p.a.length), (8, int p.i)])
    (fun p => [.arr (some l.length) 1 (visR l.length p.a), .arr none 1 (ints p.a)]) (fun p => l.length - p.a.length) (PathI.start l s) ?_ ?_
  · refine (Sub.adopt 7 1 rfl (by simp)).trans (Sub.go 2 ⟨rfl, ?_, ?_, rfl, rfl, trivial⟩ ?_ (by simp) rfl rfl)
    · rw [← hs]; rfl
    · rw [← hs]; rfl
    · show _ = [OB.arr (some l.length) 1 (visR l.length []), OB.arr none 1 (ints [])]
      rw [visR_nil, ← hs]; rfl
  intro p
  dsimp only
  conv => whnf
  refine CallN.mk (k_numbered _ _) ?_
  conv => whnf
  refine Bif.mk (fun h1 => ?_) (fun h1 => ?_)
  · have hi : inN p.i l.length := by simpa using h1
    obtain ⟨k, hk0⟩ : ∃ k : Nat, p.i = (k : Int) := ⟨p.i.toNat, by have := hi.1; omega⟩
    have hk : k < l.length := by have := hi.2; omega
    conv => whnf
    refine Need.mk (by omega) ?_
    conv => whnf
    rw [hk0]
    refine Elem.mk (bool (decide ((k : Int) ∈ p.a))) (by simpa using visR_get hk _) ?_
    conv => whnf
    refine Bif.mk (fun h2 => ?_) (fun h2 => ?_)
    · have hni : inN p.i l.length ∧ p.i ∉ p.a := ⟨hi, by rw [hk0]; simpa using h2⟩
      conv => whnf
      refine Need.mk (by omega) ?_
      conv => whnf
      refine Elem.mk (bool (decide ((k : Int) ∈ p.a))) (by simpa using visR_get hk _) ?_
      conv => whnf
      refine Need.mk (Nat.le_refl 1) ?_
      conv => whnf
      refine Alt.l ?_
      conv => whnf
      refine Need.mk ⟨(ints_len _).symm, ?_⟩ ?_
      · have := p.len
        unfold roomOK; rw [ints_len]
        show (p.a.length + 1) * 8 ≤ _ ∧ p.a.length + 1 ≤ _
        omega
      conv => whnf
      refine Need.mk (by omega) ?_
      conv => whnf
      refine Elem.mk (int l[k]) (ints_get hk) ?_
      conv => whnf
      refine ⟨p.next hni, ?_, ?_⟩
      · refine Sub.go 2 ⟨rfl, rfl, rfl, ?_, ?_, trivial⟩ ?_ (by simp) rfl rfl
        · show some (SV.ov 1 1 0 (ints p.a ++ [int (k : Int)]).length) = _
          simp [PathI.next, ints_len]
        · show some (int l[k]) = some (int (nx l p.i))
          rw [hk0, nx_get hk]
        · show [OB.arr (some l.length) 1 ((visR l.length p.a).set (0 + k) (bool true)), OB.arr none 1 (ints p.a ++ [int (k : Int)])] = [OB.arr (some l.length) 1 (visR l.length (p.a ++ [p.i])), OB.arr none 1 (ints (p.a ++ [p.i]))]
          rw [Nat.zero_add, visR_set, hk0]
          simp [ints, lst]
      · have h1 := (p.next hni).len
        have h2 : (p.next hni).a.length = p.a.length + 1 := by simp [PathI.next]
        simp only []
        omega
    · conv => whnf
      have hst := p.stop (fun hc => hc.2 (by rw [hk0]; simpa using h2))
      rw [pathV, if_pos hin, ← hst]
      exact Out.pick rfl
  · conv => whnf
    have hst := p.stop (fun hc => by simp [hc.1] at h1)
    rw [pathV, if_pos hin, ← hst]
    exact Out.pick rfl
end Go.Fw
