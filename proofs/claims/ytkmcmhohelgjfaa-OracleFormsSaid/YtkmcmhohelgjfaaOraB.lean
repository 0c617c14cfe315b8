/- The package oracle: Path. -/
import Derived.Test.YtkmcmhohelgjfaaOraA
namespace Go.Fw
set_option maxRecDepth 4000
open Go.Proofs
set_option maxHeartbeats 1000000
/-- The nodes that are visited: so many steps on. -/
def pathF (l : List Int) : Nat → List Int → Int → List Int
  | 0, a, _ => a
  | f + 1, a, i => if inN i l.length ∧ i ∉ a then pathF l f (a ++ [i]) (nx l i) else a
theorem nodup_len : ∀ (n : Nat) (a : List Int), a.Nodup → (∀ x ∈ a, inN x n) → a.length ≤ n := by
  intro n
  induction n with
  | zero =>
    intro a _ h
    cases a with
    | nil => simp
    | cons x a => have := h x (by simp); unfold inN at this; omega
  | succ n ih =>
    intro a nd h
    have h1 := ih (a.erase (n : Int)) (nd.erase _) fun x hx => by
      have hx1 := h x (List.mem_of_mem_erase hx)
      have hx2 : x ≠ (n : Int) := (nd.mem_erase_iff.1 hx).1
      unfold inN at hx1 ⊢
      omega
    rw [List.length_erase] at h1
    split at h1 <;> omega
structure PathI (l : List Int) (s : Int) where
  a : List Int
  i : Int
  nd : a.Nodup
  mem : ∀ x ∈ a, inN x l.length
  eq : pathF l (l.length + 1 - a.length) a i = pathF l (l.length + 1) [] s
theorem PathI.len {l : List Int} {s : Int} (p : PathI l s) : p.a.length ≤ l.length := nodup_len _ _ p.nd p.mem
theorem PathI.stop {l : List Int} {s : Int} (p : PathI l s) (h : ¬ (inN p.i l.length ∧ p.i ∉ p.a)) : p.a = pathF l (l.length + 1) [] s := by
  have := p.len
  rw [← p.eq, show l.length + 1 - p.a.length = (l.length - p.a.length) + 1 by omega, pathF, if_neg h]
def PathI.next {l : List Int} {s : Int} (p : PathI l s) (h : inN p.i l.length ∧ p.i ∉ p.a) : PathI l s where
  a := p.a ++ [p.i]
  i := nx l p.i
  nd := by
    rw [List.nodup_append]
    refine ⟨p.nd, by simp, fun x hx y hy => ?_⟩
    simp at hy; subst hy
    exact fun e => h.2 (e ▸ hx)
  mem := fun x hx => by
    rcases List.mem_append.1 hx with hx | hx
    · exact p.mem x hx
    · simp at hx; subst hx; exact h.1
  eq := by
    rw [← p.eq]
    have := p.len
    have e : l.length + 1 - p.a.length = (l.length + 1 - (p.a ++ [p.i]).length) + 1 := by simp; omega
    rw [e, pathF, if_pos h]
def PathI.start (l : List Int) (s : Int) : PathI l s := ⟨[], s, by simp, by simp, by simp⟩
def visR (n : Nat) (a : List Int) : List SV := (List.range n).map fun (j : Nat) => bool (decide ((j : Int) ∈ a))
theorem visR_len (n : Nat) (a : List Int) : (visR n a).length = n := by simp [visR]
theorem visR_get {n k : Nat} (h : k < n) (a : List Int) : (visR n a)[k]? = some (bool (decide ((k : Int) ∈ a))) := by simp [visR, h]
theorem visR_set (n k : Nat) (a : List Int) : (visR n a).set k (bool true) = visR n (a ++ [(k : Int)]) := by
  apply List.ext_getElem?
  intro j
  rw [List.getElem?_set]
  by_cases hj : j < n
  · rw [visR_get hj, visR_get hj, visR_len]
    split
    · rename_i h; subst h; simp [hj]
    · rename_i h; have : (j : Int) ≠ (k : Int) := by omega
      simp [this]
  · have e : ∀ b, (visR n b)[j]? = none := fun b => by rw [List.getElem?_eq_none]; simp [visR_len]; omega
    rw [e, e, visR_len]
    split
    · rename_i h; subst h; simp [hj]
    · rfl
theorem visR_nil (n : Nat) : visR n [] = List.replicate n (bool false) := by
  apply List.ext_getElem?
  intro j
  by_cases hj : j < n
  · rw [visR_get hj]; simp [hj]
  · rw [List.getElem?_eq_none (by simp [visR_len]; omega), List.getElem?_eq_none (by simp; omega)]
def pathV (l : List Int) (s : Int) : List Int := if inN s l.length then pathF l (l.length + 1) [] s else []
/-- What was visited. -/
def visB (n : Nat) (a : List Int) : List Bool := (List.range n).map fun (j : Nat) => decide ((j : Int) ∈ a)
theorem visB_len (n : Nat) (a : List Int) : (visB n a).length = n := by simp [visB]
theorem visB_gt {n k : Nat} (h : k < n) (a : List Int) : gt (visB n a) k = decide ((k : Int) ∈ a) := by
  rw [gt_eq (by rw [visB_len]; exact h)]; simp [visB]
theorem visB_set (n : Nat) (a : List Int) (k : Nat) : (visB n a).set k true = visB n (a ++ [(k : Int)]) := by
  refine List.ext_getElem (by simp [visB]) fun j h1 h2 => ?_
  rw [List.getElem_set]
  split
  · rename_i e; subst e; simp [visB]
  · rename_i e
    have : (j : Int) ≠ (k : Int) := by omega
    simp [visB, this]
theorem visB_nil (n : Nat) : visB n [] = List.replicate n false := by
  refine List.ext_getElem (by simp [visB]) fun j h1 h2 => ?_
  simp [visB]
theorem k_Path (l : List Int) (t : Tg) (s : Int) (hl : l.length < 100000) : Con Try.prog 14 [.fs t 1 (ints l), int s] [] (.ov 1 0 0 (pathV l s).length) [.arr none 1 (ints (pathV l s))] := by
  have c0 := k_numbered s l.length
  by_cases hin : inN s l.length
  case neg =>
    rw [pathV, if_neg hin]
    rw [decide_eq_false hin] at c0
    refine spec_of_run ttok mixed (T0 := 134234611) (ts := [.tmp 4]) 40 rfl rfl rfl rfl (by simp) rfl ?_
    conv => whnf
    repeat' (first | with_reducible apply True.intro | ((first | ((with_reducible apply Nm.mk); focus ((try simp only [lns]); exact rfl)) | (apply CallN.mk (c0)) | (with_reducible apply Bif.F) | (with_reducible apply Bif.not) | (with_reducible apply Same.rfl) | (apply Same.rfl) | (with_reducible apply Frz.l)) <;> conv => whnf) | fail)
  rw [decide_eq_true hin] at c0
  rw [pathV, if_pos hin]
  refine spec_of_run ttok mixed (T0 := 134234611) (ts := [.tmp 4]) 40 rfl rfl rfl rfl (by simp) rfl ?_
  conv => whnf
  repeat' (first | ((first | (with_reducible apply Nm.rep _ (bool_mk _)) | ((with_reducible apply Nm.mk); focus ((try simp only [lns]); exact rfl)) | ((with_reducible apply Need.mk); focus (unfold roomOK; simp only [lns]; omega)) | (apply CallN.mk (c0)) | (with_reducible apply Bif.T) | (with_reducible apply Bif.not) | (with_reducible apply Frz.l)) <;> conv => whnf) | fail)
  refine LoopN.adopt 7 1 rfl (by simp) ?_
  refine loop_keep ttok mixed (T0 := 134234611) [0, 5] (ι := PathI l s)
    (fun p => [(6, .ov 1 0 0 l.length), (7, .ov 1 1 0 p.a.length), (8, int p.i)])
    (fun p => [.arr (some l.length) 1 (lst bool (visB l.length p.a)), .arr none 1 (ints p.a)]) (fun p => l.length - p.a.length) (PathI.start l s) ?_
  conv => whnf
  repeat' (first | ((apply Same.mk (by rw [show (PathI.start l s).a = [] from rfl, visB_nil])); (conv => whnf)) | ((apply Same.mk rfl); (conv => whnf)) | ((with_reducible apply Frz.l) <;> conv => whnf) | fail)
  intro p
  dsimp only
  have cn := k_numbered p.i l.length
  have hlen := p.len
  have hv := visB_len l.length p.a
  conv => whnf
  by_cases hi : inN p.i l.length
  · obtain ⟨k, hk0⟩ : ∃ k : Nat, p.i = (k : Int) := ⟨p.i.toNat, by have := hi.1; omega⟩
    have hk : k < l.length := by have := hi.2; omega
    have hg := visB_gt hk p.a
    have hx := nx_gt hk
    rw [decide_eq_true hi] at cn
    by_cases h2 : (k : Int) ∈ p.a
    · have hst := p.stop (fun hc => hc.2 (by rw [hk0]; exact h2))
      rw [decide_eq_true h2] at hg
      rw [← hst]
      rw [hk0] at cn ⊢
      repeat' (first | with_reducible apply True.intro | ((first | ((with_reducible apply Nm.mk); focus ((try simp only [lns]); exact rfl)) | ((with_reducible apply Need.mk); focus omega) | ((with_reducible apply Elem.lst); focus omega) | (apply CallN.mk (cn)) | (with_reducible apply Bif.T) | (with_reducible apply Bif.not) | ((with_reducible apply Bif.mk) <;> intro h <;> (try (focus (exact absurd (hg.symm.trans h) (by decide))))) | (with_reducible apply Same.rfl) | (with_reducible apply Cut.l) | (with_reducible apply Frz.l)) <;> conv => whnf) | fail)
    · rw [decide_eq_false h2] at hg
      have hni : inN p.i l.length ∧ p.i ∉ p.a := ⟨hi, by rw [hk0]; exact h2⟩
      have e1 : (p.next hni).a = p.a ++ [(k : Int)] := by rw [← hk0]; rfl
      have e2 : (p.next hni).i = gt l k := by rw [← hx, ← hk0]; rfl
      have e3 : (p.next hni).a.length = p.a.length + 1 := by rw [e1]; simp
      have e4 := (p.next hni).len
      generalize p.next hni = p2 at *
      rw [hk0] at cn ⊢
      repeat' (first | ((first | (with_reducible first | apply Nm.set _ (bool_mk _) | apply Nm.snoc _ (rfl)) | ((with_reducible apply Nm.mk); focus ((try simp only [lns]); exact rfl)) | ((with_reducible apply Need.mk); focus first | omega | (simp only [lns]; omega) | (unfold roomOK; simp only [lns]; omega)) | ((with_reducible apply Elem.lst); focus omega) | (apply CallN.mk (cn)) | (with_reducible apply Bif.T) | (with_reducible apply Bif.not) | ((with_reducible apply Bif.mk) <;> intro h <;> (try (focus (exact absurd (hg.symm.trans h) (by decide))))) | (with_reducible apply Alt.l) | (with_reducible apply Frz.l)) <;> conv => whnf) | fail)
      refine ⟨p2, ?_⟩
      conv => whnf
      repeat' (first | with_reducible apply True.intro | ((with_reducible apply Same.mk); (focus (first | (rw [e1, visB_set]; done) | fail)); (conv => whnf)) | ((with_reducible apply Same.mk); (focus (first | (rw [e2]; done) | fail)); (conv => whnf)) | ((with_reducible apply Same.mk); (focus (first | (rw [e3]; done) | (rw [e1]; done) | fail)); (conv => whnf)) | ((first | ((with_reducible apply Need.mk); focus (simp only [lns]; omega)) | (with_reducible apply Same.rfl) | (with_reducible apply Turn.l) | (with_reducible apply Frz.l)) <;> conv => whnf) | fail)
  · have hst := p.stop (fun hc => hi hc.1)
    rw [← hst]
    rw [decide_eq_false hi] at cn
    repeat' (first | with_reducible apply True.intro | ((first | (apply CallN.mk (cn)) | (with_reducible apply Bif.F) | (with_reducible apply Same.rfl) | (with_reducible apply Cut.l) | (with_reducible apply Frz.l)) <;> conv => whnf) | fail)
end Go.Fw
