/- Next hops lead to the node: the plain law. -/
import Derived.Test.YtkmcmhohelgjfaaOraR
namespace Go.Fw
set_option maxHeartbeats 1000000
theorem hopF_cases {m : List (List Int)} {e : List Int} {i : Nat} : ∀ n, (hopF m e i n = -1 ∧ ∀ k, k < n → addM (costT m i k) (gt e k) ≠ gt e i) ∨ ∃ k, k < n ∧ hopF m e i n = (k : Int) ∧ addM (costT m i k) (gt e k) = gt e i
  | 0 => .inl ⟨rfl, fun k hk => by omega⟩
  | n + 1 => by
    rcases hopF_cases (m := m) (e := e) (i := i) n with ⟨h1, h2⟩ | ⟨k, h1, h2, h3⟩
    · by_cases h : addM (costT m i n) (gt e n) = gt e i
      · exact .inr ⟨n, by omega, hopF_found h1 h (by omega), h⟩
      · exact .inl ⟨by rw [hopF_no h, h1], step_lt (p := fun k => addM (costT m i k) (gt e k) ≠ gt e i) h2 h⟩
    · exact .inr ⟨k, by omega, by rw [hopF_keep (by omega) 1, h2], h3⟩
theorem hop_spec {m : List (List Int)} {to : Nat} {e : List Int} (he : Bell m to e) {i : Nat} (hi : i < m.length) :
    (hopV m to e i = -1 ∧ (i = to ∨ gt e i = 65535)) ∨ ∃ k, k < m.length ∧ hopV m to e i = (k : Int) ∧ i ≠ to ∧ gt e i < 65535 ∧ gt e k < gt e i ∧ gt e i = costT m i k + gt e k := by
  by_cases hc : i = to ∨ gt e i = 65535
  · exact .inl ⟨by rw [hopV, if_pos hc], hc⟩
  · have r := he.range i hi
    have h1 : i ≠ to := fun h => hc (.inl h)
    have h2 : gt e i < 65535 := by have : gt e i ≠ 65535 := fun h => hc (.inr h); omega
    right
    rcases hopF_cases (m := m) (e := e) (i := i) m.length with ⟨_, h4⟩ | ⟨k, h3, h4, h5⟩
    · obtain ⟨k, hk, h6⟩ := he.eq i hi h1 h2
      exact absurd h6.symm (h4 k hk)
    · have rk := he.range k h3
      have cr := costT_range m i k
      rw [addM_cost cr rk] at h5
      exact ⟨k, h3, by rw [hopV, if_neg hc, h4], h1, h2, by omega, by omega⟩
theorem hops_gt {m : List (List Int)} {to : Nat} {e : List Int} {i : Nat} (hi : i < m.length) : gt (hopsL m to e) i = hopV m to e i := by
  rw [hopsL, gt_map (by simpa using hi), gt_range hi]
theorem nx_hop {m : List (List Int)} {to : Nat} {e : List Int} {i : Nat} (hi : i < m.length) : nx (hopsL m to e) (i : Int) = hopV m to e i := by
  rw [nx_get (by rw [hopsL_len]; exact hi), ← gt_eq, hops_gt hi]
/-- No circle. -/
theorem hops_itr {m : List (List Int)} {to : Nat} {e : List Int} (he : Bell m to e) {i : Nat} (hi : i < m.length) : ∀ k, itr (hopsL m to e) (k + 1) (i : Int) = -1 ∨ ∃ j : Nat, j < m.length ∧ itr (hopsL m to e) (k + 1) (i : Int) = (j : Int) ∧ gt e j < gt e i := by
  have one : ∀ {j : Nat}, j < m.length → stp (hopsL m to e) (j : Int) = -1 ∨ ∃ j2 : Nat, j2 < m.length ∧ stp (hopsL m to e) (j : Int) = (j2 : Int) ∧ gt e j2 < gt e j := by
    intro j hj
    have hin : inN (j : Int) (hopsL m to e).length := by rw [hopsL_len]; exact ⟨by omega, by omega⟩
    rcases hop_spec he hj with ⟨h1, _⟩ | ⟨k, h1, h2, _, _, h5, _⟩
    · left
      rw [stp, if_neg]
      rintro ⟨_, h⟩
      rw [nx_hop hj, h1] at h
      have := h.1; omega
    · right
      refine ⟨k, h1, ?_, h5⟩
      rw [stp, nx_hop hj, h2, if_pos ⟨hin, by rw [hopsL_len]; exact ⟨by omega, by omega⟩⟩]
  intro k
  induction k with
  | zero => exact one hi
  | succ k ih =>
    show stp (hopsL m to e) (itr (hopsL m to e) (k + 1) (i : Int)) = -1 ∨ _
    rcases ih with h | ⟨j, hj, h, hlt⟩
    · left
      rw [h, stp, if_neg]
      rintro ⟨hc, _⟩
      have := hc.1; omega
    · rw [show itr (hopsL m to e) (k + 1 + 1) (i : Int) = stp (hopsL m to e) (itr (hopsL m to e) (k + 1) (i : Int)) from rfl, h]
      rcases one hj with h2 | ⟨j2, h3, h4, h5⟩
      · exact .inl h2
      · exact .inr ⟨j2, h3, h4, by omega⟩
theorem hops_cyc {m : List (List Int)} {to : Nat} {e : List Int} (he : Bell m to e) : cycV (hopsL m to e) = [] := by
  have hf : ∀ i, i < m.length → onC (hopsL m to e) (i : Int) = false := fun i hi => by
    cases h : onC (hopsL m to e) (i : Int) with
    | false => rfl
    | true =>
      obtain ⟨k, _, h2⟩ := onC_iff.1 h
      rcases hops_itr he hi k with h3 | ⟨j, _, h4, h5⟩
      · omega
      · have : j = i := by omega
        subst this; omega
  rw [cycV, cycU, hopsL_len]
  rw [List.map_eq_nil_iff, List.filter_eq_nil_iff]
  intro a ha
  rw [hf a (List.mem_range.1 ha)]; simp
/-- The cost of the links ahead of place p of a path. -/
def sumN (m : List (List Int)) (a : List Int) : Nat → Int
  | 0 => 0
  | 1 => 0
  | p + 2 => sumN m a (p + 1) + costV m (gt a p) (gt a (p + 1))
theorem costV_range (m : List (List Int)) (i k : Int) : 0 ≤ costV m i k ∧ costV m i k ≤ 65535 := by
  unfold costV
  split
  · have := costT_range m i.toNat k.toNat; omega
  · omega
theorem sumN_range (m : List (List Int)) (a : List Int) : ∀ p, 0 ≤ sumN m a p ∧ sumN m a p ≤ 65535 * p
  | 0 => by simp [sumN]
  | 1 => by simp [sumN]
  | p + 2 => by
    have := sumN_range m a (p + 1)
    have := costV_range m (gt a p) (gt a (p + 1))
    rw [sumN]; omega
theorem sumN_congr {m : List (List Int)} {a b : List Int} : ∀ p, (∀ j, j < p → gt a j = gt b j) → sumN m a p = sumN m b p
  | 0, _ => rfl
  | 1, _ => rfl
  | p + 2, h => by
    rw [sumN, sumN, sumN_congr (p + 1) (fun j hj => h j (by omega)), h p (by omega), h (p + 1) (by omega)]
theorem path_spec {m : List (List Int)} {to : Nat} {e : List Int} (hv : validT m = true) (he : Bell m to e) {s : Int} : ∀ (v : Nat) (p : PathI (hopsL m to e) s) (k : Nat), p.i = (k : Int) → k < m.length → gt e k ≤ v → gt e k < 65535 →
    (∀ x ∈ p.a, gt e k < gt e x.toNat) → ∃ r : List Int, pathF (hopsL m to e) ((hopsL m to e).length + 1) [] s = r ∧ r ≠ [] ∧ gt r (r.length - 1) = (to : Int) ∧ sumN m r r.length = sumN m (p.a ++ [(k : Int)]) (p.a.length + 1) + gt e k := by
  intro v
  induction v with
  | zero =>
    intro p k hp hk h0 _ ha
    have hto : k = to := by
      rcases Nat.decEq k to with h | h
      · have := he.pos hk h; omega
      · exact h
    subst hto
    have hin : inN p.i (hopsL m k e).length ∧ p.i ∉ p.a := ⟨by rw [hp, hopsL_len]; exact ⟨by omega, by omega⟩, fun h => by have := ha _ h; rw [hp, Int.toNat_natCast] at this; omega⟩
    have hst := (p.next hin).stop (fun hc => by
      have h3 : (p.next hin).i = -1 := by
        show nx (hopsL m k e) p.i = -1
        rw [hp, nx_hop hk, hopV, if_pos (.inl rfl)]
      have := hc.1.1; omega)
    refine ⟨_, hst.symm, ?_, ?_, ?_⟩
    · simp [PathI.next]
    · simp [PathI.next, gt, hp]
    · show sumN m (p.a ++ [p.i]) (p.a ++ [p.i]).length = _
      rw [hp, he.zero]; simp
  | succ v ih =>
    intro p k hp hk h0 hfin ha
    have hin : inN p.i (hopsL m to e).length ∧ p.i ∉ p.a := ⟨by rw [hp, hopsL_len]; exact ⟨by omega, by omega⟩, fun h => by have := ha _ h; rw [hp, Int.toNat_natCast] at this; omega⟩
    rcases hop_spec he hk with ⟨h1, h2⟩ | ⟨k2, h1, h2, h3, h4, h5, h6⟩
    · have hto : k = to := by omega
      have hst := (p.next hin).stop (fun hc => by
        have h3 : (p.next hin).i = -1 := by
          show nx (hopsL m to e) p.i = -1
          rw [hp, nx_hop hk, h1]
        have := hc.1.1; omega)
      refine ⟨_, hst.symm, ?_, ?_, ?_⟩
      · simp [PathI.next]
      · simp [PathI.next, gt, hp, hto]
      · show sumN m (p.a ++ [p.i]) (p.a ++ [p.i]).length = _
        rw [hp, hto, he.zero]; simp
    · have hnx : (p.next hin).i = (k2 : Int) := by
        show nx (hopsL m to e) p.i = _
        rw [hp, nx_hop hk, h2]
      obtain ⟨r, r1, r2, r3, r4⟩ := ih (p.next hin) k2 hnx h1 (by omega) (by omega) (fun x hx => by
        rcases List.mem_append.1 (show x ∈ p.a ++ [p.i] from hx) with hx | hx
        · have := ha x hx; omega
        · rw [List.mem_singleton] at hx
          rw [hx, hp, Int.toNat_natCast]; exact h5)
      refine ⟨r, r1, r2, r3, ?_⟩
      rw [r4]
      have e1 : (p.next hin).a = p.a ++ [(k : Int)] := by show p.a ++ [p.i] = _; rw [hp]
      have e2 : (p.next hin).a.length + 1 = p.a.length + 2 := by rw [e1]; simp
      rw [e2, e1, sumN]
      have g1 : gt (p.a ++ [(k : Int)] ++ [(k2 : Int)]) p.a.length = (k : Int) := by simp [gt]
      have g2 : gt (p.a ++ [(k : Int)] ++ [(k2 : Int)]) (p.a.length + 1) = (k2 : Int) := by simp [gt]
      have g3 : sumN m (p.a ++ [(k : Int)] ++ [(k2 : Int)]) (p.a.length + 1) = sumN m (p.a ++ [(k : Int)]) (p.a.length + 1) := sumN_congr _ fun j hj => by
        rw [gt_app, if_pos (by simp; omega)]
      rw [g1, g2, g3, costV_nat hv hk h1]
      omega
/-- From a node whose distance is finite the hops lead to the node, at this cost. -/
theorem path_hops {m : List (List Int)} {to : Nat} {e : List Int} (hv : validT m = true) (he : Bell m to e) {i : Nat} (hi : i < m.length) (hf : gt e i < 65535) :
    pathV (hopsL m to e) (i : Int) ≠ [] ∧ gt (pathV (hopsL m to e) (i : Int)) ((pathV (hopsL m to e) (i : Int)).length - 1) = (to : Int) ∧ sumN m (pathV (hopsL m to e) (i : Int)) (pathV (hopsL m to e) (i : Int)).length = gt e i := by
  have r := he.range i hi
  obtain ⟨p, h1, h2, h3, h4⟩ := path_spec hv he (s := (i : Int)) (gt e i).toNat (PathI.start _ _) i rfl hi (by omega) hf (fun x hx => by simp [PathI.start] at hx)
  have e1 : pathV (hopsL m to e) (i : Int) = p := by
    rw [pathV, if_pos (by rw [hopsL_len]; exact ⟨by omega, by omega⟩), h1]
  rw [e1]
  refine ⟨h2, h3, ?_⟩
  rw [h4]
  show sumN m [(i : Int)] 1 + gt e i = gt e i
  simp [sumN]
end Go.Fw
