/- The laws of chapter 25 with loops: SequenceChains. -/
import Derived.Test.YtgkkceoocaincaaSeqTotal
namespace Go.Fw
open Go.Proofs
set_option maxHeartbeats 4000000
structure ChI (s m : Int) (costs : List Int) where
  k : Nat
  hk : k ≤ costs.length
  ms : List Int
  hl : ms.length = k + 1
  h0 : ∀ x ∈ ms, 0 ≤ x ∧ x ≤ 65535
  inc : ∀ (i : Nat) x y, ms[i]? = some x → ms[i + 1]? = some y → x < y ∨ y = 65535
theorem addM_up {m c : Int} (hm : 0 ≤ m ∧ m ≤ 65535) (hc : 1 ≤ c ∧ c ≤ 2000) : (m < addM m c ∨ addM m c = 65535) ∧ 0 ≤ addM m c ∧ addM m c ≤ 65535 := by
  unfold addM
  split <;> omega
theorem chain_lt {ms : List Int} (h0 : ∀ x ∈ ms, 0 ≤ x ∧ x ≤ 65535) (inc : ∀ (i : Nat) x y, ms[i]? = some x → ms[i + 1]? = some y → x < y ∨ y = 65535) :
    ∀ (d i : Nat) x y, ms[i]? = some x → ms[i + d + 1]? = some y → x < y ∨ y = 65535
  | 0, i, x, y, hx, hy => inc i x y hx hy
  | d + 1, i, x, y, hx, hy => by
    have hlt : i + d + 1 < ms.length := by
      have := (List.getElem?_eq_some_iff.1 hy).1; omega
    have hz := List.getElem?_eq_getElem hlt
    have h1 := chain_lt h0 inc d i x _ hx hz
    have h2 := inc (i + d + 1) _ y hz (by rw [← hy]; congr 1)
    have := h0 y (List.mem_of_getElem? hy)
    omega
theorem feas_no {s m m' : Int} (h : m' < m ∨ m = 65535) : feas s m s m' true = false := by
  unfold feas
  by_cases h1 : okM m = true
  · by_cases h2 : m = 65535
    · subst h2; simp
    · have : cmp s m s m' = 1 := cmp_ext' (by omega)
      simp [h1, this]
  · simp [h1]
theorem k_SequenceChains (s m : Int) (costs : List Int) (at_ : Int) : Con Try.prog 5 [dist s m, .fs .no 1 (ints costs), int at_] [] (bool true) [] := by
  have r1 := modV_range (v := m) (n := 1000) (by decide)
  refine spec_of_exec ttok mixed (T0 := 68) (ts := [.tmp 6]) 68 rfl rfl rfl rfl (by simp) rfl ?_
  conv => whnf
  refine Bif.mk (fun h1 => ?_) (fun h1 => ?_)
  · conv => whnf
    refine CallN.mk k_known ?_
    conv => whnf
    exact Out.none rfl rfl
  conv => whnf
  refine Bif.mk (fun h2 => ?_) (fun h2 => ?_)
  · conv => whnf
    refine CallN.mk k_known ?_
    conv => whnf
    exact Out.none rfl rfl
  have hc : 2 ≤ costs.length ∧ costs.length ≤ 30 := by
    simp [ints_len] at h1 h2; omega
  conv => whnf
  refine CallN.mk (k_made_Mod _ _ (by decide)) ?_
  conv => whnf
  refine loop_inv ttok mixed (T0 := 68) (ι := ChI s m costs)
    (fun i => [(2, int at_), (7, .ov 2 1 0 i.ms.length), (27, .fs .no 1 (ints costs)), (28, int (costs.length : Int)), (29, int (i.k : Int))])
    (fun i => [.cells (dist s (modV m 1000)), .arr 2 (i.ms.map fun x => dist s x)]) (fun i => costs.length - i.k)
    ⟨0, by omega, [modV m 1000], rfl, by simp; omega, fun i x y h1 h2 => by simp at h2⟩ ?_ ?_
  · refine Sub.go 2 ⟨rfl, rfl, rfl, ?_, rfl, trivial⟩ rfl (by decide) rfl rfl
    rw [← ints_len costs]; rfl
  rintro ⟨k, hk, ms, hl, h0, inc⟩
  dsimp only
  conv => whnf
  refine Bif.mk (fun h3 => ?_) (fun h3 => ?_)
  · have hkc : k < costs.length := by simp at h3; omega
    conv => whnf
    refine Need.mk (by rw [ints_len]; omega) ?_
    conv => whnf
    refine Elem.mk (int costs[k]) (by simp [ints, List.getElem?_eq_getElem hkc]) ?_
    conv => whnf
    have hw : IntKind.wrap .i64 ((ms.length : Int) - 1) = (k : Int) := by rw [wrap64_id (by omega)]; omega
    rw [hw]
    have hkm : k < ms.length := by omega
    have hb := h0 ms[k] (List.getElem_mem hkm)
    have r2 := modV_range (v := costs[k]) (n := 2000) (by decide)
    have hw2 : IntKind.wrap .i64 (1 + modV costs[k] 2000) = 1 + modV costs[k] 2000 := wrap64_id (by omega)
    have up := addM_up (m := ms[k]) (c := 1 + modV costs[k] 2000) hb (by omega)
    refine Need.mk (by omega) ?_
    conv => whnf
    refine Elem.mk (dist s ms[k]) (by simp [List.getElem?_eq_getElem hkm]) ?_
    conv => whnf
    refine CallN.mk (k_made_Mod _ _ (by decide)) ?_
    conv => whnf
    rw [hw2]
    refine CallN.mk (k_Extend _ _ _) ?_
    conv => whnf
    refine Need.mk (Nat.le_refl 1) ?_
    conv => whnf
    refine Need.mk ⟨by simp, by unfold roomOK; simp [setL, reps]; omega⟩ ?_
    conv => whnf
    refine Need.mk (by kernel_rfl) ?_
    conv => whnf
    refine ⟨⟨k + 1, by omega, ms ++ [addM ms[k] (1 + modV costs[k] 2000)], by simp [hl], ?_, ?_⟩, ?_, ?_⟩
    · intro x hx
      rcases List.mem_append.1 hx with hx | hx
      · exact h0 x hx
      · simp at hx; subst hx; exact up.2
    · intro i x y hx hy
      rcases Nat.lt_or_ge (i + 1) ms.length with hi | hi
      · rw [List.getElem?_append_left (by omega)] at hx hy
        exact inc i x y hx hy
      · have : i = k := by
          have := (List.getElem?_eq_some_iff.1 hy).1
          simp at this; omega
        subst this
        rw [List.getElem?_append_left (by omega), List.getElem?_eq_getElem hkm] at hx
        rw [List.getElem?_append_right (by omega)] at hy
        simp [hl] at hx hy
        subst hx hy
        exact up.1
    · dsimp only
      refine Sub.go 2 ⟨rfl, ?_, rfl, rfl, congrArg (fun x => some (SV.v (.int .i64 x))) (inc64 k (by omega)), trivial⟩ ?_ (by decide) rfl rfl
      · show some (SV.ov 2 1 0 _) = some (SV.ov 2 1 0 _)
        simp [setL, reps]
      · show [OB.cells _, OB.arr 2 _] = [OB.cells _, OB.arr 2 _]
        rw [List.map_append]
        rfl
    · show costs.length - (k + 1) < costs.length - k
      omega
  · have hkc : k = costs.length := by simp at h3; omega
    subst hkc
    conv => whnf
    have hw : IntKind.wrap .i64 ((ms.length : Int) - 1) = (costs.length : Int) := by rw [wrap64_id (by omega)]; omega
    rw [hw]
    have hlast : costs.length < ms.length := by omega
    have r2 := modV_range (v := at_) (n := (costs.length : Int)) (by omega)
    have hi : (modV at_ costs.length).toNat < ms.length := by omega
    have hne := chain_lt h0 inc (costs.length - 1 - (modV at_ costs.length).toNat) (modV at_ costs.length).toNat ms[(modV at_ costs.length).toNat] ms[costs.length] (List.getElem?_eq_getElem hi) (by
      rw [show (modV at_ costs.length).toNat + (costs.length - 1 - (modV at_ costs.length).toNat) + 1 = costs.length by omega]
      exact List.getElem?_eq_getElem hlast)
    refine Need.mk (by omega) ?_
    conv => whnf
    refine Elem.mk (dist s ms[costs.length]) (by simp [List.getElem?_eq_getElem hlast]) ?_
    conv => whnf
    rw [hw]
    refine CallN.mk (k_made_Mod _ _ (by omega)) ?_
    conv => whnf
    refine Need.mk (by omega) ?_
    conv => whnf
    refine Elem.mk (dist s ms[(modV at_ costs.length).toNat]) (by simp [List.getElem?_eq_getElem hi]) ?_
    conv => whnf
    refine CallN.mk (k_Feasible _ _ _ _ _) ?_
    conv => whnf
    refine Bif.tt (by rw [feas_no hne]; rfl) ?_
    conv => whnf
    refine CallN.mk k_known ?_
    conv => whnf
    refine Need.mk (by kernel_rfl) ?_
    conv => whnf
    exact Out.none rfl rfl
end Go.Fw
