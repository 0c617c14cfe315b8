/- DetectionMerges: the walk. -/
import Derived.Test.YtpmiaggdjgfjgaaGreatDetQ
namespace Go.Fw
open Go.Proofs
set_option maxHeartbeats 4000000
set_option maxRecDepth 4000
theorem mrgP_cases (cs : List Clm) : MrgOK cs (mrgP cs).1 (mrgP cs).2 ∨ mrgP cs = ([], []) := by
  by_cases h : ∃ p : List Clm × List Clm, MrgOK cs p.1 p.2
  · obtain ⟨p, hp⟩ := h
    rw [mrgP_eq hp]
    exact .inl hp
  · right
    unfold mrgP
    rw [dif_neg h]
theorem nodup_len : ∀ {L cs : List Clm}, L.Pairwise (fun x y => x ≠ y) → (∀ x ∈ L, x ∈ cs) → L.length ≤ cs.length
  | [], _, _, _ => Nat.zero_le _
  | x :: L, cs, h, g => by
    rw [List.pairwise_cons] at h
    have hx := g x (by simp)
    have ih := nodup_len (L := L) (cs := cs.erase x) h.2 fun y hy => (List.mem_erase_of_ne (fun e => h.1 y hy e.symm)).2 (g y (by simp [hy]))
    rw [List.length_erase_of_mem hx] at ih
    have := List.length_pos_of_mem hx
    rw [List.length_cons]
    omega
theorem MrgOK.len {cs R L : List Clm} (h : MrgOK cs R L) : R.length ≤ cs.length ∧ L.length ≤ cs.length := by
  refine ⟨nodup_len (h.rs.imp fun {x y} hxy e => ?_) h.sub.1, nodup_len (h.ls.imp fun {x y} hxy e => ?_) h.sub.2⟩
  · unfold byIP at hxy; rw [e, cmpIP_refl] at hxy; omega
  · unfold byC at hxy; rw [cmpC_zero.2 e] at hxy; omega
theorem mergeM_len (a b : List Clm) (now : Int) : (mergeM a b now).1.length ≤ a.length + b.length ∧ (mergeM a b now).2.1.length ≤ a.length + b.length := by
  unfold mergeM
  split
  · split
    · have c1 := cur_len a now
      have c2 := cur_len b now
      rcases mrgP_cases (cur a now ++ cur b now) with h | h
      · have hl := h.len
        rw [List.length_append] at hl
        unfold mrgE
        split
        · simp
        · dsimp only; omega
      · rw [h]; simp [mrgE]
    · simp
  · simp
theorem mergeM_valid (a b : List Clm) (now : Int) (h0 : (mergeM a b now).2.2 = 0) : validR (mergeM a b now).1 = true := by
  unfold mergeM at h0 ⊢
  by_cases hv : validR a = true ∧ validR b = true
  · rw [if_pos hv] at h0 ⊢
    by_cases hn : 0 ≤ now ∧ now ≤ 1099511627776
    · rw [if_pos hn] at h0 ⊢
      unfold mrgE at h0 ⊢
      by_cases h64 : (mrgP (cur a now ++ cur b now)).1.length > 64
      · rw [if_pos h64] at h0; simp at h0
      · rw [if_neg h64]
        rcases mrgP_cases (cur a now ++ cur b now) with h | h
        · refine validR_mk (by dsimp only; omega) (fun c hc => ?_) h.rs
          rcases List.mem_append.1 (h.sub.1 c hc) with g | g
          · exact validR_ok (cur_valid hv.1 now) c g
          · exact validR_ok (cur_valid hv.2 now) c g
        · rw [h]; exact validR_mk (by simp) (by simp) (by simp)
    · rw [if_neg hn] at h0; simp at h0
  · rw [if_neg hv] at h0; simp at h0
end Go.Fw
