/- Small networks; what is known. -/
import Derived.Test.YtpmiaggdjgfjgaaParH
namespace Go.Fw
open Go.Proofs
set_option maxHeartbeats 4000000
set_option maxRecDepth 4000
theorem k_small37 (n : Net) (hm : n.mem.length ≤ 9223372036854775807) (hc : n.cl.length ≤ 9223372036854775807) : Con Try.prog 8 [netF n] [] (bool (decide (n.mem.length ≤ 20 ∧ n.cl.length ≤ 70))) [] := by
  refine spec_of_run ttok mixed (T0 := 7) (ts := [.tmp 2]) 13 rfl rfl rfl rfl (by simp) rfl ?_
  conv => whnf
  repeat' (first | ((first | ((with_reducible apply Nm.mk); focus ((try simp only [lns]); exact rfl)) | (with_reducible first | apply Bif.T | apply Bif.F) | ((with_reducible apply Bif.dec) <;> intro h <;> (try simp only [lns] at h))) <;> conv => whnf) | fail)
  all_goals (apply Same.bool (by rw [Bool.eq_iff_iff]; simp only [decide_eq_true_eq, Bool.false_eq_true, false_iff, true_iff, Bool.and_eq_true, Bool.or_eq_true, Bool.not_eq_true', decide_eq_false_iff_not, ne_eq]; omega); (conv => whnf); repeat' (first | with_reducible apply True.intro | fail))
theorem cl_lst {α : Type} {f : α → SV} (g : ∀ a, cl (f a) = true) {x : Option Nat} {E : Nat} {l : List α} : cleanOB (.arr x E (lst f l)) := fun s hs => by
  obtain ⟨a, _, rfl⟩ := List.mem_map.1 hs
  exact g a
theorem clean_join (x : Net) (L : List Clm) (k : Nat) (e : Int) : CleanP (.tup [netO x 0 1, .ov 20 2 0 k, int e]) (netH x ++ [.arr none 20 (lst clmV L)]) :=
  ⟨rfl, fun ob ho => by
    simp only [netH, List.cons_append, List.nil_append, List.mem_cons, List.not_mem_nil, or_false] at ho
    rcases ho with rfl | rfl | rfl
    · exact cl_lst fun _ => rfl
    · exact cl_lst fun _ => rfl
    · exact cl_lst fun _ => rfl⟩
theorem kn_a : foundM 5 3 20 = (⟨3, 20, [20], []⟩, 0) := by decide
theorem kn_b : foundM 5 3 10 = (⟨3, 10, [10], []⟩, 0) := by decide
theorem merge0 {now : Int} (h : isTm now) : mergeM [] [] now = ([], [], 0) := by
  obtain ⟨R, L, h1, e⟩ := mergeM_ok (a := []) (b := []) (now := now) (by decide) (by decide) h (by simp)
  have l := h1.len
  have eR : R = [] := List.eq_nil_of_length_eq_zero (by simpa [cur] using l.1)
  have eL : L = [] := List.eq_nil_of_length_eq_zero (by simpa [cur] using l.2)
  rw [e, eR, eL]
theorem kn_c : joinM ⟨3, 20, [20], []⟩ ⟨3, 10, [10], []⟩ 6 = (⟨3, 10, [10, 20], []⟩, [], 0) := by
  rw [joinM, if_pos (by decide), if_pos (by decide)]
  dsimp only
  rw [merge0 (by decide), if_neg (by decide), if_pos (by decide)]
  rfl
theorem kn_d : leaveM ⟨3, 10, [10, 20], []⟩ [20, 30] = (⟨4, 20, [20], []⟩, 0) := by decide
theorem k_known37 : Con Try.prog 9 [] [] (bool true) [] := by
  have ca := k_xFound 5 3 20
  have cb := k_xFound 5 3 10
  have cc := fun t1 t2 t3 t4 => k_xJoinT ⟨3, 20, [20], []⟩ ⟨3, 10, [10], []⟩ t1 t2 t3 t4 6 ⟨by decide, by decide, by decide⟩ ⟨by decide, by decide, by decide⟩
  have cd := fun t1 t2 t3 => k_xLeaveT ⟨3, 10, [10, 20], []⟩ [20, 30] t1 t2 t3 ⟨by decide, by decide, by decide⟩ (by decide)
  have ce := fun t1 t2 => k_EqualU [10, 20] t1 t2 (by decide)
  rw [kn_a] at ca
  rw [kn_b] at cb
  rw [kn_c] at cc
  rw [kn_d] at cd
  refine spec_of_run ttok mixed (T0 := 959) (ts := [.tmp 0]) 63 rfl rfl rfl rfl (by simp) rfl ?_
  conv => whnf
  repeat' (first | with_reducible apply True.intro | ((with_reducible apply Need.mk); (focus (exact clean_join _ _ _ _)); (conv => whnf)) | ((first | ((with_reducible apply Nm.mk); focus ((try simp only [lns]); exact rfl)) | ((with_reducible apply Need.mk); focus first | (simp only [lns]; omega) | exact CleanP.nil rfl | exact CleanP.lst2 rfl (fun _ => rfl) (fun _ => rfl)) | (apply CallN.mk (ca)) | (apply CallN.mk (cb)) | (apply CallN.mk (cc _ _ _ _)) | (apply CallN.mk (cd _ _ _)) | (apply CallN.mk (ce _ _)) | (with_reducible apply Bif.T) | ((with_reducible apply Bif.beq) <;> intro h <;> (try simp only [lns] at h) <;> (try (exfalso; omega))) | (with_reducible apply Bif.and) | (apply Same.rfl) | (with_reducible apply GiveN.lend)) <;> conv => whnf) | fail)
end Go.Fw
