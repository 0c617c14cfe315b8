/- The reference's Path. -/
import Derived.Test.YtkmcmhohelgjfaaOraB
namespace Go.Fw
open Go.Proofs
set_option maxHeartbeats 1000000
attribute [local semireducible] Nm Wr Bif
def nrm (l : List Int) (i : Int) : Int := if inN i l.length then i else -1
theorem stp_nrm {l : List Int} {i : Int} (h : inN i l.length) : stp l i = nrm l (nx l i) := by simp [stp, nrm, h]
theorem k_refPath (l : List Int) (t : Tg) (s : Int) (hl : l.length < 100000) : Con Try.prog 15 [.fs t 1 (ints l), int s] [] (.ov 1 0 0 (pathV l s).length) [.arr none 1 (ints (pathV l s))] := by
  refine spec_of_exec ttok mixed (T0 := 39) (ts := [.tmp 4]) 39 rfl rfl rfl rfl (by simp) rfl ?_
  conv => whnf
  have hs := ints_len l
  have bad : ¬ inN s l.length → Out 0 (SV.v (.slice none 0 0)) [] (.ov 1 0 0 (pathV l s).length) [.arr none 1 (ints (pathV l s))] := fun h => by
    rw [pathV, if_neg h]; exact Out.nil 1
  refine Bif.mk (fun h => ?_) (fun h => ?_)
  · conv => whnf
    exact bad (fun hc => by have := hc.1; simp at h; omega)
  conv => whnf
  refine Bif.mk (fun h2 => ?_) (fun h2 => ?_)
  · conv => whnf
    exact bad (fun hc => by have := hc.2; simp [ints_len] at h2; omega)
  have hin : inN s l.length := by simp [ints_len] at h h2; exact ⟨h, h2⟩
  conv => whnf
  refine loop_inv ttok mixed (T0 := 39) (ι := PathI l s)
    (fun p => [(0, .fs t 1 (ints l)), (5, .ov 1 0 0 p.a.length), (6, int (nrm l p.i))])
    (fun p => [.arr none 1 (ints p.a)]) (fun p => l.length - p.a.length) (PathI.start l s) ?_ ?_
  · refine (Sub.adopt 5 1 rfl (by simp)).trans (Sub.go 1 ⟨rfl, rfl, ?_, trivial⟩ rfl (by simp) rfl rfl)
    show some (int s) = some (int (nrm l s))
    rw [nrm, if_pos hin]
  intro p
  dsimp only
  conv => whnf
  refine Bif.mk (fun h1 => ?_) (fun h1 => ?_)
  · have hi : inN p.i l.length := by
      by_cases h : inN p.i l.length
      · exact h
      · simp [nrm, h] at h1
    have hn : nrm l p.i = p.i := by rw [nrm, if_pos hi]
    rw [hn]
    conv => whnf
    refine loop_inv ttok mixed (T0 := 39) (ι := {k : Nat // k ≤ p.a.length ∧ p.i ∉ p.a.take k})
      (fun i => [(0, .fs t 1 (ints l)), (5, .ov 1 0 0 p.a.length), (6, int p.i), (23, .ov 1 0 0 p.a.length), (24, int (p.a.length : Int)), (25, int (i.1 : Int))])
      (fun _ => [.arr none 1 (ints p.a)]) (fun i => p.a.length - i.1) ⟨0, by simp⟩ ?_ ?_
    · exact Sub.of ⟨rfl, rfl, rfl, rfl, rfl, rfl, trivial⟩
    rintro ⟨k, hk, he⟩
    dsimp only
    conv => whnf
    refine Bif.mk (fun h3 => ?_) (fun h3 => ?_)
    · have hka : k < p.a.length := by simp at h3; omega
      conv => whnf
      refine Need.mk (by omega) ?_
      conv => whnf
      refine Elem.mk (int p.a[k]) (by simpa using ints_get hka) ?_
      conv => whnf
      refine Bif.mk (fun h4 => ?_) (fun h4 => ?_)
      · conv => whnf
        have h5 : p.a[k] = p.i := by simpa using h4
        have hst := p.stop (fun hc => hc.2 (h5 ▸ List.getElem_mem hka))
        rw [pathV, if_pos hin, ← hst]
        exact Out.refl
      · conv => whnf
        have h5 : p.a[k] ≠ p.i := by simpa using h4
        have := p.len
        rw [inc64 k (by omega)]
        refine ⟨⟨k + 1, hka, ?_⟩, Sub.of ⟨rfl, rfl, rfl, rfl, rfl, rfl, trivial⟩, by simp only []; omega⟩
        rw [List.take_succ_eq_append_getElem hka, List.mem_append]
        rintro (hc | hc)
        · exact he hc
        · exact h5 (List.mem_singleton.1 hc).symm
    · have hka : k = p.a.length := by simp at h3; omega
      have hni : inN p.i l.length ∧ p.i ∉ p.a := ⟨hi, by rw [hka, List.take_of_length_le (Nat.le_refl _)] at he; exact he⟩
      conv => whnf
      refine Need.mk (Nat.le_refl 1) ?_
      conv => whnf
      refine Alt.l ?_
      conv => whnf
      refine Need.mk ⟨(ints_len _).symm, ?_⟩ ?_
      · have := p.len
        unfold roomOK; rw [ints_len]
        show (p.a.length + 1) * 8 ≤ _ ∧ p.a.length + 1 ≤ _
        omega
      conv => whnf
      refine CallN.mk (k_step _ _ _) ?_
      conv => whnf
      refine ⟨p.next hni, ?_, ?_⟩
      · refine Sub.go 1 ⟨rfl, ?_, ?_, trivial⟩ ?_ (by simp) rfl rfl
        · show some (SV.ov 1 0 0 (ints p.a ++ [int p.i]).length) = _
          simp [PathI.next, ints_len]
        · show some (int (stp l p.i)) = some (int (nrm l (nx l p.i)))
          rw [stp_nrm hi]
        · show [OB.arr none 1 (ints p.a ++ [int p.i])] = [OB.arr none 1 (ints (p.a ++ [p.i]))]
          simp [ints, lst]
      · have h1 := (p.next hni).len
        have h2 : (p.next hni).a.length = p.a.length + 1 := by simp [PathI.next]
        simp only []
        omega
  · conv => whnf
    have hst := p.stop (fun hc => by simp [nrm, hc.1] at h1; have := hc.1.1; omega)
    rw [pathV, if_pos hin, ← hst]
    exact Out.refl
end Go.Fw
