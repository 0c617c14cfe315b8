/- The laws of chapter 25 with loops: SequenceForms. -/
import Derived.Test.YtgkkceoocaincaaSeqLaws
namespace Go.Fw
open Go.Proofs
set_option maxHeartbeats 4000000
/-- A distance of the tape. -/
def TapeDist (l : List Int) (r : SV) (hp' : List OB) : Prop := ∃ s m k' : Int, r = dist s m ∧ hp' = [.cells (tape l k')] ∧ 0 ≤ s ∧ s ≤ 65535 ∧ 0 ≤ m ∧ m ≤ 65535 ∧ 0 ≤ k'
theorem k_world_Cost (l : List Int) (k : Int) (hk : 0 ≤ k) (hl : l.length ≤ 400) : ∃ r hp', TapeInt l 0 65536 r hp' ∧ Con Try.prog 12 [.pb 0 []] [.cells (tape l k)] r hp' := by
  refine spec_of_exec_ex ttok mixed (T0 := 18) (ts := [.tmp 2]) 18 rfl rfl rfl rfl (by simp) rfl ?_
  conv => whnf
  repeat' (first | (refine CallN.ex (k_tape_Next _ _ _ (by assumption) (by assumption) (by decide)) ?_; rintro _ _ ⟨_, _, rfl, rfl, _, _, _⟩; conv => whnf) | (refine Bif.mk (fun _ => ?_) (fun _ => ?_) <;> conv => whnf) | (refine Need.mk (by first | decide | kernel_rfl) ?_; conv => whnf))
  · refine ⟨_, _, ⟨_, _, rfl, rfl, ?_, ?_, ?_⟩, Out.refl⟩ <;> omega
  · rename_i x k' a b c _
    refine ⟨_, _, ⟨_, _, rfl, rfl, ?_, ?_, ?_⟩, Out.refl⟩
    · rw [wrap64_id (by omega)]; omega
    · rw [wrap64_id (by omega)]; omega
    · assumption
  · rename_i x k' a b c
    refine ⟨_, _, ⟨_, _, rfl, rfl, ?_, ?_, ?_⟩, Out.refl⟩
    · rw [wrap64_id (x := 32 * x) (by omega), wrap64_id (by omega)]; omega
    · rw [wrap64_id (x := 32 * x) (by omega), wrap64_id (by omega)]; omega
    · assumption
theorem k_world_Seq (l : List Int) (k : Int) (hk : 0 ≤ k) (hl : l.length ≤ 400) : ∃ r hp', (∃ x k' : Int, r = u16 x ∧ hp' = [.cells (tape l k')] ∧ 0 ≤ x ∧ x ≤ 65535 ∧ 0 ≤ k') ∧ Con Try.prog 29 [.pb 0 []] [.cells (tape l k)] r hp' := by
  refine spec_of_exec_ex ttok mixed (T0 := 7) (ts := [.tmp 2]) 7 rfl rfl rfl rfl (by simp) rfl ?_
  conv => whnf
  repeat' (first | (refine CallN.ex (k_tape_Next _ _ _ (by assumption) (by assumption) (by decide)) ?_; rintro _ _ ⟨_, _, rfl, rfl, _, _, _⟩; conv => whnf) | (refine Bif.mk (fun _ => ?_) (fun _ => ?_) <;> conv => whnf) | (refine Need.mk (by first | decide | kernel_rfl) ?_; conv => whnf))
  refine ⟨_, _, ⟨_, _, rfl, rfl, ?_, ?_, by assumption⟩, Out.refl⟩ <;> (rw [wrap16]; omega)
theorem k_world_Distance (l : List Int) (k : Int) (hk : 0 ≤ k) (hl : l.length ≤ 400) : ∃ r hp', TapeDist l r hp' ∧ Con Try.prog 17 [.pb 0 []] [.cells (tape l k)] r hp' := by
  refine spec_of_exec_ex ttok mixed (T0 := 8) (ts := [.cell 2 30]) 8 rfl rfl rfl rfl (by simp) rfl ?_
  conv => whnf
  repeat' (first | (refine CallN.ex (k_world_Seq _ _ (by assumption) (by assumption)) ?_; rintro _ _ ⟨_, _, rfl, rfl, _, _, _⟩; conv => whnf) | (refine CallN.ex (k_world_Cost _ _ (by assumption) (by assumption)) ?_; rintro _ _ ⟨_, _, rfl, rfl, _, _, _⟩; conv => whnf) | (refine Bif.mk (fun _ => ?_) (fun _ => ?_) <;> conv => whnf) | (refine Need.mk (by first | decide | kernel_rfl) ?_; conv => whnf))
  refine ⟨_, _, ⟨_, _, _, rfl, rfl, ?_, ?_, ?_, ?_, ?_⟩, Out.keep 1 rfl rfl (by simp) rfl rfl⟩
  all_goals first | assumption | omega
def dd (p : Int × Int) : SV := dist p.1 p.2
theorem k_SequenceForms (s m s' m' : Int) (t : List Int) (has : Bool) (c : Int) :
    Con Try.prog 6 [dist s m, dist s' m', .fs .no 1 (ints t), bool has, int c] [] (bool true) [] := by
  have htl : (t.take 400).length ≤ 400 := by simp; omega
  have hz : (0 : Int) ≤ 0 := Int.le_refl 0
  refine spec_of_exec ttok mixed (T0 := 138) (ts := [.tmp 10]) 138 rfl rfl rfl rfl (by simp) rfl ?_
  conv => whnf
  repeat' (first | (refine CallN.mk (k_made_New _) ?_; conv => whnf) | (refine CallN.ex (k_world_Distance _ _ (by assumption) (by assumption)) ?_; rintro _ _ ⟨_, _, _, rfl, rfl, _, _, _, _, _⟩; conv => whnf) | (refine CallN.mk (k_made_Mod _ _ (by decide)) ?_; conv => whnf) | (refine Bif.mk (fun _ => ?_) (fun _ => ?_) <;> conv => whnf) | (refine Need.mk (by first | decide | kernel_rfl) ?_; conv => whnf))
  rename_i s2 m2 k2 _ _ _ _ _ s3 m3 k3 _ _ _ _ _
  let ds : List (Int × Int) := [(s, m), (s', m'), (s2, m2), (s3, m3), (s, m'), (IntKind.wrap .u16 (s + 32768), m), (s', 65535), (IntKind.wrap .u16 (s' + 1), IntKind.wrap .i64 (modV c 70000 - 2))]
  have hd : ∃ ds : List (Int × Int), ds = [(s, m), (s', m'), (s2, m2), (s3, m3), (s, m'), (IntKind.wrap .u16 (s + 32768), m), (s', 65535), (IntKind.wrap .u16 (s' + 1), IntKind.wrap .i64 (modV c 70000 - 2))] := ⟨_, rfl⟩
  obtain ⟨ds, hds⟩ := hd
  have hlen : ds.length = 8 := by rw [hds]; rfl
  refine loop_inv ttok mixed (T0 := 138) (ι := {k : Nat // k ≤ 8})
    (fun k => [(3, bool has), (4, int c), (12, .ov 2 3 0 8), (47, .ov 2 3 0 8), (48, int 8), (49, int (k.1 : Int))])
    (fun _ => [.cells (dist s m), .cells (dist s' m'), .cells (tape (t.take 400) k3), .arr 2 (ds.map dd)]) (fun k => 8 - k.1) ⟨0, by decide⟩ ?_ ?_
  · rw [hds]
    exact Sub.of ⟨rfl, rfl, rfl, rfl, rfl, rfl, trivial⟩
  rintro ⟨k, hk⟩
  dsimp only
  conv => whnf
  refine Bif.mk (fun h1 => ?_) (fun h1 => ?_)
  · have hk8 : k < 8 := by simp at h1; omega
    conv => whnf
    refine Need.mk (by omega) ?_
    conv => whnf
    have hkl : k < ds.length := by omega
    refine Elem.mk (dd ds[k]) (by simp [List.getElem?_eq_getElem hkl]) ?_
    conv => whnf
    refine loop_inv ttok mixed (T0 := 138) (ι := {k : Nat // k ≤ 8})
      (fun j => [(3, bool has), (4, int c), (12, .ov 2 3 0 8), (47, .ov 2 3 0 8), (48, int 8), (49, int (k : Int)), (14, .pb 4 []), (53, .ov 2 3 0 8), (54, int 8), (55, int (j.1 : Int))])
      (fun _ => [.cells (dist s m), .cells (dist s' m'), .cells (tape (t.take 400) k3), .arr 2 (ds.map dd), .cells (dd ds[k])]) (fun j => 8 - j.1) ⟨0, by decide⟩
      (Sub.of ⟨rfl, rfl, rfl, rfl, rfl, rfl, rfl, rfl, rfl, rfl, trivial⟩) ?_
    rintro ⟨j, hj⟩
    dsimp only
    conv => whnf
    refine Bif.mk (fun h2 => ?_) (fun h2 => ?_)
    · have hj8 : j < 8 := by simp at h2; omega
      conv => whnf
      refine Need.mk (by omega) ?_
      conv => whnf
      have hjl : j < ds.length := by omega
      refine Elem.mk (dd ds[j]) (by simp [List.getElem?_eq_getElem hjl]) ?_
      conv => whnf
      repeat' (first | (refine Bif.ff (by simp; done) ?_; conv => whnf) | (refine CallN.mk (k_Newer _ _) ?_; conv => whnf) | (refine CallN.mk (k_refNewer _ _) ?_; conv => whnf) | (refine CallN.mk (k_Compare _ _ _ _) ?_; conv => whnf) | (refine CallN.mk (k_refCompare _ _ _ _) ?_; conv => whnf) | (refine CallN.mk (k_Lower _ _ _ _) ?_; conv => whnf) | (refine CallN.mk (k_refLower _ _ _ _) ?_; conv => whnf) | (refine CallN.mk (k_Raise _ _) ?_; conv => whnf) | (refine CallN.mk (k_refRaise _ _) ?_; conv => whnf) | (refine CallN.mk (k_Feasible _ _ _ _ _) ?_; conv => whnf) | (refine CallN.mk (k_refFeasible _ _ _ _ _) ?_; conv => whnf) | (refine CallN.mk (k_Extend _ _ _) ?_; conv => whnf) | (refine CallN.mk (k_refExtend _ _ _) ?_; conv => whnf) | (refine Need.mk (by first | decide | kernel_rfl) ?_; conv => whnf))
      refine ⟨⟨j + 1, by omega⟩, Sub.go 5 ⟨rfl, rfl, rfl, rfl, rfl, rfl, rfl, rfl, rfl, congrArg (fun x => some (SV.v (.int .i64 x))) (inc64 j (by omega)), trivial⟩ rfl (by decide) rfl rfl, ?_⟩
      show 8 - (j + 1) < 8 - j
      omega
    · conv => whnf
      repeat' (first | (refine Bif.ff (by simp; done) ?_; conv => whnf) | (refine CallN.mk (k_seqValid _ _) ?_; conv => whnf) | (refine CallN.mk (k_refValid _ _) ?_; conv => whnf) | (refine CallN.mk (k_Extend _ _ _) ?_; conv => whnf) | (refine CallN.mk (k_refExtend _ _ _) ?_; conv => whnf) | (refine Need.mk (by first | decide | kernel_rfl) ?_; conv => whnf))
      refine ⟨⟨k + 1, by omega⟩, Sub.go 4 ⟨rfl, rfl, rfl, rfl, rfl, congrArg (fun x => some (SV.v (.int .i64 x))) (inc64 k (by omega)), trivial⟩ rfl (by decide) rfl rfl, ?_⟩
      show 8 - (k + 1) < 8 - k
      omega
  · conv => whnf
    refine CallN.mk k_known ?_
    conv => whnf
    exact Out.none rfl rfl
end Go.Fw
