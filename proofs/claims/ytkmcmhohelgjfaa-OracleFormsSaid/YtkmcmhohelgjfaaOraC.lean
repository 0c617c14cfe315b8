/- The reference's Path. -/
import Derived.Test.YtkmcmhohelgjfaaOraB
namespace Go.Fw
set_option maxRecDepth 4000
open Go.Proofs
set_option maxHeartbeats 1000000
def nrm (l : List Int) (i : Int) : Int := if inN i l.length then i else -1
theorem stp_nrm {l : List Int} {i : Int} (h : inN i l.length) : stp l i = nrm l (nx l i) := by simp [stp, nrm, h]
theorem nin_snoc {a : List Int} {x : Int} {k : Nat} (hk : k < a.length) (h : x ∉ a.take k) (g : gt a k ≠ x) : x ∉ a.take (k + 1) := by
  rw [take_gt hk, List.mem_append]
  rintro (hc | hc)
  · exact h hc
  · exact g (List.mem_singleton.1 hc).symm
theorem k_refPath (l : List Int) (t : Tg) (s : Int) (hl : l.length < 100000) : Con Try.prog 15 [.fs t 1 (ints l), int s] [] (.ov 1 0 0 (pathV l s).length) [.arr none 1 (ints (pathV l s))] := by
  by_cases hin : inN s l.length
  case neg =>
    rw [pathV, if_neg hin]
    unfold inN at hin
    refine spec_of_run ttok mixed (T0 := 2273902963) (ts := [.tmp 4]) 39 rfl rfl rfl rfl (by simp) rfl ?_
    conv => whnf
    repeat' (first | with_reducible apply True.intro | ((first | ((with_reducible apply Nm.mk); focus ((try simp only [lns]); exact rfl)) | (with_reducible first | apply Bif.T | apply Bif.F) | ((with_reducible apply Bif.dec) <;> intro h <;> (try simp only [lns] at h) <;> (try (exfalso; omega))) | (with_reducible apply Same.rfl) | (apply Same.rfl) | (with_reducible apply Frz.l)) <;> conv => whnf) | fail)
  rw [pathV, if_pos hin]
  have hin2 : 0 ≤ s ∧ s < l.length := hin
  have hns : nrm l s = s := by rw [nrm, if_pos hin]
  refine spec_of_run ttok mixed (T0 := 2273902963) (ts := [.tmp 4]) 39 rfl rfl rfl rfl (by simp) rfl ?_
  conv => whnf
  repeat' (first | ((first | ((with_reducible apply Nm.mk); focus ((try simp only [lns]); exact rfl)) | (with_reducible apply Bif.F) | ((with_reducible apply Bif.dec) <;> intro h <;> (try simp only [lns] at h) <;> (try (exfalso; omega))) | (with_reducible apply Frz.l)) <;> conv => whnf) | fail)
  refine LoopN.adopt 5 1 rfl (by simp) ?_
  refine loop_keep ttok mixed (T0 := 2273902963) [0] (ι := PathI l s)
    (fun p => [(5, .ov 1 0 0 p.a.length), (6, int (nrm l p.i))])
    (fun p => [.arr none 1 (ints p.a)]) (fun p => l.length - p.a.length) (PathI.start l s) ?_
  conv => whnf
  repeat' (first | ((apply Same.mk (by rw [show (PathI.start l s).i = s from rfl, hns])); (conv => whnf)) | ((apply Same.mk rfl); (conv => whnf)) | ((with_reducible apply Frz.l) <;> conv => whnf) | fail)
  intro p
  dsimp only
  have hlen := p.len
  conv => whnf
  by_cases hi : inN p.i l.length
  · have hn : nrm l p.i = p.i := by rw [nrm, if_pos hi]
    have hi2 : 0 ≤ p.i ∧ p.i < l.length := hi
    rw [hn]
    repeat' (first | ((first | ((with_reducible apply Bif.dec) <;> intro h <;> (try simp only [lns] at h) <;> (try (exfalso; omega))) | (with_reducible apply Frz.l)) <;> conv => whnf) | fail)
    refine loop_keep ttok mixed (T0 := 2273902963) [0, 6, 24] (ι := {k : Nat // k ≤ p.a.length ∧ p.i ∉ p.a.take k})
      (fun i => [(5, .ov 1 0 0 p.a.length), (23, .ov 1 0 0 p.a.length), (25, int (i.1 : Int))])
      (fun _ => [.arr none 1 (ints p.a)]) (fun i => p.a.length - i.1) ⟨0, by simp⟩ ?_
    conv => whnf
    repeat' (first | ((first | (with_reducible apply Same.rfl) | (apply Same.int; focus rfl) | (with_reducible apply Frz.l)) <;> conv => whnf) | fail)
    rintro ⟨k, hk, he⟩
    dsimp only
    conv => whnf
    by_cases hka : k < p.a.length
    · by_cases h5 : gt p.a k = p.i
      · have hst := p.stop (fun hc => hc.2 (h5 ▸ gt_mem hka))
        rw [← hst]
        repeat' (first | with_reducible apply True.intro | ((first | ((with_reducible apply Nm.mk); focus ((try simp only [lns]); exact rfl)) | ((with_reducible apply Need.mk); focus omega) | ((with_reducible apply Elem.lst); focus omega) | ((with_reducible first | apply Bif.dec | apply Bif.beq) <;> intro h <;> (try simp only [lns] at h) <;> (try (exfalso; omega))) | (with_reducible apply Same.rfl) | (with_reducible apply Cut.l) | (with_reducible apply Frz.l)) <;> conv => whnf) | fail)
      · repeat' (first | ((first | ((with_reducible apply Nm.mk); focus ((try simp only [lns]); exact rfl)) | ((with_reducible apply Wr.i64); focus omega) | ((with_reducible apply Need.mk); focus omega) | ((with_reducible apply Elem.lst); focus omega) | ((with_reducible first | apply Bif.dec | apply Bif.beq) <;> intro h <;> (try simp only [lns] at h) <;> (try (exfalso; omega))) | (with_reducible apply Frz.l)) <;> conv => whnf) | fail)
        (refine ⟨⟨k + 1, hka, nin_snoc hka he h5⟩, ?_⟩; (try dsimp only); conv => whnf); repeat' (first | with_reducible apply True.intro | ((first | ((with_reducible apply Need.mk); focus omega) | (with_reducible apply Same.rfl) | (apply Same.int; focus rfl) | (with_reducible apply Turn.l) | (with_reducible apply Frz.l)) <;> conv => whnf) | fail)
    · have hni : inN p.i l.length ∧ p.i ∉ p.a := ⟨hi, by rw [List.take_of_length_le (by omega)] at he; exact he⟩
      have cs := k_step l t p.i
      rw [stp_nrm hi] at cs
      have e1 : (p.next hni).a = p.a ++ [p.i] := rfl
      have e2 : (p.next hni).i = nx l p.i := rfl
      have e3 : (p.next hni).a.length = p.a.length + 1 := by rw [e1]; simp
      have e4 := (p.next hni).len
      generalize p.next hni = p2 at *
      repeat' (first | ((first | (with_reducible apply Nm.snoc _ (rfl)) | ((with_reducible apply Nm.mk); focus ((try simp only [lns]); exact rfl)) | ((with_reducible apply Need.mk); focus first | (simp only [lns]; omega) | (unfold roomOK; simp only [lns]; omega)) | (apply CallN.mk (cs)) | ((with_reducible apply Bif.dec) <;> intro h <;> (try simp only [lns] at h) <;> (try (exfalso; omega))) | (with_reducible apply Alt.l) | (with_reducible apply Frz.l)) <;> conv => whnf) | fail)
      refine ⟨p2, ?_⟩
      conv => whnf
      repeat' (first | with_reducible apply True.intro | ((with_reducible apply Same.mk); (focus (first | (rw [e3]; done) | (rw [e2]; done) | (rw [e1]; done) | fail)); (conv => whnf)) | ((first | ((with_reducible apply Need.mk); focus (simp only [lns]; omega)) | (with_reducible apply Same.rfl) | (with_reducible apply Turn.l) | (with_reducible apply Frz.l)) <;> conv => whnf) | fail)
  · have hst := p.stop (fun hc => hi hc.1)
    have hn : nrm l p.i = -1 := by rw [nrm, if_neg hi]
    rw [← hst, hn]
    repeat' (first | with_reducible apply True.intro | ((first | ((with_reducible apply Bif.dec) <;> intro h <;> (try simp only [lns] at h) <;> (try (exfalso; omega))) | (with_reducible apply Same.rfl) | (with_reducible apply Cut.l) | (with_reducible apply Frz.l)) <;> conv => whnf) | fail)
end Go.Fw
