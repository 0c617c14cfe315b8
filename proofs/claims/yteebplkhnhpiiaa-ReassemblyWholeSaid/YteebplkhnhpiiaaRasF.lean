/- Valid buffers: the reference. -/
import Derived.Test.YteebplkhnhpiiaaRasE
namespace Go.Fw
set_option maxRecDepth 4000
open Go.Proofs
set_option maxHeartbeats 8000000
theorem joinR_isNone {l : List Frg} : (joinR l).2 = !(joinF l).isNone := by
  unfold joinR
  cases joinF l <;> rfl
theorem k_one (b : Buf) (hb : sizB b) : Con Try.prog 56 [bufV b] [] (bool (validB b)) [] := by
  obtain ⟨h1, h2⟩ := hb
  by_cases hpre : preB b
  case neg =>
    rw [validB_not hpre]
    refine spec_of_run ttok mixed (T0 := 4835703278458525557194847) (ts := [.tmp 2]) 91 rfl rfl rfl rfl (by simp) rfl ?_
    conv => whnf
    repeat' (first | with_reducible apply True.intro | ((first | ((with_reducible apply Nm.mk); focus ((try simp only [lns]); exact rfl)) | (apply CallN.mk (k_refSome _)) | (apply CallN.mk (k_recTime _)) | (with_reducible first | apply Bif.T | apply Bif.F) | ((with_reducible first | apply Bif.dec | apply Bif.beq) <;> intro h <;> (try simp only [lns] at h) <;> (try (exact absurd ⟨‹_›, ‹_›, ‹_›, by omega⟩ hpre))) | (with_reducible apply Bif.not) | ((with_reducible apply Bif.mk) <;> intro h) | (apply Same.bool; focus (with_reducible rfl)) | (with_reducible apply Frz.l)) <;> conv => whnf) | fail)
    all_goals (exact absurd ⟨‹_›, ‹_›, ‹_›, by omega⟩ hpre)
  rw [validB_pre hpre]
  obtain ⟨p1, p2, p3, p4⟩ := hpre
  have c1 := k_refSome b.src
  have c2 := k_refSome b.dst
  have c3 := k_recTime b.upto
  rw [p1] at c1
  rw [p2] at c2
  rw [decide_eq_true p3] at c3
  have hv := fun f hf => k_rfValid f .no (h2 f hf)
  refine spec_of_run ttok mixed (T0 := 4835703278458525557194847) (ts := [.tmp 2]) 91 rfl rfl rfl rfl (by simp) rfl ?_
  conv => whnf
  repeat' (first | ((first | ((with_reducible apply Nm.mk); focus ((try simp only [lns]); exact rfl)) | (apply CallN.mk (c1)) | (apply CallN.mk (c2)) | (apply CallN.mk (c3)) | (with_reducible first | apply Bif.T | apply Bif.F) | ((with_reducible apply Bif.beq) <;> intro h <;> (try simp only [lns] at h) <;> (try (exfalso; omega))) | (with_reducible apply Bif.not) | (with_reducible apply Frz.l)) <;> conv => whnf) | fail)
  refine loop_keep ttok mixed (T0 := 4835703278458525557194847) [] (ι := VI b.size b.tag b.parts)
    (fun p => [(1, .pb 0 []), (3, int (p.i : Int))]) (fun p => [.cells (bufV b)]) (fun p => b.parts.length - p.i) ⟨0, 0, 0, by omega, by omega, rfl, rfl⟩ ?_
  conv => whnf
  repeat' (first | ((apply Same.mk rfl); conv => whnf) | ((with_reducible apply Frz.l) <;> conv => whnf) | fail)
  rintro p
  dsimp only
  have hi := p.hi
  have hc := p.hc
  have hpr := p.pr
  conv => whnf
  by_cases hil : p.i < b.parts.length
  · have hv1 := hv _ (gt_mem hil)
    have e1 : ((p.i : Int) - 1).toNat = p.i - 1 := by omega
    by_cases hx : okF (gt b.parts p.i) = true ∧ (gt b.parts p.i).size = b.size ∧ (gt b.parts p.i).tag = b.tag ∧ p.b ≤ (gt b.parts p.i).off
    · rw [hx.1] at hv1
      obtain ⟨⟨qi, qc, qb, a1, a2, a3, a4⟩, g1, g2, g3⟩ := p.step hil hx
      dsimp only at g1 g2 g3
      subst g1 g2 g3
      have hx4 := hx.2.2.2
      rcases Nat.eq_zero_or_pos p.i with h0 | h0
      · repeat' (first | ((first | ((with_reducible apply Nm.mk); focus ((try simp only [lns, e1]); exact rfl)) | ((with_reducible apply Wr.i64); focus omega) | ((with_reducible apply Need.mk); focus first | (simp only [lns, e1]; omega) | kernel_rfl) | ((with_reducible apply Elem.lst); focus omega) | (apply CallN.mk (hv1)) | (with_reducible first | apply Bif.T | apply Bif.F) | ((with_reducible first | apply Bif.dec | apply Bif.bne) <;> intro h <;> (try simp only [lns, e1] at h) <;> (try (exfalso; omega))) | (with_reducible apply Bif.not) | (with_reducible apply Frz.l)) <;> conv => whnf) | fail)
        (refine ⟨⟨p.i + 1, _, _, a1, a2, a3, a4⟩, ?_⟩; (try dsimp only); conv => whnf); repeat' (first | with_reducible apply True.intro | ((first | ((with_reducible apply Need.mk); focus omega) | (with_reducible apply Same.rfl) | (apply Same.int; focus rfl) | (with_reducible apply Turn.l) | (with_reducible apply Frz.l)) <;> conv => whnf) | fail)
      · rw [if_neg (by omega)] at hpr
        have ho := okF_iff.1 hpr.2
        have hpb := hpr.1
        unfold fEnd at hpb
        repeat' (first | ((first | ((with_reducible apply Nm.mk); focus ((try simp only [lns, e1]); exact rfl)) | ((with_reducible apply Wr.i64); focus omega) | ((with_reducible apply Need.mk); focus first | (simp only [lns, e1]; omega) | kernel_rfl) | ((with_reducible apply Elem.lst); focus omega) | (apply CallN.mk (hv1)) | (with_reducible first | apply Bif.T | apply Bif.F) | ((with_reducible first | apply Bif.dec | apply Bif.bne) <;> intro h <;> (try simp only [lns, e1] at h) <;> (try (exfalso; omega))) | (with_reducible apply Bif.not) | (with_reducible apply Frz.l)) <;> conv => whnf) | fail)
        (refine ⟨⟨p.i + 1, _, _, a1, a2, a3, a4⟩, ?_⟩; (try dsimp only); conv => whnf); repeat' (first | with_reducible apply True.intro | ((first | ((with_reducible apply Need.mk); focus omega) | (with_reducible apply Same.rfl) | (apply Same.int; focus rfl) | (with_reducible apply Turn.l) | (with_reducible apply Frz.l)) <;> conv => whnf) | fail)
    · have hn := p.fail hil hx
      rw [hn]
      rcases Nat.eq_zero_or_pos p.i with h0 | h0
      · rw [if_pos h0] at hpr
        repeat' (first | with_reducible apply True.intro | ((first | ((with_reducible apply Nm.mk); focus ((try simp only [lns, e1]); exact rfl)) | ((with_reducible apply Wr.i64); focus omega) | ((with_reducible apply Need.mk); focus first | (simp only [lns, e1]; omega) | kernel_rfl) | ((with_reducible apply Elem.lst); focus omega) | (apply CallN.mk (hv1)) | (with_reducible first | apply Bif.T | apply Bif.F) | ((with_reducible first | apply Bif.dec | apply Bif.bne) <;> intro h <;> (try simp only [lns, e1] at h) <;> (try (exfalso; omega))) | (with_reducible apply Bif.not) | ((with_reducible apply Bif.mk) <;> intro h) | (apply Same.bool; focus (with_reducible rfl)) | (with_reducible apply Frz.l)) <;> conv => whnf) | fail)
        all_goals
          have ho := okF_iff.1 ‹okF (gt b.parts p.i) = true›
          exact absurd ⟨‹_›, ‹_›, ‹_›, by omega⟩ hx
      · rw [if_neg (by omega)] at hpr
        have ho := okF_iff.1 hpr.2
        have hpb := hpr.1
        unfold fEnd at hpb
        repeat' (first | with_reducible apply True.intro | ((first | ((with_reducible apply Nm.mk); focus ((try simp only [lns, e1]); exact rfl)) | ((with_reducible apply Wr.i64); focus omega) | ((with_reducible apply Need.mk); focus first | (simp only [lns, e1]; omega) | kernel_rfl) | ((with_reducible apply Elem.lst); focus omega) | (apply CallN.mk (hv1)) | (with_reducible first | apply Bif.T | apply Bif.F) | ((with_reducible first | apply Bif.dec | apply Bif.bne) <;> intro h <;> (try simp only [lns, e1] at h) <;> (try (exfalso; omega))) | (with_reducible apply Bif.not) | ((with_reducible apply Bif.mk) <;> intro h) | (apply Same.bool; focus (with_reducible rfl)) | (with_reducible apply Frz.l)) <;> conv => whnf) | fail)
        all_goals (exact absurd ⟨‹_›, ‹_›, ‹_›, by omega⟩ hx)
  · have hfin := p.e
    rw [List.drop_eq_nil_of_le (by omega), chkP] at hfin
    have hP := (chkP_parts hfin.symm).1
    have hl0 : b.parts ≠ [] := fun e => p4 (by rw [e]; rfl)
    have hJ := k_rJoin b.parts .no (by have := hP.len; omega) h2
    rw [joinR_isNone] at hJ
    have hpe := partsOK_join hP hl0
    rw [hpe]
    repeat' (first | with_reducible apply True.intro | ((apply Same.bool (Bool.not_not _)); (conv => whnf)) | ((first | ((with_reducible apply Nm.mk); focus ((try simp only [lns]); exact rfl)) | (apply CallN.mk (hJ)) | ((with_reducible apply Bif.dec) <;> intro h <;> (try simp only [lns] at h) <;> (try (exfalso; omega))) | (with_reducible apply Frz.l)) <;> conv => whnf) | fail)
theorem k_rValid (l : List Buf) (t : Tg) (hl : sizL l) : Con Try.prog 32 [.fs t 10 (lst bufV l)] [] (bool (validL l)) [] := by
  obtain ⟨hl, hs⟩ := hl
  refine spec_of_run ttok mixed (T0 := 8594655389) (ts := [.tmp 2]) 34 rfl rfl rfl rfl (by simp) rfl ?_
  conv => whnf
  by_cases hn : 4 < l.length
  · rw [validL_long hn]
    repeat' (first | with_reducible apply True.intro | ((first | ((with_reducible apply Nm.mk); focus ((try simp only [lns]); exact rfl)) | ((with_reducible apply Bif.dec) <;> intro h <;> (try simp only [lns] at h) <;> (try (exfalso; omega))) | (apply Same.bool; focus (with_reducible rfl)) | (with_reducible apply Frz.l)) <;> conv => whnf) | fail)
  repeat' (first | ((first | ((with_reducible apply Nm.mk); focus ((try simp only [lns]); exact rfl)) | ((with_reducible apply Bif.dec) <;> intro h <;> (try simp only [lns] at h) <;> (try (exfalso; omega))) | (with_reducible apply Frz.l)) <;> conv => whnf) | fail)
  refine loop_keep ttok mixed (T0 := 8594655389) [0] (ι := {k : Nat // k ≤ l.length ∧ ∀ i, i < k → validB (gt l i) = true ∧ ∀ j, j < i → keyB (gt l j) (gt l i) = false})
    (fun k => [(3, int (k.1 : Int))]) (fun _ => []) (fun k => l.length - k.1) ⟨0, by omega, none_lt⟩ ?_
  conv => whnf
  repeat' (first | ((first | (with_reducible apply Same.rfl) | (apply Same.int; focus rfl) | (with_reducible apply Frz.l)) <;> conv => whnf) | fail)
  rintro ⟨k, hk, he⟩
  dsimp only
  conv => whnf
  by_cases hkl : k < l.length
  · have hv := k_one (gt l k) (hs _ (gt_mem hkl))
    cases hb : validB (gt l k)
    · rw [validL_ff hkl (fun h => by rw [hb] at h; cases h.1)]
      rw [hb] at hv
      repeat' (first | with_reducible apply True.intro | ((first | ((with_reducible apply Nm.mk); focus ((try simp only [lns]); exact rfl)) | ((with_reducible apply Need.mk); focus (simp only [lns]; omega)) | ((with_reducible apply Elem.lst); focus omega) | (apply CallN.mk (hv)) | (with_reducible apply Bif.F) | ((with_reducible apply Bif.dec) <;> intro h <;> (try simp only [lns] at h) <;> (try (exfalso; omega))) | (with_reducible apply Bif.not) | (apply Same.bool; focus (with_reducible rfl)) | (with_reducible apply Frz.l)) <;> conv => whnf) | fail)
    rw [hb] at hv
    repeat' (first | ((first | ((with_reducible apply Nm.mk); focus ((try simp only [lns]); exact rfl)) | ((with_reducible apply Need.mk); focus (simp only [lns]; omega)) | ((with_reducible apply Elem.lst); focus omega) | (apply CallN.mk (hv)) | (with_reducible apply Bif.T) | ((with_reducible apply Bif.dec) <;> intro h <;> (try simp only [lns] at h) <;> (try (exfalso; omega))) | (with_reducible apply Bif.not) | (with_reducible apply Frz.l)) <;> conv => whnf) | fail)
    refine loop_keep ttok mixed (T0 := 8594655389) [0, 3] (ι := {j : Nat // j ≤ k ∧ ∀ i, i < j → keyB (gt l i) (gt l k) = false})
      (fun j => [(4, int (j.1 : Int))]) (fun _ => []) (fun j => k - j.1) ⟨0, by omega, none_lt⟩ ?_
    conv => whnf
    repeat' (first | ((first | (with_reducible apply Same.rfl) | (apply Same.int; focus rfl) | (with_reducible apply Frz.l)) <;> conv => whnf) | fail)
    rintro ⟨j, hj, hej⟩
    dsimp only
    conv => whnf
    by_cases hjk : j < k
    · have hm := k_same (gt l k) (gt l j) .no .no (lst frgV (gt l k).parts) (lst frgV (gt l j).parts)
      rw [keyB_comm] at hm
      cases hkey : keyB (gt l j) (gt l k)
      · rw [hkey] at hm
        repeat' (first | ((first | ((with_reducible apply Nm.mk); focus ((try simp only [lns]); exact rfl)) | ((with_reducible apply Wr.i64); focus omega) | ((with_reducible apply Need.mk); focus first | (simp only [lns]; omega) | kernel_rfl) | ((with_reducible apply Elem.lst); focus omega) | (apply CallN.mk (hm)) | (with_reducible apply Bif.F) | ((with_reducible apply Bif.dec) <;> intro h <;> (try simp only [lns] at h) <;> (try (exfalso; omega))) | (with_reducible apply Frz.l)) <;> conv => whnf) | fail)
        (refine ⟨⟨j + 1, hjk, step_lt hej hkey⟩, ?_⟩; (try dsimp only); conv => whnf); repeat' (first | with_reducible apply True.intro | ((first | ((with_reducible apply Need.mk); focus omega) | (with_reducible apply Same.rfl) | (apply Same.int; focus rfl) | (with_reducible apply Turn.l) | (with_reducible apply Frz.l)) <;> conv => whnf) | fail)
      · rw [validL_ff hkl (fun h => by have := h.2 j hjk; rw [hkey] at this; cases this)]
        rw [hkey] at hm
        repeat' (first | with_reducible apply True.intro | ((first | ((with_reducible apply Nm.mk); focus ((try simp only [lns]); exact rfl)) | ((with_reducible apply Need.mk); focus first | (simp only [lns]; omega) | kernel_rfl) | ((with_reducible apply Elem.lst); focus omega) | (apply CallN.mk (hm)) | (with_reducible apply Bif.T) | ((with_reducible apply Bif.dec) <;> intro h <;> (try simp only [lns] at h) <;> (try (exfalso; omega))) | (apply Same.bool; focus (with_reducible rfl)) | (with_reducible apply Frz.l)) <;> conv => whnf) | fail)
    · repeat' (first | ((first | ((with_reducible apply Wr.i64); focus omega) | ((with_reducible apply Bif.dec) <;> intro h <;> (try simp only [lns] at h) <;> (try (exfalso; omega))) | (with_reducible apply Frz.l)) <;> conv => whnf) | fail)
      (refine ⟨⟨k + 1, hkl, step_lt he ⟨hb, fun i hi => hej i (by omega)⟩⟩, ?_⟩; (try dsimp only); conv => whnf); repeat' (first | with_reducible apply True.intro | ((first | ((with_reducible apply Need.mk); focus omega) | (with_reducible apply Same.rfl) | (apply Same.int; focus rfl) | (with_reducible apply Turn.l) | (with_reducible apply Frz.l)) <;> conv => whnf) | fail)
  · have : validL l = true := validL_iff.2 ⟨by omega, fun i hi => he i (by omega)⟩
    rw [this]
    repeat' (first | with_reducible apply True.intro | ((first | ((with_reducible apply Nm.mk); focus ((try simp only [lns]); exact rfl)) | ((with_reducible apply Bif.dec) <;> intro h <;> (try simp only [lns] at h) <;> (try (exfalso; omega))) | (apply Same.bool; focus (with_reducible rfl)) | (with_reducible apply Frz.l)) <;> conv => whnf) | fail)
end Go.Fw
