/- Valid buffers, both sides. -/
import Derived.Test.YteebplkhnhpiiaaRasC
namespace Go.Fw
set_option maxRecDepth 4000
open Go.Proofs
set_option maxHeartbeats 8000000
/-- What lies in an argument: no more than memory holds. -/
def sizB (b : Buf) : Prop := b.parts.length ≤ 9223372036854775807 ∧ ∀ f ∈ b.parts, f.data.length ≤ 9223372036854775807
structure VI (s t : Int) (l : List Frg) where
  i : Nat
  c : Int
  b : Int
  hi : i ≤ l.length
  hc : 0 ≤ c ∧ c ≤ b ∧ b ≤ 2047
  e : chkP s t c b (l.drop i) = chkP s t 0 0 l
  pr : if i = 0 then b = 0 else b = fEnd (gt l (i - 1)) ∧ okF (gt l (i - 1)) = true
theorem VI.fail {s t : Int} {l : List Frg} (p : VI s t l) (h : p.i < l.length) (g : ¬ (okF (gt l p.i) = true ∧ (gt l p.i).size = s ∧ (gt l p.i).tag = t ∧ p.b ≤ (gt l p.i).off)) : partsOK s t l = false := by
  rw [partsOK, ← p.e, drop_gt h, chkP, if_neg g]
theorem VI.step {s t : Int} {l : List Frg} (p : VI s t l) (h : p.i < l.length) (g : okF (gt l p.i) = true ∧ (gt l p.i).size = s ∧ (gt l p.i).tag = t ∧ p.b ≤ (gt l p.i).off) :
    ∃ q : VI s t l, q.i = p.i + 1 ∧ q.c = p.c + (gt l p.i).data.length ∧ q.b = fEnd (gt l p.i) := by
  have ho := okF_iff.1 g.1
  have hc := p.hc
  have h4 := g.2.2.2
  refine ⟨⟨p.i + 1, p.c + (gt l p.i).data.length, fEnd (gt l p.i), h, by unfold fEnd; omega, ?_, ?_⟩, rfl, rfl, rfl⟩
  · rw [← p.e, drop_gt h, chkP, if_pos g]
  · rw [if_neg (by omega), Nat.add_sub_cancel]; exact ⟨rfl, g.1⟩
abbrev preB (b : Buf) : Prop := someA b.src = true ∧ someA b.dst = true ∧ isTm b.upto ∧ b.parts.length ≠ 0
theorem validB_pre {b : Buf} (h : preB b) : validB b = partsOK b.size b.tag b.parts := by
  obtain ⟨h1, h2, h3, h4⟩ := h
  have h5 : b.parts ≠ [] := fun e => h4 (by rw [e]; rfl)
  simp [validB, h1, h2, h3, h5]
theorem validB_not {b : Buf} (h : ¬ preB b) : validB b = false := by
  cases hv : validB b with
  | false => rfl
  | true =>
    simp only [validB, Bool.and_eq_true, decide_eq_true_eq] at hv
    exact absurd ⟨hv.1, hv.2.1, hv.2.2.1, fun e => hv.2.2.2.1 (List.length_eq_zero_iff.1 e)⟩ h
theorem k_validBuffer (b : Buf) (hb : sizB b) : Con Try.prog 54 [bufV b] [] (bool (validB b)) [] := by
  obtain ⟨h1, h2⟩ := hb
  by_cases hpre : preB b
  case neg =>
    rw [validB_not hpre]
    refine spec_of_run ttok mixed (T0 := 288230392526274655) (ts := [.tmp 2]) 71 rfl rfl rfl rfl (by simp) rfl ?_
    conv => whnf
    repeat' (first | with_reducible apply True.intro | ((first | ((with_reducible apply Nm.mk); focus ((try simp only [lns]); exact rfl)) | (apply CallN.mk (k_place _)) | (apply CallN.mk (k_rtime _)) | (with_reducible first | apply Bif.T | apply Bif.F) | ((with_reducible first | apply Bif.dec | apply Bif.beq) <;> intro h <;> (try simp only [lns] at h) <;> (try (exact absurd ⟨‹_›, ‹_›, ‹_›, by omega⟩ hpre))) | (with_reducible apply Bif.not) | ((with_reducible apply Bif.mk) <;> intro h) | (apply Same.bool; focus (with_reducible rfl)) | (with_reducible apply Frz.l)) <;> conv => whnf) | fail)
    all_goals (exact absurd ⟨‹_›, ‹_›, ‹_›, by omega⟩ hpre)
  rw [validB_pre hpre]
  obtain ⟨p1, p2, p3, p4⟩ := hpre
  have c1 := k_place b.src
  have c2 := k_place b.dst
  have c3 := k_rtime b.upto
  rw [p1] at c1
  rw [p2] at c2
  rw [decide_eq_true p3] at c3
  have hv := fun f hf => k_fValid f .no (h2 f hf)
  refine spec_of_run ttok mixed (T0 := 288230392526274655) (ts := [.tmp 2]) 71 rfl rfl rfl rfl (by simp) rfl ?_
  conv => whnf
  repeat' (first | ((first | ((with_reducible apply Nm.mk); focus ((try simp only [lns]); exact rfl)) | (apply CallN.mk (c1)) | (apply CallN.mk (c2)) | (apply CallN.mk (c3)) | (with_reducible first | apply Bif.T | apply Bif.F) | ((with_reducible apply Bif.beq) <;> intro h <;> (try simp only [lns] at h) <;> (try (exfalso; omega))) | (with_reducible apply Bif.not) | (with_reducible apply Frz.l)) <;> conv => whnf) | fail)
  refine loop_keep ttok mixed (T0 := 288230392526274655) [30, 31] (ι := VI b.size b.tag b.parts)
    (fun p => [(1, .pb 0 []), (3, int p.c), (4, int p.b), (32, int (p.i : Int))]) (fun p => [.cells (bufV b)]) (fun p => b.parts.length - p.i) ⟨0, 0, 0, by omega, by omega, rfl, rfl⟩ ?_
  conv => whnf
  repeat' (first | ((apply Same.mk rfl); conv => whnf) | ((with_reducible apply Frz.l) <;> conv => whnf) | fail)
  rintro p
  dsimp only
  have hi := p.hi
  have hc := p.hc
  conv => whnf
  by_cases hil : p.i < b.parts.length
  · have hv1 := hv _ (gt_mem hil)
    by_cases hx : okF (gt b.parts p.i) = true ∧ (gt b.parts p.i).size = b.size ∧ (gt b.parts p.i).tag = b.tag ∧ p.b ≤ (gt b.parts p.i).off
    · rw [hx.1] at hv1
      have he := k_end (gt b.parts p.i) .no (okF.rng hx.1).1 (okF.rng hx.1).2
      obtain ⟨⟨qi, qc, qb, a1, a2, a3, a4⟩, e1, e2, e3⟩ := p.step hil hx
      dsimp only at e1 e2 e3
      subst e1 e2 e3
      repeat' (first | ((first | ((with_reducible apply Nm.mk); focus ((try simp only [lns]); exact rfl)) | ((with_reducible apply Wr.i64); focus omega) | ((with_reducible apply Need.mk); focus (simp only [lns]; omega)) | ((with_reducible apply Elem.lst); focus omega) | (apply CallN.mk (hv1)) | (apply CallN.mk (he)) | (with_reducible first | apply Bif.T | apply Bif.F) | ((with_reducible first | apply Bif.dec | apply Bif.bne) <;> intro h <;> (try simp only [lns] at h) <;> (try (exfalso; omega))) | (with_reducible apply Bif.not) | (with_reducible apply Frz.l)) <;> conv => whnf) | fail)
      (refine ⟨⟨p.i + 1, _, _, a1, a2, a3, a4⟩, ?_⟩; (try dsimp only); conv => whnf); repeat' (first | with_reducible apply True.intro | ((first | ((with_reducible apply Need.mk); focus omega) | (with_reducible apply Same.rfl) | (apply Same.int; focus rfl) | (with_reducible apply Turn.l) | (with_reducible apply Frz.l)) <;> conv => whnf) | fail)
    · have hn := p.fail hil hx
      rw [hn]
      repeat' (first | with_reducible apply True.intro | ((first | ((with_reducible apply Nm.mk); focus ((try simp only [lns]); exact rfl)) | ((with_reducible apply Need.mk); focus (simp only [lns]; omega)) | ((with_reducible apply Elem.lst); focus omega) | (apply CallN.mk (hv1)) | (with_reducible first | apply Bif.T | apply Bif.F) | ((with_reducible first | apply Bif.dec | apply Bif.bne) <;> intro h <;> (try simp only [lns] at h) <;> (try first | (exfalso; omega) | (exact absurd ⟨‹_›, ‹_›, ‹_›, by omega⟩ hx))) | (with_reducible apply Bif.not) | ((with_reducible apply Bif.mk) <;> intro h) | (apply Same.bool; focus (with_reducible rfl)) | (with_reducible apply Frz.l)) <;> conv => whnf) | fail)
      all_goals (exact absurd ⟨‹_›, ‹_›, ‹_›, by omega⟩ hx)
  · have hfin := p.e
    rw [List.drop_eq_nil_of_le (by omega), chkP] at hfin
    have hfin2 : partsOK b.size b.tag b.parts = decide (p.c < b.size) := by rw [partsOK, ← hfin]
    rw [hfin2]
    repeat' (first | with_reducible apply True.intro | ((first | ((with_reducible apply Bif.dec) <;> intro h <;> (try simp only [lns] at h) <;> (try (exfalso; omega))) | (apply Same.bool; focus (with_reducible rfl)) | (with_reducible apply Frz.l)) <;> conv => whnf) | fail)
end Go.Fw
