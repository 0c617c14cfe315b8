/- Joining: the reference. -/
import Derived.Test.YteebplkhnhpiiaaRasB
namespace Go.Fw
set_option maxRecDepth 4000
open Go.Proofs
set_option maxHeartbeats 8000000
theorem k_rJoin (l : List Frg) (t : Tg) (hl : l.length ≤ 1000000) (hd : ∀ f ∈ l, f.data.length ≤ 9223372036854775807) :
    Con Try.prog 49 [.fs t 4 (lst frgV l)] [] (.tup [.ov 1 0 0 (joinR l).1.length, bool (joinR l).2]) [.arr none 1 (lst b8 (joinR l).1)] := by
  rcases Nat.eq_zero_or_pos l.length with hl0 | hl0
  · rw [joinR_nil hl0]
    refine spec_of_run ttok mixed (T0 := 158456343956041016326285165565) (ts := [.tmp 2, .tmp 3]) 99 rfl rfl rfl rfl (by simp) rfl ?_
    conv => whnf
    repeat' (first | with_reducible apply True.intro | ((first | ((with_reducible apply Nm.mk); focus ((try simp only [lns]); exact rfl)) | (with_reducible apply Bif.T) | ((with_reducible apply Bif.beq) <;> intro h <;> (try simp only [lns] at h) <;> (try (exfalso; omega))) | (with_reducible apply Same.rfl) | (apply Same.bool; focus (with_reducible rfl)) | (apply Same.rfl) | (with_reducible apply Frz.l)) <;> conv => whnf) | fail)
  have hv0 := k_rfValid (gt l 0) .no (hd _ (gt_mem hl0))
  cases h0 : okF (gt l 0)
  · rw [joinR_bad hl0 h0]
    rw [h0] at hv0
    refine spec_of_run ttok mixed (T0 := 158456343956041016326285165565) (ts := [.tmp 2, .tmp 3]) 99 rfl rfl rfl rfl (by simp) rfl ?_
    conv => whnf
    repeat' (first | with_reducible apply True.intro | ((first | ((with_reducible apply Nm.mk); focus ((try simp only [lns]); exact rfl)) | ((with_reducible apply Need.mk); focus (simp only [lns]; omega)) | ((with_reducible apply Elem.lst); focus omega) | (apply CallN.mk (hv0)) | (with_reducible apply Bif.F) | ((with_reducible apply Bif.beq) <;> intro h <;> (try simp only [lns] at h) <;> (try (exfalso; omega))) | (with_reducible apply Bif.not) | (with_reducible apply Same.rfl) | (apply Same.bool; focus (with_reducible rfl)) | (apply Same.rfl) | (with_reducible apply Frz.l)) <;> conv => whnf) | fail)
  rw [h0] at hv0
  have ho := okF_iff.1 h0
  have hJ := @joinR_none l hl0 h0
  have hS := fun x => @joinR_some l x hl0 h0
  generalize hfs : (gt l 0).size = s at *
  generalize hft : (gt l 0).tag = g at *
  refine spec_of_run ttok mixed (T0 := 158456343956041016326285165565) (ts := [.tmp 2, .tmp 3]) 99 rfl rfl rfl rfl (by simp) rfl ?_
  conv => whnf
  repeat' (first | ((first | (with_reducible first | apply Nm.rep _ (b8_zero) | apply Nm.rep _ (bool_mk _)) | ((with_reducible apply Nm.mk); focus ((try simp only [lns, hfs, hft]); exact rfl)) | ((with_reducible apply Need.mk); focus first | (simp only [lns, hfs, hft]; omega) | (unfold roomOK; simp only [lns, hfs, hft]; omega)) | ((with_reducible apply Elem.lst); focus omega) | (apply CallN.mk (hv0)) | (with_reducible first | apply Bif.T | apply Bif.F) | ((with_reducible apply Bif.beq) <;> intro h <;> (try simp only [lns, hfs, hft] at h) <;> (try (exfalso; omega))) | (with_reducible apply Bif.not) | (with_reducible apply Frz.l)) <;> conv => whnf) | fail)
  refine loop_keep ttok mixed (T0 := 158456343956041016326285165565) [0] (ι := JI s g l)
    (fun p => [(4, .ov 1 0 0 s.toNat), (5, .ov 1 1 0 s.toNat), (6, int p.x.cnt), (7, int (p.i : Int))]) (fun p => [.arr (some s.toNat) 1 (lst b8 p.x.out), .arr (some s.toNat) 1 (lst bool p.x.hv)]) (fun p => l.length - p.i) ⟨0, js0 s, by omega, by simp [js0], by simp [js0], by simp [js0], rfl⟩ ?_
  conv => whnf
  repeat' (first | ((apply Same.mk rfl); conv => whnf) | ((with_reducible apply Frz.l) <;> conv => whnf) | fail)
  rintro p
  dsimp only
  have hi := p.hi
  have hc := p.c
  have hpo := p.ol
  have hph := p.hl
  conv => whnf
  by_cases hil : p.i < l.length
  · have hv1 := k_rfValid (gt l p.i) .no (hd _ (gt_mem hil))
    by_cases hx : okF (gt l p.i) = true ∧ (gt l p.i).size = s ∧ (gt l p.i).tag = g
    · rw [hx.1] at hv1
      repeat' (first | ((first | ((with_reducible apply Nm.mk); focus ((try simp only [lns, hfs, hft]); exact rfl)) | ((with_reducible apply Need.mk); focus first | (simp only [lns, hfs, hft]; omega) | kernel_rfl) | ((with_reducible apply Elem.lst); focus omega) | (apply CallN.mk (hv1)) | (with_reducible first | apply Bif.T | apply Bif.F) | ((with_reducible first | apply Bif.dec | apply Bif.bne) <;> intro h <;> (try simp only [lns, hfs, hft] at h) <;> (try (exfalso; omega))) | (with_reducible apply Bif.not) | (with_reducible apply Frz.l)) <;> conv => whnf) | fail)
      have hf := okF_iff.1 hx.1
      have hstep := p.step hil hx
      have hcl := fun j => p.clash hil hx.1 (j := j)
      obtain ⟨o, hof⟩ : ∃ o : Nat, (gt l p.i).off = o := ⟨(gt l p.i).off.toNat, by omega⟩
      have hof2 : (gt l p.i).off.toNat = o := by omega
      simp only [hof2] at hstep hcl
      refine loop_keep ttok mixed (T0 := 158456343956041016326285165565) [0, 7] (ι := {j : Nat // j ≤ (gt l p.i).data.length ∧ ∀ k, k < j → gt p.x.hv (o + k) = false})
        (fun j => [(4, .ov 1 0 0 s.toNat), (5, .ov 1 1 0 s.toNat), (6, int (p.x.cnt + j.1)), (8, .pb 2 []), (9, int (j.1 : Int))]) (fun j => [.arr (some s.toNat) 1 (lst b8 (putL p.x.out o ((gt l p.i).data.take j.1))), .arr (some s.toNat) 1 (lst bool (putL p.x.hv o (List.replicate j.1 true))), .cells (frgV (gt l p.i))]) (fun j => (gt l p.i).data.length - j.1) ⟨0, by omega, none_lt⟩ ?_
      conv => whnf
      repeat' (first | ((apply Same.mk rfl); conv => whnf) | ((apply Same.mk); (focus (simp [putL_zero]; done)); (conv => whnf)) | ((with_reducible apply Frz.l) <;> conv => whnf) | fail)
      rintro ⟨j, hj, hcj⟩
      dsimp only
      have hpl := putL_len (l := p.x.hv) (d := List.replicate j true) (o := o) (by rw [List.length_replicate]; omega)
      conv => whnf
      by_cases hjl : j < (gt l p.i).data.length
      · have hat : gt (putL p.x.hv o (List.replicate j true)) (o + j) = gt p.x.hv (o + j) := by
          unfold gt
          rw [putL_at (by rw [List.length_replicate]; omega) (by rw [List.length_replicate]; omega)]
        have hput : (putL p.x.hv o (List.replicate j true)).set (o + j) true = putL p.x.hv o (List.replicate (j + 1) true) := by
          have := putL_step (l := p.x.hv) (d := List.replicate j true) (o := o) (x := true) (by rw [List.length_replicate]; omega)
          rw [List.length_replicate] at this
          rw [this, List.replicate_succ']
        have hput2 : (putL p.x.out o ((gt l p.i).data.take j)).set (o + j) (gt (gt l p.i).data j) = putL p.x.out o ((gt l p.i).data.take (j + 1)) := by
          have := putL_step (l := p.x.out) (d := (gt l p.i).data.take j) (o := o) (x := gt (gt l p.i).data j) (by rw [List.length_take]; omega)
          rw [List.length_take, Nat.min_eq_left (by omega)] at this
          rw [this, take_gt hjl]
        have hpl2 := putL_len (l := p.x.out) (d := (gt l p.i).data.take j) (o := o) (by rw [List.length_take]; omega)
        cases hb : gt p.x.hv (o + j)
        · rw [hb] at hat
          repeat' (first | ((first | (with_reducible first | apply Nm.set _ (bool_mk _) | apply Nm.set _ (rfl)) | ((with_reducible apply Nm.mk); focus ((try simp only [lns, hof, toNat2, hpl, hph, hpl2, hpo]); exact rfl)) | ((with_reducible apply Wr.i64); focus omega) | ((with_reducible apply Need.mk); focus first | omega | (simp only [lns, hof, toNat2, hpl, hph, hpl2, hpo]; omega) | kernel_rfl) | ((with_reducible apply Elem.lst); focus omega) | ((with_reducible apply Bif.dec) <;> intro h <;> (try simp only [lns, hof, toNat2, hpl, hph, hpl2, hpo] at h) <;> (try (exfalso; omega))) | ((with_reducible apply Bif.mk) <;> intro h <;> (try (exact absurd (hat.symm.trans h) Bool.false_ne_true))) | (with_reducible apply Frz.l)) <;> conv => whnf) | fail)
          (refine ⟨⟨j + 1, hjl, step_lt hcj hb⟩, ?_⟩; (try dsimp only); conv => whnf); repeat' (first | with_reducible apply True.intro | ((apply Same.mk (congrArg (lst bool) hput)); (conv => whnf)) | ((apply Same.mk (congrArg (lst b8) hput2)); (conv => whnf)) | ((first | ((with_reducible apply Need.mk); focus omega) | (with_reducible apply Same.rfl) | (apply Same.int; focus first | rfl | omega) | (with_reducible apply Turn.l) | (with_reducible apply Frz.l)) <;> conv => whnf) | fail)
        · rw [hb] at hat
          have hn := hJ (hcl j hjl hb)
          rw [hn]
          repeat' (first | with_reducible apply True.intro | ((first | ((with_reducible apply Nm.mk); focus ((try simp only [lns, hof, toNat2, hpl, hph, hpl2, hpo]); exact rfl)) | ((with_reducible apply Wr.i64); focus omega) | ((with_reducible apply Need.mk); focus omega) | ((with_reducible apply Elem.lst); focus omega) | ((with_reducible apply Bif.dec) <;> intro h <;> (try simp only [lns, hof, toNat2, hpl, hph, hpl2, hpo] at h) <;> (try (exfalso; omega))) | ((with_reducible apply Bif.mk) <;> intro h <;> (try (exact absurd (hat.symm.trans h) (Ne.symm Bool.false_ne_true)))) | (with_reducible apply Same.rfl) | (apply Same.bool; focus (with_reducible rfl)) | (apply Same.rfl) | (with_reducible apply Frz.l)) <;> conv => whnf) | fail)
      · have hjn : j = (gt l p.i).data.length := by omega
        subst hjn
        obtain ⟨⟨qi, qx, a1, a2, a3, a4, a5⟩, e1, e2⟩ := hstep hcj
        dsimp only at e1 e2
        subst e1
        subst e2
        have e3 : List.take (gt l p.i).data.length (gt l p.i).data = (gt l p.i).data := List.take_length
        repeat' (first | ((first | ((with_reducible apply Nm.mk); focus ((try simp only [lns, hof]); exact rfl)) | ((with_reducible apply Wr.i64); focus omega) | ((with_reducible apply Bif.dec) <;> intro h <;> (try simp only [lns, hof] at h) <;> (try (exfalso; omega))) | (with_reducible apply Frz.l)) <;> conv => whnf) | fail)
        (refine ⟨⟨p.i + 1, _, a1, a2, a3, a4, a5⟩, ?_⟩; (try dsimp only); conv => whnf); repeat' (first | with_reducible apply True.intro | ((apply Same.mk (by rw [e3])); (conv => whnf)) | ((first | ((with_reducible apply Need.mk); focus omega) | (with_reducible apply Same.rfl) | (apply Same.int; focus rfl) | (with_reducible apply Turn.l) | (with_reducible apply Frz.l)) <;> conv => whnf) | fail)
    · have hn := hJ (p.fail hil hx)
      rw [hn]
      repeat' (first | with_reducible apply True.intro | ((first | ((with_reducible apply Nm.mk); focus ((try simp only [lns, hfs, hft]); exact rfl)) | ((with_reducible apply Need.mk); focus first | (simp only [lns, hfs, hft]; omega) | kernel_rfl) | ((with_reducible apply Elem.lst); focus omega) | (apply CallN.mk (hv1)) | (with_reducible first | apply Bif.T | apply Bif.F) | ((with_reducible first | apply Bif.dec | apply Bif.bne) <;> intro h <;> (try simp only [lns, hfs, hft] at h) <;> (try first | (exfalso; omega) | (exact absurd ⟨‹_›, ‹_›, ‹_›⟩ hx))) | (with_reducible apply Bif.not) | ((with_reducible apply Bif.mk) <;> intro h) | (with_reducible apply Same.rfl) | (apply Same.bool; focus (with_reducible rfl)) | (apply Same.rfl) | (with_reducible apply Frz.l)) <;> conv => whnf) | fail)
  · have hfin := p.e
    rw [List.drop_eq_nil_of_le (by omega), jfold] at hfin
    rw [hS _ hfin.symm]
    by_cases hcs : p.x.cnt = s
    · rw [if_pos hcs]
      repeat' (first | with_reducible apply True.intro | ((first | ((with_reducible apply Nm.mk); focus ((try simp only [lns]); exact rfl)) | ((with_reducible first | apply Bif.dec | apply Bif.bne) <;> intro h <;> (try simp only [lns] at h) <;> (try (exfalso; omega))) | (with_reducible apply Same.rfl) | (apply Same.bool; focus (with_reducible rfl)) | ((with_reducible apply Same.mk); focus (simp only [lns]; omega)) | (with_reducible apply Cut.l) | (with_reducible apply Frz.l)) <;> conv => whnf) | fail)
    · rw [if_neg hcs]
      repeat' (first | with_reducible apply True.intro | ((first | ((with_reducible apply Nm.mk); focus ((try simp only [lns]); exact rfl)) | ((with_reducible first | apply Bif.dec | apply Bif.bne) <;> intro h <;> (try simp only [lns] at h) <;> (try (exfalso; omega))) | (with_reducible apply Same.rfl) | (apply Same.bool; focus (with_reducible rfl)) | (apply Same.rfl) | (with_reducible apply Frz.l)) <;> conv => whnf) | fail)
end Go.Fw
