/- Joining, both sides. -/
import Derived.Test.YtlkhjalnnciocaaGreatHipO

namespace Go.Fw
set_option maxRecDepth 4000
open Go.Proofs
set_option maxHeartbeats 8000000
def joinR (l : List Frg) : List UInt8 × Bool := match joinF l with | some o => (o, true) | none => ([], false)
theorem b8_zero : SV.v (.int .u8 0) = b8 0 := rfl
theorem toNat2 (a b : Nat) : ((a : Int) + (b : Int)).toNat = a + b := by omega
theorem joinR_nil {l : List Frg} (h : l.length = 0) : joinR l = ([], false) := by
  rw [List.length_eq_zero_iff.1 h]; rfl
theorem joinR_bad {l : List Frg} (hl : 0 < l.length) (h : okF (gt l 0) = false) : joinR l = ([], false) := by
  rcases l with _ | ⟨f, r⟩
  · simp at hl
  · have h : okF f = false := h
    unfold joinR joinF
    simp [h]
theorem joinR_none {l : List Frg} (hl : 0 < l.length) (h : okF (gt l 0) = true) (g : jfold (gt l 0).size (gt l 0).tag (js0 (gt l 0).size) l = none) : joinR l = ([], false) := by
  rcases l with _ | ⟨f, r⟩
  · simp at hl
  · have h : okF f = true := h
    have g : jfold f.size f.tag (js0 f.size) (f :: r) = none := g
    unfold joinR joinF
    simp only [h, if_true, g]
theorem joinR_some {l : List Frg} {x : JS} (hl : 0 < l.length) (h : okF (gt l 0) = true) (g : jfold (gt l 0).size (gt l 0).tag (js0 (gt l 0).size) l = some x) : joinR l = if x.cnt = (gt l 0).size then (x.out, true) else ([], false) := by
  rcases l with _ | ⟨f, r⟩
  · simp at hl
  · have h : okF f = true := h
    have g : jfold f.size f.tag (js0 f.size) (f :: r) = some x := g
    show _ = if x.cnt = f.size then _ else _
    unfold joinR joinF
    simp only [h, if_true, g]
    split <;> simp_all
structure JI (s t : Int) (l : List Frg) where
  i : Nat
  x : JS
  hi : i ≤ l.length
  ol : x.out.length = s.toNat
  hl : x.hv.length = s.toNat
  c : 0 ≤ x.cnt ∧ x.cnt ≤ 2047 * i
  e : jfold s t x (l.drop i) = jfold s t (js0 s) l
theorem JI.fail {s t : Int} {l : List Frg} (p : JI s t l) (h : p.i < l.length) (g : ¬ (okF (gt l p.i) = true ∧ (gt l p.i).size = s ∧ (gt l p.i).tag = t)) : jfold s t (js0 s) l = none := by
  rw [← p.e, drop_gt h, jfold, jstep, if_neg g]
theorem JI.clash {s t : Int} {l : List Frg} (p : JI s t l) (h : p.i < l.length) (hf : okF (gt l p.i) = true) {j : Nat} (hj : j < (gt l p.i).data.length) (g : gt p.x.hv ((gt l p.i).off.toNat + j) = true) : jfold s t (js0 s) l = none := by
  by_cases hx : okF (gt l p.i) = true ∧ (gt l p.i).size = s ∧ (gt l p.i).tag = t
  · have ho := okF_iff.1 hf
    have hl := p.hl
    have hs := hx.2.1
    have hlt : (gt l p.i).off.toNat + j < p.x.hv.length := by omega
    rw [gt_eq hlt] at g
    rw [← p.e, drop_gt h, jfold, jstep, if_pos hx, if_pos (clashB_true (j := (gt l p.i).off.toNat + j) (by omega) (by omega) (by rw [List.getElem?_eq_getElem hlt, g]))]
  · exact p.fail h hx
theorem JI.step {s t : Int} {l : List Frg} (p : JI s t l) (h : p.i < l.length) (hf : okF (gt l p.i) = true ∧ (gt l p.i).size = s ∧ (gt l p.i).tag = t) (g : ∀ j, j < (gt l p.i).data.length → gt p.x.hv ((gt l p.i).off.toNat + j) = false) :
    ∃ q : JI s t l, q.i = p.i + 1 ∧ q.x = ⟨putL p.x.out (gt l p.i).off.toNat (gt l p.i).data, putL p.x.hv (gt l p.i).off.toNat (List.replicate (gt l p.i).data.length true), p.x.cnt + (gt l p.i).data.length⟩ := by
  have ho := okF_iff.1 hf.1
  have h1 := p.ol
  have h2 := p.hl
  have h3 := p.c
  have h4 := hf.2.1
  have hc : clashB p.x.hv (gt l p.i).off.toNat (gt l p.i).data.length = false := clashB_false fun j g1 g2 => by
    have := g (j - (gt l p.i).off.toNat) (by omega)
    rw [show (gt l p.i).off.toNat + (j - (gt l p.i).off.toNat) = j by omega, gt_eq (by omega)] at this
    rw [List.getElem?_eq_getElem (by omega), this]; simp
  refine ⟨⟨p.i + 1, _, h, by rw [← h1]; exact putL_len (by omega), by rw [← h2]; exact putL_len (by rw [List.length_replicate]; omega), by dsimp only; omega, ?_⟩, rfl, rfl⟩
  rw [← p.e, drop_gt h, jfold, jstep, if_pos hf, hc, if_neg (by simp)]
theorem k_fJoin (l : List Frg) (t : Tg) (hl : l.length ≤ 1000000) (hd : ∀ f ∈ l, f.data.length ≤ 9223372036854775807) :
    Con Tryz.prog 105 [.fs t 4 (lst frgV l)] [] (.tup [.ov 1 0 0 (joinR l).1.length, bool (joinR l).2]) [.arr none 1 (lst b8 (joinR l).1)] := by
  rcases Nat.eq_zero_or_pos l.length with hl0 | hl0
  · rw [joinR_nil hl0]
    refine spec_of_run ttok mixed (T0 := 154742653511446096779415037) (ts := [.tmp 2, .tmp 3]) 89 rfl rfl rfl rfl (by simp) rfl ?_
    conv => whnf
    repeat' (first | with_reducible apply True.intro | ((first | ((with_reducible apply Nm.mk); focus ((try simp only [lns]); exact rfl)) | (with_reducible apply Bif.T) | ((with_reducible apply Bif.beq) <;> intro h <;> (try simp only [lns] at h) <;> (try (exfalso; omega))) | (with_reducible apply Same.rfl) | (apply Same.bool; focus (with_reducible rfl)) | (apply Same.rfl) | (with_reducible apply Frz.l)) <;> conv => whnf) | fail)
  have hv0 := k_fValid (gt l 0) .no (hd _ (gt_mem hl0))
  cases h0 : okF (gt l 0)
  · rw [joinR_bad hl0 h0]
    rw [h0] at hv0
    refine spec_of_run ttok mixed (T0 := 154742653511446096779415037) (ts := [.tmp 2, .tmp 3]) 89 rfl rfl rfl rfl (by simp) rfl ?_
    conv => whnf
    repeat' (first | with_reducible apply True.intro | ((first | ((with_reducible apply Nm.mk); focus ((try simp only [lns]); exact rfl)) | ((with_reducible apply Need.mk); focus (simp only [lns]; omega)) | ((with_reducible apply Elem.lst); focus omega) | (apply CallN.mk (hv0)) | (with_reducible apply Bif.F) | ((with_reducible apply Bif.beq) <;> intro h <;> (try simp only [lns] at h) <;> (try (exfalso; omega))) | (with_reducible apply Bif.not) | (with_reducible apply Same.rfl) | (apply Same.bool; focus (with_reducible rfl)) | (apply Same.rfl) | (with_reducible apply Frz.l)) <;> conv => whnf) | fail)
  rw [h0] at hv0
  have ho := okF_iff.1 h0
  have hJ := @joinR_none l hl0 h0
  have hS := fun x => @joinR_some l x hl0 h0
  generalize hfs : (gt l 0).size = s at *
  generalize hft : (gt l 0).tag = g at *
  refine spec_of_run ttok mixed (T0 := 154742653511446096779415037) (ts := [.tmp 2, .tmp 3]) 89 rfl rfl rfl rfl (by simp) rfl ?_
  conv => whnf
  repeat' (first | ((first | (with_reducible first | apply Nm.rep _ (b8_zero) | apply Nm.rep _ (bool_mk _)) | ((with_reducible apply Nm.mk); focus ((try simp only [lns, hfs, hft]); exact rfl)) | ((with_reducible apply Need.mk); focus first | (simp only [lns, hfs, hft]; omega) | kernel_rfl | (unfold roomOK; simp only [lns, hfs, hft]; omega)) | ((with_reducible apply Elem.lst); focus omega) | (apply CallN.mk (hv0)) | (with_reducible first | apply Bif.T | apply Bif.F) | ((with_reducible apply Bif.beq) <;> intro h <;> (try simp only [lns, hfs, hft] at h) <;> (try (exfalso; omega))) | (with_reducible apply Bif.not) | (with_reducible apply Frz.l)) <;> conv => whnf) | fail)
  refine loop_keep ttok mixed (T0 := 154742653511446096779415037) [0, 4, 5, 34, 35] (ι := JI s g l)
    (fun p => [(6, .ov 1 0 0 s.toNat), (7, .ov 1 1 0 s.toNat), (8, int p.x.cnt), (36, int (p.i : Int))]) (fun p => [.arr (some s.toNat) 1 (lst b8 p.x.out), .arr (some s.toNat) 1 (lst bool p.x.hv)]) (fun p => l.length - p.i) ⟨0, js0 s, by omega, by simp [js0], by simp [js0], by simp [js0], rfl⟩ ?_
  conv => whnf
  repeat' (first | ((apply Same.mk rfl); conv => whnf) | ((with_reducible apply Frz.l) <;> conv => whnf) | fail)
  rintro p
  dsimp only
  have hi := p.hi
  have hc := p.c
  have hpo := p.ol
  have hph := p.hl
  conv => whnf
  by_cases hil : p.i < l.length
  · have hv1 := k_fValid (gt l p.i) .no (hd _ (gt_mem hil))
    by_cases hx : okF (gt l p.i) = true ∧ (gt l p.i).size = s ∧ (gt l p.i).tag = g
    · rw [hx.1] at hv1
      repeat' (first | ((first | ((with_reducible apply Nm.mk); focus ((try simp only [lns, hfs, hft]); exact rfl)) | ((with_reducible apply Need.mk); focus (simp only [lns, hfs, hft]; omega)) | ((with_reducible apply Elem.lst); focus omega) | (apply CallN.mk (hv1)) | (with_reducible first | apply Bif.T | apply Bif.F) | ((with_reducible first | apply Bif.dec | apply Bif.bne) <;> intro h <;> (try simp only [lns, hfs, hft] at h) <;> (try (exfalso; omega))) | (with_reducible apply Bif.not) | (with_reducible apply Frz.l)) <;> conv => whnf) | fail)
      have hf := okF_iff.1 hx.1
      have hstep := p.step hil hx
      have hcl := fun j => p.clash hil hx.1 (j := j)
      obtain ⟨o, hof⟩ : ∃ o : Nat, (gt l p.i).off = o := ⟨(gt l p.i).off.toNat, by omega⟩
      have hof2 : (gt l p.i).off.toNat = o := by omega
      simp only [hof2] at hstep hcl
      refine loop_keep ttok mixed (T0 := 154742653511446096779415037) [0, 4, 5, 8, 34, 35, 36, 57] (ι := {j : Nat // j ≤ (gt l p.i).data.length ∧ ∀ k, k < j → gt p.x.hv (o + k) = false})
        (fun j => [(6, .ov 1 0 0 s.toNat), (7, .ov 1 1 0 s.toNat), (10, .pb 2 []), (58, int (j.1 : Int))]) (fun j => [.arr (some s.toNat) 1 (lst b8 p.x.out), .arr (some s.toNat) 1 (lst bool (putL p.x.hv o (List.replicate j.1 true))), .cells (frgV (gt l p.i))]) (fun j => (gt l p.i).data.length - j.1) ⟨0, by omega, none_lt⟩ ?_
      conv => whnf
      repeat' (first | ((apply Same.mk rfl); conv => whnf) | ((apply Same.mk); (focus (simp [putL_zero]; done)); (conv => whnf)) | ((with_reducible apply Frz.l) <;> conv => whnf) | fail)
      rintro ⟨j, hj, hcj⟩
      dsimp only
      have hpl := putL_len (l := p.x.hv) (d := List.replicate j true) (o := o) (by rw [List.length_replicate]; omega)
      conv => whnf
      by_cases hjl : j < (gt l p.i).data.length
      · have hat : gt (putL p.x.hv o (List.replicate j true)) (o + j) = gt p.x.hv (o + j) := by
          unfold gt
          rw [putL_at (by rw [List.length_replicate]; omega) (by rw [List.length_replicate]; omega)]
        have hput : (putL p.x.hv o (List.replicate j true)).set (o + j) true = putL p.x.hv o (List.replicate (j + 1) true) := by
          have := putL_step (l := p.x.hv) (d := List.replicate j true) (o := o) (x := true) (by rw [List.length_replicate]; omega)
          rw [List.length_replicate] at this
          rw [this, List.replicate_succ']
        cases hb : gt p.x.hv (o + j)
        · rw [hb] at hat
          repeat' (first | ((first | (with_reducible apply Nm.set _ (bool_mk _)) | ((with_reducible apply Nm.mk); focus ((try simp only [lns, hof, toNat2, hpl, hph]); exact rfl)) | ((with_reducible apply Wr.i64); focus omega) | ((with_reducible apply Need.mk); focus omega) | ((with_reducible apply Elem.lst); focus omega) | ((with_reducible apply Bif.dec) <;> intro h <;> (try simp only [lns, hof, toNat2, hpl, hph] at h) <;> (try (exfalso; omega))) | ((with_reducible apply Bif.mk) <;> intro h <;> (try (exact absurd (hat.symm.trans h) Bool.false_ne_true))) | (with_reducible apply Frz.l)) <;> conv => whnf) | fail)
          (refine ⟨⟨j + 1, hjl, step_lt hcj hb⟩, ?_⟩; (try dsimp only); conv => whnf); repeat' (first | with_reducible apply True.intro | ((apply Same.mk (congrArg (lst bool) hput)); (conv => whnf)) | ((first | ((with_reducible apply Need.mk); focus omega) | (with_reducible apply Same.rfl) | (apply Same.int; focus rfl) | (with_reducible apply Turn.l) | (with_reducible apply Frz.l)) <;> conv => whnf) | fail)
        · rw [hb] at hat
          have hn := hJ (hcl j hjl hb)
          rw [hn]
          repeat' (first | with_reducible apply True.intro | ((first | ((with_reducible apply Nm.mk); focus ((try simp only [lns, hof, toNat2, hpl, hph]); exact rfl)) | ((with_reducible apply Wr.i64); focus omega) | ((with_reducible apply Need.mk); focus omega) | ((with_reducible apply Elem.lst); focus omega) | ((with_reducible apply Bif.dec) <;> intro h <;> (try simp only [lns, hof, toNat2, hpl, hph] at h) <;> (try (exfalso; omega))) | ((with_reducible apply Bif.mk) <;> intro h <;> (try (exact absurd (hat.symm.trans h) (Ne.symm Bool.false_ne_true)))) | (with_reducible apply Same.rfl) | (apply Same.bool; focus (with_reducible rfl)) | (apply Same.rfl) | (with_reducible apply Frz.l)) <;> conv => whnf) | fail)
      · have hjn : j = (gt l p.i).data.length := by omega
        subst hjn
        obtain ⟨⟨qi, qx, a1, a2, a3, a4, a5⟩, e1, e2⟩ := hstep hcj
        dsimp only at e1 e2
        subst e1
        subst e2
        have e3 : List.take o p.x.out ++ List.take (s.toNat - o) (gt l p.i).data ++ List.drop (o + min (s.toNat - o) (gt l p.i).data.length) p.x.out = putL p.x.out o (gt l p.i).data := by
          rw [show List.take (s.toNat - o) (gt l p.i).data = (gt l p.i).data from List.take_of_length_le (by omega), Nat.min_eq_right (by omega)]; rfl
        repeat' (first | ((first | ((with_reducible apply Nm.mk); focus ((try simp only [lns, hof]); exact rfl)) | ((with_reducible apply Wr.i64); focus omega) | ((with_reducible apply Need.mk); focus first | omega | (simp only [lns, hof]; omega) | kernel_rfl) | ((with_reducible apply Bif.dec) <;> intro h <;> (try simp only [lns, hof] at h) <;> (try (exfalso; omega))) | (with_reducible apply Frz.l)) <;> conv => whnf) | fail)
        (refine ⟨⟨p.i + 1, _, a1, a2, a3, a4, a5⟩, ?_⟩; (try dsimp only); conv => whnf); repeat' (first | with_reducible apply True.intro | ((apply Same.mk (congrArg (lst b8) e3)); (conv => whnf)) | ((first | ((with_reducible apply Need.mk); focus omega) | (with_reducible apply Same.rfl) | (apply Same.int; focus first | rfl | omega) | (with_reducible apply Turn.l) | (with_reducible apply Frz.l)) <;> conv => whnf) | fail)
    · have hn := hJ (p.fail hil hx)
      rw [hn]
      repeat' (first | with_reducible apply True.intro | ((first | ((with_reducible apply Nm.mk); focus ((try simp only [lns, hfs, hft]); exact rfl)) | ((with_reducible apply Need.mk); focus (simp only [lns, hfs, hft]; omega)) | ((with_reducible apply Elem.lst); focus omega) | (apply CallN.mk (hv1)) | (with_reducible first | apply Bif.T | apply Bif.F) | ((with_reducible first | apply Bif.dec | apply Bif.bne) <;> intro h <;> (try simp only [lns, hfs, hft] at h) <;> (try first | (exfalso; omega) | (exact absurd ⟨‹_›, ‹_›, ‹_›⟩ hx))) | (with_reducible apply Bif.not) | ((with_reducible apply Bif.mk) <;> intro h) | (with_reducible apply Same.rfl) | (apply Same.bool; focus (with_reducible rfl)) | (apply Same.rfl) | (with_reducible apply Frz.l)) <;> conv => whnf) | fail)
  · have hfin := p.e
    rw [List.drop_eq_nil_of_le (by omega), jfold] at hfin
    rw [hS _ hfin.symm]
    by_cases hcs : p.x.cnt = s
    · rw [if_pos hcs]
      repeat' (first | with_reducible apply True.intro | ((first | ((with_reducible first | apply Bif.dec | apply Bif.bne) <;> intro h <;> (try simp only [lns] at h) <;> (try (exfalso; omega))) | (with_reducible apply Same.rfl) | (apply Same.bool; focus (with_reducible rfl)) | ((with_reducible apply Same.mk); focus (simp only [lns]; omega)) | (with_reducible apply Cut.l) | (with_reducible apply Frz.l)) <;> conv => whnf) | fail)
    · rw [if_neg hcs]
      repeat' (first | with_reducible apply True.intro | ((first | ((with_reducible first | apply Bif.dec | apply Bif.bne) <;> intro h <;> (try simp only [lns] at h) <;> (try (exfalso; omega))) | (with_reducible apply Same.rfl) | (apply Same.bool; focus (with_reducible rfl)) | (apply Same.rfl) | (with_reducible apply Frz.l)) <;> conv => whnf) | fail)
end Go.Fw

/- Valid buffers, both sides. -/
namespace Go.Fw
set_option maxRecDepth 4000
open Go.Proofs
set_option maxHeartbeats 8000000
/-- What lies in an argument: no more than memory holds. -/
def sizB (b : Buf) : Prop := b.parts.length ≤ 9223372036854775807 ∧ ∀ f ∈ b.parts, f.data.length ≤ 9223372036854775807
structure VI (s t : Int) (l : List Frg) where
  i : Nat
  c : Int
  b : Int
  hi : i ≤ l.length
  hc : 0 ≤ c ∧ c ≤ b ∧ b ≤ 2047
  e : chkP s t c b (l.drop i) = chkP s t 0 0 l
  pr : if i = 0 then b = 0 else b = fEnd (gt l (i - 1)) ∧ okF (gt l (i - 1)) = true
theorem VI.fail {s t : Int} {l : List Frg} (p : VI s t l) (h : p.i < l.length) (g : ¬ (okF (gt l p.i) = true ∧ (gt l p.i).size = s ∧ (gt l p.i).tag = t ∧ p.b ≤ (gt l p.i).off)) : partsOK s t l = false := by
  rw [partsOK, ← p.e, drop_gt h, chkP, if_neg g]
theorem VI.step {s t : Int} {l : List Frg} (p : VI s t l) (h : p.i < l.length) (g : okF (gt l p.i) = true ∧ (gt l p.i).size = s ∧ (gt l p.i).tag = t ∧ p.b ≤ (gt l p.i).off) :
    ∃ q : VI s t l, q.i = p.i + 1 ∧ q.c = p.c + (gt l p.i).data.length ∧ q.b = fEnd (gt l p.i) := by
  have ho := okF_iff.1 g.1
  have hc := p.hc
  have h4 := g.2.2.2
  refine ⟨⟨p.i + 1, p.c + (gt l p.i).data.length, fEnd (gt l p.i), h, by unfold fEnd; omega, ?_, ?_⟩, rfl, rfl, rfl⟩
  · rw [← p.e, drop_gt h, chkP, if_pos g]
  · rw [if_neg (by omega), Nat.add_sub_cancel]; exact ⟨rfl, g.1⟩
abbrev preQ (b : Buf) : Prop := someA b.src = true ∧ someA b.dst = true ∧ isTm b.upto ∧ b.parts.length ≠ 0
theorem validB_pre {b : Buf} (h : preQ b) : validB b = partsOK b.size b.tag b.parts := by
  obtain ⟨h1, h2, h3, h4⟩ := h
  have h5 : b.parts ≠ [] := fun e => h4 (by rw [e]; rfl)
  simp [validB, h1, h2, h3, h5]
theorem validB_not {b : Buf} (h : ¬ preQ b) : validB b = false := by
  cases hv : validB b with
  | false => rfl
  | true =>
    simp only [validB, Bool.and_eq_true, decide_eq_true_eq] at hv
    exact absurd ⟨hv.1, hv.2.1, hv.2.2.1, fun e => hv.2.2.2.1 (List.length_eq_zero_iff.1 e)⟩ h
theorem k_validBuffer (b : Buf) (hb : sizB b) : Con Tryz.prog 170 [bufV b] [] (bool (validB b)) [] := by
  obtain ⟨h1, h2⟩ := hb
  by_cases hpre : preQ b
  case neg =>
    rw [validB_not hpre]
    refine spec_of_run ttok mixed (T0 := 288230392526274655) (ts := [.tmp 2]) 71 rfl rfl rfl rfl (by simp) rfl ?_
    conv => whnf
    repeat' (first | with_reducible apply True.intro | ((first | ((with_reducible apply Nm.mk); focus ((try simp only [lns]); exact rfl)) | (apply CallN.mk (k_place _)) | (apply CallN.mk (k_rtime _)) | (with_reducible first | apply Bif.T | apply Bif.F) | ((with_reducible first | apply Bif.dec | apply Bif.beq) <;> intro h <;> (try simp only [lns] at h) <;> (try (exact absurd ⟨‹_›, ‹_›, ‹_›, by omega⟩ hpre))) | (with_reducible apply Bif.not) | ((with_reducible apply Bif.mk) <;> intro h) | (apply Same.bool; focus (with_reducible rfl)) | (with_reducible apply Frz.l)) <;> conv => whnf) | fail)
    all_goals (exact absurd ⟨‹_›, ‹_›, ‹_›, by omega⟩ hpre)
  rw [validB_pre hpre]
  obtain ⟨p1, p2, p3, p4⟩ := hpre
  have c1 := k_place b.src
  have c2 := k_place b.dst
  have c3 := k_rtime b.upto
  rw [p1] at c1
  rw [p2] at c2
  rw [decide_eq_true p3] at c3
  have hv := fun f hf => k_fValid f .no (h2 f hf)
  refine spec_of_run ttok mixed (T0 := 288230392526274655) (ts := [.tmp 2]) 71 rfl rfl rfl rfl (by simp) rfl ?_
  conv => whnf
  repeat' (first | ((first | ((with_reducible apply Nm.mk); focus ((try simp only [lns]); exact rfl)) | (apply CallN.mk (c1)) | (apply CallN.mk (c2)) | (apply CallN.mk (c3)) | (with_reducible first | apply Bif.T | apply Bif.F) | ((with_reducible apply Bif.beq) <;> intro h <;> (try simp only [lns] at h) <;> (try (exfalso; omega))) | (with_reducible apply Bif.not) | (with_reducible apply Frz.l)) <;> conv => whnf) | fail)
  refine loop_keep ttok mixed (T0 := 288230392526274655) [30, 31] (ι := VI b.size b.tag b.parts)
    (fun p => [(1, .pb 0 []), (3, int p.c), (4, int p.b), (32, int (p.i : Int))]) (fun p => [.cells (bufV b)]) (fun p => b.parts.length - p.i) ⟨0, 0, 0, by omega, by omega, rfl, rfl⟩ ?_
  conv => whnf
  repeat' (first | ((apply Same.mk rfl); conv => whnf) | ((with_reducible apply Frz.l) <;> conv => whnf) | fail)
  rintro p
  dsimp only
  have hi := p.hi
  have hc := p.hc
  conv => whnf
  by_cases hil : p.i < b.parts.length
  · have hv1 := hv _ (gt_mem hil)
    by_cases hx : okF (gt b.parts p.i) = true ∧ (gt b.parts p.i).size = b.size ∧ (gt b.parts p.i).tag = b.tag ∧ p.b ≤ (gt b.parts p.i).off
    · rw [hx.1] at hv1
      have he := k_end (gt b.parts p.i) .no (okF.rng hx.1).1 (okF.rng hx.1).2
      obtain ⟨⟨qi, qc, qb, a1, a2, a3, a4⟩, e1, e2, e3⟩ := p.step hil hx
      dsimp only at e1 e2 e3
      subst e1 e2 e3
      repeat' (first | ((first | ((with_reducible apply Nm.mk); focus ((try simp only [lns]); exact rfl)) | ((with_reducible apply Wr.i64); focus omega) | ((with_reducible apply Need.mk); focus (simp only [lns]; omega)) | ((with_reducible apply Elem.lst); focus omega) | (apply CallN.mk (hv1)) | (apply CallN.mk (he)) | (with_reducible first | apply Bif.T | apply Bif.F) | ((with_reducible first | apply Bif.dec | apply Bif.bne) <;> intro h <;> (try simp only [lns] at h) <;> (try (exfalso; omega))) | (with_reducible apply Bif.not) | (with_reducible apply Frz.l)) <;> conv => whnf) | fail)
      (refine ⟨⟨p.i + 1, _, _, a1, a2, a3, a4⟩, ?_⟩; (try dsimp only); conv => whnf); repeat' (first | with_reducible apply True.intro | ((first | ((with_reducible apply Need.mk); focus omega) | (with_reducible apply Same.rfl) | (apply Same.int; focus rfl) | (with_reducible apply Turn.l) | (with_reducible apply Frz.l)) <;> conv => whnf) | fail)
    · have hn := p.fail hil hx
      rw [hn]
      repeat' (first | with_reducible apply True.intro | ((first | ((with_reducible apply Nm.mk); focus ((try simp only [lns]); exact rfl)) | ((with_reducible apply Need.mk); focus (simp only [lns]; omega)) | ((with_reducible apply Elem.lst); focus omega) | (apply CallN.mk (hv1)) | (with_reducible first | apply Bif.T | apply Bif.F) | ((with_reducible first | apply Bif.dec | apply Bif.bne) <;> intro h <;> (try simp only [lns] at h) <;> (try first | (exfalso; omega) | (exact absurd ⟨‹_›, ‹_›, ‹_›, by omega⟩ hx))) | (with_reducible apply Bif.not) | ((with_reducible apply Bif.mk) <;> intro h) | (apply Same.bool; focus (with_reducible rfl)) | (with_reducible apply Frz.l)) <;> conv => whnf) | fail)
      all_goals (exact absurd ⟨‹_›, ‹_›, ‹_›, by omega⟩ hx)
  · have hfin := p.e
    rw [List.drop_eq_nil_of_le (by omega), chkP] at hfin
    have hfin2 : partsOK b.size b.tag b.parts = decide (p.c < b.size) := by rw [partsOK, ← hfin]
    rw [hfin2]
    repeat' (first | with_reducible apply True.intro | ((first | ((with_reducible apply Bif.dec) <;> intro h <;> (try simp only [lns] at h) <;> (try (exfalso; omega))) | (apply Same.bool; focus (with_reducible rfl)) | (with_reducible apply Frz.l)) <;> conv => whnf) | fail)
end Go.Fw

/- Slices of Buf: the functions of Go's package slices. Written by wip/gen/gen.py. -/
namespace Go.Fw
set_option maxRecDepth 4000
open Go.Proofs
set_option maxHeartbeats 4000000
theorem k_Delete_Buf (rows : List SV) (i : Nat) (hi : i < rows.length) (hl : rows.length ≤ 1000000) : Con Tryz.prog 106 [.ov 10 0 0 rows.length, int i, int (i + 1)] [.arr none 10 rows] (.ov 10 0 0 (rows.length - 1)) [.arr none 10 (rows.take i ++ rows.drop (i + 1))] := by
  refine spec_of_run ttok mixed (T0 := 65735) (ts := [.tmp 6]) 33 rfl rfl rfl rfl (by simp) rfl ?_
  conv => whnf
  have e1 : ((i : Int) + 1).toNat = i + 1 := by omega
  repeat' (first | with_reducible apply True.intro | ((with_reducible apply Alt.r); (with_reducible apply Alt.l); conv => whnf) | ((with_reducible apply Cut.r); (apply Same.mk); (focus ((apply List.ext_getElem?; intro kk; simp only [List.getElem?_append, List.getElem?_take, List.getElem?_drop, List.getElem?_replicate, List.length_append, List.length_take, List.length_drop, List.length_replicate, List.length_cons, List.length_nil, List.getElem?_cons, List.getElem?_nil]; repeat' (split <;> try (exfalso; omega))) <;> first | rfl | (congr 1; omega) | (symm; apply List.getElem?_eq_none; omega) | (apply List.getElem?_eq_none; omega) | (congr 2; omega) | (simp; omega))); (conv => whnf)) | ((first | ((with_reducible apply Nm.mk); focus ((try simp only [lns, e1, Nat.min_self]); exact rfl)) | ((with_reducible apply Need.mk); focus first | omega | (simp only [lns, e1, Nat.min_self]; omega) | kernel_rfl) | ((with_reducible apply Bif.beq) <;> intro h <;> (try simp only [lns, e1, Nat.min_self] at h) <;> (try (exfalso; omega))) | (with_reducible apply Same.rfl) | ((with_reducible apply Same.mk); focus omega) | (with_reducible apply Sl3.l) | (with_reducible apply Frz.l)) <;> conv => whnf) | fail)
/-- slices.IndexFunc, with a closure over a number. -/
theorem k_IndexFunc_Buf (g : FuncId) (hb : Nat.blt g 1000000 = true) (now : Buf) (p : Buf → Bool) (hg : ∀ a, Con Tryz.prog g [bufV a, .pb 0 []] [.cells (bufV now)] (bool (p a)) [.cells (bufV now)]) (l : List Buf) (t : Tg) (hl : l.length ≤ 1000000) :
    Con Tryz.prog 101 [.fs t 10 (lst bufV l), .clo g [.pb 0 []]] [.cells (bufV now)] (int (idxF p l)) [.cells (bufV now)] := by
  refine spec_of_run ttok mixed (T0 := 66483) (ts := [.tmp 4]) 19 rfl rfl rfl rfl (by simp) rfl ?_
  conv => whnf
  repeat' (first | ((first | ((with_reducible apply Nm.mk); focus ((try simp only [lns]); exact rfl)) | (with_reducible apply Frz.l)) <;> conv => whnf) | fail)
  refine loop_keep ttok mixed (T0 := 66483) [0, 1, 7] (ι := {k : Nat // k ≤ l.length ∧ ∀ j, j < k → p (gt l j) = false})
    (fun k => [(8, int (k.1 : Int))]) (fun _ => [.cells (bufV now)]) (fun k => l.length - k.1) ⟨0, by omega, none_lt⟩ ?_
  conv => whnf
  repeat' (first | ((first | (with_reducible apply Same.rfl) | (apply Same.int; focus rfl) | (with_reducible apply Frz.l)) <;> conv => whnf) | fail)
  rintro ⟨k, hk, he⟩
  dsimp only
  conv => whnf
  repeat' (first | ((first | ((with_reducible apply Nm.mk); focus ((try simp only [lns]); exact rfl)) | ((with_reducible apply Need.mk); focus (simp only [lns]; omega)) | ((with_reducible apply Elem.lst); focus omega) | ((with_reducible apply Bif.dec) <;> intro h <;> (try simp only [lns] at h)) | (with_reducible apply Frz.l)) <;> conv => whnf) | fail)
  · first | (rw [hb]; conv => whnf) | skip
    conv => whnf
    repeat' (first | ((first | ((with_reducible apply Wr.i64); focus omega) | (apply CallN.mk (hg _)) | ((with_reducible apply Bif.mk) <;> intro h) | (with_reducible apply Frz.l)) <;> conv => whnf) | fail)
    · apply Same.int (idxF_some (by omega) (by assumption) he).symm
      conv => whnf
      repeat' (first | with_reducible apply True.intro | ((first | (with_reducible apply Same.rfl) | (with_reducible apply Frz.l)) <;> conv => whnf) | fail)
    · (refine ⟨⟨k + 1, by omega, step_lt he (by assumption)⟩, ?_⟩; (try dsimp only); conv => whnf); repeat' (first | with_reducible apply True.intro | ((first | ((with_reducible apply Need.mk); focus omega) | (with_reducible apply Same.rfl) | (apply Same.int; focus rfl) | (with_reducible apply Turn.l) | (with_reducible apply Frz.l)) <;> conv => whnf) | fail)
  · have hkl : k = l.length := by omega
    subst hkl
    apply Same.int (idxF_none he).symm
    conv => whnf
    repeat' (first | with_reducible apply True.intro | ((first | (with_reducible apply Same.rfl) | (with_reducible apply Frz.l)) <;> conv => whnf) | fail)
end Go.Fw
