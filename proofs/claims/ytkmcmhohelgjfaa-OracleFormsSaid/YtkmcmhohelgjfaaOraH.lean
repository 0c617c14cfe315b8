/- oracle.Cycle: the walk. -/
import Derived.Test.YtkmcmhohelgjfaaOraG
namespace Go.Fw
set_option maxRecDepth 4000
open Go.Proofs
set_option maxHeartbeats 2000000
def bools (l : List Bool) : List SV := l.map bool
theorem bools_len (l : List Bool) : (bools l).length = l.length := by simp [bools]
theorem bools_get {l : List Bool} {k : Nat} (h : k < l.length) : (bools l)[k]? = some (bool l[k]) := by simp [bools, List.getElem?_eq_getElem h]
theorem bools_set (l : List Bool) (k : Nat) (b : Bool) : (bools l).set k (bool b) = bools (l.set k b) := by simp [bools, List.map_set]
theorem ints_set (l : List Int) (k : Nat) (b : Int) : (ints l).set k (int b) = ints (l.set k b) := by simp [ints, lst, List.map_set]
theorem wAt_get {W : List Int} {k : Nat} (h : k < W.length) : wAt W (k : Int) = W[k] := by
  rw [wAt, if_pos ⟨by omega, by omega⟩]; simp [h]
theorem cAt_get {C : List Bool} {k : Nat} (h : k < C.length) : cAt C (k : Int) = C[k] := by
  rw [cAt, if_pos ⟨by omega, by omega⟩]; simp [h]
theorem count_up {C : List Bool} {k : Nat} (h : k < C.length) (e : C[k] = false) : (C.set k true).count true = C.count true + 1 := by
  rw [List.count_set h, e]; simp
theorem count_dn {C : List Bool} {k : Nat} (h : k < C.length) (e : C[k] = false) : (C.set k true).count false < C.count false := by
  have : 0 < C.count false := List.count_pos_iff.2 (e ▸ List.getElem_mem h)
  rw [List.count_set h, e]; simp; omega
theorem count_w {W : List Int} {k : Nat} {v : Int} (h : k < W.length) (e : W[k] = 0) (hv : v ≠ 0) : (W.set k v).count 0 < W.count 0 := by
  have : 0 < W.count 0 := List.count_pos_iff.2 (e ▸ List.getElem_mem h)
  rw [List.count_set h, e]; simp [hv]; omega
theorem wAt_rep (n : Nat) (y : Int) : wAt (List.replicate n 0) y = 0 := by
  unfold wAt; split
  · simp only [List.getD_eq_getElem?_getD, List.getElem?_replicate]; split <;> rfl
  · rfl
theorem cAt_rep (n : Nat) (y : Int) : cAt (List.replicate n false) y = false := by
  unfold cAt; split
  · simp only [List.getD_eq_getElem?_getD, List.getElem?_replicate]; split <;> rfl
  · rfl
theorem CyO.start (l : List Int) : CyO l 0 (List.replicate l.length 0) (List.replicate l.length false) where
  lw := by simp
  lc := by simp
  lo y := by rw [wAt_rep]; simp
  cl y h := by rw [wAt_rep] at h; exact absurd rfl h
  al y h0 h1 := by omega
  ci y := by rw [cAt_rep, wAt_rep]; simp
structure CySt (l : List Int) where
  a : Nat
  W : List Int
  C : List Bool
  o : CyO l a W C
  ha : a ≤ l.length
theorem cyc_count {l : List Int} {C : List Bool} (hC : C.length = l.length) (h : ∀ j (hj : j < C.length), C[j] = onC l (j : Int)) : ∀ j, j ≤ l.length → (C.take j).count true = (cycU l j).length := by
  intro j
  induction j with
  | zero => intro _; simp [cycU]
  | succ j ih =>
    intro hj
    have hjC : j < C.length := by omega
    rw [List.take_succ_eq_append_getElem hjC, List.count_append, ih (by omega), cycU_succ, h j hjC]
    cases onC l (j : Int) <;> simp
def slots3 (l : List Int) (F j : Nat) : List SV := ints (cycU l j) ++ List.replicate (F - (cycU l j).length) (int 0)
theorem slots3_step {l : List Int} {F j : Nat} (h : onC l (j : Int) = true) :
    (slots3 l F j).take (0 + (cycU l j).length) ++ [int (j : Int)] ++ (slots3 l F j).drop (0 + (cycU l j).length + 1) = slots3 l F (j + 1) := by
  have e : cycU l (j + 1) = cycU l j ++ [(j : Int)] := by rw [cycU_succ, h]; rfl
  have h1 : (slots3 l F j).take (0 + (cycU l j).length) = ints (cycU l j) := by
    rw [Nat.zero_add, slots3, ← ints_len (cycU l j), List.take_left]
  have h2 : (slots3 l F j).drop (0 + (cycU l j).length + 1) = List.replicate (F - (cycU l j).length - 1) (int 0) := by
    rw [Nat.zero_add, ← List.drop_drop, slots3, ← ints_len (cycU l j), List.drop_left]; simp
  rw [h1, h2, slots3, e]
  simp [ints, lst]
  omega
theorem k_Cycle (l : List Int) (t : Tg) (hl : l.length < 100000) : Con Try.prog 12 [.fs t 1 (ints l)] [] (.ov 1 0 0 (cycV l).length) [.arr (some (cycV l).length) 1 (ints (cycV l))] := by
  have hnum := fun i => k_numbered i l.length
  refine spec_of_run ttok mixed (T0 := 675299001525514375270397) (ts := [.tmp 2]) 86 rfl rfl rfl rfl (by simp) rfl ?_
  conv => whnf
  repeat' (first | ((first | (with_reducible first | apply Nm.rep _ (int_mk _) | apply Nm.rep _ (bool_mk _)) | ((with_reducible apply Nm.mk); focus ((try simp only [lns]); exact rfl)) | ((with_reducible apply Need.mk); focus (unfold roomOK; simp only [lns]; omega)) | (with_reducible apply Frz.l)) <;> conv => whnf) | fail)
  refine loop_keep ttok mixed (T0 := 675299001525514375270397) [0, 3, 18] (ι := CySt l)
    (fun s => [(4, .ov 1 0 0 l.length), (5, .ov 1 1 0 l.length), (6, int (s.C.count true : Int)), (19, int (s.a : Int))])
    (fun s => [.arr (some l.length) 1 (ints s.W), .arr (some l.length) 1 (lst bool s.C)]) (fun s => l.length - s.a) ⟨0, _, _, CyO.start l, by omega⟩ ?_
  conv => whnf
  repeat' (first | ((apply Same.mk (by simp [List.count_replicate]; rfl)); (conv => whnf)) | ((first | (with_reducible apply Same.rfl) | (with_reducible apply Frz.l)) <;> conv => whnf) | fail)
  rintro ⟨a, W, C, o, ha⟩
  dsimp only
  conv => whnf
  by_cases hal : a < l.length
  · repeat' (first | ((first | ((with_reducible apply Bif.dec) <;> intro h <;> (try simp only [lns] at h) <;> (try (exfalso; omega))) | (with_reducible apply Frz.l)) <;> conv => whnf) | fail)
    have lC := o.lc
    have hcC : C.count true ≤ l.length := by rw [← lC]; exact List.count_le_length
    refine loop_keep ttok mixed (T0 := 675299001525514375270397) [0, 3, 7, 18, 19] (ι := {p : List Int × Int // CyW l a W p.1 p.2})
      (fun p => [(4, .ov 1 0 0 l.length), (5, .ov 1 1 0 l.length), (6, int (C.count true : Int)), (8, int p.1.2)])
      (fun p => [.arr (some l.length) 1 (ints p.1.1), .arr (some l.length) 1 (lst bool C)]) (fun p => p.1.1.count 0) ⟨(W, (a : Int)), CyW.start o⟩ ?_
    conv => whnf
    repeat' (first | ((apply Same.mk rfl); (conv => whnf)) | ((with_reducible apply Frz.l) <;> conv => whnf) | fail)
    rintro ⟨⟨V, i⟩, w⟩
    dsimp only at w ⊢
    have cn := hnum i
    have lw := w.lw
    conv => whnf
    by_cases hi : inN i l.length
    · rw [decide_eq_true hi] at cn
      obtain ⟨k, rfl⟩ : ∃ k : Nat, i = (k : Int) := ⟨i.toNat, by have := hi.1; omega⟩
      have hk : k < l.length := by have := hi.2; omega
      have hkV : k < V.length := by omega
      have hg := gt_eq hkV
      have hx := nx_gt hk
      by_cases hz : gt V k = 0
      · have hz' : V[k] = 0 := by rw [← hg]; exact hz
        have w2 := w.next hk (by rw [wAt_get hkV]; exact hz')
        have hc2 := count_w hkV hz' (show ((a : Int) + 1) ≠ 0 by omega)
        rw [hx] at w2
        repeat' (first | ((first | (with_reducible apply Nm.set _ (int_mk _)) | ((with_reducible apply Nm.mk); focus ((try simp only [lns]); exact rfl)) | ((with_reducible apply Wr.i64); focus omega) | ((with_reducible apply Need.mk); focus first | omega | (simp only [lns]; omega)) | ((with_reducible apply Elem.lst); focus omega) | (apply CallN.mk (cn)) | (with_reducible apply Bif.T) | ((with_reducible apply Bif.beq) <;> intro h <;> (try simp only [lns] at h) <;> (try (exfalso; omega))) | (with_reducible apply Frz.l)) <;> conv => whnf) | fail)
        (refine ⟨⟨(V.set k ((a : Int) + 1), gt l k), w2⟩, ?_⟩; (try dsimp only); conv => whnf); repeat' (first | with_reducible apply True.intro | ((apply Same.mk rfl); (conv => whnf)) | ((first | ((with_reducible apply Need.mk); focus omega) | (with_reducible apply Turn.l) | (with_reducible apply Frz.l)) <;> conv => whnf) | fail)
      · have hz' : V[k] ≠ 0 := by rw [← hg]; exact hz
        by_cases h6 : gt V k = (a : Int) + 1
        · have h6' : V[k] = (a : Int) + 1 := by rw [← hg]; exact h6
          have hwk : wAt V (k : Int) = a + 1 := by rw [wAt_get hkV]; exact h6'
          obtain ⟨q, hq⟩ := w.rc (k : Int) hwk
          repeat' (first | ((first | ((with_reducible apply Nm.mk); focus ((try simp only [lns]); exact rfl)) | ((with_reducible apply Wr.i64); focus omega) | ((with_reducible apply Need.mk); focus omega) | ((with_reducible apply Elem.lst); focus omega) | (apply CallN.mk (cn)) | (with_reducible first | apply Bif.T | apply Bif.F) | ((with_reducible first | apply Bif.beq | apply Bif.bne) <;> intro h <;> (try simp only [lns] at h) <;> (try (exfalso; omega))) | (with_reducible apply Bif.not) | (with_reducible apply Frz.l)) <;> conv => whnf) | fail)
          refine loop_keep ttok mixed (T0 := 675299001525514375270397) [0, 3, 7, 18, 19] (ι := {p : List Bool × Int // CyC l C p.1 (k : Int) p.2})
            (fun p => [(4, .ov 1 0 0 l.length), (5, .ov 1 1 0 l.length), (6, int (p.1.1.count true : Int)), (8, int p.1.2)])
            (fun p => [.arr (some l.length) 1 (ints V), .arr (some l.length) 1 (lst bool p.1.1)]) (fun p => p.1.1.count false) ⟨(C, (k : Int)), CyC.start o hi⟩ ?_
          conv => whnf
          repeat' (first | ((apply Same.mk rfl); (conv => whnf)) | ((with_reducible apply Frz.l) <;> conv => whnf) | fail)
          rintro ⟨⟨D, i⟩, c⟩
          dsimp only at c ⊢
          have hii := c.inn
          have lD := c.lc
          obtain ⟨j, rfl⟩ : ∃ j : Nat, i = (j : Int) := ⟨i.toNat, by have := hii.1; omega⟩
          have hj : j < l.length := by have := hii.2; omega
          have hjD : j < D.length := by omega
          have hcnt : D.count true ≤ l.length := by rw [← lD]; exact List.count_le_length
          have hgD := gt_eq hjD
          have hxj := nx_gt hj
          conv => whnf
          by_cases hd : gt D j = false
          · have hd' : D[j] = false := by rw [← hgD]; exact hd
            have c2 := c.next hj hi hq
            have hc2 := count_dn hjD hd'
            have hcu := count_up hjD hd'
            rw [hxj] at c2
            repeat' (first | ((first | (with_reducible apply Nm.set _ (bool_mk _)) | ((with_reducible apply Nm.mk); focus ((try simp only [lns]); exact rfl)) | ((with_reducible apply Wr.i64); focus omega) | ((with_reducible apply Need.mk); focus first | omega | (simp only [lns]; omega)) | ((with_reducible apply Elem.lst); focus omega) | (with_reducible apply Bif.not) | ((with_reducible apply Bif.mk) <;> intro h <;> (try (focus (exact absurd (hd.symm.trans h) (by decide))))) | (with_reducible apply Frz.l)) <;> conv => whnf) | fail)
            (refine ⟨⟨(D.set j true, gt l j), c2⟩, ?_⟩; (try dsimp only); conv => whnf); repeat' (first | with_reducible apply True.intro | ((with_reducible apply Same.mk); (focus (first | (show SV.v _ = SV.v _; rw [hcu]; rfl) | rfl | fail)); (conv => whnf)) | ((first | ((with_reducible apply Need.mk); focus omega) | (with_reducible apply Turn.l) | (with_reducible apply Frz.l)) <;> conv => whnf) | fail)
          · have hd2 : gt D j = true := by simpa using hd
            have hd' : D[j] = true := by rw [← hgD]; exact hd2
            have hfin := CyC.finish o w hal hwk hq c (by rw [cAt_get hjD]; exact hd')
            repeat' (first | ((first | ((with_reducible apply Nm.mk); focus ((try simp only [lns]); exact rfl)) | ((with_reducible apply Wr.i64); focus omega) | ((with_reducible apply Need.mk); focus omega) | ((with_reducible apply Elem.lst); focus omega) | (with_reducible apply Bif.not) | ((with_reducible apply Bif.mk) <;> intro h <;> (try (focus (exact absurd (hd2.symm.trans h) (by decide))))) | (with_reducible apply Frz.l)) <;> conv => whnf) | fail)
            (refine ⟨⟨a + 1, V, D, hfin, hal⟩, ?_⟩; (try dsimp only); conv => whnf); repeat' (first | with_reducible apply True.intro | ((apply Same.mk rfl); (conv => whnf)) | ((first | ((with_reducible apply Need.mk); focus omega) | (with_reducible apply Turn.l) | (with_reducible apply Frz.l)) <;> conv => whnf) | fail)
        · have h6' : V[k] ≠ (a : Int) + 1 := by rw [← hg]; exact h6
          have hsk := w.skip o hal (.inr ⟨hi, by rw [wAt_get hkV]; exact hz', by rw [wAt_get hkV]; exact h6'⟩)
          repeat' (first | ((first | ((with_reducible apply Nm.mk); focus ((try simp only [lns]); exact rfl)) | ((with_reducible apply Wr.i64); focus omega) | ((with_reducible apply Need.mk); focus omega) | ((with_reducible apply Elem.lst); focus omega) | (apply CallN.mk (cn)) | (with_reducible first | apply Bif.T | apply Bif.F) | ((with_reducible first | apply Bif.beq | apply Bif.bne) <;> intro h <;> (try simp only [lns] at h) <;> (try (exfalso; omega))) | (with_reducible apply Bif.not) | (with_reducible apply Frz.l)) <;> conv => whnf) | fail)
          (refine ⟨⟨a + 1, V, C, hsk, hal⟩, ?_⟩; (try dsimp only); conv => whnf); repeat' (first | with_reducible apply True.intro | ((apply Same.mk rfl); (conv => whnf)) | ((first | ((with_reducible apply Need.mk); focus omega) | (with_reducible apply Turn.l) | (with_reducible apply Frz.l)) <;> conv => whnf) | fail)
    · rw [decide_eq_false hi] at cn
      have hsk := w.skip o hal (.inl hi)
      repeat' (first | ((first | ((with_reducible apply Wr.i64); focus omega) | (apply CallN.mk (cn)) | (with_reducible first | apply Bif.T | apply Bif.F) | (with_reducible apply Bif.not) | (with_reducible apply Frz.l)) <;> conv => whnf) | fail)
      (refine ⟨⟨a + 1, V, C, hsk, hal⟩, ?_⟩; (try dsimp only); conv => whnf); repeat' (first | with_reducible apply True.intro | ((apply Same.mk rfl); (conv => whnf)) | ((first | ((with_reducible apply Need.mk); focus omega) | (with_reducible apply Turn.l) | (with_reducible apply Frz.l)) <;> conv => whnf) | fail)
  · have hal : a = l.length := by omega
    subst hal
    have hC : ∀ j (hj : j < C.length), C[j] = onC l (j : Int) := fun j hj => by
      have h2 := o.ci (j : Int)
      rw [cAt_get hj] at h2
      have h3 := o.al (j : Int) (by omega) (by have := o.lc; omega)
      rw [Bool.eq_iff_iff, h2]
      exact ⟨fun h => h.2, fun h => ⟨h3, h⟩⟩
    have lC := o.lc
    have hcc := cyc_count o.lc hC
    have hF : C.count true = (cycV l).length := by
      have := hcc l.length (Nat.le_refl _)
      rwa [List.take_of_length_le (by rw [o.lc]; exact Nat.le_refl _)] at this
    have hF2 : (cycV l).length ≤ l.length := cycU_len l l.length
    rw [hF]
    repeat' (first | ((first | (with_reducible apply Nm.rep _ (int_mk _)) | ((with_reducible apply Nm.mk); focus ((try simp only [lns]); exact rfl)) | ((with_reducible apply Need.mk); focus (unfold roomOK; simp only [lns]; omega)) | ((with_reducible apply Bif.dec) <;> intro h <;> (try simp only [lns] at h) <;> (try (exfalso; omega))) | (with_reducible apply Frz.l)) <;> conv => whnf) | fail)
    refine loop_keep ttok mixed (T0 := 675299001525514375270397) [73] (ι := {j : Nat // j ≤ l.length})
      (fun j => [(9, .ov 1 2 0 (cycU l j.1).length), (72, .ov 1 1 0 l.length), (74, int (j.1 : Int))])
      (fun j => [.arr (some l.length) 1 (ints W), .arr (some l.length) 1 (lst bool C), .arr (some (cycV l).length) 1 (slots3 l (cycV l).length j.1)]) (fun j => l.length - j.1) ⟨0, by omega⟩ ?_
    conv => whnf
    repeat' (first | ((apply Same.mk (by simp [slots3, cycU, ints, lst, int])); (conv => whnf)) | ((with_reducible apply Frz.l) <;> conv => whnf) | fail)
    rintro ⟨j, hj⟩
    dsimp only
    conv => whnf
    by_cases hjl : j < l.length
    · have hjC : j < C.length := by omega
      have hg := gt_eq hjC
      rw [hC j hjC] at hg
      cases hon : onC l (j : Int) with
      | true =>
        rw [hon] at hg
        have hlen : (cycU l j).length + 1 ≤ (cycV l).length := by
          have h5 : (C.take (j + 1)).count true ≤ C.count true := (List.take_sublist _ _).count_le _
          rw [hcc (j + 1) hjl, cycU_succ, hon, hF] at h5
          simpa using h5
        have e1 : (cycU l (j + 1)).length = (cycU l j).length + 1 := by simp [cycU_succ, hon]
        have e2 := slots3_step (F := (cycV l).length) hon
        rw [Nat.zero_add] at e2
        have hsl : (cycU l j).length + 1 ≤ (slots3 l (cycV l).length j).length := by simp [slots3, ints_len]; omega
        repeat' (first | ((with_reducible apply Alt.r); (with_reducible apply Alt.l); (conv => whnf)) | ((first | ((with_reducible apply Nm.mk); focus ((try simp only [lns]); exact rfl)) | ((with_reducible apply Wr.i64); focus omega) | ((with_reducible apply Need.mk); focus first | omega | (simp only [lns]; omega)) | ((with_reducible apply Elem.lst); focus omega) | ((with_reducible apply Bif.dec) <;> intro h <;> (try simp only [lns] at h) <;> (try (exfalso; omega))) | ((with_reducible apply Bif.mk) <;> intro h <;> (try (focus (exact absurd (hg.symm.trans h) (by decide))))) | (with_reducible apply Frz.l)) <;> conv => whnf) | fail)
        (refine ⟨⟨j + 1, hjl⟩, ?_⟩; (try dsimp only); conv => whnf); repeat' (first | with_reducible apply True.intro | ((with_reducible apply Same.mk); (focus (first | (rw [e1]; done) | (rw [← e2]; done) | fail)); (conv => whnf)) | ((first | ((with_reducible apply Need.mk); focus omega) | (with_reducible apply Same.rfl) | (apply Same.int; focus rfl) | (with_reducible apply Turn.l) | (with_reducible apply Frz.l)) <;> conv => whnf) | fail)
      | false =>
        rw [hon] at hg
        have e : cycU l (j + 1) = cycU l j := by rw [cycU_succ, hon]; rfl
        repeat' (first | ((first | ((with_reducible apply Nm.mk); focus ((try simp only [lns]); exact rfl)) | ((with_reducible apply Wr.i64); focus omega) | ((with_reducible apply Need.mk); focus omega) | ((with_reducible apply Elem.lst); focus omega) | ((with_reducible apply Bif.dec) <;> intro h <;> (try simp only [lns] at h) <;> (try (exfalso; omega))) | ((with_reducible apply Bif.mk) <;> intro h <;> (try (focus (exact absurd (hg.symm.trans h) (by decide))))) | (with_reducible apply Frz.l)) <;> conv => whnf) | fail)
        (refine ⟨⟨j + 1, hjl⟩, ?_⟩; (try dsimp only); conv => whnf); repeat' (first | with_reducible apply True.intro | ((with_reducible apply Same.mk); (focus (first | (rw [e]; done) | (unfold slots3; rw [e]; done) | fail)); (conv => whnf)) | ((first | ((with_reducible apply Need.mk); focus omega) | (with_reducible apply Same.rfl) | (apply Same.int; focus rfl) | (with_reducible apply Turn.l) | (with_reducible apply Frz.l)) <;> conv => whnf) | fail)
    · have e : j = l.length := by omega
      subst e
      have e2 : slots3 l (cycV l).length l.length = ints (cycV l) := by
        show ints (cycV l) ++ List.replicate ((cycV l).length - (cycV l).length) (int 0) = _
        simp
      rw [e2]
      repeat' (first | with_reducible apply True.intro | ((apply Same.mk rfl); (conv => whnf)) | ((first | ((with_reducible apply Bif.dec) <;> intro h <;> (try simp only [lns] at h) <;> (try (exfalso; omega))) | (with_reducible apply Frz.l)) <;> conv => whnf) | fail)
end Go.Fw
