/- oracle.Cycle: the walk. -/
import Derived.Test.YtkmcmhohelgjfaaOraG
namespace Go.Fw
open Go.Proofs
set_option maxHeartbeats 2000000
attribute [local semireducible] Nm Wr Bif
def bools (l : List Bool) : List SV := l.map bool
theorem bools_len (l : List Bool) : (bools l).length = l.length := by simp [bools]
theorem bools_get {l : List Bool} {k : Nat} (h : k < l.length) : (bools l)[k]? = some (bool l[k]) := by simp [bools, List.getElem?_eq_getElem h]
theorem bools_set (l : List Bool) (k : Nat) (b : Bool) : (bools l).set k (bool b) = bools (l.set k b) := by simp [bools, List.map_set]
theorem ints_set (l : List Int) (k : Nat) (b : Int) : (ints l).set k (int b) = ints (l.set k b) := by simp [ints, lst, List.map_set]
theorem wAt_get {W : List Int} {k : Nat} (h : k < W.length) : wAt W (k : Int) = W[k] := by
  rw [wAt, if_pos ⟨by omega, by omega⟩]; simp [h]
theorem cAt_get {C : List Bool} {k : Nat} (h : k < C.length) : cAt C (k : Int) = C[k] := by
  rw [cAt, if_pos ⟨by omega, by omega⟩]; simp [h]
theorem count_up {C : List Bool} {k : Nat} (h : k < C.length) (e : C[k] = false) : (C.set k true).count true = C.count true + 1 := by
  rw [List.count_set h, e]; simp
theorem count_dn {C : List Bool} {k : Nat} (h : k < C.length) (e : C[k] = false) : (C.set k true).count false < C.count false := by
  have : 0 < C.count false := List.count_pos_iff.2 (e ▸ List.getElem_mem h)
  rw [List.count_set h, e]; simp; omega
theorem count_w {W : List Int} {k : Nat} {v : Int} (h : k < W.length) (e : W[k] = 0) (hv : v ≠ 0) : (W.set k v).count 0 < W.count 0 := by
  have : 0 < W.count 0 := List.count_pos_iff.2 (e ▸ List.getElem_mem h)
  rw [List.count_set h, e]; simp [hv]; omega
theorem wAt_rep (n : Nat) (y : Int) : wAt (List.replicate n 0) y = 0 := by
  unfold wAt; split
  · simp only [List.getD_eq_getElem?_getD, List.getElem?_replicate]; split <;> rfl
  · rfl
theorem cAt_rep (n : Nat) (y : Int) : cAt (List.replicate n false) y = false := by
  unfold cAt; split
  · simp only [List.getD_eq_getElem?_getD, List.getElem?_replicate]; split <;> rfl
  · rfl
theorem CyO.start (l : List Int) : CyO l 0 (List.replicate l.length 0) (List.replicate l.length false) where
  lw := by simp
  lc := by simp
  lo y := by rw [wAt_rep]; simp
  cl y h := by rw [wAt_rep] at h; exact absurd rfl h
  al y h0 h1 := by omega
  ci y := by rw [cAt_rep, wAt_rep]; simp
structure CySt (l : List Int) where
  a : Nat
  W : List Int
  C : List Bool
  o : CyO l a W C
  ha : a ≤ l.length
theorem cyc_count {l : List Int} {C : List Bool} (hC : C.length = l.length) (h : ∀ j (hj : j < C.length), C[j] = onC l (j : Int)) : ∀ j, j ≤ l.length → (C.take j).count true = (cycU l j).length := by
  intro j
  induction j with
  | zero => intro _; simp [cycU]
  | succ j ih =>
    intro hj
    have hjC : j < C.length := by omega
    rw [List.take_succ_eq_append_getElem hjC, List.count_append, ih (by omega), cycU_succ, h j hjC]
    cases onC l (j : Int) <;> simp
def slots3 (l : List Int) (F j : Nat) : List SV := ints (cycU l j) ++ List.replicate (F - (cycU l j).length) (int 0)
theorem slots3_step {l : List Int} {F j : Nat} (h : onC l (j : Int) = true) :
    (slots3 l F j).take (0 + (cycU l j).length) ++ [int (j : Int)] ++ (slots3 l F j).drop (0 + (cycU l j).length + 1) = slots3 l F (j + 1) := by
  have e : cycU l (j + 1) = cycU l j ++ [(j : Int)] := by rw [cycU_succ, h]; rfl
  have h1 : (slots3 l F j).take (0 + (cycU l j).length) = ints (cycU l j) := by
    rw [Nat.zero_add, slots3, ← ints_len (cycU l j), List.take_left]
  have h2 : (slots3 l F j).drop (0 + (cycU l j).length + 1) = List.replicate (F - (cycU l j).length - 1) (int 0) := by
    rw [Nat.zero_add, ← List.drop_drop, slots3, ← ints_len (cycU l j), List.drop_left]; simp
  rw [h1, h2, slots3, e]
  simp [ints, lst]
  omega
theorem k_Cycle (l : List Int) (t : Tg) (hl : l.length < 100000) : Con Try.prog 12 [.fs t 1 (ints l)] [] (.ov 1 0 0 (cycV l).length) [.arr (some (cycV l).length) 1 (ints (cycV l))] := by
  refine spec_of_exec ttok mixed (T0 := 86) (ts := [.tmp 2]) 86 rfl rfl rfl rfl (by simp) rfl ?_
  conv => whnf
  have hs := ints_len l
  refine Need.mk ⟨by omega, Int.le_refl _, by unfold roomOK; rw [hs]; simp; omega⟩ ?_
  conv => whnf
  refine Need.mk ⟨by omega, Int.le_refl _, by unfold roomOK; rw [hs]; simp; omega⟩ ?_
  conv => whnf
  refine loop_inv ttok mixed (T0 := 86) (ι := CySt l)
    (fun s => [(0, .fs t 1 (ints l)), (3, int (l.length : Int)), (4, .ov 1 0 0 l.length), (5, .ov 1 1 0 l.length), (6, int (s.C.count true : Int)), (18, int (l.length : Int)), (19, int (s.a : Int))])
    (fun s => [.arr (some l.length) 1 (ints s.W), .arr (some l.length) 1 (bools s.C)]) (fun s => l.length - s.a) ⟨0, _, _, CyO.start l, by omega⟩ ?_ ?_
  · refine Sub.go 2 ⟨rfl, ?_, ?_, ?_, ?_, ?_, rfl, trivial⟩ ?_ (by simp) rfl rfl
    · rw [← hs]; rfl
    · rw [← hs]; rfl
    · rw [← hs]; rfl
    · simp [List.count_replicate]; rfl
    · rw [← hs]; rfl
    · show [OB.arr (some (ints l).length) 1 (List.replicate (ints l).length (int 0)), OB.arr (some (ints l).length) 1 (List.replicate (ints l).length (bool false))] = [OB.arr (some l.length) 1 (ints (List.replicate l.length 0)), OB.arr (some l.length) 1 (bools (List.replicate l.length false))]
      rw [hs]; simp [ints, lst, bools]
  rintro ⟨a, W, C, o, ha⟩
  dsimp only
  conv => whnf
  refine Bif.mk (fun h1 => ?_) (fun h1 => ?_)
  · have hal : a < l.length := by simp at h1; omega
    have haw : IntKind.wrap .i64 ((a : Int) + 1) = (a : Int) + 1 := wrap64_id (by omega)
    conv => whnf
    refine loop_inv ttok mixed (T0 := 86) (ι := {p : List Int × Int // CyW l a W p.1 p.2})
      (fun p => [(0, .fs t 1 (ints l)), (3, int (l.length : Int)), (4, .ov 1 0 0 l.length), (5, .ov 1 1 0 l.length), (6, int (C.count true : Int)), (7, int (a : Int)), (8, int p.1.2), (18, int (l.length : Int)), (19, int (a : Int))])
      (fun p => [.arr (some l.length) 1 (ints p.1.1), .arr (some l.length) 1 (bools C)]) (fun p => p.1.1.count 0) ⟨(W, (a : Int)), CyW.start o⟩ ?_ ?_
    · exact Sub.of ⟨rfl, rfl, rfl, rfl, rfl, rfl, rfl, rfl, rfl, trivial⟩
    rintro ⟨⟨V, i⟩, w⟩
    dsimp only at w
    dsimp only
    conv => whnf
    refine CallN.mk (k_numbered _ _) ?_
    conv => whnf
    refine Bif.mk (fun h2 => ?_) (fun h2 => ?_)
    · have hi : inN i l.length := by simpa using h2
      obtain ⟨k, rfl⟩ : ∃ k : Nat, i = (k : Int) := ⟨i.toNat, by have := hi.1; omega⟩
      have hk : k < l.length := by have := hi.2; omega
      have hkV : k < V.length := by rw [w.lw]; exact hk
      conv => whnf
      refine Need.mk (by omega) ?_
      conv => whnf
      refine Elem.mk (int V[k]) (by simpa using ints_get hkV) ?_
      conv => whnf
      refine Bif.mk (fun h3 => ?_) (fun h3 => ?_)
      · have hz : V[k] = 0 := by simpa using h3
        conv => whnf
        refine Need.mk (by omega) ?_
        conv => whnf
        rw [haw]
        refine Elem.mk (int V[k]) (by simpa using ints_get hkV) ?_
        conv => whnf
        refine Need.mk (by omega) ?_
        conv => whnf
        refine Elem.mk (int l[k]) (ints_get hk) ?_
        conv => whnf
        refine ⟨⟨(V.set k ((a : Int) + 1), nx l (k : Int)), w.next hk (by rw [wAt_get hkV]; exact hz)⟩, ?_, count_w hkV hz (by omega)⟩
        refine Sub.go 2 ⟨rfl, rfl, rfl, rfl, rfl, rfl, ?_, rfl, rfl, trivial⟩ ?_ (by simp) rfl rfl
        · show some (int l[k]) = some (int (nx l (k : Int)))
          rw [nx_get hk]
        · show [OB.arr (some l.length) 1 ((ints V).set (0 + k) (int ((a : Int) + 1))), OB.arr (some l.length) 1 (bools C)] = _
          rw [Nat.zero_add, ints_set]
      · have hnz : V[k] ≠ 0 := by simpa using h3
        conv => whnf
        refine CallN.mk (k_numbered _ _) ?_
        conv => whnf
        refine Bif.mk (fun h4 => ?_) (fun h4 => ?_)
        · simp [hi] at h4
        conv => whnf
        refine Need.mk (by omega) ?_
        conv => whnf
        refine Elem.mk (int V[k]) (by simpa using ints_get hkV) ?_
        conv => whnf
        rw [haw]
        refine Bif.mk (fun h5 => ?_) (fun h5 => ?_)
        · have h6 : V[k] ≠ (a : Int) + 1 := by simpa using h5
          conv => whnf
          rw [haw]
          refine ⟨⟨a + 1, V, C, w.skip o hal (.inr ⟨hi, by rw [wAt_get hkV]; exact hnz, by rw [wAt_get hkV]; exact h6⟩), hal⟩, ?_, by simp only []; omega⟩
          exact Sub.go 2 ⟨rfl, rfl, rfl, rfl, rfl, rfl, rfl, trivial⟩ rfl (by simp) rfl rfl
        · have h6 : V[k] = (a : Int) + 1 := by simpa using h5
          conv => whnf
          have hwk : wAt V (k : Int) = a + 1 := by rw [wAt_get hkV]; exact h6
          obtain ⟨q, hq⟩ := w.rc (k : Int) hwk
          refine loop_inv ttok mixed (T0 := 86) (ι := {p : List Bool × Int // CyC l C p.1 (k : Int) p.2})
            (fun p => [(0, .fs t 1 (ints l)), (3, int (l.length : Int)), (4, .ov 1 0 0 l.length), (5, .ov 1 1 0 l.length), (6, int (p.1.1.count true : Int)), (7, int (a : Int)), (8, int p.1.2), (18, int (l.length : Int)), (19, int (a : Int))])
            (fun p => [.arr (some l.length) 1 (ints V), .arr (some l.length) 1 (bools p.1.1)]) (fun p => p.1.1.count false) ⟨(C, (k : Int)), CyC.start o hi⟩ ?_ ?_
          · exact Sub.of ⟨rfl, rfl, rfl, rfl, rfl, rfl, rfl, rfl, rfl, trivial⟩
          rintro ⟨⟨D, i⟩, c⟩
          dsimp only at c
          dsimp only
          have hii := c.inn
          obtain ⟨j, rfl⟩ : ∃ j : Nat, i = (j : Int) := ⟨i.toNat, by have := hii.1; omega⟩
          have hj : j < l.length := by have := hii.2; omega
          have hjD : j < D.length := by rw [c.lc]; exact hj
          have hcnt : D.count true ≤ l.length := by rw [← c.lc]; exact List.count_le_length
          conv => whnf
          refine Need.mk (by omega) ?_
          conv => whnf
          refine Elem.mk (bool D[j]) (by simpa using bools_get hjD) ?_
          conv => whnf
          refine Bif.mk (fun h7 => ?_) (fun h7 => ?_)
          · have hz : D[j] = false := by simpa using h7
            conv => whnf
            refine Need.mk (by omega) ?_
            conv => whnf
            refine Elem.mk (bool D[j]) (by simpa using bools_get hjD) ?_
            conv => whnf
            refine Need.mk (by omega) ?_
            conv => whnf
            refine Elem.mk (int l[j]) (ints_get hj) ?_
            conv => whnf
            rw [inc64 _ (by omega)]
            refine ⟨⟨(D.set j true, nx l (j : Int)), c.next hj hi hq⟩, ?_, count_dn hjD hz⟩
            refine Sub.go 2 ⟨rfl, rfl, rfl, rfl, ?_, rfl, ?_, rfl, rfl, trivial⟩ ?_ (by simp) rfl rfl
            · show some (int ((D.count true + 1 : Nat) : Int)) = some (int ((D.set j true).count true : Int))
              rw [count_up hjD hz]
            · show some (int l[j]) = some (int (nx l (j : Int)))
              rw [nx_get hj]
            · show [OB.arr (some l.length) 1 (ints V), OB.arr (some l.length) 1 ((bools D).set (0 + j) (bool true))] = _
              rw [Nat.zero_add, bools_set]
          · have hz : D[j] = true := by simpa using h7
            conv => whnf
            rw [haw]
            refine ⟨⟨a + 1, V, D, CyC.finish o w hal hwk hq c (by rw [cAt_get hjD]; exact hz), hal⟩, ?_, by simp only []; omega⟩
            exact Sub.go 2 ⟨rfl, rfl, rfl, rfl, rfl, rfl, rfl, trivial⟩ rfl (by simp) rfl rfl
    · have hi : ¬ inN i l.length := by simpa using h2
      conv => whnf
      refine CallN.mk (k_numbered _ _) ?_
      conv => whnf
      refine Bif.mk (fun h4 => ?_) (fun h4 => ?_)
      · conv => whnf
        rw [haw]
        refine ⟨⟨a + 1, V, C, w.skip o hal (.inl hi), hal⟩, ?_, by simp only []; omega⟩
        exact Sub.go 2 ⟨rfl, rfl, rfl, rfl, rfl, rfl, rfl, trivial⟩ rfl (by simp) rfl rfl
      · simp [hi] at h4
  · have hal : a = l.length := by simp at h1; omega
    conv => whnf
    subst hal
    have hC : ∀ j (hj : j < C.length), C[j] = onC l (j : Int) := fun j hj => by
      have h2 := o.ci (j : Int)
      rw [cAt_get hj] at h2
      have h3 := o.al (j : Int) (by omega) (by have := o.lc; omega)
      rw [Bool.eq_iff_iff, h2]
      exact ⟨fun h => h.2, fun h => ⟨h3, h⟩⟩
    have hcc := cyc_count o.lc hC
    have hF : C.count true = (cycV l).length := by
      have := hcc l.length (Nat.le_refl _)
      rwa [List.take_of_length_le (by rw [o.lc]; exact Nat.le_refl _)] at this
    have hFl := cycU_len l l.length
    have hF2 : (cycV l).length ≤ l.length := hFl
    rw [hF]
    refine Need.mk ⟨by omega, by omega, by unfold roomOK; simp; omega⟩ ?_
    conv => whnf
    refine loop_inv ttok mixed (T0 := 86) (ι := {j : Nat // j ≤ l.length})
      (fun j => [(9, .ov 1 2 0 (cycU l j.1).length), (72, .ov 1 1 0 l.length), (73, int (l.length : Int)), (74, int (j.1 : Int))])
      (fun j => [.arr (some l.length) 1 (ints W), .arr (some l.length) 1 (bools C), .arr (some (cycV l).length) 1 (slots3 l (cycV l).length j.1)]) (fun j => l.length - j.1) ⟨0, by omega⟩ ?_ ?_
    · refine Sub.go 3 ⟨rfl, rfl, rfl, rfl, trivial⟩ ?_ (by simp) rfl rfl
      show [OB.arr (some l.length) 1 (ints W), OB.arr (some l.length) 1 (bools C), OB.arr (some (cycV l).length) 1 (List.replicate (cycV l).length (int 0))] = _
      simp [slots3, cycU, ints, lst]
    rintro ⟨j, hj⟩
    dsimp only
    conv => whnf
    refine Bif.mk (fun h2 => ?_) (fun h2 => ?_)
    · have hjl : j < l.length := by simp at h2; omega
      have hjC : j < C.length := by rw [o.lc]; exact hjl
      conv => whnf
      refine Need.mk (by omega) ?_
      conv => whnf
      refine Elem.mk (bool C[j]) (by simpa using bools_get hjC) ?_
      conv => whnf
      refine Bif.mk (fun h3 => ?_) (fun h3 => ?_)
      · have hon : onC l (j : Int) = true := by rw [← hC j hjC]; exact h3
        have hlen : (cycU l j).length + 1 ≤ (cycV l).length := by
          have h5 : (C.take (j + 1)).count true ≤ C.count true := (List.take_sublist _ _).count_le _
          rw [hcc (j + 1) hjl, cycU_succ, hon, hF] at h5
          simpa using h5
        conv => whnf
        refine Need.mk (Nat.le_refl 1) ?_
        conv => whnf
        refine Alt.r ?_
        refine Alt.l ?_
        conv => whnf
        refine Need.mk ?_ ?_
        · show 0 + (cycU l j).length + 1 ≤ (slots3 l (cycV l).length j).length
          simp [slots3, ints_len]; omega
        conv => whnf
        rw [inc64 j (by omega)]
        refine ⟨⟨j + 1, hjl⟩, Sub.go 3 ⟨?_, rfl, rfl, rfl, trivial⟩ ?_ (by simp) rfl rfl, by simp only []; omega⟩
        · show some (SV.ov 1 2 0 ((cycU l j).length + 1)) = _
          simp [cycU_succ, hon]
        · show [OB.arr (some l.length) 1 (ints W), OB.arr (some l.length) 1 (bools C), OB.arr (some (cycV l).length) 1 ((slots3 l (cycV l).length j).take (0 + (cycU l j).length) ++ [int (j : Int)] ++ (slots3 l (cycV l).length j).drop (0 + (cycU l j).length + 1))] = _
          rw [slots3_step hon]
      · have hon : onC l (j : Int) = false := by rw [← hC j hjC]; exact h3
        have e : cycU l (j + 1) = cycU l j := by rw [cycU_succ, hon]; rfl
        conv => whnf
        rw [inc64 j (by omega)]
        refine ⟨⟨j + 1, hjl⟩, Sub.go 3 ⟨?_, rfl, rfl, rfl, trivial⟩ ?_ (by simp) rfl rfl, by simp only []; omega⟩
        · simp only [e]; rfl
        · simp only [slots3, e]; rfl
    · have e : j = l.length := by simp at h2; omega
      subst e
      conv => whnf
      have e2 : slots3 l (cycV l).length l.length = ints (cycV l) := by
        show ints (cycV l) ++ List.replicate ((cycV l).length - (cycV l).length) (int 0) = _
        simp
      rw [← e2]
      exact Out.pick rfl
end Go.Fw
