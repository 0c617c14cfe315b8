/- ReassemblyPlays: the walk. -/
import Derived.Test.YteebplkhnhpiiaaRasS
namespace Go.Fw
open Go.Proofs
set_option maxHeartbeats 8000000
set_option maxRecDepth 4000
abbrev frsV (F : List Frg) : SV := .fs .no 4 (lst frgV F)
structure PlyI where
  i : Nat
  n : Int
  a : Int
  L : List Buf
  hi : i ≤ 30
  hn : 0 ≤ n ∧ n ≤ 4 * i
  ha : 0 ≤ a
  hL : sizL L
theorem k_ReassemblyPlays (t : List Int) : Con Try.prog 4 [.fs .no 1 (ints t)] [] (bool true) [] := by
  have ht : (t.take 400).length ≤ 400 := by simp; omega
  generalize hT : t.take 400 = l at ht
  have hN := k_made_New t
  rw [hT] at hN
  have cd := k_device 9 (by omega)
  refine spec_of_run ttok mixed (T0 := 198070406285660914490177355773) (ts := [.tmp 2]) 104 rfl rfl rfl rfl (by simp) rfl ?_
  conv => whnf
  repeat' (first | ((first | (apply CallN.mk (hN)) | (refine CallN.ex (k_Fragments l _ (by omega) ht) ?_; rintro _ _ ⟨F, k1, rfl, rfl, ⟨a1, a2, a3⟩, a4⟩) | (with_reducible apply Frz.l)) <;> conv => whnf) | fail)
  rename_i F1 k1' _ _ _ _ F2 k2' _ _ _ _
  have hF : ∀ G ∈ [F1, F2, F], 1 ≤ G.length ∧ G.length ≤ 60 ∧ ∀ f ∈ G, okF f = true := fun G hG => by
    simp only [List.mem_cons, List.not_mem_nil, or_false] at hG
    rcases hG with rfl | rfl | rfl
    · exact ⟨by assumption, by assumption, by assumption⟩
    · exact ⟨by assumption, by assumption, by assumption⟩
    · exact ⟨by assumption, by assumption, by assumption⟩
  generalize hFs : [F1, F2, F] = Fs at *
  have hFl : Fs.length = 3 := by rw [← hFs]; rfl
  refine LoopN.nilS 4 10 rfl ?_
  refine loop_keep ttok mixed (T0 := 198070406285660914490177355773) [] (ι := PlyI)
    (fun p => [(3, .pb 0 []), (4, .fs .no 10 (lst bufV p.L)), (5, int p.n), (6, .ov 1 1 0 3), (7, int (p.i : Int))]) (fun p => [.cells (tape l p.a), .arr (some 3) 1 (lst frsV Fs)]) (fun p => 30 - p.i) ⟨0, 0, k1, [], by omega, by omega, a4, siz_nil⟩ ?_
  conv => whnf
  repeat' (first | ((apply Same.mk (by rw [← hFs]; rfl)); (conv => whnf)) | ((apply Same.mk rfl); (conv => whnf)) | ((with_reducible apply Frz.l) <;> conv => whnf) | fail)
  rintro ⟨i, n, a, L, hi, hn, ha, hL⟩
  dsimp only
  conv => whnf
  by_cases hi30 : i < 30
  · repeat' (first | ((first | ((with_reducible apply Nm.mk); focus ((try simp only [lns]); exact rfl)) | ((with_reducible apply Need.mk); focus omega) | ((with_reducible apply Elem.lst); focus omega) | (refine CallN.ex (k_tape_Next l _ 3 (by omega) ht (by omega)) ?_; rintro _ _ ⟨x, k2, rfl, rfl, b1, b2, b3⟩) | ((with_reducible first | apply Bif.dec | apply Bif.beq) <;> intro h <;> (try simp only [lns] at h) <;> (try (exfalso; omega))) | (with_reducible apply Frz.l)) <;> conv => whnf) | fail)
    all_goals have hG := hF (gt Fs x.toNat) (gt_mem (by omega))
    case' h => exact absurd hG.1 (by omega)
    obtain ⟨g1, g2, g3⟩ := hG
    generalize gt Fs x.toNat = G at *
    repeat' (first | ((first | ((with_reducible apply Nm.mk); focus ((try simp only [lns]); exact rfl)) | ((with_reducible apply Need.mk); focus (simp only [lns]; omega)) | ((with_reducible apply Elem.lst); focus omega) | (refine CallN.ex (k_tape_Next l _ (G.length : Int) (by omega) ht (by omega)) ?_; rintro _ _ ⟨y, k3, rfl, rfl, c1, c2, c3⟩) | (with_reducible apply Frz.l)) <;> conv => whnf) | fail)
    have hok := okF_iff.1 (g3 _ (gt_mem (l := G) (i := y.toNat) (by omega)))
    generalize gt G y.toNat = f at *
    repeat' (first | ((with_reducible apply Wr.any8); (conv => whnf)) | ((first | (with_reducible apply Nm.set _ (b8_wrap _)) | ((with_reducible apply Nm.mk); focus ((try simp only [lns, List.nil_append]); exact rfl)) | ((with_reducible apply Need.mk); focus first | omega | (unfold roomOK; simp only [lns, List.nil_append]; omega)) | ((with_reducible apply Elem.lst); focus omega) | (refine CallN.ex (k_tape_Bool l _ 8 (by omega) ht (by omega)) ?_; rintro _ _ ⟨bb, k4, rfl, rfl, d3⟩) | (refine CallN.ex (k_tape_Next l _ 2 (by omega) ht (by omega)) ?_; rintro _ _ ⟨z, k5, rfl, rfl, e1, e2, e3⟩) | ((with_reducible apply Bif.mk) <;> intro h) | (with_reducible apply Alt.l) | (with_reducible apply Frz.l)) <;> conv => whnf) | fail)
    · have hD : (f.data.set 0 (UInt8.ofNat (IntKind.wrap .u8 (((gt f.data 0).toNat : Int) + 1)).toNat)).length = f.data.length := List.length_set
      generalize f.data.set 0 (UInt8.ofNat (IntKind.wrap .u8 (((gt f.data 0).toNat : Int) + 1)).toNat) = D at *
      have hD2 : List.take f.data.length D = D := List.take_of_length_le (by omega)
      have cz := k_device z (by omega)
      have c1 := k_xAdd L .no hL (dev z) (dev 9) ⟨f.size, f.tag, f.off, D⟩ (by dsimp only; omega) n
      have c2 := k_rAdd L .no hL (dev z) (dev 9) ⟨f.size, f.tag, f.off, D⟩ (by dsimp only; omega) n
      have hsz := addM_siz hL (dev z) (dev 9) ⟨f.size, f.tag, f.off, D⟩ (by dsimp only; omega) n
      have hln := addM_len L (dev z) (dev 9) ⟨f.size, f.tag, f.off, D⟩ n
      have cB := fun t1 t2 => k_bufSame (addM L (dev z) (dev 9) ⟨f.size, f.tag, f.off, D⟩ n).1 (addM L (dev z) (dev 9) ⟨f.size, f.tag, f.off, D⟩ n).1 t1 t2 hsz
      have cO := fun t1 t2 => k_octSame (addM L (dev z) (dev 9) ⟨f.size, f.tag, f.off, D⟩ n).2.1 (addM L (dev z) (dev 9) ⟨f.size, f.tag, f.off, D⟩ n).2.1 t1 t2 (by omega)
      rw [decide_eq_true rfl] at cB cO
      generalize addM L (dev z) (dev 9) ⟨f.size, f.tag, f.off, D⟩ n = R at *
      repeat' (first | ((apply CallN.mk (cz)) <;> conv => whnf) | fail)
      refine Frz.mk 3 ?_
      conv => whnf
      repeat' (first | ((first | ((with_reducible apply Nm.mk); focus ((try simp only [lns, hD2, hD]); exact rfl)) | ((with_reducible apply Wr.i64); focus omega) | ((with_reducible apply Need.mk); focus first | (simp only [lns, hD2, hD]; omega) | kernel_rfl) | (apply CallN.mk (cd)) | (apply CallN.mk (c1)) | (apply CallN.mk (c2)) | (apply CallN.mk (cB _ _)) | (apply CallN.mk (cO _ _)) | (refine CallN.ex (k_tape_Next l _ 4 (by omega) ht (by omega)) ?_; rintro _ _ ⟨w, k6, rfl, rfl, f1, f2, f3⟩) | (with_reducible first | apply Bif.T | apply Bif.F) | ((with_reducible first | apply Bif.beq | apply Bif.bne) <;> intro h <;> (try simp only [lns, hD2, hD] at h) <;> (try (exfalso; omega))) | (with_reducible apply Bif.not) | (with_reducible apply Frz.l)) <;> conv => whnf) | fail)
      · (refine ⟨⟨i + 1, n + w, k6, R.1, by omega, by omega, f3, hsz⟩, ?_⟩; (try dsimp only); conv => whnf); repeat' (first | with_reducible apply True.intro | ((apply Same.mk rfl); (conv => whnf)) | ((first | ((with_reducible apply Need.mk); focus omega) | (with_reducible apply Turn.l) | (with_reducible apply Frz.l)) <;> conv => whnf) | fail)
      · (refine ⟨⟨i + 1, n + w, k6, L, by omega, by omega, f3, hL⟩, ?_⟩; (try dsimp only); conv => whnf); repeat' (first | with_reducible apply True.intro | ((apply Same.mk rfl); (conv => whnf)) | ((first | ((with_reducible apply Need.mk); focus omega) | (with_reducible apply Turn.l) | (with_reducible apply Frz.l)) <;> conv => whnf) | fail)
    · skip
      have cz := k_device z (by omega)
      have c1 := k_xAdd L .no hL (dev z) (dev 9) f (by omega) n
      have c2 := k_rAdd L .no hL (dev z) (dev 9) f (by omega) n
      have hsz := addM_siz hL (dev z) (dev 9) f (by omega) n
      have hln := addM_len L (dev z) (dev 9) f n
      have cB := fun t1 t2 => k_bufSame (addM L (dev z) (dev 9) f n).1 (addM L (dev z) (dev 9) f n).1 t1 t2 hsz
      have cO := fun t1 t2 => k_octSame (addM L (dev z) (dev 9) f n).2.1 (addM L (dev z) (dev 9) f n).2.1 t1 t2 (by omega)
      rw [decide_eq_true rfl] at cB cO
      generalize addM L (dev z) (dev 9) f n = R at *
      repeat' (first | ((first | ((with_reducible apply Wr.i64); focus omega) | ((with_reducible apply Need.mk); focus kernel_rfl) | (apply CallN.mk (cz)) | (apply CallN.mk (cd)) | (apply CallN.mk (c1)) | (apply CallN.mk (c2)) | (apply CallN.mk (cB _ _)) | (apply CallN.mk (cO _ _)) | (refine CallN.ex (k_tape_Next l _ 4 (by omega) ht (by omega)) ?_; rintro _ _ ⟨w, k6, rfl, rfl, f1, f2, f3⟩) | (with_reducible first | apply Bif.T | apply Bif.F) | ((with_reducible first | apply Bif.beq | apply Bif.bne) <;> intro h <;> (try simp only [lns] at h) <;> (try (exfalso; omega))) | (with_reducible apply Bif.not) | (with_reducible apply Frz.l)) <;> conv => whnf) | fail)
      · (refine ⟨⟨i + 1, n + w, k6, R.1, by omega, by omega, f3, hsz⟩, ?_⟩; (try dsimp only); conv => whnf); repeat' (first | with_reducible apply True.intro | ((apply Same.mk rfl); (conv => whnf)) | ((first | ((with_reducible apply Need.mk); focus omega) | (with_reducible apply Turn.l) | (with_reducible apply Frz.l)) <;> conv => whnf) | fail)
      · (refine ⟨⟨i + 1, n + w, k6, L, by omega, by omega, f3, hL⟩, ?_⟩; (try dsimp only); conv => whnf); repeat' (first | with_reducible apply True.intro | ((apply Same.mk rfl); (conv => whnf)) | ((first | ((with_reducible apply Need.mk); focus omega) | (with_reducible apply Turn.l) | (with_reducible apply Frz.l)) <;> conv => whnf) | fail)
  · repeat' (first | with_reducible apply True.intro | ((first | (apply CallN.mk (k_known)) | ((with_reducible apply Bif.dec) <;> intro h <;> (try simp only [lns] at h) <;> (try (exfalso; omega))) | (with_reducible apply Same.rfl) | (with_reducible apply Frz.l)) <;> conv => whnf) | fail)
end Go.Fw
