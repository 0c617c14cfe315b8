/- ReassemblyForms: the walk. -/
import Derived.Test.YteebplkhnhpiiaaRasQ
namespace Go.Fw
open Go.Proofs
set_option maxHeartbeats 8000000
set_option maxRecDepth 4000
theorem k_ReassemblyForms (raw : List Buf) (src dst : Adr) (f : Frg) (now : Int) (t : List Int) (hraw : sizL raw) (hf : f.data.length ≤ 9223372036854775807) :
    Con Try.prog 3 [.fs .no 10 (lst bufV raw), adrV src, adrV dst, frgV f, int now, .fs .no 1 (ints t)] [] (bool true) [] := by
  have ht : (t.take 400).length ≤ 400 := by simp; omega
  generalize hT : t.take 400 = l at ht
  have hN := k_made_New t
  rw [hT] at hN
  have cd9 := k_device 9 (by omega)
  have cd1 := k_device 1 (by omega)
  refine spec_of_run ttok mixed (T0 := 619007835544620030030246847) (ts := [.tmp 12]) 141 rfl rfl rfl rfl (by simp) rfl ?_
  conv => whnf
  repeat' (first | ((first | ((with_reducible apply Nm.mk); focus ((try simp only [lns]); exact rfl)) | (apply CallN.mk (hN)) | (refine CallN.ex (k_reached l _ (by omega) ht) ?_; rintro _ _ ⟨L, wh, k1, rfl, rfl, hL, hw, a1⟩) | (refine CallN.ex (k_Fragments l _ (by omega) ht) ?_; rintro _ _ ⟨G, k2, rfl, rfl, ⟨g1, g2, g3⟩, b1⟩) | ((with_reducible apply Bif.beq) <;> intro h <;> (try simp only [lns] at h) <;> (try (exfalso; omega))) | (with_reducible apply Frz.l)) <;> conv => whnf) | fail)
  repeat' (first | ((first | ((with_reducible apply Nm.mk); focus ((try simp only [lns]); exact rfl)) | ((with_reducible apply Need.mk); focus (simp only [lns]; omega)) | ((with_reducible apply Elem.lst); focus omega) | (refine CallN.ex (k_tape_Next l _ (G.length : Int) (by omega) ht (by omega)) ?_; rintro _ _ ⟨y, k3, rfl, rfl, c1, c2, c3⟩) | (with_reducible apply Alt.l) | (with_reducible apply Frz.l)) <;> conv => whnf) | fail)
  have hok := okF_iff.1 (g3 _ (gt_mem (l := G) (i := y.toNat) (by omega)))
  generalize gt G y.toNat = fr at *
  have a1' := fun k src dst t => k_alike raw src dst f k t hraw hf
  have a2' := fun a t => k_alike L a (dev 9) fr wh t hL.siz (by omega)
  have a3' := fun t => k_alike L src dst fr now t hL.siz (by omega)
  have a5' := fun a n t => k_alike L (dev 1) a f n t hL.siz hf
  have cK := k_known
  by_cases hL0 : L.length = 0
  · have hL0' : L = [] := List.length_eq_zero_iff.1 hL0
    subst hL0'
    have a4' := fun a t => k_alike [] a (dev 9) fr wh t siz_nil (by omega)
    repeat' (first | with_reducible apply True.intro | ((first | ((with_reducible apply Nm.mk); focus ((try simp only [lns, List.nil_append]); exact rfl)) | ((with_reducible apply Need.mk); focus first | omega | exact CleanP.nil rfl | kernel_rfl | (unfold roomOK; simp only [lns, List.nil_append]; omega)) | (apply CallN.mk (cK)) | (apply CallN.mk (cd9)) | (apply CallN.mk (cd1)) | (refine CallN.ex (k_Device l _ (by omega) ht) ?_; rintro _ _ ⟨d, k4, rfl, rfl, e1, e2⟩) | (refine CallN.ex (k_Addr l _ (by omega) ht) ?_; rintro _ _ ⟨ad, k5, rfl, rfl, f1⟩) | (refine CallN.ex (k_Now l _ (by omega) ht) ?_; rintro _ _ ⟨w, k6, rfl, rfl, h1⟩) | (apply CallN.mk (a1' now src dst _)) | (apply CallN.mk (a2' _ _)) | (apply CallN.mk (a3' _)) | (apply CallN.mk (a5' _ _ _)) | (with_reducible apply Bif.T) | ((with_reducible apply Bif.dec) <;> intro h <;> (try simp only [lns, List.nil_append] at h) <;> (try (exfalso; omega))) | (with_reducible apply Same.rfl) | (with_reducible apply GiveN.lend) | (with_reducible apply Frz.l)) <;> conv => whnf) | fail)
  · have hLl := hL.1
    have eN : ((L.length : Int) - 1).toNat = L.length - 1 := by omega
    have hB := hL.2 _ (gt_mem (l := L) (i := L.length - 1) (by omega))
    have cN := k_tape_Next' l k3 4 c3 ht (by omega)
    have hc4 := modV_range (v := l.getD k3.toNat 0) (n := 4) (by omega)
    have hcv : 0 ≤ tapeV l k3 4 ∧ tapeV l k3 4 < 4 := by unfold tapeV; split <;> omega
    have hck : 0 ≤ tapeK l k3 := by unfold tapeK; split <;> omega
    generalize tapeV l k3 4 = c at *
    generalize tapeK l k3 = k4 at *
    have h0 : c = 0 ∨ c = 1 ∨ c = 2 ∨ c = 3 := by omega
    rcases h0 with rfl | rfl | rfl | rfl
    · skip
      repeat' (first | ((with_reducible apply Alt.r); (with_reducible apply Alt.l); (conv => whnf)) | ((with_reducible apply Wr.i64); (focus omega); (conv => whnf)) | ((with_reducible apply Wr.mk); (conv => whnf)) | ((first | ((with_reducible apply Nm.mk); focus ((try simp only [lns, List.nil_append, eN]); exact rfl)) | ((with_reducible apply Need.mk); focus first | omega | (simp only [lns, List.nil_append, eN]; omega) | kernel_rfl | (unfold roomOK; simp only [lns, List.nil_append, eN]; omega)) | ((with_reducible apply Elem.lst); focus omega) | (apply CallN.mk (cN)) | (refine CallN.ex (k_tape_Next l _ 20 (by omega) ht (by omega)) ?_; rintro _ _ ⟨w, k5, rfl, rfl, e1, e2, e3⟩) | ((with_reducible first | apply Bif.dec | apply Bif.beq) <;> intro h <;> (try simp only [lns, List.nil_append, eN] at h) <;> (try (exfalso; omega))) | (with_reducible apply Frz.l)) <;> conv => whnf) | fail)
      have e1 : lst bufV (List.take (L.length - 1) L) ++ [SV.agg [adrV (gt L (L.length - 1)).src, adrV (gt L (L.length - 1)).dst, .v (.int .u16 (gt L (L.length - 1)).tag), .v (.int .i64 (IntKind.wrap .i64 ((gt L (L.length - 1)).size + (w - 10)))), .fs .no 4 (lst frgV (gt L (L.length - 1)).parts), int (gt L (L.length - 1)).upto]] ++ lst bufV (List.drop (L.length - 1 + 1) L) = lst bufV (L.take (L.length - 1) ++ [(⟨(gt L (L.length - 1)).src, (gt L (L.length - 1)).dst, (gt L (L.length - 1)).tag, (IntKind.wrap .i64 ((gt L (L.length - 1)).size + (w - 10))), (gt L (L.length - 1)).parts, (gt L (L.length - 1)).upto⟩ : Buf)] ++ L.drop (L.length - 1 + 1)) := by
        rw [← lst_app (f := bufV), ← lst_app (f := bufV)]; rfl
      have eS : ((L.take (L.length - 1) ++ [(⟨(gt L (L.length - 1)).src, (gt L (L.length - 1)).dst, (gt L (L.length - 1)).tag, (IntKind.wrap .i64 ((gt L (L.length - 1)).size + (w - 10))), (gt L (L.length - 1)).parts, (gt L (L.length - 1)).upto⟩ : Buf)] ++ L.drop (L.length - 1 + 1)).length) = L.length := by simp; omega
      have hS : sizL (L.take (L.length - 1) ++ [(⟨(gt L (L.length - 1)).src, (gt L (L.length - 1)).dst, (gt L (L.length - 1)).tag, (IntKind.wrap .i64 ((gt L (L.length - 1)).size + (w - 10))), (gt L (L.length - 1)).parts, (gt L (L.length - 1)).upto⟩ : Buf)] ++ L.drop (L.length - 1 + 1)) := ⟨by omega, fun x hx => by
        simp only [List.mem_append, List.mem_singleton] at hx
        rcases hx with (hx | hx) | hx
        · exact hL.siz.2 x (List.mem_of_mem_take hx)
        · rw [hx]; exact ⟨by have := hB.1; dsimp only; omega, fun y hy => by have := hB.2 y hy; omega⟩
        · exact hL.siz.2 x (List.mem_of_mem_drop hx)⟩
      rw [e1]
      generalize (L.take (L.length - 1) ++ [(⟨(gt L (L.length - 1)).src, (gt L (L.length - 1)).dst, (gt L (L.length - 1)).tag, (IntKind.wrap .i64 ((gt L (L.length - 1)).size + (w - 10))), (gt L (L.length - 1)).parts, (gt L (L.length - 1)).upto⟩ : Buf)] ++ L.drop (L.length - 1 + 1)) = S at *
      have hS2 : sizL (S ++ [gt L 0]) := ⟨by rw [List.length_append, List.length_singleton]; omega, fun x hx => by
        rcases List.mem_append.1 hx with hx | hx
        · exact hS.2 x hx
        · rw [List.mem_singleton.1 hx]; exact hL.siz.2 _ (gt_mem (by omega))⟩
      have a4' := fun a t => k_alike S a (dev 9) fr wh t hS (by omega)
      have a6' := fun a t => k_alike (S ++ [gt L 0]) a (dev 9) fr wh t hS2 (by omega)
      have eT : List.take (L.length - 1 + 1) S = S := List.take_of_length_le (by omega)
      have eT2 : List.take (L.length + 1) (lst bufV S ++ [SV.agg [adrV (gt L 0).src, adrV (gt L 0).dst, .v (.int .u16 (gt L 0).tag), int (gt L 0).size, .fs .no 4 (lst frgV (gt L 0).parts), int (gt L 0).upto]]) = lst bufV (S ++ [gt L 0]) := by
        rw [List.take_of_length_le (by simp [lst]; omega), ← lst_app]; rfl
      repeat' (first | with_reducible apply True.intro | ((first | ((with_reducible apply Nm.mk); focus ((try simp only [lns, eT, eT2, eS]); exact rfl)) | ((with_reducible apply Need.mk); focus first | (simp only [lns, eT, eT2, eS]; omega) | exact CleanP.nil rfl | kernel_rfl | (unfold roomOK; simp only [lns, eT, eT2, eS]; omega)) | ((with_reducible apply Elem.lst); focus omega) | (refine CallN.ex (k_tape_Bool l _ 3 (by omega) ht (by omega)) ?_; rintro _ _ ⟨bq, kq, rfl, rfl, hq⟩) | (apply CallN.mk (cK)) | (apply CallN.mk (cd9)) | (apply CallN.mk (cd1)) | (refine CallN.ex (k_Device l _ (by omega) ht) ?_; rintro _ _ ⟨d, k6, rfl, rfl, m1, m2⟩) | (refine CallN.ex (k_Addr l _ (by omega) ht) ?_; rintro _ _ ⟨ad, k7, rfl, rfl, m3⟩) | (refine CallN.ex (k_Now l _ (by omega) ht) ?_; rintro _ _ ⟨w2, k8, rfl, rfl, m4⟩) | (apply CallN.mk (a1' now src dst _)) | (apply CallN.mk (a2' _ _)) | (apply CallN.mk (a3' _)) | (apply CallN.mk (a5' _ _ _)) | (apply CallN.mk (a4' _ _)) | (apply CallN.mk (a6' _ _)) | (with_reducible apply Bif.T) | ((with_reducible apply Bif.mk) <;> intro h) | (with_reducible apply Same.rfl) | (with_reducible first | apply Alt.l | apply GiveN.lend) | (with_reducible apply Frz.l)) <;> conv => whnf) | fail)
    · skip
      by_cases hp0 : (gt L (L.length - 1)).parts.length = 0
      · skip
        repeat' (first | ((first | ((with_reducible apply Nm.mk); focus ((try simp only [lns, List.nil_append, eN]); exact rfl)) | ((with_reducible apply Wr.i64); focus omega) | ((with_reducible apply Need.mk); focus first | omega | (unfold roomOK; simp only [lns, List.nil_append, eN]; omega)) | ((with_reducible apply Elem.lst); focus omega) | (apply CallN.mk (cN)) | ((with_reducible first | apply Bif.dec | apply Bif.beq) <;> intro h <;> (try simp only [lns, List.nil_append, eN] at h) <;> (try (exfalso; omega))) | (with_reducible apply Frz.l)) <;> conv => whnf) | fail)
        refine Alt.r (Alt.l ?_)
        conv => whnf
        repeat' (first | ((first | ((with_reducible apply Nm.mk); focus ((try simp only [lns, List.nil_append, eN]); exact rfl)) | ((with_reducible apply Need.mk); focus (simp only [lns, List.nil_append, eN]; omega)) | (with_reducible apply Frz.l)) <;> conv => whnf) | fail)
        refine Alt.l ?_
        conv => whnf
        repeat' (first | ((first | ((with_reducible apply Nm.mk); focus ((try simp only [lns, List.nil_append, eN]); exact rfl)) | ((with_reducible apply Wr.i64); focus omega) | ((with_reducible apply Need.mk); focus first | omega | (simp only [lns, List.nil_append, eN]; omega) | kernel_rfl | (unfold roomOK; simp only [lns, List.nil_append, eN]; omega)) | (with_reducible apply Frz.l)) <;> conv => whnf) | fail)
        rw [show List.take ((gt L (L.length - 1)).parts.length + (0 - (gt L (L.length - 1)).parts.length) + 1) (lst frgV (gt L (L.length - 1)).parts ++ List.drop (gt L (L.length - 1)).parts.length [] ++ [SV.agg [int fr.size, .v (.int .u16 fr.tag), int fr.off, .fs .no 1 (lst b8 fr.data)]]) = lst frgV ((gt L (L.length - 1)).parts ++ [fr]) from by rw [← lst_app]; simp [lst, frgV]; exact List.take_of_length_le (by simp)]
        repeat' (first | ((with_reducible apply Alt.r); (with_reducible apply Alt.l); (conv => whnf)) | ((first | ((with_reducible apply Nm.mk); focus ((try simp only [lns, List.nil_append, eN]); exact rfl)) | ((with_reducible apply Need.mk); focus first | (simp only [lns, List.nil_append, eN]; omega) | kernel_rfl) | (with_reducible apply Frz.l)) <;> conv => whnf) | fail)
        have e1 : lst bufV (List.take (L.length - 1) L) ++ [SV.agg [adrV (gt L (L.length - 1)).src, adrV (gt L (L.length - 1)).dst, .v (.int .u16 (gt L (L.length - 1)).tag), int (gt L (L.length - 1)).size, .fs { cap := Option.map (fun x => x) none, nn := false } 4 (lst frgV ((gt L (L.length - 1)).parts ++ [fr])), int (gt L (L.length - 1)).upto]] ++ lst bufV (List.drop (L.length - 1 + 1) L) = lst bufV (L.take (L.length - 1) ++ [(⟨(gt L (L.length - 1)).src, (gt L (L.length - 1)).dst, (gt L (L.length - 1)).tag, (gt L (L.length - 1)).size, ((gt L (L.length - 1)).parts ++ [fr]), (gt L (L.length - 1)).upto⟩ : Buf)] ++ L.drop (L.length - 1 + 1)) := by
          rw [← lst_app (f := bufV), ← lst_app (f := bufV)]; rfl
        have eS : ((L.take (L.length - 1) ++ [(⟨(gt L (L.length - 1)).src, (gt L (L.length - 1)).dst, (gt L (L.length - 1)).tag, (gt L (L.length - 1)).size, ((gt L (L.length - 1)).parts ++ [fr]), (gt L (L.length - 1)).upto⟩ : Buf)] ++ L.drop (L.length - 1 + 1)).length) = L.length := by simp; omega
        have hS : sizL (L.take (L.length - 1) ++ [(⟨(gt L (L.length - 1)).src, (gt L (L.length - 1)).dst, (gt L (L.length - 1)).tag, (gt L (L.length - 1)).size, ((gt L (L.length - 1)).parts ++ [fr]), (gt L (L.length - 1)).upto⟩ : Buf)] ++ L.drop (L.length - 1 + 1)) := ⟨by omega, fun x hx => by
          simp only [List.mem_append, List.mem_singleton] at hx
          rcases hx with (hx | hx) | hx
          · exact hL.siz.2 x (List.mem_of_mem_take hx)
          · rw [hx]; exact ⟨by have := hB.1; simp; omega, fun y hy => by
            rcases List.mem_append.1 hy with hy | hy
            · have := hB.2 y hy; omega
            · rw [List.mem_singleton.1 hy]; omega⟩
          · exact hL.siz.2 x (List.mem_of_mem_drop hx)⟩
        rw [e1]
        generalize (L.take (L.length - 1) ++ [(⟨(gt L (L.length - 1)).src, (gt L (L.length - 1)).dst, (gt L (L.length - 1)).tag, (gt L (L.length - 1)).size, ((gt L (L.length - 1)).parts ++ [fr]), (gt L (L.length - 1)).upto⟩ : Buf)] ++ L.drop (L.length - 1 + 1)) = S at *
        have hS2 : sizL (S ++ [gt L 0]) := ⟨by rw [List.length_append, List.length_singleton]; omega, fun x hx => by
          rcases List.mem_append.1 hx with hx | hx
          · exact hS.2 x hx
          · rw [List.mem_singleton.1 hx]; exact hL.siz.2 _ (gt_mem (by omega))⟩
        have a4' := fun a t => k_alike S a (dev 9) fr wh t hS (by omega)
        have a6' := fun a t => k_alike (S ++ [gt L 0]) a (dev 9) fr wh t hS2 (by omega)
        have eT : List.take (L.length - 1 + 1) S = S := List.take_of_length_le (by omega)
        have eT2 : List.take (L.length + 1) (lst bufV S ++ [SV.agg [adrV (gt L 0).src, adrV (gt L 0).dst, .v (.int .u16 (gt L 0).tag), int (gt L 0).size, .fs .no 4 (lst frgV (gt L 0).parts), int (gt L 0).upto]]) = lst bufV (S ++ [gt L 0]) := by
          rw [List.take_of_length_le (by simp [lst]; omega), ← lst_app]; rfl
        repeat' (first | with_reducible apply True.intro | ((first | ((with_reducible apply Nm.mk); focus ((try simp only [lns, eT, eT2, eS]); exact rfl)) | ((with_reducible apply Need.mk); focus first | (simp only [lns, eT, eT2, eS]; omega) | exact CleanP.nil rfl | kernel_rfl | (unfold roomOK; simp only [lns, eT, eT2, eS]; omega)) | ((with_reducible apply Elem.lst); focus omega) | (refine CallN.ex (k_tape_Bool l _ 3 (by omega) ht (by omega)) ?_; rintro _ _ ⟨bq, kq, rfl, rfl, hq⟩) | (apply CallN.mk (cK)) | (apply CallN.mk (cd9)) | (apply CallN.mk (cd1)) | (refine CallN.ex (k_Device l _ (by omega) ht) ?_; rintro _ _ ⟨d, k6, rfl, rfl, m1, m2⟩) | (refine CallN.ex (k_Addr l _ (by omega) ht) ?_; rintro _ _ ⟨ad, k7, rfl, rfl, m3⟩) | (refine CallN.ex (k_Now l _ (by omega) ht) ?_; rintro _ _ ⟨w2, k8, rfl, rfl, m4⟩) | (apply CallN.mk (a1' now src dst _)) | (apply CallN.mk (a2' _ _)) | (apply CallN.mk (a3' _)) | (apply CallN.mk (a5' _ _ _)) | (apply CallN.mk (a4' _ _)) | (apply CallN.mk (a6' _ _)) | (with_reducible apply Bif.T) | ((with_reducible apply Bif.mk) <;> intro h) | (with_reducible apply Same.rfl) | (with_reducible first | apply Alt.l | apply GiveN.lend) | (with_reducible apply Frz.l)) <;> conv => whnf) | fail)
      · skip
        repeat' (first | ((first | ((with_reducible apply Nm.mk); focus ((try simp only [lns, List.nil_append, eN]); exact rfl)) | ((with_reducible apply Wr.i64); focus omega) | ((with_reducible apply Need.mk); focus first | omega | (unfold roomOK; simp only [lns, List.nil_append, eN]; omega)) | ((with_reducible apply Elem.lst); focus omega) | (apply CallN.mk (cN)) | ((with_reducible first | apply Bif.dec | apply Bif.beq) <;> intro h <;> (try simp only [lns, List.nil_append, eN] at h) <;> (try (exfalso; omega))) | (with_reducible apply Frz.l)) <;> conv => whnf) | fail)
        refine Alt.r (Alt.r ?_)
        conv => whnf
        repeat' (first | ((first | ((with_reducible apply Nm.mk); focus ((try simp only [lns, List.nil_append, eN]); exact rfl)) | ((with_reducible apply Need.mk); focus first | (simp only [lns, List.nil_append, eN]; omega) | (unfold roomOK; simp only [lns, List.nil_append, eN]; omega)) | (with_reducible apply Frz.l)) <;> conv => whnf) | fail)
        refine Alt.l ?_
        conv => whnf
        repeat' (first | ((first | ((with_reducible apply Nm.mk); focus ((try simp only [lns, List.nil_append, eN]); exact rfl)) | ((with_reducible apply Wr.i64); focus omega) | ((with_reducible apply Need.mk); focus first | omega | (simp only [lns, List.nil_append, eN]; omega) | kernel_rfl | (unfold roomOK; simp only [lns, List.nil_append, eN]; omega)) | (with_reducible apply Frz.l)) <;> conv => whnf) | fail)
        rw [show List.take ((gt L (L.length - 1)).parts.length + 1) (lst frgV (gt L (L.length - 1)).parts ++ [SV.agg [int fr.size, .v (.int .u16 fr.tag), int fr.off, .fs .no 1 (lst b8 fr.data)]]) = lst frgV ((gt L (L.length - 1)).parts ++ [fr]) from by rw [← lst_app]; simp [lst, frgV]; exact List.take_of_length_le (by simp)]
        repeat' (first | ((with_reducible apply Alt.r); (with_reducible apply Alt.l); (conv => whnf)) | ((first | ((with_reducible apply Nm.mk); focus ((try simp only [lns, List.nil_append, eN]); exact rfl)) | ((with_reducible apply Need.mk); focus first | (simp only [lns, List.nil_append, eN]; omega) | kernel_rfl) | (with_reducible apply Frz.l)) <;> conv => whnf) | fail)
        have e1 : lst bufV (List.take (L.length - 1) L) ++ [SV.agg [adrV (gt L (L.length - 1)).src, adrV (gt L (L.length - 1)).dst, .v (.int .u16 (gt L (L.length - 1)).tag), int (gt L (L.length - 1)).size, .fs { cap := Option.map (fun x => x) none, nn := false } 4 (lst frgV ((gt L (L.length - 1)).parts ++ [fr])), int (gt L (L.length - 1)).upto]] ++ lst bufV (List.drop (L.length - 1 + 1) L) = lst bufV (L.take (L.length - 1) ++ [(⟨(gt L (L.length - 1)).src, (gt L (L.length - 1)).dst, (gt L (L.length - 1)).tag, (gt L (L.length - 1)).size, ((gt L (L.length - 1)).parts ++ [fr]), (gt L (L.length - 1)).upto⟩ : Buf)] ++ L.drop (L.length - 1 + 1)) := by
          rw [← lst_app (f := bufV), ← lst_app (f := bufV)]; rfl
        have eS : ((L.take (L.length - 1) ++ [(⟨(gt L (L.length - 1)).src, (gt L (L.length - 1)).dst, (gt L (L.length - 1)).tag, (gt L (L.length - 1)).size, ((gt L (L.length - 1)).parts ++ [fr]), (gt L (L.length - 1)).upto⟩ : Buf)] ++ L.drop (L.length - 1 + 1)).length) = L.length := by simp; omega
        have hS : sizL (L.take (L.length - 1) ++ [(⟨(gt L (L.length - 1)).src, (gt L (L.length - 1)).dst, (gt L (L.length - 1)).tag, (gt L (L.length - 1)).size, ((gt L (L.length - 1)).parts ++ [fr]), (gt L (L.length - 1)).upto⟩ : Buf)] ++ L.drop (L.length - 1 + 1)) := ⟨by omega, fun x hx => by
          simp only [List.mem_append, List.mem_singleton] at hx
          rcases hx with (hx | hx) | hx
          · exact hL.siz.2 x (List.mem_of_mem_take hx)
          · rw [hx]; exact ⟨by have := hB.1; simp; omega, fun y hy => by
            rcases List.mem_append.1 hy with hy | hy
            · have := hB.2 y hy; omega
            · rw [List.mem_singleton.1 hy]; omega⟩
          · exact hL.siz.2 x (List.mem_of_mem_drop hx)⟩
        rw [e1]
        generalize (L.take (L.length - 1) ++ [(⟨(gt L (L.length - 1)).src, (gt L (L.length - 1)).dst, (gt L (L.length - 1)).tag, (gt L (L.length - 1)).size, ((gt L (L.length - 1)).parts ++ [fr]), (gt L (L.length - 1)).upto⟩ : Buf)] ++ L.drop (L.length - 1 + 1)) = S at *
        have hS2 : sizL (S ++ [gt L 0]) := ⟨by rw [List.length_append, List.length_singleton]; omega, fun x hx => by
          rcases List.mem_append.1 hx with hx | hx
          · exact hS.2 x hx
          · rw [List.mem_singleton.1 hx]; exact hL.siz.2 _ (gt_mem (by omega))⟩
        have a4' := fun a t => k_alike S a (dev 9) fr wh t hS (by omega)
        have a6' := fun a t => k_alike (S ++ [gt L 0]) a (dev 9) fr wh t hS2 (by omega)
        have eT : List.take (L.length - 1 + 1) S = S := List.take_of_length_le (by omega)
        have eT2 : List.take (L.length + 1) (lst bufV S ++ [SV.agg [adrV (gt L 0).src, adrV (gt L 0).dst, .v (.int .u16 (gt L 0).tag), int (gt L 0).size, .fs .no 4 (lst frgV (gt L 0).parts), int (gt L 0).upto]]) = lst bufV (S ++ [gt L 0]) := by
          rw [List.take_of_length_le (by simp [lst]; omega), ← lst_app]; rfl
        repeat' (first | with_reducible apply True.intro | ((first | ((with_reducible apply Nm.mk); focus ((try simp only [lns, eT, eT2, eS]); exact rfl)) | ((with_reducible apply Need.mk); focus first | (simp only [lns, eT, eT2, eS]; omega) | exact CleanP.nil rfl | kernel_rfl | (unfold roomOK; simp only [lns, eT, eT2, eS]; omega)) | ((with_reducible apply Elem.lst); focus omega) | (refine CallN.ex (k_tape_Bool l _ 3 (by omega) ht (by omega)) ?_; rintro _ _ ⟨bq, kq, rfl, rfl, hq⟩) | (apply CallN.mk (cK)) | (apply CallN.mk (cd9)) | (apply CallN.mk (cd1)) | (refine CallN.ex (k_Device l _ (by omega) ht) ?_; rintro _ _ ⟨d, k6, rfl, rfl, m1, m2⟩) | (refine CallN.ex (k_Addr l _ (by omega) ht) ?_; rintro _ _ ⟨ad, k7, rfl, rfl, m3⟩) | (refine CallN.ex (k_Now l _ (by omega) ht) ?_; rintro _ _ ⟨w2, k8, rfl, rfl, m4⟩) | (apply CallN.mk (a1' now src dst _)) | (apply CallN.mk (a2' _ _)) | (apply CallN.mk (a3' _)) | (apply CallN.mk (a5' _ _ _)) | (apply CallN.mk (a4' _ _)) | (apply CallN.mk (a6' _ _)) | (with_reducible apply Bif.T) | ((with_reducible apply Bif.mk) <;> intro h) | (with_reducible apply Same.rfl) | (with_reducible first | apply Alt.l | apply GiveN.lend) | (with_reducible apply Frz.l)) <;> conv => whnf) | fail)
    · skip
      repeat' (first | ((with_reducible apply Alt.r); (with_reducible apply Alt.l); (conv => whnf)) | ((first | ((with_reducible apply Nm.mk); focus ((try simp only [lns, List.nil_append, eN]); exact rfl)) | ((with_reducible apply Wr.i64); focus omega) | ((with_reducible apply Need.mk); focus first | omega | (simp only [lns, List.nil_append, eN]; omega) | kernel_rfl | (unfold roomOK; simp only [lns, List.nil_append, eN]; omega)) | ((with_reducible apply Elem.lst); focus omega) | (apply CallN.mk (cN)) | (refine CallN.ex (k_Now l _ (by omega) ht) ?_; rintro _ _ ⟨w, k5, rfl, rfl, e1⟩) | ((with_reducible first | apply Bif.dec | apply Bif.beq) <;> intro h <;> (try simp only [lns, List.nil_append, eN] at h) <;> (try (exfalso; omega))) | (with_reducible apply Frz.l)) <;> conv => whnf) | fail)
      have e1 : lst bufV (List.take (L.length - 1) L) ++ [SV.agg [adrV (gt L (L.length - 1)).src, adrV (gt L (L.length - 1)).dst, .v (.int .u16 (gt L (L.length - 1)).tag), int (gt L (L.length - 1)).size, .fs .no 4 (lst frgV (gt L (L.length - 1)).parts), int w]] ++ lst bufV (List.drop (L.length - 1 + 1) L) = lst bufV (L.take (L.length - 1) ++ [(⟨(gt L (L.length - 1)).src, (gt L (L.length - 1)).dst, (gt L (L.length - 1)).tag, (gt L (L.length - 1)).size, (gt L (L.length - 1)).parts, w⟩ : Buf)] ++ L.drop (L.length - 1 + 1)) := by
        rw [← lst_app (f := bufV), ← lst_app (f := bufV)]; rfl
      have eS : ((L.take (L.length - 1) ++ [(⟨(gt L (L.length - 1)).src, (gt L (L.length - 1)).dst, (gt L (L.length - 1)).tag, (gt L (L.length - 1)).size, (gt L (L.length - 1)).parts, w⟩ : Buf)] ++ L.drop (L.length - 1 + 1)).length) = L.length := by simp; omega
      have hS : sizL (L.take (L.length - 1) ++ [(⟨(gt L (L.length - 1)).src, (gt L (L.length - 1)).dst, (gt L (L.length - 1)).tag, (gt L (L.length - 1)).size, (gt L (L.length - 1)).parts, w⟩ : Buf)] ++ L.drop (L.length - 1 + 1)) := ⟨by omega, fun x hx => by
        simp only [List.mem_append, List.mem_singleton] at hx
        rcases hx with (hx | hx) | hx
        · exact hL.siz.2 x (List.mem_of_mem_take hx)
        · rw [hx]; exact ⟨by have := hB.1; dsimp only; omega, fun y hy => by have := hB.2 y hy; omega⟩
        · exact hL.siz.2 x (List.mem_of_mem_drop hx)⟩
      rw [e1]
      generalize (L.take (L.length - 1) ++ [(⟨(gt L (L.length - 1)).src, (gt L (L.length - 1)).dst, (gt L (L.length - 1)).tag, (gt L (L.length - 1)).size, (gt L (L.length - 1)).parts, w⟩ : Buf)] ++ L.drop (L.length - 1 + 1)) = S at *
      have hS2 : sizL (S ++ [gt L 0]) := ⟨by rw [List.length_append, List.length_singleton]; omega, fun x hx => by
        rcases List.mem_append.1 hx with hx | hx
        · exact hS.2 x hx
        · rw [List.mem_singleton.1 hx]; exact hL.siz.2 _ (gt_mem (by omega))⟩
      have a4' := fun a t => k_alike S a (dev 9) fr wh t hS (by omega)
      have a6' := fun a t => k_alike (S ++ [gt L 0]) a (dev 9) fr wh t hS2 (by omega)
      have eT : List.take (L.length - 1 + 1) S = S := List.take_of_length_le (by omega)
      have eT2 : List.take (L.length + 1) (lst bufV S ++ [SV.agg [adrV (gt L 0).src, adrV (gt L 0).dst, .v (.int .u16 (gt L 0).tag), int (gt L 0).size, .fs .no 4 (lst frgV (gt L 0).parts), int (gt L 0).upto]]) = lst bufV (S ++ [gt L 0]) := by
        rw [List.take_of_length_le (by simp [lst]; omega), ← lst_app]; rfl
      repeat' (first | with_reducible apply True.intro | ((first | ((with_reducible apply Nm.mk); focus ((try simp only [lns, eT, eT2, eS]); exact rfl)) | ((with_reducible apply Need.mk); focus first | (simp only [lns, eT, eT2, eS]; omega) | exact CleanP.nil rfl | kernel_rfl | (unfold roomOK; simp only [lns, eT, eT2, eS]; omega)) | ((with_reducible apply Elem.lst); focus omega) | (refine CallN.ex (k_tape_Bool l _ 3 (by omega) ht (by omega)) ?_; rintro _ _ ⟨bq, kq, rfl, rfl, hq⟩) | (apply CallN.mk (cK)) | (apply CallN.mk (cd9)) | (apply CallN.mk (cd1)) | (refine CallN.ex (k_Device l _ (by omega) ht) ?_; rintro _ _ ⟨d, k6, rfl, rfl, m1, m2⟩) | (refine CallN.ex (k_Addr l _ (by omega) ht) ?_; rintro _ _ ⟨ad, k7, rfl, rfl, m3⟩) | (refine CallN.ex (k_Now l _ (by omega) ht) ?_; rintro _ _ ⟨w2, k8, rfl, rfl, m4⟩) | (apply CallN.mk (a1' now src dst _)) | (apply CallN.mk (a2' _ _)) | (apply CallN.mk (a3' _)) | (apply CallN.mk (a5' _ _ _)) | (apply CallN.mk (a4' _ _)) | (apply CallN.mk (a6' _ _)) | (with_reducible apply Bif.T) | ((with_reducible apply Bif.mk) <;> intro h) | (with_reducible apply Same.rfl) | (with_reducible first | apply Alt.l | apply GiveN.lend) | (with_reducible apply Frz.l)) <;> conv => whnf) | fail)
    · skip
      repeat' (first | ((with_reducible apply Alt.r); (with_reducible apply Alt.l); (conv => whnf)) | ((first | ((with_reducible apply Nm.mk); focus ((try simp only [lns, List.nil_append, eN]); exact rfl)) | ((with_reducible apply Wr.i64); focus omega) | ((with_reducible apply Need.mk); focus first | omega | (simp only [lns, List.nil_append, eN]; omega) | kernel_rfl | (unfold roomOK; simp only [lns, List.nil_append, eN]; omega)) | ((with_reducible apply Elem.lst); focus omega) | (apply CallN.mk (cN)) | (refine CallN.ex (k_Addr l _ (by omega) ht) ?_; rintro _ _ ⟨w, k5, rfl, rfl, e1⟩) | ((with_reducible first | apply Bif.dec | apply Bif.beq) <;> intro h <;> (try simp only [lns, List.nil_append, eN] at h) <;> (try (exfalso; omega))) | (with_reducible apply Frz.l)) <;> conv => whnf) | fail)
      have e1 : lst bufV (List.take (L.length - 1) L) ++ [SV.agg [adrV w, adrV (gt L (L.length - 1)).dst, .v (.int .u16 (gt L (L.length - 1)).tag), int (gt L (L.length - 1)).size, .fs .no 4 (lst frgV (gt L (L.length - 1)).parts), int (gt L (L.length - 1)).upto]] ++ lst bufV (List.drop (L.length - 1 + 1) L) = lst bufV (L.take (L.length - 1) ++ [(⟨w, (gt L (L.length - 1)).dst, (gt L (L.length - 1)).tag, (gt L (L.length - 1)).size, (gt L (L.length - 1)).parts, (gt L (L.length - 1)).upto⟩ : Buf)] ++ L.drop (L.length - 1 + 1)) := by
        rw [← lst_app (f := bufV), ← lst_app (f := bufV)]; rfl
      have eS : ((L.take (L.length - 1) ++ [(⟨w, (gt L (L.length - 1)).dst, (gt L (L.length - 1)).tag, (gt L (L.length - 1)).size, (gt L (L.length - 1)).parts, (gt L (L.length - 1)).upto⟩ : Buf)] ++ L.drop (L.length - 1 + 1)).length) = L.length := by simp; omega
      have hS : sizL (L.take (L.length - 1) ++ [(⟨w, (gt L (L.length - 1)).dst, (gt L (L.length - 1)).tag, (gt L (L.length - 1)).size, (gt L (L.length - 1)).parts, (gt L (L.length - 1)).upto⟩ : Buf)] ++ L.drop (L.length - 1 + 1)) := ⟨by omega, fun x hx => by
        simp only [List.mem_append, List.mem_singleton] at hx
        rcases hx with (hx | hx) | hx
        · exact hL.siz.2 x (List.mem_of_mem_take hx)
        · rw [hx]; exact ⟨by have := hB.1; dsimp only; omega, fun y hy => by have := hB.2 y hy; omega⟩
        · exact hL.siz.2 x (List.mem_of_mem_drop hx)⟩
      rw [e1]
      generalize (L.take (L.length - 1) ++ [(⟨w, (gt L (L.length - 1)).dst, (gt L (L.length - 1)).tag, (gt L (L.length - 1)).size, (gt L (L.length - 1)).parts, (gt L (L.length - 1)).upto⟩ : Buf)] ++ L.drop (L.length - 1 + 1)) = S at *
      have hS2 : sizL (S ++ [gt L 0]) := ⟨by rw [List.length_append, List.length_singleton]; omega, fun x hx => by
        rcases List.mem_append.1 hx with hx | hx
        · exact hS.2 x hx
        · rw [List.mem_singleton.1 hx]; exact hL.siz.2 _ (gt_mem (by omega))⟩
      have a4' := fun a t => k_alike S a (dev 9) fr wh t hS (by omega)
      have a6' := fun a t => k_alike (S ++ [gt L 0]) a (dev 9) fr wh t hS2 (by omega)
      have eT : List.take (L.length - 1 + 1) S = S := List.take_of_length_le (by omega)
      have eT2 : List.take (L.length + 1) (lst bufV S ++ [SV.agg [adrV (gt L 0).src, adrV (gt L 0).dst, .v (.int .u16 (gt L 0).tag), int (gt L 0).size, .fs .no 4 (lst frgV (gt L 0).parts), int (gt L 0).upto]]) = lst bufV (S ++ [gt L 0]) := by
        rw [List.take_of_length_le (by simp [lst]; omega), ← lst_app]; rfl
      repeat' (first | with_reducible apply True.intro | ((first | ((with_reducible apply Nm.mk); focus ((try simp only [lns, eT, eT2, eS]); exact rfl)) | ((with_reducible apply Need.mk); focus first | (simp only [lns, eT, eT2, eS]; omega) | exact CleanP.nil rfl | kernel_rfl | (unfold roomOK; simp only [lns, eT, eT2, eS]; omega)) | ((with_reducible apply Elem.lst); focus omega) | (refine CallN.ex (k_tape_Bool l _ 3 (by omega) ht (by omega)) ?_; rintro _ _ ⟨bq, kq, rfl, rfl, hq⟩) | (apply CallN.mk (cK)) | (apply CallN.mk (cd9)) | (apply CallN.mk (cd1)) | (refine CallN.ex (k_Device l _ (by omega) ht) ?_; rintro _ _ ⟨d, k6, rfl, rfl, m1, m2⟩) | (refine CallN.ex (k_Addr l _ (by omega) ht) ?_; rintro _ _ ⟨ad, k7, rfl, rfl, m3⟩) | (refine CallN.ex (k_Now l _ (by omega) ht) ?_; rintro _ _ ⟨w2, k8, rfl, rfl, m4⟩) | (apply CallN.mk (a1' now src dst _)) | (apply CallN.mk (a2' _ _)) | (apply CallN.mk (a3' _)) | (apply CallN.mk (a5' _ _ _)) | (apply CallN.mk (a4' _ _)) | (apply CallN.mk (a6' _ _)) | (with_reducible apply Bif.T) | ((with_reducible apply Bif.mk) <;> intro h) | (with_reducible apply Same.rfl) | (with_reducible first | apply Alt.l | apply GiveN.lend) | (with_reducible apply Frz.l)) <;> conv => whnf) | fail)
end Go.Fw
