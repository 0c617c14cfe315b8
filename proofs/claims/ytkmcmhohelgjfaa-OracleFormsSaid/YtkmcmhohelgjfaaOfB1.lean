/- OracleForms: a topology of 1 rows with one change. -/
import Derived.Test.YtkmcmhohelgjfaaOfB
namespace Go.Fw
set_option maxRecDepth 4000
open Go.Proofs
set_option maxHeartbeats 8000000
theorem k_spo1 (l : List Int) (k : Int) (hk : 0 ≤ k) (hl : l.length ≤ 400) (a0 : Tg × List Int) (h0 : a0.2.length = 1) :
    ∃ r hp', Spo l r hp' ∧ Con Try.prog 23 [.pb 0 [], .ov 1 1 0 1] [.cells (tape l k), .arr none 1 (mat [a0])] r hp' := by
  refine spec_of_runR ttok mixed (T0 := 576743327395749811) (ts := [.tmp 4]) 71 rfl rfl rfl rfl (by simp) rfl ?_
  conv => whnf
  repeat' (first | ((with_reducible apply Frz.l) <;> conv => whnf) | fail)
  refine LoopN.unr 2 ttok mixed (T0 := 576743327395749811) ?_
  conv => whnf
  repeat' (first | ((with_reducible apply OwnN.r); (conv => whnf)) | ((apply Elem.mk _ rfl); (conv => whnf)) | ((first | ((with_reducible apply Nm.mk); focus ((try simp only [lns, mat_len]); exact rfl)) | ((with_reducible apply Wr.i64); focus omega) | ((with_reducible apply Need.mk); focus first | omega | (unfold roomOK; simp only [lns, mat_len]; omega)) | (apply CallN.mk (k_Clone a0.2 a0.1 (by omega) (by omega))) | ((with_reducible apply Bif.dec) <;> intro h <;> (try simp only [lns, mat_len] at h) <;> (try (exfalso; omega))) | (with_reducible apply Frz.l)) <;> conv => whnf) | fail)
  refine CallN.ex (k_tape_Next l k 1 hk hl (by omega)) ?_
  rintro _ _ ⟨i, k1, rfl, rfl, i1, i2, hk1⟩
  obtain rfl : i = 0 := by omega
  · conv => whnf
    repeat' (first | ((apply Elem.mk _ rfl); (conv => whnf)) | ((first | (with_reducible first | apply Nm.set _ (int_mk _) | apply Nm.snoc _ (int_mk _)) | ((with_reducible apply Nm.mk); focus ((try simp only [lns, mat_len]); exact rfl)) | ((with_reducible apply Need.mk); focus first | omega | (simp only [lns, mat_len]; omega) | kernel_rfl | (unfold roomOK; simp only [lns, mat_len]; omega)) | ((with_reducible apply Elem.lst); focus omega) | (refine CallN.ex (k_tape_Next l k1 5 hk1 hl (by omega)) ?_; rintro _ _ ⟨s, k2, rfl, rfl, s1, s2, hk2⟩) | (refine CallN.ex (k_tape_Next l k2 1 hk2 hl (by omega)) ?_; rintro _ _ ⟨j, k3, rfl, rfl, j1, j2, hk3⟩) | ((with_reducible apply Bif.beq) <;> intro h <;> (try simp only [lns, mat_len] at h)) | (with_reducible apply Alt.l) | (with_reducible apply Frz.l)) <;> conv => whnf) | fail)
    · (refine ⟨_, _, ⟨[a0.2 ++ [5]], 0, k2, rfl, rfl, by omega, by simp, by simp⟩, ?_⟩; conv => whnf); repeat' (first | with_reducible apply True.intro | ((with_reducible apply Same.mk); (focus (simp; done)); (conv => whnf)) | ((first | (with_reducible apply Cut.l) | (with_reducible apply Frz.l)) <;> conv => whnf) | fail)
    · (refine ⟨_, _, ⟨[a0.2.set 0 1], 0, k2, rfl, rfl, by omega, by simp, by simp⟩, ?_⟩; conv => whnf); repeat' (first | with_reducible apply True.intro | ((with_reducible apply Same.mk); (focus (simp; done)); (conv => whnf)) | ((first | (with_reducible apply Cut.l) | (with_reducible apply Frz.l)) <;> conv => whnf) | fail)
    · (refine ⟨_, _, ⟨[a0.2.set j.toNat (-1)], 0, k3, rfl, rfl, by omega, by simp, by simp⟩, ?_⟩; conv => whnf); repeat' (first | with_reducible apply True.intro | ((with_reducible apply Same.mk); (focus (simp; done)); (conv => whnf)) | ((first | (with_reducible apply Cut.l) | (with_reducible apply Frz.l)) <;> conv => whnf) | fail)
    · (refine ⟨_, _, ⟨[a0.2.set j.toNat 65536], 0, k3, rfl, rfl, by omega, by simp, by simp⟩, ?_⟩; conv => whnf); repeat' (first | with_reducible apply True.intro | ((with_reducible apply Same.mk); (focus (simp; done)); (conv => whnf)) | ((first | (with_reducible apply Cut.l) | (with_reducible apply Frz.l)) <;> conv => whnf) | fail)
    · (refine ⟨_, _, ⟨[a0.2], 1, k2, rfl, rfl, by omega, by simp, by simp⟩, ?_⟩; conv => whnf); repeat' (first | with_reducible apply True.intro | ((with_reducible apply Same.mk); (focus (simp; done)); (conv => whnf)) | ((first | (with_reducible apply Cut.l) | (with_reducible apply Frz.l)) <;> conv => whnf) | fail)
end Go.Fw
