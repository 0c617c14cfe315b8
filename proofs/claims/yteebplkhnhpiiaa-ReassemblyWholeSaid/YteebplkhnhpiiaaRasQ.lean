/- ReassemblyFull: a full list of buffers. -/
import Derived.Test.YteebplkhnhpiiaaRasLa
namespace Go.Fw
open Go.Proofs
set_option maxHeartbeats 8000000
set_option maxRecDepth 4000
def zzB : List UInt8 := List.replicate 20 0
abbrev zC : List Frg := cutB zzB 1
def fullL : Nat → List Buf
  | 0 => []
  | i + 1 => (addM (fullL i) (dev i) (dev 9) (gt zC 0) 0).1
def full1 (n : Nat) : List Buf × List UInt8 × Int := addM (fullL 4) (dev n) (dev 9) (gt zC 1) 1
def full2 (n : Nat) : List Buf × List UInt8 × Int := addM (full1 n).1 (dev n) (dev 9) (gt zC 2) 1
def full3 (n : Nat) : List Buf × List UInt8 × Int := addM (full2 n).1 (dev 50) (dev 9) (gt zC 0) 1
theorem zC_len : zC.length = 3 := by decide +kernel
theorem full_ok : ∀ i < 4, (addM (fullL i) (dev (i : Nat)) (dev 9) (gt zC 0) 0).2.2 = 0 := by decide +kernel
theorem full_err : (addM (fullL 4) (dev 50) (dev 9) (gt zC 0) 1).2.2 = 10 := by decide +kernel
theorem full_1 : ∀ n < 4, (full1 n).2.2 = 0 := by decide +kernel
theorem full_2 : ∀ n < 4, (full2 n).2.2 = 0 ∧ (full2 n).2.1.length = 20 ∧ (full2 n).1.length = 3 := by decide +kernel
theorem full_3 : ∀ n < 4, (full3 n).2.2 = 0 ∧ (full3 n).1.length = 4 := by decide +kernel
theorem zC_data : ∀ f ∈ zC, f.data.length ≤ 2047 := by decide +kernel
theorem full_siz : ∀ i, sizL (fullL i)
  | 0 => siz_nil
  | i + 1 => addM_siz (full_siz i) _ _ _ (by have := zC_data _ (gt_mem (l := zC) (i := 0) (by rw [zC_len]; omega)); omega) _
theorem k_cutZ : Con Try.prog 26 [.ov 1 0 0 20, .v (.int .u16 1)] [.arr (some 20) 1 (reps 20 (.v (.int .u8 0)))] (.fs .no 4 (lst frgV zC)) [] :=
  k_cutO zzB 1 (some 20) (by decide)
structure FulI where
  i : Nat
  hi : i ≤ 4
theorem k_ReassemblyFull (n : Int) : Con Try.prog 8 [int n] [] (bool true) [] := by
  have hzl := zC_len
  have hzd := fun i hi => zC_data _ (gt_mem (l := zC) (i := i) hi)
  have d0 := hzd 0 (by omega)
  have d1 := hzd 1 (by omega)
  have d2 := hzd 2 (by omega)
  have cT := k_cutZ
  have c50 := k_device 50 (by omega)
  have c9 := k_device 9 (by omega)
  have cM := k_made_Mod n 4 (by omega)
  have hm := modV_range (v := n) (n := 4) (by omega)
  obtain ⟨m, hmm⟩ : ∃ m : Nat, modV n 4 = m := ⟨(modV n 4).toNat, by omega⟩
  rw [hmm] at cM hm
  have cm := k_device m (by omega)
  have f1 := full_1 m (by omega)
  have f2 := full_2 m (by omega)
  have f3 := full_3 m (by omega)
  have fe := full_err
  have s4 := full_siz 4
  have s1 : sizL (full1 m).1 := addM_siz s4 _ _ _ (by omega) _
  have s2 : sizL (full2 m).1 := addM_siz s1 _ _ _ (by omega) _
  have a0 := k_xAdd (fullL 4) .no s4 (dev 50) (dev 9) (gt zC 0) (by omega) 1
  have a1 : Con _ _ _ _ (addV (full1 m)) _ := k_xAdd (fullL 4) .no s4 (dev m) (dev 9) (gt zC 1) (by omega) 1
  have a2 : Con _ _ _ _ (addV (full2 m)) _ := k_xAdd (full1 m).1 .no s1 (dev m) (dev 9) (gt zC 2) (by omega) 1
  have a3 : Con _ _ _ _ (addV (full3 m)) _ := k_xAdd (full2 m).1 .no s2 (dev 50) (dev 9) (gt zC 0) (by omega) 1
  have cK := k_known
  have aL := fun i => k_xAdd (fullL i) .no (full_siz i) (dev (i : Nat)) (dev 9) (gt zC 0) (by omega) 0
  have aK := fun (i : Nat) (h : i < 4) => full_ok i h
  have cd := fun (i : Nat) (h : i < 4) => k_device (i : Nat) (by omega)
  have eL : ∀ i, (addM (fullL i) (dev (i : Nat)) (dev 9) (gt zC 0) 0).1 = fullL (i + 1) := fun i => rfl
  refine spec_of_run ttok mixed (T0 := 274880781501) (ts := [.tmp 2]) 123 rfl rfl rfl rfl (by simp) rfl ?_
  conv => whnf
  repeat' (first | ((with_reducible apply Frz.l) <;> conv => whnf) | fail)
  refine LoopN.nilS 3 10 rfl ?_
  refine loop_keep ttok mixed (T0 := 274880781501) [0] (ι := FulI)
    (fun p => [(3, .fs .no 10 (lst bufV (fullL p.i))), (4, int (p.i : Int))]) (fun p => []) (fun p => 4 - p.i) ⟨0, by omega⟩ ?_
  conv => whnf
  repeat' (first | ((first | (with_reducible apply Same.rfl) | (apply Same.int; focus rfl) | (apply Same.rfl) | (with_reducible apply Frz.l)) <;> conv => whnf) | fail)
  rintro ⟨i, hi⟩
  dsimp only
  conv => whnf
  by_cases hi4 : i < 4
  · have aLi := aL i
    have aKi := aK i hi4
    have cdi := cd i hi4
    have eLi := eL i
    generalize addM (fullL i) (dev (i : Nat)) (dev 9) (gt zC 0) 0 = R at *
    repeat' (first | ((refine Need.up ⟨⟨by decide, by decide, by decide, by decide⟩, ?_⟩); (conv => whnf)) | ((with_reducible apply GiveN.mk [0]); (conv => whnf); (apply CallN.mk cT); (conv => whnf)) | ((first | (with_reducible apply Nm.rep _ (rfl)) | ((with_reducible apply Nm.mk); focus ((try simp only [lns]); exact rfl)) | ((with_reducible apply Wr.i64); focus omega) | ((with_reducible apply Need.mk); focus first | (simp only [lns]; omega) | kernel_rfl) | ((with_reducible apply Elem.lst); focus omega) | (apply CallN.mk (cdi)) | (apply CallN.mk (c9)) | (apply CallN.mk (aLi)) | ((with_reducible first | apply Bif.dec | apply Bif.bne) <;> intro h <;> (try simp only [lns] at h) <;> (try (exfalso; omega))) | (with_reducible apply Frz.l)) <;> conv => whnf) | fail)
    (refine ⟨⟨i + 1, by omega⟩, ?_⟩; (try dsimp only); conv => whnf); repeat' (first | with_reducible apply True.intro | ((apply Same.mk (by simp only [eLi])); (conv => whnf)) | ((first | ((with_reducible apply Need.mk); focus omega) | (apply Same.int; focus rfl) | (with_reducible apply Turn.l) | (with_reducible apply Frz.l)) <;> conv => whnf) | fail)
  · have hi2 : i = 4 := by omega
    subst hi2
    generalize fullL 4 = R4 at *
    repeat' (first | with_reducible apply True.intro | ((refine Need.up ⟨⟨by decide, by decide, by decide, by decide⟩, ?_⟩); (conv => whnf)) | ((with_reducible apply GiveN.mk [0]); (conv => whnf); (apply CallN.mk cT); (conv => whnf)) | ((apply Same.bool (by rw [f3.2]; rfl)); (conv => whnf)) | ((first | (with_reducible apply Nm.rep _ (rfl)) | ((with_reducible apply Nm.mk); focus ((try simp only [lns]); exact rfl)) | ((with_reducible apply Need.mk); focus first | (simp only [lns]; omega) | kernel_rfl) | ((with_reducible apply Elem.lst); focus omega) | (apply CallN.mk (c50)) | (apply CallN.mk (c9)) | (apply CallN.mk (cm)) | (apply CallN.mk (cM)) | (apply CallN.mk (a0)) | (apply CallN.mk (a1)) | (apply CallN.mk (a2)) | (apply CallN.mk (a3)) | (apply CallN.mk (cK)) | (with_reducible apply Bif.T) | ((with_reducible first | apply Bif.dec | apply Bif.beq) <;> intro h <;> (try simp only [lns] at h) <;> (try (exfalso; omega))) | (with_reducible apply Frz.l)) <;> conv => whnf) | fail)
end Go.Fw
