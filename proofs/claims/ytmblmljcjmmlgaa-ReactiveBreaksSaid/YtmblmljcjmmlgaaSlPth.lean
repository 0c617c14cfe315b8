/- Slices of Pth: the functions of Go's package slices. Written by wip/gen/gen.py. -/
import Derived.Test.YtmblmljcjmmlgaaReaM
namespace Go.Fw
open Go.Proofs
set_option maxHeartbeats 4000000
theorem k_Equal_Pth (a b : List Pth) (t1 t2 : Tg) (hl : a.length ≤ 1000000) : Con Try.prog 63 [.fs t1 6 (lst pthV a), .fs t2 6 (lst pthV b)] [] (bool (decide (a = b))) [] := by
  refine spec_of_run ttok mixed (T0 := 16806963) (ts := [.tmp 4]) 26 rfl rfl rfl rfl (by simp) rfl ?_
  conv => whnf
  repeat' (first | ((first | ((with_reducible apply Nm.mk); focus ((try simp only [lns]); exact rfl)) | ((with_reducible apply Bif.bne) <;> intro h <;> (try simp only [lns] at h))) <;> conv => whnf) | fail)
  · have hne : a ≠ b := fun e => h (by rw [e])
    apply Same.bool (by simp [hne])
    conv => whnf
    repeat' (first | with_reducible apply True.intro | fail)
  have hab : a.length = b.length := by omega
  refine loop_keep ttok mixed (T0 := 16806963) [0, 1, 12] (ι := {k : Nat // k ≤ a.length ∧ ∀ j, j < k → gt a j = gt b j})
    (fun k => [(13, int (k.1 : Int))]) (fun _ => []) (fun k => a.length - k.1) ⟨0, by omega, none_lt⟩ ?_
  conv => whnf
  repeat' (first | ((first | (with_reducible apply Same.rfl) | (apply Same.int; focus rfl)) <;> conv => whnf) | fail)
  rintro ⟨k, hk, he⟩
  dsimp only
  conv => whnf
  repeat' (first | ((apply Bif.of (pthV_eq _ _)); (conv => whnf)) | ((first | ((with_reducible apply Nm.mk); focus ((try simp only [lns]); exact rfl)) | ((with_reducible apply Wr.i64); focus omega) | ((with_reducible apply Need.mk); focus first | (simp only [lns]; omega) | kernel_rfl) | ((with_reducible apply Elem.lst); focus omega) | ((with_reducible apply Bif.dec) <;> intro h <;> (try simp only [lns] at h)) | (with_reducible apply Bif.not)) <;> conv => whnf) | fail)
  · (refine ⟨⟨k + 1, by omega, step_lt he h⟩, ?_⟩; (try dsimp only); conv => whnf); repeat' (first | with_reducible apply True.intro | ((first | ((with_reducible apply Need.mk); focus omega) | (with_reducible apply Same.rfl) | (apply Same.int; focus rfl) | (with_reducible apply Turn.l)) <;> conv => whnf) | fail)
  · have hne : a ≠ b := fun e => h (by rw [e])
    apply Same.bool (by simp [hne])
    conv => whnf
    repeat' (first | with_reducible apply True.intro | fail)
  · have he2 : a = b := ext_gt hab fun i hi => he i (by omega)
    apply Same.bool (by simp [he2])
    conv => whnf
    repeat' (first | with_reducible apply True.intro | fail)
end Go.Fw
