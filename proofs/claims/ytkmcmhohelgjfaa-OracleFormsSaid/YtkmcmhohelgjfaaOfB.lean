/- OracleForms: a topology with one change. -/
import Derived.Test.YtkmcmhohelgjfaaOfA
namespace Go.Fw
set_option maxRecDepth 4000
open Go.Proofs
set_option maxHeartbeats 4000000
theorem k_Clone (l : List Int) (t : Tg) (h : 0 < l.length) (hl : l.length ≤ 1000) :
    Con Try.prog 37 [.fs t 1 (ints l)] [] (.ov 1 0 0 l.length) [.arr none 1 (ints l)] := by
  refine spec_of_run ttok mixed (T0 := 21) (ts := [.tmp 2]) 8 rfl rfl rfl rfl (by simp) rfl ?_
  have hne : ints l ≠ [] := by intro e; have e2 : (ints l).length = 0 := by rw [e]; rfl
                               rw [lst_len] at e2; omega
  obtain ⟨c, nn⟩ := t
  cases nn <;> conv => whnf
  all_goals repeat' (first | with_reducible apply True.intro | ((with_reducible apply Need.mk hne); (conv => whnf)) | ((first | ((with_reducible apply Nm.mk); focus ((try simp only [lns, mat_len]); exact rfl)) | ((with_reducible apply Need.mk); focus (unfold roomOK; simp only [lns, mat_len]; omega)) | (with_reducible apply Bif.F) | (with_reducible apply Same.rfl) | (apply Same.rfl) | (with_reducible first | apply Alt.l | apply Cut.l) | (with_reducible apply Frz.l)) <;> conv => whnf) | fail)
/-- The rows, each in a block of its own. -/
def ovs : Nat → List (List Int) → List SV
  | _, [] => []
  | j, r :: R => .ov 1 j 0 r.length :: ovs (j + 1) R
def arrs : List (List Int) → List OB
  | [] => []
  | r :: R => .arr none 1 (ints r) :: arrs R
def ownH (l : List Int) (k : Int) (R : List (List Int)) : List OB := .cells (tape l k) :: .gone :: .own 1 (ovs 3 R) :: arrs R
def Spo (l : List Int) (r : SV) (hp' : List OB) : Prop := ∃ (R : List (List Int)) (off : Nat) (k : Int), r = .ov 1 2 off (R.length - off) ∧ hp' = ownH l k R ∧ 0 ≤ k ∧ R.length ≤ 7 ∧ off ≤ R.length
end Go.Fw
