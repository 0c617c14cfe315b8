/- The top: pair, sealed, opened. -/
import Derived.Test.YtlkhjalnnciocaaGreatTopN
namespace Go.Fw
open Go.Proofs
set_option maxHeartbeats 8000000
set_option maxRecDepth 8000
def X0 : Grd := ⟨0, 1048576, 0, []⟩
def Y0 : Grd := ⟨0, 1048576, 9, []⟩
def Y1 : Grd := ⟨0, 1048576, 9, [⟨0, 4294967295⟩]⟩
theorem vg_X0 : VG X0 := ⟨by decide, by decide, by decide, by decide, fun p h => by cases h⟩
theorem vg_Y0 : VG Y0 := ⟨by decide, by decide, by decide, by decide, fun p h => by cases h⟩
theorem vg_Y1 : VG Y1 := ⟨by decide, by decide, by decide, by decide, fun p h => by rw [Y1, List.mem_singleton] at h; subst h; decide⟩
/-- The frame that answers a challenge. -/
def frmC (n : Nat) : Frm := ⟨true, false, 0, 0, D1, D0, 0, 0, msgM 2 n, []⟩
/-- A frame of data. -/
def frmD (i : Nat) (b : List UInt8) : Frm := ⟨false, false, UInt8.ofNat i, 1, D1, D0, 0, 0, b, []⟩
theorem ok_C (n : Nat) : OkN (frmC n) := ⟨by show (0 : Nat) ≤ _; decide, by show D1 ≤ _; decide, by show D0 ≤ _; decide, by show (0 : Nat) ≤ _; decide⟩
theorem ok_D (i : Nat) (b : List UInt8) : OkN (frmD i b) := ⟨by show (1 : Nat) ≤ _; decide, by show D1 ≤ _; decide, by show D0 ≤ _; decide, by show (0 : Nat) ≤ _; decide⟩
theorem pay_C (n : Nat) : (frmC n).pay.length ≤ 95 := by show (msgM 2 n).length ≤ _; simp [msgM, beN_len]
theorem msg_len (x : UInt8) (n : Nat) : (msgM x n).length = 5 := by simp [msgM, beN_len]
theorem ob_lst {α : Type} {f : α → SV} {l : List α} {x : Option Nat} {E : Nat} (g : ∀ a, cl (f a) = true) : cleanOB (.arr x E (Fw.lst f l)) := fun s hs => by
  obtain ⟨a, _, rfl⟩ := List.mem_map.1 hs
  exact g a
theorem ob_all {rows : List SV} {x : Option Nat} {E : Nat} (g : rows.all cl = true) : cleanOB (.arr x E rows) := fun s hs => List.all_eq_true.1 g s hs
theorem cleanL : ∀ {l : List OB}, (l.foldr (fun ob p => cleanOB ob ∧ p) True) → ∀ ob ∈ l, cleanOB ob
  | [], _, _, h => by cases h
  | a :: l, ⟨h1, h2⟩, ob, h => by
    rcases List.mem_cons.1 h with h | h
    · rw [h]; exact h1
    · exact cleanL h2 ob h
theorem k_pair : Con Tryz.prog 8 [int 0, int 1] [] (.tup [grdV (grd1 X0), grdV Y1, bool true]) [] := by
  have c0 := k_device 0 (by decide)
  have c1 := k_device 1 (by decide)
  have cc := k_ChallengeO Y0 vg_Y0
  have cr := k_RespondO 9
  have cs := k_SealO X0 (frmC 9) vg_X0 (by decide) rfl rfl rfl rfl (pay_C 9) (ok_C 9)
  have co := k_Open0O Y0 (sealM X0 (frmC 9)) vg_Y0 rfl (SF.seal vg_X0 (ok_C 9) (pay_C 9) rfl) rfl rfl
  have q1 : CleanP (.tup [grdS (grd1 X0) (.ov 17 2 0 1) (.ov 6 3 0 X0.ps.length), frmS (sealM X0 (frmC 9)) (.ov 1 1 0 (frmC 9).pay.length) (.ov 1 0 0 4), int 0])
      [.arr (some 4) 1 (lst b8 (sealM X0 (frmC 9)).mic), .arr none 1 (lst b8 (frmC 9).pay), .arr none 17 [lk1V], .arr none 6 (lst prV X0.ps)] :=
    ⟨rfl, cleanL ⟨ob_lst fun _ => rfl, ob_lst fun _ => rfl, ob_all rfl, ob_lst fun _ => rfl, trivial⟩⟩
  have q2 : CleanP (.tup [grdS { Y0 with ps := [⟨(sealM X0 (frmC 9)).ctr, 4294967295⟩] } (.ov 17 0 0 1) (.ov 6 1 0 1), int 0]) [.arr none 17 [lk1V], .arr none 6 (lst prV [⟨(sealM X0 (frmC 9)).ctr, 4294967295⟩])] :=
    ⟨rfl, cleanL ⟨ob_all rfl, ob_lst fun _ => rfl, trivial⟩⟩
  have hm := tagM_len K1 (hdrM { frmC 9 with sec := true, ctr := X0.ctr, key := 1, mic := [] })
  refine Con.cl (r := .tup [grdS (grd1 X0) (.ov 17 0 0 1) (.ov 6 1 0 0), grdS Y1 (.ov 17 2 0 1) (.ov 6 3 0 1), bool true]) (hp' := [.arr none 17 [lk1V], .arr none 6 [], .arr none 17 [lk1V], .arr none 6 (lst prV [⟨0, 4294967295⟩])]) ?_
    (.tup (.cons (.aggC (.ov rfl (by decide) rfl .rfl) (.aggC (.wk rfl .rfl) (.aggC (.wk rfl .rfl) (.aggC (.wk rfl .rfl) (.aggC (.ov rfl (by decide) rfl .rfl) .aggN)))))
      (.cons (.aggC (.ov rfl (by decide) rfl .rfl) (.aggC (.wk rfl .rfl) (.aggC (.wk rfl .rfl) (.aggC (.wk rfl .rfl) (.aggC (.all rfl rfl) .aggN))))) (.cons (.wk rfl .rfl) .nil)))) rfl
  refine spec_of_run ttok mixed (T0 := 17592186060787) (ts := [.cell 4 28, .cell 5 28, .tmp 6]) 57 rfl rfl rfl rfl (by simp) rfl ?_
  conv => whnf
  repeat' (first | with_reducible apply True.intro | ((apply Nm.mk (show [SV.agg [SV.v (.int .u8 1), keyV K1]] = [lk1V] from rfl)); (conv => whnf)) | ((apply Need.mk q1); (conv => whnf)) | ((apply Need.mk q2); (conv => whnf)) | ((apply Nm.mk (nm_all (l := (sealM X0 (frmC 9)).mic) hm.symm)); (conv => whnf)) | ((apply Need.mk (by decide)); (conv => whnf)) | ((apply Nm.mk (nm_all (by rfl))); (conv => whnf)) | ((apply Same.mk rfl); (conv => whnf)) | ((first | ((with_reducible apply Need.mk); focus exact CleanP.lst rfl (fun _ => rfl)) | (apply CallN.mk (k_Key1)) | (apply CallN.mk (c0)) | (apply CallN.mk (c1)) | (apply CallN.le (cc); focus ((repeat' (first | (with_reducible apply ArgLe.nil) | (exact ArgLe.nil) | (exact ArgLe.rfl) | (exact ArgLe.fs) | (exact True.intro) | (apply And.intro) | (apply Wk.arg; repeat' (first | (exact Wk.rfl) | (exact Wk.nilS) | (exact Wk.tag) | (apply Wk.cons) | (apply Wk.lits) | (exact WkL.nil) | (apply WkL.cons) | fail)) | fail)); done)) | (apply CallN.mk (cr)) | (apply CallN.le (cs); focus ((repeat' (first | (with_reducible apply ArgLe.nil) | (exact ArgLe.nil) | (exact ArgLe.rfl) | (exact ArgLe.fs) | (exact True.intro) | (apply And.intro) | (apply Wk.arg; repeat' (first | (exact Wk.rfl) | (exact Wk.nilS) | (exact Wk.tag) | (apply Wk.cons) | (apply Wk.lits) | (exact WkL.nil) | (apply WkL.cons) | fail)) | fail)); done)) | (apply CallN.le (co); focus ((repeat' (first | (with_reducible apply ArgLe.nil) | (exact ArgLe.nil) | (exact ArgLe.rfl) | (exact ArgLe.fs) | (exact True.intro) | (apply And.intro) | (apply Wk.arg; repeat' (first | (exact Wk.rfl) | (exact Wk.nilS) | (exact Wk.tag) | (apply Wk.cons) | (apply Wk.lits) | (exact WkL.nil) | (apply WkL.cons) | fail)) | fail)); done)) | (with_reducible first | apply Bif.T | apply Bif.F) | ((with_reducible apply Bif.bne) <;> intro h <;> (try simp only [lns] at h) <;> (try (exfalso; omega))) | (with_reducible apply Bif.not) | (with_reducible first | apply Cut.l | apply GiveN.lend) | (with_reducible apply Frz.l)) <;> conv => whnf) | fail)
  done
end Go.Fw
