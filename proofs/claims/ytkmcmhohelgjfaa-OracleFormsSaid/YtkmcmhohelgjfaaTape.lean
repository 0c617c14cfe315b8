/- The makers' tape: New, Next, Mod. -/
import Derived.Test.YtkmcmhohelgjfaaTT
namespace Go.Fw
set_option maxRecDepth 4000
open Go.Proofs
set_option maxHeartbeats 4000000
def int (x : Int) : SV := .v (.int .i64 x)
abbrev ints (l : List Int) : List SV := lst int l
def bool (b : Bool) : SV := .v (.bool b)
theorem int_mk (x : Int) : SV.v (.int .i64 x) = int x := rfl
theorem bool_mk (b : Bool) : SV.v (.bool b) = bool b := rfl
theorem ints_len (l : List Int) : (ints l).length = l.length := by simp [ints, lst, lst]
def tape (l : List Int) (at_ : Int) : SV := .agg [.fs .no 1 (ints l), .v (.int .i64 at_)]
theorem wrap64_id {x : Int} (h : -9223372036854775808 ≤ x ∧ x ≤ 9223372036854775807) : IntKind.wrap .i64 x = x := by
  simp [IntKind.wrap, IntKind.bits, IntKind.signed]; omega
theorem inc64 (k : Nat) (h : k < 9223372036854775807) : IntKind.wrap .i64 ((k : Int) + 1) = ((k + 1 : Nat) : Int) := by
  rw [wrap64_id (by omega)]; omega
theorem tmod_low {x n : Int} (hn : 0 < n) (h : x.tmod n < 0) : -n < x.tmod n := by
  have := Int.lt_tmod_of_pos x hn; omega
/-- What a number stands for below n. -/
def modV (v n : Int) : Int := if v.tmod n < 0 then v.tmod n + n else v.tmod n
theorem modV_range {v n : Int} (hn : 0 < n) : 0 ≤ modV v n ∧ modV v n < n := by
  unfold modV
  have := Int.tmod_lt_of_pos v hn
  split
  · have := tmod_low hn (by assumption); omega
  · omega
theorem k_made_New (l : List Int) : Con Try.prog 9 [.fs .no 1 (ints l)] [] (.pb 0 []) [.cells (tape (l.take 400) 0)] := by
  refine spec_of_run ttok mixed (T0 := 37) (ts := [.tmp 2]) 11 rfl rfl rfl rfl (by simp) rfl ?_
  conv => whnf
  by_cases hl : l.length > 400
  · repeat' (first | with_reducible apply True.intro | ((apply Same.rfl); conv => whnf) | ((first | ((with_reducible apply Nm.mk); focus ((try simp only [lns]); exact rfl)) | ((with_reducible apply Need.mk); focus (simp only [lns]; omega)) | ((with_reducible apply Bif.dec) <;> intro h <;> (try simp only [lns] at h) <;> (try (exfalso; omega))) | (with_reducible apply Frz.l)) <;> conv => whnf) | fail)
  · have e : l.take 400 = l := List.take_of_length_le (by omega)
    rw [e]
    repeat' (first | with_reducible apply True.intro | ((apply Same.rfl); conv => whnf) | ((first | ((with_reducible apply Nm.mk); focus ((try simp only [lns]); exact rfl)) | ((with_reducible apply Bif.dec) <;> intro h <;> (try simp only [lns] at h) <;> (try (exfalso; omega))) | (with_reducible apply Frz.l)) <;> conv => whnf) | fail)
def tapeV (l : List Int) (k n : Int) : Int := if k ≥ l.length then 0 else modV (l.getD k.toNat 0) n
def tapeK (l : List Int) (k : Int) : Int := if k ≥ l.length then k else k + 1
theorem k_tape_Next' (l : List Int) (k n : Int) (hk : 0 ≤ k) (hl : l.length ≤ 400) (hn : 0 < n ∧ n < 9223372036854775808) : Con Try.prog 10 [.pb 0 [], .v (.int .i64 n)] [.cells (tape l k)] (.v (.int .i64 (tapeV l k n))) [.cells (tape l (tapeK l k))] := by
  refine spec_of_run ttok mixed (T0 := 68719509555) (ts := [.tmp 4]) 41 rfl rfl rfl rfl (by simp) rfl ?_
  conv => whnf
  by_cases hg : k ≥ l.length
  · have e1 : tapeV l k n = 0 := by simp [tapeV, hg]
    have e2 : tapeK l k = k := by simp [tapeK, hg]
    rw [e1, e2]
    repeat' (first | with_reducible apply True.intro | ((apply Same.rfl); conv => whnf) | ((first | ((with_reducible apply Nm.mk); focus ((try simp only [lns]); exact rfl)) | ((with_reducible apply Need.mk); focus kernel_rfl) | ((with_reducible apply Bif.dec) <;> intro h <;> (try simp only [lns] at h) <;> (try (exfalso; omega))) | (with_reducible apply Frz.l)) <;> conv => whnf) | fail)
  · have e0 : gt l k.toNat = l.getD k.toNat 0 := rfl
    have e2 : tapeK l k = k + 1 := by rw [tapeK, if_neg hg]
    rw [e2]
    by_cases h3 : (gt l k.toNat).tmod n < 0
    · have h4 := tmod_low hn.1 h3
      have e1 : tapeV l k n = (gt l k.toNat).tmod n + n := by rw [tapeV, if_neg hg, modV, ← e0, if_pos h3]
      rw [e1]
      repeat' (first | with_reducible apply True.intro | ((apply Same.rfl); conv => whnf) | ((first | ((with_reducible apply Nm.mk); focus ((try simp only [lns]); exact rfl)) | ((with_reducible apply Wr.i64); focus omega) | ((with_reducible apply Need.mk); focus first | omega | (simp only [lns]; omega) | kernel_rfl) | ((with_reducible apply Elem.lst); focus omega) | ((with_reducible apply Bif.dec) <;> intro h <;> (try simp only [lns] at h) <;> (try (exfalso; omega))) | (with_reducible apply Frz.l)) <;> conv => whnf) | fail)
    · have e1 : tapeV l k n = (gt l k.toNat).tmod n := by rw [tapeV, if_neg hg, modV, ← e0, if_neg h3]
      rw [e1]
      repeat' (first | with_reducible apply True.intro | ((apply Same.rfl); conv => whnf) | ((first | ((with_reducible apply Nm.mk); focus ((try simp only [lns]); exact rfl)) | ((with_reducible apply Wr.i64); focus omega) | ((with_reducible apply Need.mk); focus first | omega | (simp only [lns]; omega) | kernel_rfl) | ((with_reducible apply Elem.lst); focus omega) | ((with_reducible apply Bif.dec) <;> intro h <;> (try simp only [lns] at h) <;> (try (exfalso; omega))) | (with_reducible apply Frz.l)) <;> conv => whnf) | fail)
/-- A number of the tape, from lo to hi - 1; the tape has gone on. -/
def TapeInt (l : List Int) (lo hi : Int) (r : SV) (hp' : List OB) : Prop := ∃ x k' : Int, r = .v (.int .i64 x) ∧ hp' = [.cells (tape l k')] ∧ lo ≤ x ∧ x < hi ∧ 0 ≤ k'
theorem k_tape_Next (l : List Int) (k n : Int) (hk : 0 ≤ k) (hl : l.length ≤ 400) (hn : 0 < n ∧ n < 9223372036854775808) :
    ∃ r hp', TapeInt l 0 n r hp' ∧ Con Try.prog 10 [.pb 0 [], .v (.int .i64 n)] [.cells (tape l k)] r hp' := by
  refine ⟨_, _, ⟨_, _, rfl, rfl, ?_⟩, k_tape_Next' l k n hk hl hn⟩
  have := modV_range (v := l.getD k.toNat 0) hn.1
  unfold tapeV tapeK
  split <;> omega
theorem k_made_Mod (v n : Int) (hn : 0 < n ∧ n < 9223372036854775808) : Con Try.prog 16 [int v, int n] [] (int (modV v n)) [] := by
  refine spec_of_run ttok mixed (T0 := 531) (ts := [.tmp 4]) 14 rfl rfl rfl rfl (by simp) rfl ?_
  conv => whnf
  by_cases h3 : v.tmod n < 0
  · have h4 := tmod_low hn.1 h3
    have e1 : modV v n = v.tmod n + n := by rw [modV, if_pos h3]
    rw [e1]
    repeat' (first | with_reducible apply True.intro | ((first | ((with_reducible apply Wr.i64); focus omega) | ((with_reducible apply Need.mk); focus omega) | ((with_reducible apply Bif.dec) <;> intro h <;> (try simp only [lns] at h) <;> (try (exfalso; omega))) | (apply Same.int; focus rfl) | (with_reducible apply Frz.l)) <;> conv => whnf) | fail)
  · have e1 : modV v n = v.tmod n := by rw [modV, if_neg h3]
    rw [e1]
    repeat' (first | with_reducible apply True.intro | ((first | ((with_reducible apply Need.mk); focus omega) | ((with_reducible apply Bif.dec) <;> intro h <;> (try simp only [lns] at h) <;> (try (exfalso; omega))) | (apply Same.int; focus rfl) | (with_reducible apply Frz.l)) <;> conv => whnf) | fail)
end Go.Fw
