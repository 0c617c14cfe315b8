/- The makers' tape: New, Next, Mod. -/
import Derived.Test.YtkmcmhohelgjfaaTT
namespace Go.Fw
open Go.Proofs
set_option maxHeartbeats 1000000
attribute [local semireducible] Nm Wr Bif
def int (x : Int) : SV := .v (.int .i64 x)
abbrev ints (l : List Int) : List SV := lst int l
def bool (b : Bool) : SV := .v (.bool b)
theorem int_mk (x : Int) : SV.v (.int .i64 x) = int x := rfl
theorem bool_mk (b : Bool) : SV.v (.bool b) = bool b := rfl
theorem ints_len (l : List Int) : (ints l).length = l.length := by simp [ints, lst, lst]
def tape (l : List Int) (at_ : Int) : SV := .agg [.fs .no 1 (ints l), .v (.int .i64 at_)]
theorem wrap64_id {x : Int} (h : -9223372036854775808 ≤ x ∧ x ≤ 9223372036854775807) : IntKind.wrap .i64 x = x := by
  simp [IntKind.wrap, IntKind.bits, IntKind.signed]; omega
theorem inc64 (k : Nat) (h : k < 9223372036854775807) : IntKind.wrap .i64 ((k : Int) + 1) = ((k + 1 : Nat) : Int) := by
  rw [wrap64_id (by omega)]; omega
theorem tmod_low {x n : Int} (hn : 0 < n) (h : x.tmod n < 0) : -n < x.tmod n := by
  have := Int.lt_tmod_of_pos x hn; omega
/-- What a number stands for below n. -/
def modV (v n : Int) : Int := if v.tmod n < 0 then v.tmod n + n else v.tmod n
theorem modV_range {v n : Int} (hn : 0 < n) : 0 ≤ modV v n ∧ modV v n < n := by
  unfold modV
  have := Int.tmod_lt_of_pos v hn
  split
  · have := tmod_low hn (by assumption); omega
  · omega
theorem k_made_New (l : List Int) : Con Try.prog 9 [.fs .no 1 (ints l)] [] (.pb 0 []) [.cells (tape (l.take 400) 0)] := by
  refine spec_of_exec ttok mixed (T0 := 11) (ts := [.tmp 2]) 11 rfl rfl rfl rfl (by simp) rfl ?_
  conv => whnf
  refine Bif.mk (fun h => ?_) (fun h => ?_)
  · have hl : l.length > 400 := by simp [ints_len] at h; omega
    conv => whnf
    refine Need.mk (by rw [ints_len]; omega) ?_
    conv => whnf
    have e : ((ints l).drop 0).take 400 = ints (l.take 400) := by simp [ints, lst, List.map_take]
    exact e ▸ Out.refl
  · have hl : l.length ≤ 400 := by simp [ints_len] at h; omega
    conv => whnf
    rw [List.take_of_length_le hl]
    exact Out.refl
def tapeV (l : List Int) (k n : Int) : Int := if k ≥ l.length then 0 else modV (l.getD k.toNat 0) n
def tapeK (l : List Int) (k : Int) : Int := if k ≥ l.length then k else k + 1
theorem k_tape_Next' (l : List Int) (k n : Int) (hk : 0 ≤ k) (hl : l.length ≤ 400) (hn : 0 < n ∧ n < 9223372036854775808) : Con Try.prog 10 [.pb 0 [], .v (.int .i64 n)] [.cells (tape l k)] (.v (.int .i64 (tapeV l k n))) [.cells (tape l (tapeK l k))] := by
  refine spec_of_exec ttok mixed (T0 := 41) (ts := [.tmp 4]) 41 rfl rfl rfl rfl (by simp) rfl ?_
  conv => whnf
  refine Need.mk (by kernel_rfl) ?_
  conv => whnf
  refine Bif.mk (fun h => ?_) (fun h => ?_)
  · conv => whnf
    have hg : k ≥ l.length := by simpa [ints_len] using h
    exact Out.both (by simp [tapeV, hg]) (by simp [tapeK, hg])
  · conv => whnf
    have hg : k < l.length := by simpa [ints_len] using h
    refine Need.mk (by rw [ints_len]; omega) ?_
    conv => whnf
    have hkl : k.toNat < l.length := by omega
    refine Elem.mk (.v (.int .i64 (l.getD k.toNat 0))) (by simp [ints, lst, int, List.getElem?_eq_getElem hkl]) ?_
    conv => whnf
    refine Need.mk (by omega) ?_
    conv => whnf
    refine Need.mk (by kernel_rfl) ?_
    conv => whnf
    refine Bif.mk (fun h2 => ?_) (fun h2 => ?_)
    · conv => whnf
      have h3 : (l.getD k.toNat 0).tmod n < 0 := by simpa using h2
      have h4 := tmod_low hn.1 h3
      rw [wrap64_id (x := (l.getD k.toNat 0).tmod n + n) (by omega), wrap64_id (x := k + 1) (by omega)]
      exact Out.both (by rw [tapeV, if_neg (by omega), modV, if_pos h3]) (by rw [tapeK, if_neg (by omega)]; rfl)
    · conv => whnf
      have h3 : ¬ (l.getD k.toNat 0).tmod n < 0 := by simpa using h2
      rw [wrap64_id (x := k + 1) (by omega)]
      exact Out.both (by rw [tapeV, if_neg (by omega), modV, if_neg h3]) (by rw [tapeK, if_neg (by omega)]; rfl)
/-- A number of the tape, from lo to hi - 1; the tape has gone on. -/
def TapeInt (l : List Int) (lo hi : Int) (r : SV) (hp' : List OB) : Prop := ∃ x k' : Int, r = .v (.int .i64 x) ∧ hp' = [.cells (tape l k')] ∧ lo ≤ x ∧ x < hi ∧ 0 ≤ k'
theorem k_tape_Next (l : List Int) (k n : Int) (hk : 0 ≤ k) (hl : l.length ≤ 400) (hn : 0 < n ∧ n < 9223372036854775808) :
    ∃ r hp', TapeInt l 0 n r hp' ∧ Con Try.prog 10 [.pb 0 [], .v (.int .i64 n)] [.cells (tape l k)] r hp' := by
  refine ⟨_, _, ⟨_, _, rfl, rfl, ?_⟩, k_tape_Next' l k n hk hl hn⟩
  have := modV_range (v := l.getD k.toNat 0) hn.1
  unfold tapeV tapeK
  split <;> omega
theorem k_made_Mod (v n : Int) (hn : 0 < n ∧ n < 9223372036854775808) : Con Try.prog 16 [int v, int n] [] (int (modV v n)) [] := by
  refine spec_of_exec ttok mixed (T0 := 14) (ts := [.tmp 4]) 14 rfl rfl rfl rfl (by simp) rfl ?_
  conv => whnf
  refine Need.mk (by omega) ?_
  conv => whnf
  refine Bif.mk (fun h2 => ?_) (fun h2 => ?_)
  · conv => whnf
    have h3 : v.tmod n < 0 := by simpa using h2
    have h4 := tmod_low hn.1 h3
    refine Out.none ?_ rfl
    rw [wrap64_id (by omega), modV, if_pos h3]; rfl
  · conv => whnf
    have h3 : ¬ v.tmod n < 0 := by simpa using h2
    refine Out.none ?_ rfl
    rw [modV, if_neg h3]; rfl
end Go.Fw
