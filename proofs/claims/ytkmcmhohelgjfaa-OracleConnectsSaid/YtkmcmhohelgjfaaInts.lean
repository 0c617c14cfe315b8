/- Slices of numbers: slices.Equal. -/
import Derived.Test.YtkmcmhohelgjfaaTape
namespace Go.Fw
open Go.Proofs
set_option maxHeartbeats 1000000
attribute [local semireducible] Nm Wr Bif
theorem ints_get {l : List Int} {k : Nat} (h : k < l.length) : (ints l)[k]? = some (int l[k]) := by simp [ints, lst, List.getElem?_eq_getElem h]
theorem wds_ints (l : List Int) : (ints l).all (fun s => Nat.beq (wd s) 1) = true := by
  simp only [ints, lst, List.all_map, List.all_eq_true]
  intro x _; rfl
theorem take_eq_succ {a b : List Int} {k : Nat} (ha : k < a.length) (hb : k < b.length) (h : a.take k = b.take k) (e : a[k] = b[k]) : a.take (k + 1) = b.take (k + 1) := by
  rw [List.take_succ_eq_append_getElem ha, List.take_succ_eq_append_getElem hb, h, e]
theorem k_Equal (a b : List Int) (t1 t2 : Tg) (hl : a.length < 4611686018427387904) :
    Con Try.prog 11 [.fs t1 1 (ints a), .fs t2 1 (ints b)] [] (bool (decide (a = b))) [] := by
  refine spec_of_exec ttok mixed (T0 := 26) (ts := [.tmp 4]) 26 rfl rfl rfl rfl (by simp) rfl ?_
  conv => whnf
  refine Bif.mk (fun h => ?_) (fun h => ?_)
  · conv => whnf
    refine Out.none ?_ rfl
    have : a ≠ b := fun e => by subst e; simp at h
    simp [this, bool]
  · have hab : a.length = b.length := by simp [ints_len] at h; omega
    conv => whnf
    refine loop_inv ttok mixed (T0 := 26) (ι := {k : Nat // k ≤ a.length ∧ a.take k = b.take k})
      (fun i => [(0, .fs t1 1 (ints a)), (1, .fs t2 1 (ints b)), (12, int (a.length : Int)), (13, int (i.1 : Int))]) (fun _ => []) (fun i => a.length - i.1) ⟨0, by simp⟩ ?_ ?_
    · refine Sub.of ⟨rfl, rfl, ?_, rfl, trivial⟩
      rw [← ints_len a]; rfl
    rintro ⟨k, hk, he⟩
    dsimp only
    conv => whnf
    refine Bif.mk (fun h3 => ?_) (fun h3 => ?_)
    · have hka : k < a.length := by simp at h3; omega
      have hkb : k < b.length := by omega
      conv => whnf
      refine Need.mk (by rw [ints_len]; omega) ?_
      conv => whnf
      refine Elem.mk (int a[k]) (ints_get hka) ?_
      conv => whnf
      refine Need.mk (by rw [ints_len]; omega) ?_
      conv => whnf
      refine Elem.mk (int b[k]) (ints_get hkb) ?_
      conv => whnf
      refine Need.mk (by kernel_rfl) ?_
      conv => whnf
      refine Bif.mk (fun h4 => ?_) (fun h4 => ?_)
      · conv => whnf
        refine Out.none ?_ rfl
        have h5 : a[k] ≠ b[k] := by simpa using h4
        have : a ≠ b := fun e => h5 (by simp [e])
        simp [this, bool]
      · conv => whnf
        have h5 : a[k] = b[k] := by simpa using h4
        rw [inc64 k (by omega)]
        exact ⟨⟨k + 1, hka, take_eq_succ hka hkb he h5⟩, Sub.of ⟨rfl, rfl, rfl, rfl, trivial⟩, by simp only []; omega⟩
    · have hka : k = a.length := by simp at h3; omega
      conv => whnf
      refine Out.none ?_ rfl
      subst hka
      have : a = b := by rw [List.take_of_length_le (Nat.le_refl _), hab, List.take_of_length_le (Nat.le_refl _)] at he; exact he
      simp [this, bool]
end Go.Fw
