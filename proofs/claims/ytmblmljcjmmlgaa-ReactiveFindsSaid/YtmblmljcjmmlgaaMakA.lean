/- What the makers make from a tape: times, owners, addresses. -/
import Derived.Test.YtmblmljcjmmlgaaTod
namespace Go.Fw
set_option maxRecDepth 4000
open Go.Proofs
set_option maxHeartbeats 4000000
def TapeBool (l : List Int) (r : SV) (hp' : List OB) : Prop := ∃ (b : Bool) (k' : Int), r = bool b ∧ hp' = [.cells (tape l k')] ∧ 0 ≤ k'
theorem k_tape_Bool (l : List Int) (k n : Int) (hk : 0 ≤ k) (hl : l.length ≤ 400) (hn : 0 < n ∧ n < 9223372036854775808) :
    ∃ r hp', TapeBool l r hp' ∧ Con Try.prog 21 [.pb 0 [], .v (.int .i64 n)] [.cells (tape l k)] r hp' := by
  refine spec_of_runR ttok mixed (T0 := 19) (ts := [.tmp 4]) 11 rfl rfl rfl rfl (by simp) rfl ?_
  conv => whnf
  repeat' (first | ((first | ((with_reducible apply Wr.i64); focus omega) | (refine CallN.ex (k_tape_Next l k n hk hl hn) ?_; rintro _ _ ⟨x, k', rfl, rfl, h1, h2, h3⟩) | (with_reducible apply Frz.l)) <;> conv => whnf) | fail)
  (refine ⟨_, _, ⟨(x == n - 1), k', rfl, rfl, h3⟩, ?_⟩; conv => whnf); repeat' (first | with_reducible apply True.intro | ((first | (with_reducible apply Same.rfl) | (apply Same.bool; focus (with_reducible rfl)) | (with_reducible apply Frz.l)) <;> conv => whnf) | fail)
/-- bytes -/
theorem byt_set {n : Nat} {l : List Int} {i : Nat} {x : Int} (h : l.length = n ∧ ∀ x ∈ l, 0 ≤ x ∧ x ≤ 255) (hx : 0 ≤ x ∧ x ≤ 255) : (l.set i x).length = n ∧ ∀ y ∈ l.set i x, 0 ≤ y ∧ y ≤ 255 :=
  ⟨by rw [List.length_set]; exact h.1, fun y hy => (List.mem_or_eq_of_mem_set hy).elim (h.2 y) fun e => e ▸ hx⟩
theorem byt_cons {n : Nat} {l : List Int} {x : Int} (h : l.length = n ∧ ∀ x ∈ l, 0 ≤ x ∧ x ≤ 255) (hx : 0 ≤ x ∧ x ≤ 255) : (x :: l).length = n + 1 ∧ ∀ y ∈ x :: l, 0 ≤ y ∧ y ≤ 255 :=
  ⟨by rw [List.length_cons, h.1], fun y hy => (List.mem_cons.1 hy).elim (fun e => e ▸ hx) (h.2 y)⟩
theorem wrap8_range (x : Int) : 0 ≤ IntKind.wrap .u8 x ∧ IntKind.wrap .u8 x ≤ 255 := by
  simp [IntKind.wrap, IntKind.bits, IntKind.signed]; omega
theorem Wr.shl {b : Nat} {K : Int → Prop} (h : K (IntKind.wrap .u8 (1 * 2 ^ b))) : Wr .u8 (1 * 2 ^ b) K := ⟨h⟩
def TapeIP (l : List Int) (r : SV) (hp' : List OB) : Prop := ∃ (ip : IP) (k' : Int), r = ipV ip ∧ hp' = [.cells (tape l k')] ∧ 0 ≤ k'
theorem k_world_EUI (l : List Int) (k : Int) (hk : 0 ≤ k) (hl : l.length ≤ 400) :
    ∃ r hp', (∃ (x k' : Int), r = u64 x ∧ hp' = [.cells (tape l k')] ∧ 1 ≤ x ∧ x ≤ 5 ∧ 0 ≤ k') ∧ Con Try.prog 12 [.pb 0 []] [.cells (tape l k)] r hp' := by
  refine spec_of_runR ttok mixed (T0 := 5) (ts := [.tmp 2]) 7 rfl rfl rfl rfl (by simp) rfl ?_
  conv => whnf
  repeat' (first | ((first | ((with_reducible first | apply Wr.i64 | apply Wr.u64); focus omega) | (refine CallN.ex (k_tape_Next l _ _ (by omega) hl (by omega)) ?_; rintro _ _ ⟨x, k', rfl, rfl, h1, h2, h3⟩) | (with_reducible apply Frz.l)) <;> conv => whnf) | fail)
  (apply Ex2.mk (.v (.int .u64 _)) ([.cells (tape l _)])); (focus ((conv => whnf); repeat' (first | with_reducible apply True.intro | ((first | (with_reducible apply Same.rfl) | (with_reducible apply Frz.l)) <;> conv => whnf) | fail))); exact ⟨_, _, rfl, rfl, by omega, by omega, by omega⟩
theorem k_world_Base (l : List Int) (k : Int) (hk : 0 ≤ k) (hl : l.length ≤ 400) :
    ∃ r hp', TapeInt l 0 1099511627777 r hp' ∧ Con Try.prog 10 [.pb 0 []] [.cells (tape l k)] r hp' := by
  refine spec_of_runR ttok mixed (T0 := 565) (ts := [.tmp 2]) 16 rfl rfl rfl rfl (by simp) rfl ?_
  conv => whnf
  repeat' (first | ((first | ((with_reducible apply Wr.i64); focus omega) | (refine CallN.ex (k_tape_Next l _ _ (by omega) hl (by omega)) ?_; rintro _ _ ⟨x, k', rfl, rfl, h1, h2, h3⟩) | ((with_reducible apply Bif.beq) <;> intro h <;> (try simp only [lns] at h)) | (with_reducible apply Frz.l)) <;> conv => whnf) | fail)
  all_goals ((apply Ex2.mk (.v (.int .i64 _)) ([.cells (tape l _)])); (focus ((conv => whnf); repeat' (first | with_reducible apply True.intro | ((first | (with_reducible apply Same.rfl) | (with_reducible apply Frz.l)) <;> conv => whnf) | fail))); exact ⟨_, _, rfl, rfl, by omega, by omega, by omega⟩)
theorem k_world_Time (l : List Int) (k base : Int) (hk : 0 ≤ k) (hl : l.length ≤ 400) (hb : 0 ≤ base ∧ base ≤ 1099511627776) :
    ∃ r hp', TapeInt l 0 1099511627777 r hp' ∧ Con Try.prog 23 [.pb 0 [], int base] [.cells (tape l k)] r hp' := by
  refine spec_of_runR ttok mixed (T0 := 19) (ts := [.tmp 4]) 12 rfl rfl rfl rfl (by simp) rfl ?_
  conv => whnf
  repeat' (first | ((first | ((with_reducible apply Wr.i64); focus omega) | (refine CallN.ex (k_tape_Next l _ _ (by omega) hl (by omega)) ?_; rintro _ _ ⟨x, k', rfl, rfl, h1, h2, h3⟩) | (with_reducible apply Frz.l)) <;> conv => whnf) | fail)
  all_goals ((apply Ex2.mk (.v (.int .i64 _)) ([.cells (tape l _)])); (focus ((conv => whnf); repeat' (first | with_reducible apply True.intro | ((first | (with_reducible apply Same.rfl) | (with_reducible apply Frz.l)) <;> conv => whnf) | fail))); exact ⟨_, _, rfl, rfl, by omega, by omega, by omega⟩)
end Go.Fw
