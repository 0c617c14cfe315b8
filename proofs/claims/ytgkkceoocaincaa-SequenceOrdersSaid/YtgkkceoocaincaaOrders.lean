/- SequenceOrders returns true at every input: the walk through the law, then the given shell. -/
import Derived.Test.YtgkkceoocaincaaRows
import Derived.Test.YtgkkceoocaincaaSeq
import Derived.WalkKit
import Derived.ProofKit
import Derived.OpenShut
namespace Go.Fw
open Go.Proofs
theorem newer_nearW {a x : Int} (h0 : 0 ≤ a ∧ a < 65536) (h : 0 ≤ x ∧ x < 32768) : newer (IntKind.wrap .u16 (a + x)) a = decide (x > 0) := by
  rw [wrap16]; exact newer_near h0 h
set_option maxHeartbeats 4000000
theorem c3 (a b c d : Int) (h0 : 0 ≤ a ∧ a < 65536) (h1 : 0 ≤ b ∧ b < 65536) (h2 : 0 ≤ c ∧ c < 65536) (h3 : 0 ≤ d ∧ d < 65536) : Con Try.prog 3 [.v (.int .u16 a), .v (.int .u16 b), .v (.int .u16 c), .v (.int .u16 d)] [] (.v (.bool true)) [] := by
  have hx : 0 ≤ c.tmod 16384 ∧ c.tmod 16384 < 16384 := by rw [Int.tmod_eq_emod_of_nonneg h2.1]; omega
  have hy : 0 ≤ d.tmod 16384 ∧ d.tmod 16384 < 16384 := by rw [Int.tmod_eq_emod_of_nonneg h3.1]; omega
  have f1 : (newer a b == newer b a) = true → (a != b) = false := fun h => by
    have := newer_two h0 h1 (by simpa using h)
    simp [this]
  have f2 := newer_self a
  have hp : 0 ≤ IntKind.wrap .u16 (a + c.tmod 16384) ∧ IntKind.wrap .u16 (a + c.tmod 16384) < 65536 := by rw [wrap16]; omega
  have f3 : (newer (IntKind.wrap .u16 (a + c.tmod 16384)) a == decide (c.tmod 16384 > 0)) = true := by
    rw [newer_nearW h0 (by omega)]; simp
  have f4 : (newer (IntKind.wrap .u16 (IntKind.wrap .u16 (a + c.tmod 16384) + d.tmod 16384)) (IntKind.wrap .u16 (a + c.tmod 16384)) == decide (d.tmod 16384 > 0)) = true := by
    rw [newer_nearW hp (by omega)]; simp
  have f5 : (newer (IntKind.wrap .u16 (IntKind.wrap .u16 (a + c.tmod 16384) + d.tmod 16384)) a == decide (IntKind.wrap .u16 (c.tmod 16384 + d.tmod 16384) > 0)) = true := by
    have e1 : IntKind.wrap .u16 (IntKind.wrap .u16 (a + c.tmod 16384) + d.tmod 16384) = IntKind.wrap .u16 (a + (c.tmod 16384 + d.tmod 16384)) := by
      simp only [wrap16]; omega
    have e2 : IntKind.wrap .u16 (c.tmod 16384 + d.tmod 16384) = c.tmod 16384 + d.tmod 16384 := by rw [wrap16]; omega
    rw [e1, e2, newer_nearW h0 (by omega)]; simp
  refine spec_of_exec ttok mixed (T0 := 11) (ts := [8]) 67 rfl rfl rfl rfl (by simp) rfl ?_
  conv => whnf
  repeat' (first | (refine Need.mk (by first | decide | kernel_rfl) ?_; conv => whnf) | (refine CallN.mk (c8 _ _) ?_; conv => whnf) | (refine CallN.mk c9 ?_; conv => whnf) | (refine Bif.mk (fun _ => ?_) (fun _ => ?_) <;> conv => whnf))
  all_goals refine Out.none ?_ rfl
  all_goals first | rfl | (exfalso; simp_all; done)
end Go.Fw
namespace Go.Proofs.Ytgkkceoocaincaa.sequenceOrders
open Go.ChangeShapes Go.WideShapes Go.ChangeAt Go.RowKit
set_option linter.unusedVariables false      -- a walk need not use every 'w<i>' (that an integer argument fits its kind)

theorem own : ownKnob Try.prog.godebug = none := by kernel_rfl

/-! ### STEP 1: THE WALK: the Go text returns true. 'Grown w w'': the world has at most new blocks (Derived/RowKit3.lean). Part the cases AHEAD of 'go_enter' where a test parts the walk; take each callee by a contract of your own. -/
theorem walk (a0 : Int) (a1 : Int) (a2 : Int) (a3 : Int) (w0 : (Lit.int .u16 a0).wf = true) (w1 : (Lit.int .u16 a1).wf = true) (w2 : (Lit.int .u16 a2).wf = true) (w3 : (Lit.int .u16 a3).wf = true) (w : World) :
    Calls Try.prog 3 #[.int .u16 a0, .int .u16 a1, .int .u16 a2, .int .u16 a3] w fun e w' => e = .returned (.bool true) ∧ Grown w w' := by
  have r : ∀ (k : Int) (h : (Lit.int .u16 k).wf = true), 0 ≤ k ∧ k < 65536 := fun k h => by
    simp [Lit.wf, IntKind.min, IntKind.max, IntKind.bits, IntKind.signed] at h; omega
  refine Fw.lift_bool (Fw.c3 a0 a1 a2 a3 (r a0 w0) (r a1 w1) (r a2 w2) (r a3 w3)) ?_
  exact .cons (.v rfl) (.cons (.v rfl) (.cons (.v rfl) (.cons (.v rfl) .nil)))

/-! ### THE ROW's STEP: WRITTEN OUT: LEAVE IT -/
set_option maxRecDepth 100000 in
theorem lifted (os : Os) (started : os.Started) (H : Type) (enc : TypeId × Value → H) :
    ReturnsInHanded {} Try.checked os 3 .any (Rows.sequenceOrdersSpec.pre6 enc Try.prog Try.f3 Rows.sequenceOrdersRow.domain false) (Rows.sequenceOrdersSpec.post enc Try.prog Try.f3 false true false false) := by
  refine returnsInHanded_of_change (C := Try.checked) own started (by kernel_rfl) Try.func3
    (ChangeSpec.witness6 (enc := enc) (C := Try.checked) false ⟨#[], #[.int .u16 0, .int .u16 0, .int .u16 0, .int .u16 0], []⟩ 8 (by kernel_rfl) (by kernel_rfl) (by kernel_rfl) (by kernel_rfl)) ?_
  intro W base args ds gs before hval0 hW hcnd _
  have hval : ∀ (j : Nat) t v, Try.f3.params[j]? = some t → args[j]? = some v → Value.okWide Try.prog W .any base t v := hval0
  have hW' := hW
  obtain ⟨p, q, hA0, hV, rfl, hfz, hnd⟩ := hW
  have hA : DataW.TrodAll enc Try.prog W 0 (fun _ => true) true Try.f3.params.toList args.toList ds p := hA0
  rw [Try.params3] at hA hval
  obtain ⟨v0, vs0, d0, ds0, p0, q0, hargs, rfl, rfl, h0, r0⟩ := trodAll_cons hA
  obtain ⟨v1, vs1, d1, ds1, p1, q1, rfl, rfl, rfl, h1, r1⟩ := trodAll_cons r0
  obtain ⟨v2, vs2, d2, ds2, p2, q2, rfl, rfl, rfl, h2, r2⟩ := trodAll_cons r1
  obtain ⟨v3, vs3, d3, ds3, p3, q3, rfl, rfl, rfl, h3, r3⟩ := trodAll_cons r2
  obtain ⟨rfl, rfl, rfl⟩ := trodAll_nil r3
  obtain rfl : args = #[v0, v1, v2, v3] := by cases args; simp_all
  obtain ⟨rfl, rfl⟩ := trodVars_none hV
  obtain ⟨a0, rfl, rfl, rfl, w0⟩ := open_int Try.underlying22 (hval 0 22 v0 rfl rfl) h0
  obtain ⟨a1, rfl, rfl, rfl, w1⟩ := open_int Try.underlying22 (hval 1 22 v1 rfl rfl) h1
  obtain ⟨a2, rfl, rfl, rfl, w2⟩ := open_int Try.underlying22 (hval 2 22 v2 rfl rfl) h2
  obtain ⟨a3, rfl, rfl, rfl, w3⟩ := open_int Try.underlying22 (hval 3 22 v3 rfl rfl) h3
  clear hA0 hval0
  simp only [List.append_nil] at hW'
  refine (walk a0 a1 a2 a3 w0 w1 w2 w3 W).mono fun e W' ⟨he, hg⟩ => ?_
  subst he
  exact ⟨_, rfl, post_of_same (pa := []) (pv := []) hW' (fun _ _ _ => (trodAll_cons_mk (shut_bool Try.underlying4 _) trodAll_mk0)) (fun sp _ => (trodAll_cons_mk (shut_int Try.underlying22 w0) (trodAll_cons_mk (shut_int Try.underlying22 w1) (trodAll_cons_mk (shut_int Try.underlying22 w2) (trodAll_cons_mk (shut_int Try.underlying22 w3) trodAll_mk0))))) (fun _ _ => rfl) rfl
    (hg.frame _) hg.2.1 (ok_one (by kernel_rfl) rfl (okWide_bool_mk Try.underlying4 _))⟩

theorem over : Rows.sequenceOrdersRow.holds Try.pinned (OpenSpec.ofChange Rows.sequenceOrdersSpec) :=
  OpenClaim.holds_of_wide 3 Try.f3 rfl rfl rfl rfl rfl rfl rfl ⟨rfl, rfl, rfl, rfl, rfl⟩ rfl rfl rfl rfl rfl (by kernel_rfl) Try.func3 (by kernel_rfl)
    (of_decide_eq_true (by kernel_rfl)) (by unfold Func.isWrapper; first | (rw [if_pos (by decide +kernel)]; kernel_rfl) | (rw [if_neg (by decide +kernel)]; exact ⟨rfl, rfl⟩))
    (fun os started H enc _ => lifted os started H enc)

/-- ████ THE STATEMENT ████ -/
theorem proved : Rows.SequenceOrdersSaid :=
  over
#print axioms proved
end Go.Proofs.Ytgkkceoocaincaa.sequenceOrders
