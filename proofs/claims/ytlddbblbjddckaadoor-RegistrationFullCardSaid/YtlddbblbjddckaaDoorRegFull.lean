/- RegistrationFull is true at every two numbers: the walks, and the tied card. -/
import Derived.Test.YtlddbblbjddckaaDoorTie
import Derived.Test.YtlddbblbjddckaaDoorCards
import Derived.Test.YtlddbblbjddckaaDoorRegM
import Derived.Test.YtlddbblbjddckaaDoorRegLnk
import Derived.LaidMore
import Derived.OpenShut
namespace Go.Proofs.YtlddbblbjddckaaDoor.registrationFull
open Go.ChangeShapes Go.WideShapes Go.ChangeAt Go.RowKit
theorem own : ownKnob Tryd.prog.godebug = none := by kernel_rfl
theorem con : ∀ svs, Fw.ShpL Tryd.prog Fw.tt 8 Tryd.f4.params.toList svs → Fw.Con Tryd.prog 4 svs [] (.v (.bool true)) [] := by
  intro svs hsh
  rcases svs with _ | ⟨s0, svs⟩
  · exact hsh.elim
  obtain ⟨h0, hsh⟩ := hsh
  rcases svs with _ | ⟨s1, svs⟩
  · exact hsh.elim
  obtain ⟨h1, hsh⟩ := hsh
  rcases svs with _ | ⟨s, svs⟩
  case cons => exact hsh.elim
  obtain ⟨a, rfl, _⟩ := Fw.shp_int rfl h0
  obtain ⟨b, rfl, hb⟩ := Fw.shp_u8 rfl h1
  exact Fw.k_RegistrationFull a b hb
theorem spec {H : Type} (ds : List (DataW H)) (h : ds.length = Tryd.f4.params.size) : (Rows.registrationFullSpec.fn H ds).results = [.lit (.bool true)] ∧ (Rows.registrationFullSpec.fn H ds).args = ds ∧ (Rows.registrationFullSpec.fn H ds).vars = [] := by
  have hp : Tryd.f4.params.size = 2 := rfl
  rcases ds with _ | ⟨d0, ds⟩
  · simp [hp] at h
  rcases ds with _ | ⟨d1, ds⟩
  · simp [hp] at h
  rcases ds with _ | ⟨d, ds⟩
  case cons => simp [hp] at h
  exact ⟨rfl, rfl, rfl⟩
theorem door_met (os : Os) (args : Array Value) : laidMetH Tryd.prog Rows.registrationFullRow.laid ((World.doorLaid Tryd.prog 14 os).forCall (fun _ _ => 0) ⟨#[], args, []⟩).memory :=
  laidMetH_of_parts3 (fuel := 8) (laidMet_of_run' 8 (by kernel_rfl) (by kernel_rfl)) (by kernel_rfl) (by kernel_rfl)
set_option maxRecDepth 100000 in
theorem lifted (os : Os) (started : os.Started) (H : Type) (enc : TypeId × Value → H) :
    ReturnsInHanded {} Tryd.checked os 4 .any (fun w args => (Rows.registrationFullSpec.pre enc Tryd.prog Tryd.f4 Rows.registrationFullRow.domain false w args ∧ laidMetH Tryd.prog Rows.registrationFullRow.laid w) ∧ sizedMet enc Tryd.prog Tryd.f4 (OpenSpec.ofChange Rows.registrationFullSpec) false w args) (Rows.registrationFullSpec.post enc Tryd.prog Tryd.f4 false true false false) :=
  Fw.lift_law_laid (C := Tryd.checked) (TT := Fw.tt) own started (by kernel_rfl) Tryd.func4
    (ChangeSpec.witness_shaped (enc := enc) (C := Tryd.checked) (os := os) (X := fun w _ => laidMetH Tryd.prog Rows.registrationFullRow.laid w) false (World.doorLaid Tryd.prog 14 os) #[.int .i64 0, .int .u8 0] 8 rfl (World.shaped_of_RefB (by kernel_rfl) (by kernel_rfl)) (by kernel_rfl) (by kernel_rfl) (by kernel_rfl) (door_met os _))
    (by kernel_rfl) rfl spec rfl Tryd.underlying4 (by kernel_rfl) Fw.ttok 8 (by kernel_rfl) (fun W h => Fw.laid_glob W h) (by kernel_rfl) con
theorem over : Rows.registrationFullRow.holds Tryd.pinned (OpenSpec.ofChange Rows.registrationFullSpec) :=
  OpenClaim.holds_of_wide 4 Tryd.f4 rfl rfl rfl rfl rfl rfl rfl ⟨rfl, rfl, rfl, rfl, rfl⟩ rfl rfl rfl rfl rfl (by kernel_rfl) Tryd.func4 (by kernel_rfl)
    (of_decide_eq_true (by kernel_rfl)) (by unfold Func.isWrapper; first | (rw [if_pos (by decide +kernel)]; kernel_rfl) | (rw [if_neg (by decide +kernel)]; exact ⟨rfl, rfl⟩))
    (fun os started H enc _ => lifted os started H enc)
/-- THE STATEMENT: the tied card -/
theorem proved : Rows.RegistrationFullCardSaid :=
  Claim7.holds_tied_plain_at .later [] [.data] true (true, "3beca1cc248b73409f9910b904e75342a76114bdd891acd0089a88d1f2af0e4d") false
    over (fun _ h => by cases h) (by kernel_rfl) (fun _ h => by cases h) registrationFull_row_tie rfl ⟨rfl, rfl⟩ (by kernel_rfl) rfl
    (fun f fn hf hfn => by
      obtain rfl : f = 4 := (Option.some.inj ((show Tryd.prog.funcNamed "multihop/multihoplaw21.RegistrationFull" = some 4 by kernel_rfl).symm.trans hf)).symm
      obtain rfl : fn = Tryd.f4 := (Option.some.inj (Tryd.func4.symm.trans hfn)).symm
      exact ⟨by kernel_rfl, fun j t ht => by
        have hm : t ∈ Tryd.f4.params.toList := by simpa using Array.mem_of_getElem? ht
        have hall : (Tryd.f4.params.toList.all fun u => !Tryd.prog.wantsStandIn u) = true := by kernel_rfl
        exact (show Tryd.prog.wantsStandIn t = false by simpa using List.all_eq_true.1 hall t hm)⟩)
    (by kernel_rfl)
#print axioms proved
end Go.Proofs.YtlddbblbjddckaaDoor.registrationFull

