/- RegistrationForms is true at every table, address, owner, link, time and tape: the walks, and the tied card. -/
import Derived.Test.YtlddbblbjddckaaDoorTie
import Derived.Test.YtlddbblbjddckaaDoorCards
import Derived.Test.YtlddbblbjddckaaDoorRegO
import Derived.Test.YtlddbblbjddckaaDoorRegLnk
import Derived.LaidMore
import Derived.OpenShut
namespace Go.Proofs.YtlddbblbjddckaaDoor.registrationForms
open Go.ChangeShapes Go.WideShapes Go.ChangeAt Go.RowKit
theorem own : ownKnob Tryd.prog.godebug = none := by kernel_rfl
theorem con : ∀ svs, Fw.ShpL Tryd.prog Fw.tt 8 Tryd.f9.params.toList svs → Fw.Con Tryd.prog 9 svs [] (.v (.bool true)) [] := by
  intro svs hsh
  rcases svs with _ | ⟨s0, svs⟩
  · exact hsh.elim
  obtain ⟨h0, hsh⟩ := hsh
  rcases svs with _ | ⟨s1, svs⟩
  · exact hsh.elim
  obtain ⟨h1, hsh⟩ := hsh
  rcases svs with _ | ⟨s2, svs⟩
  · exact hsh.elim
  obtain ⟨h2, hsh⟩ := hsh
  rcases svs with _ | ⟨s3, svs⟩
  · exact hsh.elim
  obtain ⟨h3, hsh⟩ := hsh
  rcases svs with _ | ⟨s4, svs⟩
  · exact hsh.elim
  obtain ⟨h4, hsh⟩ := hsh
  rcases svs with _ | ⟨s5, svs⟩
  · exact hsh.elim
  obtain ⟨h5, hsh⟩ := hsh
  rcases svs with _ | ⟨s, svs⟩
  case cons => exact hsh.elim
  obtain ⟨l, rfl, hl, hq⟩ := Fw.shp_regs h0
  obtain ⟨a, rfl⟩ := Fw.shp_ip h1
  obtain ⟨o, rfl, ho, _⟩ := Fw.shp_own h2
  obtain ⟨k, rfl⟩ := Fw.shp_adr h3
  obtain ⟨n, rfl, _⟩ := Fw.shp_int rfl h4
  obtain ⟨t, rfl, _⟩ := Fw.shp_ints h5
  exact Fw.k_RegistrationForms l a o k n t hl hq ho
theorem spec {H : Type} (ds : List (DataW H)) (h : ds.length = Tryd.f9.params.size) : (Rows.registrationFormsSpec.fn H ds).results = [.lit (.bool true)] ∧ (Rows.registrationFormsSpec.fn H ds).args = ds ∧ (Rows.registrationFormsSpec.fn H ds).vars = [] := by
  have hp : Tryd.f9.params.size = 6 := rfl
  rcases ds with _ | ⟨d0, ds⟩
  · simp [hp] at h
  rcases ds with _ | ⟨d1, ds⟩
  · simp [hp] at h
  rcases ds with _ | ⟨d2, ds⟩
  · simp [hp] at h
  rcases ds with _ | ⟨d3, ds⟩
  · simp [hp] at h
  rcases ds with _ | ⟨d4, ds⟩
  · simp [hp] at h
  rcases ds with _ | ⟨d5, ds⟩
  · simp [hp] at h
  rcases ds with _ | ⟨d, ds⟩
  case cons => simp [hp] at h
  exact ⟨rfl, rfl, rfl⟩
theorem door_met (os : Os) (args : Array Value) : laidMetH Tryd.prog Rows.registrationFormsRow.laid ((World.doorLaid Tryd.prog 14 os).forCall (fun _ _ => 0) ⟨#[], args, []⟩).memory :=
  laidMetH_of_parts3 (fuel := 8) (laidMet_of_run' 8 (by kernel_rfl) (by kernel_rfl)) (by kernel_rfl) (by kernel_rfl)
set_option maxRecDepth 100000 in
theorem lifted (os : Os) (started : os.Started) (H : Type) (enc : TypeId × Value → H) :
    ReturnsInHanded {} Tryd.checked os 9 .any (fun w args => (Rows.registrationFormsSpec.pre enc Tryd.prog Tryd.f9 Rows.registrationFormsRow.domain false w args ∧ laidMetH Tryd.prog Rows.registrationFormsRow.laid w) ∧ sizedMet enc Tryd.prog Tryd.f9 (OpenSpec.ofChange Rows.registrationFormsSpec) false w args) (Rows.registrationFormsSpec.post enc Tryd.prog Tryd.f9 false true false false) :=
  Fw.lift_law_laid (C := Tryd.checked) (TT := Fw.tt) own started (by kernel_rfl) Tryd.func9
    (ChangeSpec.witness_shaped (enc := enc) (C := Tryd.checked) (os := os) (X := fun w _ => laidMetH Tryd.prog Rows.registrationFormsRow.laid w) false (World.doorLaid Tryd.prog 14 os) #[.slice none 0 0, .agg #[.int .u8 0, .int .u8 0, .int .u8 0, .int .u8 0, .int .u8 0, .int .u8 0, .int .u8 0, .int .u8 0, .int .u8 0, .int .u8 0, .int .u8 0, .int .u8 0, .int .u8 0, .int .u8 0, .int .u8 0, .int .u8 0], .agg #[.int .u64 0, .int .u8 0, .int .u8 0, .int .u16 0], .agg #[.int .i64 0, .int .u16 0, .int .u64 0], .int .i64 0, .slice none 0 0] 8 rfl (World.shaped_of_RefB (by kernel_rfl) (by kernel_rfl)) (by kernel_rfl) (by kernel_rfl) (by kernel_rfl) (door_met os _))
    (by kernel_rfl) rfl spec rfl Tryd.underlying4 (by kernel_rfl) Fw.ttok 8 (by kernel_rfl) (fun W h => Fw.laid_glob W h) (by kernel_rfl) con
theorem over : Rows.registrationFormsRow.holds Tryd.pinned (OpenSpec.ofChange Rows.registrationFormsSpec) :=
  OpenClaim.holds_of_wide 9 Tryd.f9 rfl rfl rfl rfl rfl rfl rfl ⟨rfl, rfl, rfl, rfl, rfl⟩ rfl rfl rfl rfl rfl (by kernel_rfl) Tryd.func9 (by kernel_rfl)
    (of_decide_eq_true (by kernel_rfl)) (by unfold Func.isWrapper; first | (rw [if_pos (by decide +kernel)]; kernel_rfl) | (rw [if_neg (by decide +kernel)]; exact ⟨rfl, rfl⟩))
    (fun os started H enc _ => lifted os started H enc)
/-- THE STATEMENT: the tied card -/
theorem proved : Rows.RegistrationFormsCardSaid :=
  Claim7.holds_tied_plain_at .later [] [.data] true (true, "3beca1cc248b73409f9910b904e75342a76114bdd891acd0089a88d1f2af0e4d") false
    over (fun _ h => by cases h) (by kernel_rfl) (fun _ h => by cases h) registrationForms_row_tie rfl ⟨rfl, rfl⟩ (by kernel_rfl) rfl
    (fun f fn hf hfn => by
      obtain rfl : f = 9 := (Option.some.inj ((show Tryd.prog.funcNamed "multihop/multihoplaw21.RegistrationForms" = some 9 by kernel_rfl).symm.trans hf)).symm
      obtain rfl : fn = Tryd.f9 := (Option.some.inj (Tryd.func9.symm.trans hfn)).symm
      exact ⟨by kernel_rfl, fun j t ht => by
        have hm : t ∈ Tryd.f9.params.toList := by simpa using Array.mem_of_getElem? ht
        have hall : (Tryd.f9.params.toList.all fun u => !Tryd.prog.wantsStandIn u) = true := by kernel_rfl
        exact (show Tryd.prog.wantsStandIn t = false by simpa using List.all_eq_true.1 hall t hm)⟩)
    (by kernel_rfl)
#print axioms proved
end Go.Proofs.YtlddbblbjddckaaDoor.registrationForms

