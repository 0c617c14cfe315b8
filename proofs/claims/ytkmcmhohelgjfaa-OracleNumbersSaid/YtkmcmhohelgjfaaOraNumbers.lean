/- OracleNumbers is true at every tape: the walks, and the given form. -/
import Derived.Test.YtkmcmhohelgjfaaRows
import Derived.Test.YtkmcmhohelgjfaaOraZ
namespace Go.Proofs.Ytkmcmhohelgjfaa.oracleNumbers
open Go.ChangeShapes Go.WideShapes Go.ChangeAt Go.RowKit
theorem own : ownKnob Try.prog.godebug = none := by kernel_rfl
theorem con : ∀ svs, Fw.ShpL Try.prog Fw.tt 8 Try.f7.params.toList svs → Fw.Con Try.prog 7 svs [] (.v (.bool true)) [] := by
  intro svs hsh
  rcases svs with _ | ⟨s0, svs⟩
  · exact hsh.elim
  obtain ⟨h0, hsh⟩ := hsh
  rcases svs with _ | ⟨s, svs⟩
  case cons => exact hsh.elim
  obtain ⟨l, rfl, _⟩ := Fw.shp_ints h0
  exact Fw.k_OracleNumbers l
theorem spec {H : Type} (ds : List (DataW H)) (h : ds.length = Try.f7.params.size) : (Rows.oracleNumbersSpec.fn H ds).results = [.lit (.bool true)] ∧ (Rows.oracleNumbersSpec.fn H ds).args = ds ∧ (Rows.oracleNumbersSpec.fn H ds).vars = [] := by
  have hp : Try.f7.params.size = 1 := rfl
  rcases ds with _ | ⟨d0, ds⟩
  · simp [hp] at h
  rcases ds with _ | ⟨d, ds⟩
  case cons => simp [hp] at h
  exact ⟨rfl, rfl, rfl⟩
theorem lifted (os : Os) (started : os.Started) (H : Type) (enc : TypeId × Value → H) :
    ReturnsInHanded {} Try.checked os 7 .any (Rows.oracleNumbersSpec.pre6 enc Try.prog Try.f7 Rows.oracleNumbersRow.domain false) (Rows.oracleNumbersSpec.post enc Try.prog Try.f7 false true false false) :=
  Fw.lift_law (C := Try.checked) (TT := Fw.tt) own started (by kernel_rfl) Try.func7
    (ChangeSpec.witness6 (enc := enc) (C := Try.checked) false ⟨#[], #[.slice none 0 0], []⟩ 8 (by kernel_rfl) (by kernel_rfl) (by kernel_rfl) (by kernel_rfl))
    (by kernel_rfl) rfl spec rfl Try.underlying4 (by kernel_rfl) Fw.ttok 8 (by kernel_rfl) (fun _ => rfl) (by kernel_rfl) con
theorem over : Rows.oracleNumbersRow.holds Try.pinned (OpenSpec.ofChange Rows.oracleNumbersSpec) :=
  OpenClaim.holds_of_wide 7 Try.f7 rfl rfl rfl rfl rfl rfl rfl ⟨rfl, rfl, rfl, rfl, rfl⟩ rfl rfl rfl rfl rfl (by kernel_rfl) Try.func7 (by kernel_rfl)
    (of_decide_eq_true (by kernel_rfl)) (by unfold Func.isWrapper; first | (rw [if_pos (by decide +kernel)]; kernel_rfl) | (rw [if_neg (by decide +kernel)]; exact ⟨rfl, rfl⟩))
    (fun os started H enc _ => lifted os started H enc)
/-- THE STATEMENT -/
theorem proved : Rows.OracleNumbersSaid :=
  over
#print axioms proved
end Go.Proofs.Ytkmcmhohelgjfaa.oracleNumbers

