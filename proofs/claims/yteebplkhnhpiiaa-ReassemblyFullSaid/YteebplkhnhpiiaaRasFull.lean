/- ReassemblyFull is true at every number: the walks, and the given form. -/
import Derived.Test.YteebplkhnhpiiaaRows
import Derived.Test.YteebplkhnhpiiaaRasQ
namespace Go.Proofs.Yteebplkhnhpiiaa.reassemblyFull
open Go.ChangeShapes Go.WideShapes Go.ChangeAt Go.RowKit
theorem own : ownKnob Try.prog.godebug = none := by kernel_rfl
theorem con : ∀ svs, Fw.ShpL Try.prog Fw.tt 8 Try.f8.params.toList svs → Fw.Con Try.prog 8 svs [] (.v (.bool true)) [] := by
  intro svs hsh
  rcases svs with _ | ⟨s0, svs⟩
  · exact hsh.elim
  obtain ⟨h0, hsh⟩ := hsh
  rcases svs with _ | ⟨s, svs⟩
  case cons => exact hsh.elim
  obtain ⟨n, rfl, _⟩ := Fw.shp_int rfl h0
  exact Fw.k_ReassemblyFull n
theorem spec {H : Type} (ds : List (DataW H)) (h : ds.length = Try.f8.params.size) : (Rows.reassemblyFullSpec.fn H ds).results = [.lit (.bool true)] ∧ (Rows.reassemblyFullSpec.fn H ds).args = ds ∧ (Rows.reassemblyFullSpec.fn H ds).vars = [] := by
  have hp : Try.f8.params.size = 1 := rfl
  rcases ds with _ | ⟨d0, ds⟩
  · simp [hp] at h
  rcases ds with _ | ⟨d, ds⟩
  case cons => simp [hp] at h
  exact ⟨rfl, rfl, rfl⟩
theorem lifted (os : Os) (started : os.Started) (H : Type) (enc : TypeId × Value → H) :
    ReturnsInHanded {} Try.checked os 8 .any (Rows.reassemblyFullSpec.pre6 enc Try.prog Try.f8 Rows.reassemblyFullRow.domain false) (Rows.reassemblyFullSpec.post enc Try.prog Try.f8 false true false false) :=
  Fw.lift_law (C := Try.checked) (TT := Fw.tt) own started (by kernel_rfl) Try.func8
    (ChangeSpec.witness6 (enc := enc) (C := Try.checked) false ⟨#[], #[.int .i64 0], []⟩ 8 (by kernel_rfl) (by kernel_rfl) (by kernel_rfl) (by kernel_rfl))
    (by kernel_rfl) rfl spec rfl Try.underlying4 (by kernel_rfl) Fw.ttok 8 (by kernel_rfl) (fun _ => rfl) (by kernel_rfl) con
theorem over : Rows.reassemblyFullRow.holds Try.pinned (OpenSpec.ofChange Rows.reassemblyFullSpec) :=
  OpenClaim.holds_of_wide 8 Try.f8 rfl rfl rfl rfl rfl rfl rfl ⟨rfl, rfl, rfl, rfl, rfl⟩ rfl rfl rfl rfl rfl (by kernel_rfl) Try.func8 (by kernel_rfl)
    (of_decide_eq_true (by kernel_rfl)) (by unfold Func.isWrapper; first | (rw [if_pos (by decide +kernel)]; kernel_rfl) | (rw [if_neg (by decide +kernel)]; exact ⟨rfl, rfl⟩))
    (fun os started H enc _ => lifted os started H enc)
/-- THE STATEMENT -/
theorem proved : Rows.ReassemblyFullSaid :=
  over
#print axioms proved
end Go.Proofs.Yteebplkhnhpiiaa.reassemblyFull

