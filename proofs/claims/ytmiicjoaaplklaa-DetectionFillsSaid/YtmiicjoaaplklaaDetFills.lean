/- DetectionFills is true at every number and owner: the walks, and the given form. -/
import Derived.Test.YtmiicjoaaplklaaRows
import Derived.Test.YtmiicjoaaplklaaDetT
namespace Go.Proofs.Ytmiicjoaaplklaa.detectionFills
open Go.ChangeShapes Go.WideShapes Go.ChangeAt Go.RowKit
theorem own : ownKnob Try.prog.godebug = none := by kernel_rfl
theorem con : ∀ svs, Fw.ShpL Try.prog Fw.tt 8 Try.f9.params.toList svs → Fw.Con Try.prog 9 svs [] (.v (.bool true)) [] := by
  intro svs hsh
  rcases svs with _ | ⟨s0, svs⟩
  · exact hsh.elim
  obtain ⟨h0, hsh⟩ := hsh
  rcases svs with _ | ⟨s1, svs⟩
  · exact hsh.elim
  obtain ⟨h1, hsh⟩ := hsh
  rcases svs with _ | ⟨s, svs⟩
  case cons => exact hsh.elim
  obtain ⟨n, rfl, _⟩ := Fw.shp_int rfl h0
  obtain ⟨e, rfl⟩ := Fw.shp_u64 rfl h1
  exact Fw.k_DetectionFills n e
theorem spec {H : Type} (ds : List (DataW H)) (h : ds.length = Try.f9.params.size) : (Rows.detectionFillsSpec.fn H ds).results = [.lit (.bool true)] ∧ (Rows.detectionFillsSpec.fn H ds).args = ds ∧ (Rows.detectionFillsSpec.fn H ds).vars = [] := by
  have hp : Try.f9.params.size = 2 := rfl
  rcases ds with _ | ⟨d0, ds⟩
  · simp [hp] at h
  rcases ds with _ | ⟨d1, ds⟩
  · simp [hp] at h
  rcases ds with _ | ⟨d, ds⟩
  case cons => simp [hp] at h
  exact ⟨rfl, rfl, rfl⟩
theorem lifted (os : Os) (started : os.Started) (H : Type) (enc : TypeId × Value → H) :
    ReturnsInHanded {} Try.checked os 9 .any (Rows.detectionFillsSpec.pre6 enc Try.prog Try.f9 Rows.detectionFillsRow.domain false) (Rows.detectionFillsSpec.post enc Try.prog Try.f9 false true false false) :=
  Fw.lift_law (C := Try.checked) (TT := Fw.tt) own started (by kernel_rfl) Try.func9
    (ChangeSpec.witness6 (enc := enc) (C := Try.checked) false ⟨#[], #[.int .i64 0, .int .u64 0], []⟩ 8 (by kernel_rfl) (by kernel_rfl) (by kernel_rfl) (by kernel_rfl))
    (by kernel_rfl) rfl spec rfl Try.underlying4 (by kernel_rfl) Fw.ttok 8 (by kernel_rfl) (fun _ => rfl) (by kernel_rfl) con
theorem over : Rows.detectionFillsRow.holds Try.pinned (OpenSpec.ofChange Rows.detectionFillsSpec) :=
  OpenClaim.holds_of_wide 9 Try.f9 rfl rfl rfl rfl rfl rfl rfl ⟨rfl, rfl, rfl, rfl, rfl⟩ rfl rfl rfl rfl rfl (by kernel_rfl) Try.func9 (by kernel_rfl)
    (of_decide_eq_true (by kernel_rfl)) (by unfold Func.isWrapper; first | (rw [if_pos (by decide +kernel)]; kernel_rfl) | (rw [if_neg (by decide +kernel)]; exact ⟨rfl, rfl⟩))
    (fun os started H enc _ => lifted os started H enc)
/-- THE STATEMENT -/
theorem proved : Rows.DetectionFillsSaid :=
  over
#print axioms proved
end Go.Proofs.Ytmiicjoaaplklaa.detectionFills

