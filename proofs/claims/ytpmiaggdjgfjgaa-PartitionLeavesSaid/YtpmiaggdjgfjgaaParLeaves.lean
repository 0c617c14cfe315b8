/- PartitionLeaves is true at every network, members and tape: the walks, and the given form. -/
import Derived.Test.YtpmiaggdjgfjgaaRows
import Derived.Test.YtpmiaggdjgfjgaaParS
namespace Go.Proofs.Ytpmiaggdjgfjgaa.partitionLeaves
open Go.ChangeShapes Go.WideShapes Go.ChangeAt Go.RowKit
theorem own : ownKnob Try.prog.godebug = none := by kernel_rfl
theorem con : ∀ svs, Fw.ShpL Try.prog Fw.tt 8 Try.f5.params.toList svs → Fw.Con Try.prog 5 svs [] (.v (.bool true)) [] := by
  intro svs hsh
  rcases svs with _ | ⟨s0, svs⟩
  · exact hsh.elim
  obtain ⟨h0, hsh⟩ := hsh
  rcases svs with _ | ⟨s1, svs⟩
  · exact hsh.elim
  obtain ⟨h1, hsh⟩ := hsh
  rcases svs with _ | ⟨s2, svs⟩
  · exact hsh.elim
  obtain ⟨h2, hsh⟩ := hsh
  rcases svs with _ | ⟨s, svs⟩
  case cons => exact hsh.elim
  obtain ⟨p, rfl, hp, hp1, hp2⟩ := Fw.shp_net (d := 4) h0
  obtain ⟨q, rfl, hq, hq1⟩ := Fw.shp_euis h1
  obtain ⟨l, rfl, _⟩ := Fw.shp_ints h2
  exact Fw.k_PartitionLeaves p q l hp ⟨hp1, hp2⟩ hq1
theorem spec {H : Type} (ds : List (DataW H)) (h : ds.length = Try.f5.params.size) : (Rows.partitionLeavesSpec.fn H ds).results = [.lit (.bool true)] ∧ (Rows.partitionLeavesSpec.fn H ds).args = ds ∧ (Rows.partitionLeavesSpec.fn H ds).vars = [] := by
  have hp : Try.f5.params.size = 3 := rfl
  rcases ds with _ | ⟨d0, ds⟩
  · simp [hp] at h
  rcases ds with _ | ⟨d1, ds⟩
  · simp [hp] at h
  rcases ds with _ | ⟨d2, ds⟩
  · simp [hp] at h
  rcases ds with _ | ⟨d, ds⟩
  case cons => simp [hp] at h
  exact ⟨rfl, rfl, rfl⟩
theorem lifted (os : Os) (started : os.Started) (H : Type) (enc : TypeId × Value → H) :
    ReturnsInHanded {} Try.checked os 5 .any (Rows.partitionLeavesSpec.pre6 enc Try.prog Try.f5 Rows.partitionLeavesRow.domain false) (Rows.partitionLeavesSpec.post enc Try.prog Try.f5 false true false false) :=
  Fw.lift_law (C := Try.checked) (TT := Fw.tt) own started (by kernel_rfl) Try.func5
    (ChangeSpec.witness6 (enc := enc) (C := Try.checked) false ⟨#[], #[.agg #[.int .i64 0, .int .u64 0, .slice none 0 0, .slice none 0 0], .slice none 0 0, .slice none 0 0], []⟩ 8 (by kernel_rfl) (by kernel_rfl) (by kernel_rfl) (by kernel_rfl))
    (by kernel_rfl) rfl spec rfl Try.underlying4 (by kernel_rfl) Fw.ttok 8 (by kernel_rfl) (fun _ => rfl) (by kernel_rfl) con
theorem over : Rows.partitionLeavesRow.holds Try.pinned (OpenSpec.ofChange Rows.partitionLeavesSpec) :=
  OpenClaim.holds_of_wide 5 Try.f5 rfl rfl rfl rfl rfl rfl rfl ⟨rfl, rfl, rfl, rfl, rfl⟩ rfl rfl rfl rfl rfl (by kernel_rfl) Try.func5 (by kernel_rfl)
    (of_decide_eq_true (by kernel_rfl)) (by unfold Func.isWrapper; first | (rw [if_pos (by decide +kernel)]; kernel_rfl) | (rw [if_neg (by decide +kernel)]; exact ⟨rfl, rfl⟩))
    (fun os started H enc _ => lifted os started H enc)
/-- THE STATEMENT -/
theorem proved : Rows.PartitionLeavesSaid :=
  over
#print axioms proved
end Go.Proofs.Ytpmiaggdjgfjgaa.partitionLeaves

