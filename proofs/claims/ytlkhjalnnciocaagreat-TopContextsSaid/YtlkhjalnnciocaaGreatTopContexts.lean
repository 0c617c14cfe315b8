/- TopContexts is true at every tape and lifetime: the walks, and the given form. -/
import Derived.Test.YtlkhjalnnciocaaGreatRows
import Derived.Test.YtlkhjalnnciocaaGreatShpC
namespace Go.Proofs.YtlkhjalnnciocaaGreat.topContexts
open Go.ChangeShapes Go.WideShapes Go.ChangeAt Go.RowKit
theorem own : ownKnob Tryz.prog.godebug = none := by kernel_rfl
theorem con : ∀ svs, Fw.ShpL Tryz.prog Fw.tt 8 Tryz.f6.params.toList svs → Fw.Con Tryz.prog 6 svs [] (.v (.bool true)) [] := by
  intro svs hsh
  rcases svs with _ | ⟨s0, svs⟩
  · exact hsh.elim
  obtain ⟨h0, hsh⟩ := hsh
  rcases svs with _ | ⟨s1, svs⟩
  · exact hsh.elim
  obtain ⟨h1, hsh⟩ := hsh
  rcases svs with _ | ⟨s, svs⟩
  case cons => exact hsh.elim
  obtain ⟨l, rfl, _⟩ := Fw.shp_ints h0
  obtain ⟨p, rfl, hp⟩ := Fw.shp_u16 rfl h1
  exact Fw.k_TopContexts l p hp
theorem spec {H : Type} (ds : List (DataW H)) (h : ds.length = Tryz.f6.params.size) : (Rows.topContextsSpec.fn H ds).results = [.lit (.bool true)] ∧ (Rows.topContextsSpec.fn H ds).args = ds ∧ (Rows.topContextsSpec.fn H ds).vars = [] := by
  have hp : Tryz.f6.params.size = 2 := rfl
  rcases ds with _ | ⟨d0, ds⟩
  · simp [hp] at h
  rcases ds with _ | ⟨d1, ds⟩
  · simp [hp] at h
  rcases ds with _ | ⟨d, ds⟩
  case cons => simp [hp] at h
  exact ⟨rfl, rfl, rfl⟩
theorem lifted (os : Os) (started : os.Started) (H : Type) (enc : TypeId × Value → H) :
    ReturnsInHanded {} Tryz.checked os 6 .any (Rows.topContextsSpec.pre6 enc Tryz.prog Tryz.f6 Rows.topContextsRow.domain false) (Rows.topContextsSpec.post enc Tryz.prog Tryz.f6 false true false false) :=
  Fw.lift_law (C := Tryz.checked) (TT := Fw.tt) own started (by kernel_rfl) Tryz.func6
    (ChangeSpec.witness6 (enc := enc) (C := Tryz.checked) false ⟨#[], #[.slice none 0 0, .int .u16 0], []⟩ 8 (by kernel_rfl) (by kernel_rfl) (by kernel_rfl) (by kernel_rfl))
    (by kernel_rfl) rfl spec rfl Tryz.underlying4 (by kernel_rfl) Fw.ttok 8 (by kernel_rfl) (fun _ => rfl) (by kernel_rfl) con
theorem over : Rows.topContextsRow.holds Tryz.pinned (OpenSpec.ofChange Rows.topContextsSpec) :=
  OpenClaim.holds_of_wide 6 Tryz.f6 rfl rfl rfl rfl rfl rfl rfl ⟨rfl, rfl, rfl, rfl, rfl⟩ rfl rfl rfl rfl rfl (by kernel_rfl) Tryz.func6 (by kernel_rfl)
    (of_decide_eq_true (by kernel_rfl)) (by unfold Func.isWrapper; first | (rw [if_pos (by decide +kernel)]; kernel_rfl) | (rw [if_neg (by decide +kernel)]; exact ⟨rfl, rfl⟩))
    (fun os started H enc _ => lifted os started H enc)
/-- THE STATEMENT -/
theorem proved : Rows.TopContextsSaid :=
  over
#print axioms proved
end Go.Proofs.YtlkhjalnnciocaaGreat.topContexts

