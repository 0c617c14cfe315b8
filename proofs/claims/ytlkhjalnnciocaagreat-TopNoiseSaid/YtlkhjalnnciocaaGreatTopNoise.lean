/- TopNoise is true at every tape, place and pattern: the walks, and the given form. -/
import Derived.Test.YtlkhjalnnciocaaGreatRows
import Derived.Test.YtlkhjalnnciocaaGreatShpT
namespace Go.Proofs.YtlkhjalnnciocaaGreat.topNoise
open Go.ChangeShapes Go.WideShapes Go.ChangeAt Go.RowKit
theorem own : ownKnob Tryz.prog.godebug = none := by kernel_rfl
theorem con : ∀ svs, Fw.ShpL Tryz.prog Fw.tt 8 Tryz.f3.params.toList svs → Fw.Con Tryz.prog 3 svs [] (.v (.bool true)) [] := by
  intro svs hsh
  rcases svs with _ | ⟨s0, svs⟩
  · exact hsh.elim
  obtain ⟨h0, hsh⟩ := hsh
  rcases svs with _ | ⟨s1, svs⟩
  · exact hsh.elim
  obtain ⟨h1, hsh⟩ := hsh
  rcases svs with _ | ⟨s2, svs⟩
  · exact hsh.elim
  obtain ⟨h2, hsh⟩ := hsh
  rcases svs with _ | ⟨s, svs⟩
  case cons => exact hsh.elim
  obtain ⟨l, rfl, _⟩ := Fw.shp_ints h0
  obtain ⟨a, rfl, _⟩ := Fw.shp_int rfl h1
  obtain ⟨p, rfl, hp⟩ := Fw.shp_u16 rfl h2
  exact Fw.k_TopNoise l a p hp
theorem spec {H : Type} (ds : List (DataW H)) (h : ds.length = Tryz.f3.params.size) : (Rows.topNoiseSpec.fn H ds).results = [.lit (.bool true)] ∧ (Rows.topNoiseSpec.fn H ds).args = ds ∧ (Rows.topNoiseSpec.fn H ds).vars = [] := by
  have hp : Tryz.f3.params.size = 3 := rfl
  rcases ds with _ | ⟨d0, ds⟩
  · simp [hp] at h
  rcases ds with _ | ⟨d1, ds⟩
  · simp [hp] at h
  rcases ds with _ | ⟨d2, ds⟩
  · simp [hp] at h
  rcases ds with _ | ⟨d, ds⟩
  case cons => simp [hp] at h
  exact ⟨rfl, rfl, rfl⟩
theorem lifted (os : Os) (started : os.Started) (H : Type) (enc : TypeId × Value → H) :
    ReturnsInHanded {} Tryz.checked os 3 .any (Rows.topNoiseSpec.pre6 enc Tryz.prog Tryz.f3 Rows.topNoiseRow.domain false) (Rows.topNoiseSpec.post enc Tryz.prog Tryz.f3 false true false false) :=
  Fw.lift_law (C := Tryz.checked) (TT := Fw.tt) own started (by kernel_rfl) Tryz.func3
    (ChangeSpec.witness6 (enc := enc) (C := Tryz.checked) false ⟨#[], #[.slice none 0 0, .int .i64 0, .int .u16 0], []⟩ 8 (by kernel_rfl) (by kernel_rfl) (by kernel_rfl) (by kernel_rfl))
    (by kernel_rfl) rfl spec rfl Tryz.underlying4 (by kernel_rfl) Fw.ttok 8 (by kernel_rfl) (fun _ => rfl) (by kernel_rfl) con
theorem over : Rows.topNoiseRow.holds Tryz.pinned (OpenSpec.ofChange Rows.topNoiseSpec) :=
  OpenClaim.holds_of_wide 3 Tryz.f3 rfl rfl rfl rfl rfl rfl rfl ⟨rfl, rfl, rfl, rfl, rfl⟩ rfl rfl rfl rfl rfl (by kernel_rfl) Tryz.func3 (by kernel_rfl)
    (of_decide_eq_true (by kernel_rfl)) (by unfold Func.isWrapper; first | (rw [if_pos (by decide +kernel)]; kernel_rfl) | (rw [if_neg (by decide +kernel)]; exact ⟨rfl, rfl⟩))
    (fun os started H enc _ => lifted os started H enc)
/-- THE STATEMENT -/
theorem proved : Rows.TopNoiseSaid :=
  over
#print axioms proved
end Go.Proofs.YtlkhjalnnciocaaGreat.topNoise

