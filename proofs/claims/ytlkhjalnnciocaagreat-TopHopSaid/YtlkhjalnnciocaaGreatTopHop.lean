/- TopHop is true at every tape, order and time: the walks, and the given form. -/
import Derived.Test.YtlkhjalnnciocaaGreatRows
import Derived.Test.YtlkhjalnnciocaaGreatShpH
namespace Go.Proofs.YtlkhjalnnciocaaGreat.topHop
open Go.ChangeShapes Go.WideShapes Go.ChangeAt Go.RowKit
theorem own : ownKnob Tryz.prog.godebug = none := by kernel_rfl
theorem con : ∀ svs, Fw.ShpL Tryz.prog Fw.tt 8 Tryz.f7.params.toList svs → Fw.Con Tryz.prog 7 svs [] (.v (.bool true)) [] := by
  intro svs hsh
  rcases svs with _ | ⟨s0, svs⟩
  · exact hsh.elim
  obtain ⟨h0, hsh⟩ := hsh
  rcases svs with _ | ⟨s1, svs⟩
  · exact hsh.elim
  obtain ⟨h1, hsh⟩ := hsh
  rcases svs with _ | ⟨s2, svs⟩
  · exact hsh.elim
  obtain ⟨h2, hsh⟩ := hsh
  rcases svs with _ | ⟨s, svs⟩
  case cons => exact hsh.elim
  obtain ⟨l, rfl, _⟩ := Fw.shp_ints h0
  obtain ⟨o, rfl, _⟩ := Fw.shp_ints h1
  obtain ⟨n, rfl, _⟩ := Fw.shp_int rfl h2
  exact Fw.k_TopHop l o n
theorem spec {H : Type} (ds : List (DataW H)) (h : ds.length = Tryz.f7.params.size) : (Rows.topHopSpec.fn H ds).results = [.lit (.bool true)] ∧ (Rows.topHopSpec.fn H ds).args = ds ∧ (Rows.topHopSpec.fn H ds).vars = [] := by
  have hp : Tryz.f7.params.size = 3 := rfl
  rcases ds with _ | ⟨d0, ds⟩
  · simp [hp] at h
  rcases ds with _ | ⟨d1, ds⟩
  · simp [hp] at h
  rcases ds with _ | ⟨d2, ds⟩
  · simp [hp] at h
  rcases ds with _ | ⟨d, ds⟩
  case cons => simp [hp] at h
  exact ⟨rfl, rfl, rfl⟩
theorem lifted (os : Os) (started : os.Started) (H : Type) (enc : TypeId × Value → H) :
    ReturnsInHanded {} Tryz.checked os 7 .any (Rows.topHopSpec.pre6 enc Tryz.prog Tryz.f7 Rows.topHopRow.domain false) (Rows.topHopSpec.post enc Tryz.prog Tryz.f7 false true false false) :=
  Fw.lift_law (C := Tryz.checked) (TT := Fw.tt) own started (by kernel_rfl) Tryz.func7
    (ChangeSpec.witness6 (enc := enc) (C := Tryz.checked) false ⟨#[], #[.slice none 0 0, .slice none 0 0, .int .i64 0], []⟩ 8 (by kernel_rfl) (by kernel_rfl) (by kernel_rfl) (by kernel_rfl))
    (by kernel_rfl) rfl spec rfl Tryz.underlying4 (by kernel_rfl) Fw.ttok 8 (by kernel_rfl) (fun _ => rfl) (by kernel_rfl) con
theorem over : Rows.topHopRow.holds Tryz.pinned (OpenSpec.ofChange Rows.topHopSpec) :=
  OpenClaim.holds_of_wide 7 Tryz.f7 rfl rfl rfl rfl rfl rfl rfl ⟨rfl, rfl, rfl, rfl, rfl⟩ rfl rfl rfl rfl rfl (by kernel_rfl) Tryz.func7 (by kernel_rfl)
    (of_decide_eq_true (by kernel_rfl)) (by unfold Func.isWrapper; first | (rw [if_pos (by decide +kernel)]; kernel_rfl) | (rw [if_neg (by decide +kernel)]; exact ⟨rfl, rfl⟩))
    (fun os started H enc _ => lifted os started H enc)
/-- THE STATEMENT -/
theorem proved : Rows.TopHopSaid :=
  over
#print axioms proved
end Go.Proofs.YtlkhjalnnciocaaGreat.topHop
