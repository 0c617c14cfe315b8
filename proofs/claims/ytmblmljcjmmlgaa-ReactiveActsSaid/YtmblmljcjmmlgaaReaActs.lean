/- ReactiveActs is true at every state, list, time and node: the walks, and the given form. -/
import Derived.Test.YtmblmljcjmmlgaaRows
import Derived.Test.YtmblmljcjmmlgaaReaS
namespace Go.Proofs.Ytmblmljcjmmlgaa.reactiveActs
open Go.ChangeShapes Go.WideShapes Go.ChangeAt Go.RowKit
theorem own : ownKnob Try.prog.godebug = none := by kernel_rfl
theorem con : ∀ svs, Fw.ShpL Try.prog Fw.tt 8 Try.f8.params.toList svs → Fw.Con Try.prog 8 svs [] (.v (.bool true)) [] := by
  intro svs hsh
  rcases svs with _ | ⟨s0, svs⟩
  · exact hsh.elim
  obtain ⟨h0, hsh⟩ := hsh
  rcases svs with _ | ⟨s1, svs⟩
  · exact hsh.elim
  obtain ⟨h1, hsh⟩ := hsh
  rcases svs with _ | ⟨s2, svs⟩
  · exact hsh.elim
  obtain ⟨h2, hsh⟩ := hsh
  rcases svs with _ | ⟨s3, svs⟩
  · exact hsh.elim
  obtain ⟨h3, hsh⟩ := hsh
  rcases svs with _ | ⟨s, svs⟩
  case cons => exact hsh.elim
  obtain ⟨r, rfl, hr⟩ := Fw.shp_rea (d := 3) h0
  obtain ⟨l, rfl, _⟩ := Fw.shp_ints h1
  obtain ⟨n, rfl, _⟩ := Fw.shp_int rfl h2
  obtain ⟨k, rfl, hk⟩ := Fw.shp_u64 rfl h3
  exact Fw.k_ReactiveActs r l n k hr hk
theorem spec {H : Type} (ds : List (DataW H)) (h : ds.length = Try.f8.params.size) : (Rows.reactiveActsSpec.fn H ds).results = [.lit (.bool true)] ∧ (Rows.reactiveActsSpec.fn H ds).args = ds ∧ (Rows.reactiveActsSpec.fn H ds).vars = [] := by
  have hp : Try.f8.params.size = 4 := rfl
  rcases ds with _ | ⟨d0, ds⟩
  · simp [hp] at h
  rcases ds with _ | ⟨d1, ds⟩
  · simp [hp] at h
  rcases ds with _ | ⟨d2, ds⟩
  · simp [hp] at h
  rcases ds with _ | ⟨d3, ds⟩
  · simp [hp] at h
  rcases ds with _ | ⟨d, ds⟩
  case cons => simp [hp] at h
  exact ⟨rfl, rfl, rfl⟩
theorem lifted (os : Os) (started : os.Started) (H : Type) (enc : TypeId × Value → H) :
    ReturnsInHanded {} Try.checked os 8 .any (Rows.reactiveActsSpec.pre6 enc Try.prog Try.f8 Rows.reactiveActsRow.domain false) (Rows.reactiveActsSpec.post enc Try.prog Try.f8 false true false false) :=
  Fw.lift_law (C := Try.checked) (TT := Fw.tt) own started (by kernel_rfl) Try.func8
    (ChangeSpec.witness6 (enc := enc) (C := Try.checked) false ⟨#[], #[.agg #[.int .u64 0, .int .u16 0, .slice none 0 0, .slice none 0 0, .slice none 0 0], .slice none 0 0, .int .i64 0, .int .u64 0], []⟩ 8 (by kernel_rfl) (by kernel_rfl) (by kernel_rfl) (by kernel_rfl))
    (by kernel_rfl) rfl spec rfl Try.underlying4 (by kernel_rfl) Fw.ttok 8 (by kernel_rfl) (fun _ => rfl) (by kernel_rfl) con
theorem over : Rows.reactiveActsRow.holds Try.pinned (OpenSpec.ofChange Rows.reactiveActsSpec) :=
  OpenClaim.holds_of_wide 8 Try.f8 rfl rfl rfl rfl rfl rfl rfl ⟨rfl, rfl, rfl, rfl, rfl⟩ rfl rfl rfl rfl rfl (by kernel_rfl) Try.func8 (by kernel_rfl)
    (of_decide_eq_true (by kernel_rfl)) (by unfold Func.isWrapper; first | (rw [if_pos (by decide +kernel)]; kernel_rfl) | (rw [if_neg (by decide +kernel)]; exact ⟨rfl, rfl⟩))
    (fun os started H enc _ => lifted os started H enc)
/-- THE STATEMENT -/
theorem proved : Rows.ReactiveActsSaid :=
  over
#print axioms proved
end Go.Proofs.Ytmblmljcjmmlgaa.reactiveActs

