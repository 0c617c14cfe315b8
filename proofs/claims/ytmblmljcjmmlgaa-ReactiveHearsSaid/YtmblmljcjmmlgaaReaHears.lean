/- ReactiveHears is true at every state, list, time, neighbour, cost and message: the walks, and the given form. -/
import Derived.Test.YtmblmljcjmmlgaaRows
import Derived.Test.YtmblmljcjmmlgaaReaS
namespace Go.Proofs.Ytmblmljcjmmlgaa.reactiveHears
open Go.ChangeShapes Go.WideShapes Go.ChangeAt Go.RowKit
theorem own : ownKnob Try.prog.godebug = none := by kernel_rfl
theorem con : ∀ svs, Fw.ShpL Try.prog Fw.tt 8 Try.f4.params.toList svs → Fw.Con Try.prog 4 svs [] (.v (.bool true)) [] := by
  intro svs hsh
  rcases svs with _ | ⟨s0, svs⟩
  · exact hsh.elim
  obtain ⟨h0, hsh⟩ := hsh
  rcases svs with _ | ⟨s1, svs⟩
  · exact hsh.elim
  obtain ⟨h1, hsh⟩ := hsh
  rcases svs with _ | ⟨s2, svs⟩
  · exact hsh.elim
  obtain ⟨h2, hsh⟩ := hsh
  rcases svs with _ | ⟨s3, svs⟩
  · exact hsh.elim
  obtain ⟨h3, hsh⟩ := hsh
  rcases svs with _ | ⟨s4, svs⟩
  · exact hsh.elim
  obtain ⟨h4, hsh⟩ := hsh
  rcases svs with _ | ⟨s5, svs⟩
  · exact hsh.elim
  obtain ⟨h5, hsh⟩ := hsh
  rcases svs with _ | ⟨s, svs⟩
  case cons => exact hsh.elim
  obtain ⟨r, rfl, hr⟩ := Fw.shp_rea (d := 3) h0
  obtain ⟨l, rfl, _⟩ := Fw.shp_ints h1
  obtain ⟨n, rfl, _⟩ := Fw.shp_int rfl h2
  obtain ⟨f, rfl, _⟩ := Fw.shp_u64 rfl h3
  obtain ⟨c, rfl, _⟩ := Fw.shp_int rfl h4
  obtain ⟨m, rfl, hm⟩ := Fw.shp_msg (d := 6) h5
  exact Fw.k_ReactiveHears r l n f c m hr hm
theorem spec {H : Type} (ds : List (DataW H)) (h : ds.length = Try.f4.params.size) : (Rows.reactiveHearsSpec.fn H ds).results = [.lit (.bool true)] ∧ (Rows.reactiveHearsSpec.fn H ds).args = ds ∧ (Rows.reactiveHearsSpec.fn H ds).vars = [] := by
  have hp : Try.f4.params.size = 6 := rfl
  rcases ds with _ | ⟨d0, ds⟩
  · simp [hp] at h
  rcases ds with _ | ⟨d1, ds⟩
  · simp [hp] at h
  rcases ds with _ | ⟨d2, ds⟩
  · simp [hp] at h
  rcases ds with _ | ⟨d3, ds⟩
  · simp [hp] at h
  rcases ds with _ | ⟨d4, ds⟩
  · simp [hp] at h
  rcases ds with _ | ⟨d5, ds⟩
  · simp [hp] at h
  rcases ds with _ | ⟨d, ds⟩
  case cons => simp [hp] at h
  exact ⟨rfl, rfl, rfl⟩
theorem lifted (os : Os) (started : os.Started) (H : Type) (enc : TypeId × Value → H) :
    ReturnsInHanded {} Try.checked os 4 .any (Rows.reactiveHearsSpec.pre6 enc Try.prog Try.f4 Rows.reactiveHearsRow.domain false) (Rows.reactiveHearsSpec.post enc Try.prog Try.f4 false true false false) :=
  Fw.lift_law (C := Try.checked) (TT := Fw.tt) own started (by kernel_rfl) Try.func4
    (ChangeSpec.witness6 (enc := enc) (C := Try.checked) false ⟨#[], #[.agg #[.int .u64 0, .int .u16 0, .slice none 0 0, .slice none 0 0, .slice none 0 0], .slice none 0 0, .int .i64 0, .int .u64 0, .int .i64 0, .agg #[.int .i64 0, .int .u64 0, .int .u64 0, .int .u16 0, .int .u16 0, .bool false, .int .i64 0, .int .i64 0]], []⟩ 8 (by kernel_rfl) (by kernel_rfl) (by kernel_rfl) (by kernel_rfl))
    (by kernel_rfl) rfl spec rfl Try.underlying4 (by kernel_rfl) Fw.ttok 8 (by kernel_rfl) (fun _ => rfl) (by kernel_rfl) con
theorem over : Rows.reactiveHearsRow.holds Try.pinned (OpenSpec.ofChange Rows.reactiveHearsSpec) :=
  OpenClaim.holds_of_wide 4 Try.f4 rfl rfl rfl rfl rfl rfl rfl ⟨rfl, rfl, rfl, rfl, rfl⟩ rfl rfl rfl rfl rfl (by kernel_rfl) Try.func4 (by kernel_rfl)
    (of_decide_eq_true (by kernel_rfl)) (by unfold Func.isWrapper; first | (rw [if_pos (by decide +kernel)]; kernel_rfl) | (rw [if_neg (by decide +kernel)]; exact ⟨rfl, rfl⟩))
    (fun os started H enc _ => lifted os started H enc)
/-- THE STATEMENT -/
theorem proved : Rows.ReactiveHearsSaid :=
  over
#print axioms proved
end Go.Proofs.Ytmblmljcjmmlgaa.reactiveHears

