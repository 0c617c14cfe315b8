/- ReactiveFinds is true at every tape and number: the walk, and the given form. -/
import Derived.Test.YtmblmljcjmmlgaaRows
import Derived.Test.YtmblmljcjmmlgaaFinF
namespace Go.Proofs.Ytmblmljcjmmlgaa.reactiveFinds
open Go.ChangeShapes Go.WideShapes Go.ChangeAt Go.RowKit
theorem own : ownKnob Try.prog.godebug = none := by kernel_rfl
theorem con : ∀ svs, Fw.ShpL Try.prog Fw.tt 8 Try.f5.params.toList svs → Fw.Con Try.prog 5 svs [] (.v (.bool true)) [] := by
  intro svs hsh
  rcases svs with _ | ⟨s0, svs⟩
  · exact hsh.elim
  obtain ⟨h0, hsh⟩ := hsh
  rcases svs with _ | ⟨s1, svs⟩
  · exact hsh.elim
  obtain ⟨h1, hsh⟩ := hsh
  rcases svs with _ | ⟨s, svs⟩
  case cons => exact hsh.elim
  obtain ⟨l, rfl, _⟩ := Fw.shp_ints h0
  obtain ⟨n, rfl, _⟩ := Fw.shp_int rfl h1
  exact Fw.Fnd.k_ReactiveFinds l n
theorem spec {H : Type} (ds : List (DataW H)) (h : ds.length = Try.f5.params.size) : (Rows.reactiveFindsSpec.fn H ds).results = [.lit (.bool true)] ∧ (Rows.reactiveFindsSpec.fn H ds).args = ds ∧ (Rows.reactiveFindsSpec.fn H ds).vars = [] := by
  have hp : Try.f5.params.size = 2 := rfl
  rcases ds with _ | ⟨d0, ds⟩
  · simp [hp] at h
  rcases ds with _ | ⟨d1, ds⟩
  · simp [hp] at h
  rcases ds with _ | ⟨d, ds⟩
  case cons => simp [hp] at h
  exact ⟨rfl, rfl, rfl⟩
theorem lifted (os : Os) (started : os.Started) (H : Type) (enc : TypeId × Value → H) :
    ReturnsInHanded {} Try.checked os 5 .any (Rows.reactiveFindsSpec.pre6 enc Try.prog Try.f5 Rows.reactiveFindsRow.domain false) (Rows.reactiveFindsSpec.post enc Try.prog Try.f5 false true false false) :=
  Fw.lift_law (C := Try.checked) (TT := Fw.tt) own started (by kernel_rfl) Try.func5
    (ChangeSpec.witness6 (enc := enc) (C := Try.checked) false ⟨#[], #[.slice none 0 0, .int .i64 0], []⟩ 8 (by kernel_rfl) (by kernel_rfl) (by kernel_rfl) (by kernel_rfl))
    (by kernel_rfl) rfl spec rfl Try.underlying4 (by kernel_rfl) Fw.ttok 8 (by kernel_rfl) (fun _ => rfl) (by kernel_rfl) con
theorem over : Rows.reactiveFindsRow.holds Try.pinned (OpenSpec.ofChange Rows.reactiveFindsSpec) :=
  OpenClaim.holds_of_wide 5 Try.f5 rfl rfl rfl rfl rfl rfl rfl ⟨rfl, rfl, rfl, rfl, rfl⟩ rfl rfl rfl rfl rfl (by kernel_rfl) Try.func5 (by kernel_rfl)
    (of_decide_eq_true (by kernel_rfl)) (by unfold Func.isWrapper; first | (rw [if_pos (by decide +kernel)]; kernel_rfl) | (rw [if_neg (by decide +kernel)]; exact ⟨rfl, rfl⟩))
    (fun os started H enc _ => lifted os started H enc)
/-- THE STATEMENT -/
theorem proved : Rows.ReactiveFindsSaid :=
  over
#print axioms proved
end Go.Proofs.Ytmblmljcjmmlgaa.reactiveFinds

