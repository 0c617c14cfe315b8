/- RequestsForms is true at every list, tape, time, destination, number, hops, node and distance: the walks, and the given form. -/
import Derived.Test.YtbbmobmnijljgaaRows
import Derived.Test.YtbbmobmnijljgaaReqH
namespace Go.Proofs.Ytbbmobmnijljgaa.requestsForms
open Go.ChangeShapes Go.WideShapes Go.ChangeAt Go.RowKit
theorem own : ownKnob Try.prog.godebug = none := by kernel_rfl
theorem con : ∀ svs, Fw.ShpL Try.prog Fw.tt 8 Try.f6.params.toList svs → Fw.Con Try.prog 6 svs [] (.v (.bool true)) [] := by
  intro svs hsh
  rcases svs with _ | ⟨s0, svs⟩
  · exact hsh.elim
  obtain ⟨h0, hsh⟩ := hsh
  rcases svs with _ | ⟨s1, svs⟩
  · exact hsh.elim
  obtain ⟨h1, hsh⟩ := hsh
  rcases svs with _ | ⟨s2, svs⟩
  · exact hsh.elim
  obtain ⟨h2, hsh⟩ := hsh
  rcases svs with _ | ⟨s3, svs⟩
  · exact hsh.elim
  obtain ⟨h3, hsh⟩ := hsh
  rcases svs with _ | ⟨s4, svs⟩
  · exact hsh.elim
  obtain ⟨h4, hsh⟩ := hsh
  rcases svs with _ | ⟨s5, svs⟩
  · exact hsh.elim
  obtain ⟨h5, hsh⟩ := hsh
  rcases svs with _ | ⟨s6, svs⟩
  · exact hsh.elim
  obtain ⟨h6, hsh⟩ := hsh
  rcases svs with _ | ⟨s7, svs⟩
  · exact hsh.elim
  obtain ⟨h7, hsh⟩ := hsh
  rcases svs with _ | ⟨s, svs⟩
  case cons => exact hsh.elim
  obtain ⟨l, rfl, hl⟩ := Fw.shp_reqs h0
  obtain ⟨m, rfl, _⟩ := Fw.shp_ints h1
  obtain ⟨n, rfl, _⟩ := Fw.shp_int rfl h2
  obtain ⟨t, rfl⟩ := Fw.shp_dst h3
  obtain ⟨q, rfl, hq⟩ := Fw.shp_u16 rfl h4
  obtain ⟨a, rfl, _⟩ := Fw.shp_int rfl h5
  obtain ⟨b, rfl⟩ := Fw.shp_any rfl h6
  obtain ⟨d, rfl⟩ := Fw.shp_dis h7
  exact Fw.k_RequestsForms l m n t q a b d hl hq
theorem spec {H : Type} (ds : List (DataW H)) (h : ds.length = Try.f6.params.size) : (Rows.requestsFormsSpec.fn H ds).results = [.lit (.bool true)] ∧ (Rows.requestsFormsSpec.fn H ds).args = ds ∧ (Rows.requestsFormsSpec.fn H ds).vars = [] := by
  have hp : Try.f6.params.size = 8 := rfl
  rcases ds with _ | ⟨d0, ds⟩
  · simp [hp] at h
  rcases ds with _ | ⟨d1, ds⟩
  · simp [hp] at h
  rcases ds with _ | ⟨d2, ds⟩
  · simp [hp] at h
  rcases ds with _ | ⟨d3, ds⟩
  · simp [hp] at h
  rcases ds with _ | ⟨d4, ds⟩
  · simp [hp] at h
  rcases ds with _ | ⟨d5, ds⟩
  · simp [hp] at h
  rcases ds with _ | ⟨d6, ds⟩
  · simp [hp] at h
  rcases ds with _ | ⟨d7, ds⟩
  · simp [hp] at h
  rcases ds with _ | ⟨d, ds⟩
  case cons => simp [hp] at h
  exact ⟨rfl, rfl, rfl⟩
theorem lifted (os : Os) (started : os.Started) (H : Type) (enc : TypeId × Value → H) :
    ReturnsInHanded {} Try.checked os 6 .any (Rows.requestsFormsSpec.pre6 enc Try.prog Try.f6 Rows.requestsFormsRow.domain false) (Rows.requestsFormsSpec.post enc Try.prog Try.f6 false true false false) :=
  Fw.lift_law (C := Try.checked) (TT := Fw.tt) own started (by kernel_rfl) Try.func6
    (ChangeSpec.witness6 (enc := enc) (C := Try.checked) false ⟨#[], #[.slice none 0 0, .slice none 0 0, .int .i64 0, .agg #[.int .u8 0, .int .u8 0, .int .u8 0, .int .u8 0, .int .u8 0, .int .u8 0, .int .u8 0, .int .u8 0, .int .u8 0, .int .u8 0, .int .u8 0, .int .u8 0, .int .u8 0, .int .u8 0, .int .u8 0, .int .u8 0, .int .i64 0, .int .u8 0, .int .u8 0, .int .u8 0, .int .u8 0, .int .u8 0, .int .u8 0, .int .u8 0, .int .u8 0, .int .u8 0, .int .u8 0, .int .u8 0, .int .u8 0, .int .u8 0, .int .u8 0, .int .u8 0, .int .u8 0, .int .i64 0, .int .u64 0], .int .u16 0, .int .i64 0, .int .u64 0, .agg #[.int .u16 0, .int .i64 0]], []⟩ 8 (by kernel_rfl) (by kernel_rfl) (by kernel_rfl) (by kernel_rfl))
    (by kernel_rfl) rfl spec rfl Try.underlying4 (by kernel_rfl) Fw.ttok 8 (by kernel_rfl) (fun _ => rfl) (by kernel_rfl) con
theorem over : Rows.requestsFormsRow.holds Try.pinned (OpenSpec.ofChange Rows.requestsFormsSpec) :=
  OpenClaim.holds_of_wide 6 Try.f6 rfl rfl rfl rfl rfl rfl rfl ⟨rfl, rfl, rfl, rfl, rfl⟩ rfl rfl rfl rfl rfl (by kernel_rfl) Try.func6 (by kernel_rfl)
    (of_decide_eq_true (by kernel_rfl)) (by unfold Func.isWrapper; first | (rw [if_pos (by decide +kernel)]; kernel_rfl) | (rw [if_neg (by decide +kernel)]; exact ⟨rfl, rfl⟩))
    (fun os started H enc _ => lifted os started H enc)
/-- THE STATEMENT -/
theorem proved : Rows.RequestsFormsSaid :=
  over
#print axioms proved
end Go.Proofs.Ytbbmobmnijljgaa.requestsForms

