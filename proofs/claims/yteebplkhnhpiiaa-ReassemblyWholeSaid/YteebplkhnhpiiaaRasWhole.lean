/- ReassemblyWhole is true at every tape, numbers and order: the walks, and the given form. -/
import Derived.Test.YteebplkhnhpiiaaRows
import Derived.Test.YteebplkhnhpiiaaRasZ
namespace Go.Proofs.Yteebplkhnhpiiaa.reassemblyWhole
open Go.ChangeShapes Go.WideShapes Go.ChangeAt Go.RowKit
theorem own : ownKnob Try.prog.godebug = none := by kernel_rfl
theorem con : ∀ svs, Fw.ShpL Try.prog Fw.tt 8 Try.f5.params.toList svs → (∀ (j t e : Nat) (E : Nat) (tg : Fw.Tg) (rows : List Fw.SV), Try.f5.params.toList[j]? = some t → Try.prog.underlying t = some (.slice e) → svs[j]? = some (.fs tg E rows) → rows.length * Try.prog.bytesOf e ≤ reachBytes) → Fw.Con Try.prog 5 svs [] (.v (.bool true)) [] := by
  intro svs hsh hz
  rcases svs with _ | ⟨s0, svs⟩
  · exact hsh.elim
  obtain ⟨h0, hsh⟩ := hsh
  rcases svs with _ | ⟨s1, svs⟩
  · exact hsh.elim
  obtain ⟨h1, hsh⟩ := hsh
  rcases svs with _ | ⟨s2, svs⟩
  · exact hsh.elim
  obtain ⟨h2, hsh⟩ := hsh
  rcases svs with _ | ⟨s3, svs⟩
  · exact hsh.elim
  obtain ⟨h3, hsh⟩ := hsh
  rcases svs with _ | ⟨s, svs⟩
  case cons => exact hsh.elim
  obtain ⟨l, rfl, _⟩ := Fw.shp_ints h0
  obtain ⟨n, rfl, _⟩ := Fw.shp_int rfl h1
  obtain ⟨O, rfl, _⟩ := Fw.shp_ints h2
  obtain ⟨s, rfl, _⟩ := Fw.shp_int rfl h3
  have hO := hz 2 _ _ 1 .no (Fw.ints O) rfl Try.underlying32 rfl
  rw [Fw.ints_len, show Try.prog.bytesOf 3 = 8 by kernel_rfl] at hO
  exact Fw.k_ReassemblyWhole l n O s (by unfold reachBytes at hO; omega)
theorem spec {H : Type} (ds : List (DataW H)) (h : ds.length = Try.f5.params.size) : (Rows.reassemblyWholeSpec.fn H ds).results = [.lit (.bool true)] ∧ (Rows.reassemblyWholeSpec.fn H ds).args = ds ∧ (Rows.reassemblyWholeSpec.fn H ds).vars = [] := by
  have hp : Try.f5.params.size = 4 := rfl
  rcases ds with _ | ⟨d0, ds⟩
  · simp [hp] at h
  rcases ds with _ | ⟨d1, ds⟩
  · simp [hp] at h
  rcases ds with _ | ⟨d2, ds⟩
  · simp [hp] at h
  rcases ds with _ | ⟨d3, ds⟩
  · simp [hp] at h
  rcases ds with _ | ⟨d, ds⟩
  case cons => simp [hp] at h
  exact ⟨rfl, rfl, rfl⟩
theorem lifted (os : Os) (started : os.Started) (H : Type) (enc : TypeId × Value → H) :
    ReturnsInHanded {} Try.checked os 5 .any (Rows.reassemblyWholeSpec.pre6 enc Try.prog Try.f5 Rows.reassemblyWholeRow.domain false) (Rows.reassemblyWholeSpec.post enc Try.prog Try.f5 false true false false) :=
  Fw.lift_law_sz (C := Try.checked) (TT := Fw.tt) own started (by kernel_rfl) Try.func5
    (ChangeSpec.witness6 (enc := enc) (C := Try.checked) false ⟨#[], #[.slice none 0 0, .int .i64 0, .slice none 0 0, .int .i64 0], []⟩ 8 (by kernel_rfl) (by kernel_rfl) (by kernel_rfl) (by kernel_rfl))
    (by kernel_rfl) rfl spec rfl Try.underlying4 (by kernel_rfl) Fw.ttok 8 (by kernel_rfl) (fun _ => rfl) (by kernel_rfl) con
theorem over : Rows.reassemblyWholeRow.holds Try.pinned (OpenSpec.ofChange Rows.reassemblyWholeSpec) :=
  OpenClaim.holds_of_wide 5 Try.f5 rfl rfl rfl rfl rfl rfl rfl ⟨rfl, rfl, rfl, rfl, rfl⟩ rfl rfl rfl rfl rfl (by kernel_rfl) Try.func5 (by kernel_rfl)
    (of_decide_eq_true (by kernel_rfl)) (by unfold Func.isWrapper; first | (rw [if_pos (by decide +kernel)]; kernel_rfl) | (rw [if_neg (by decide +kernel)]; exact ⟨rfl, rfl⟩))
    (fun os started H enc _ => lifted os started H enc)
/-- THE STATEMENT -/
theorem proved : Rows.ReassemblyWholeSaid :=
  over
#print axioms proved
end Go.Proofs.Yteebplkhnhpiiaa.reassemblyWhole

