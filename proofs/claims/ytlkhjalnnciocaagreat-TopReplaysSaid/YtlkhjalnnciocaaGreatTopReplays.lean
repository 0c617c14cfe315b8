/- TopReplays is true at every tape, number and place: the walks, and the given form. -/
import Derived.Test.YtlkhjalnnciocaaGreatRows
import Derived.Test.YtlkhjalnnciocaaGreatTopSz
import Derived.Test.YtlkhjalnnciocaaGreatShpT
namespace Go.Proofs.YtlkhjalnnciocaaGreat.topReplays
open Go.ChangeShapes Go.WideShapes Go.ChangeAt Go.RowKit
theorem own : ownKnob Tryz.prog.godebug = none := by kernel_rfl
theorem con : ∀ svs, Fw.ShpL Tryz.prog Fw.tt 8 Tryz.f4.params.toList svs → (∀ (j t e : Nat) (E : Nat) (tg : Fw.Tg) (rows : List Fw.SV), Tryz.f4.params.toList[j]? = some t → Tryz.prog.underlying t = some (.slice e) → svs[j]? = some (.fs tg E rows) → rows.length * Tryz.prog.bytesOf e ≤ reachBytes) → Fw.Con Tryz.prog 4 svs [] (.v (.bool true)) [] := by
  intro svs hsh hz
  rcases svs with _ | ⟨s0, svs⟩
  · exact hsh.elim
  obtain ⟨h0, hsh⟩ := hsh
  rcases svs with _ | ⟨s1, svs⟩
  · exact hsh.elim
  obtain ⟨h1, hsh⟩ := hsh
  rcases svs with _ | ⟨s2, svs⟩
  · exact hsh.elim
  obtain ⟨h2, hsh⟩ := hsh
  rcases svs with _ | ⟨s, svs⟩
  case cons => exact hsh.elim
  obtain ⟨l, rfl, _⟩ := Fw.shp_ints h0
  obtain ⟨n, rfl, _⟩ := Fw.shp_int rfl h1
  obtain ⟨a, rfl, _⟩ := Fw.shp_int rfl h2
  have hO := hz 0 _ _ 1 .no (Fw.ints l) rfl Tryz.underlying22 rfl
  rw [Fw.ints_len, show Tryz.prog.bytesOf 3 = 8 by kernel_rfl] at hO
  exact Fw.k_TopReplays l n a (by unfold reachBytes at hO; omega)
theorem spec {H : Type} (ds : List (DataW H)) (h : ds.length = Tryz.f4.params.size) : (Rows.topReplaysSpec.fn H ds).results = [.lit (.bool true)] ∧ (Rows.topReplaysSpec.fn H ds).args = ds ∧ (Rows.topReplaysSpec.fn H ds).vars = [] := by
  have hp : Tryz.f4.params.size = 3 := rfl
  rcases ds with _ | ⟨d0, ds⟩
  · simp [hp] at h
  rcases ds with _ | ⟨d1, ds⟩
  · simp [hp] at h
  rcases ds with _ | ⟨d2, ds⟩
  · simp [hp] at h
  rcases ds with _ | ⟨d, ds⟩
  case cons => simp [hp] at h
  exact ⟨rfl, rfl, rfl⟩
theorem lifted (os : Os) (started : os.Started) (H : Type) (enc : TypeId × Value → H) :
    ReturnsInHanded {} Tryz.checked os 4 .any (Rows.topReplaysSpec.pre6 enc Tryz.prog Tryz.f4 Rows.topReplaysRow.domain false) (Rows.topReplaysSpec.post enc Tryz.prog Tryz.f4 false true false false) :=
  Fw.lift_law_sz (C := Tryz.checked) (TT := Fw.tt) own started (by kernel_rfl) Tryz.func4
    (ChangeSpec.witness6 (enc := enc) (C := Tryz.checked) false ⟨#[], #[.slice none 0 0, .int .i64 0, .int .i64 0], []⟩ 8 (by kernel_rfl) (by kernel_rfl) (by kernel_rfl) (by kernel_rfl))
    (by kernel_rfl) rfl spec rfl Tryz.underlying4 (by kernel_rfl) Fw.ttok 8 (by kernel_rfl) (fun _ => rfl) (by kernel_rfl) con
theorem over : Rows.topReplaysRow.holds Tryz.pinned (OpenSpec.ofChange Rows.topReplaysSpec) :=
  OpenClaim.holds_of_wide 4 Tryz.f4 rfl rfl rfl rfl rfl rfl rfl ⟨rfl, rfl, rfl, rfl, rfl⟩ rfl rfl rfl rfl rfl (by kernel_rfl) Tryz.func4 (by kernel_rfl)
    (of_decide_eq_true (by kernel_rfl)) (by unfold Func.isWrapper; first | (rw [if_pos (by decide +kernel)]; kernel_rfl) | (rw [if_neg (by decide +kernel)]; exact ⟨rfl, rfl⟩))
    (fun os started H enc _ => lifted os started H enc)
/-- THE STATEMENT -/
theorem proved : Rows.TopReplaysSaid :=
  over
#print axioms proved
end Go.Proofs.YtlkhjalnnciocaaGreat.topReplays

