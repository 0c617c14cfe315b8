/- PartitionRenumbers is true at every network, tape, time, prefix, claims and lifetime: the walks, and the given form. -/
import Derived.Test.YtpmiaggdjgfjgaaGreatRows
import Derived.Test.YtpmiaggdjgfjgaaGreatParX
namespace Go.Proofs.YtpmiaggdjgfjgaaGreat.partitionRenumbers
open Go.ChangeShapes Go.WideShapes Go.ChangeAt Go.RowKit
theorem own : ownKnob Tryz.prog.godebug = none := by kernel_rfl
theorem con : ∀ svs, Fw.ShpL Tryz.prog Fw.tt 8 Tryz.f3.params.toList svs → Fw.Con Tryz.prog 3 svs [] (.v (.bool true)) [] := by
  intro svs hsh
  rcases svs with _ | ⟨s0, svs⟩
  · exact hsh.elim
  obtain ⟨h0, hsh⟩ := hsh
  rcases svs with _ | ⟨s1, svs⟩
  · exact hsh.elim
  obtain ⟨h1, hsh⟩ := hsh
  rcases svs with _ | ⟨s2, svs⟩
  · exact hsh.elim
  obtain ⟨h2, hsh⟩ := hsh
  rcases svs with _ | ⟨s3, svs⟩
  · exact hsh.elim
  obtain ⟨h3, hsh⟩ := hsh
  rcases svs with _ | ⟨s4, svs⟩
  · exact hsh.elim
  obtain ⟨h4, hsh⟩ := hsh
  rcases svs with _ | ⟨s5, svs⟩
  · exact hsh.elim
  obtain ⟨h5, hsh⟩ := hsh
  rcases svs with _ | ⟨s, svs⟩
  case cons => exact hsh.elim
  obtain ⟨p, rfl, hp, hp1, hp2⟩ := Fw.shp_net (d := 4) h0
  obtain ⟨l, rfl, _⟩ := Fw.shp_ints h1
  obtain ⟨n, rfl, _⟩ := Fw.shp_int rfl h2
  obtain ⟨q, rfl⟩ := Fw.shp_pfx h3
  obtain ⟨c, rfl, hc, hu⟩ := Fw.shp_clmsU h4
  obtain ⟨t, rfl, _⟩ := Fw.shp_int rfl h5
  exact Fw.k_PartitionRenumbers p l n q c t hp ⟨hp1, hp2⟩ hc hu
theorem spec {H : Type} (ds : List (DataW H)) (h : ds.length = Tryz.f3.params.size) : (Rows.partitionRenumbersSpec.fn H ds).results = [.lit (.bool true)] ∧ (Rows.partitionRenumbersSpec.fn H ds).args = ds ∧ (Rows.partitionRenumbersSpec.fn H ds).vars = [] := by
  have hp : Tryz.f3.params.size = 6 := rfl
  rcases ds with _ | ⟨d0, ds⟩
  · simp [hp] at h
  rcases ds with _ | ⟨d1, ds⟩
  · simp [hp] at h
  rcases ds with _ | ⟨d2, ds⟩
  · simp [hp] at h
  rcases ds with _ | ⟨d3, ds⟩
  · simp [hp] at h
  rcases ds with _ | ⟨d4, ds⟩
  · simp [hp] at h
  rcases ds with _ | ⟨d5, ds⟩
  · simp [hp] at h
  rcases ds with _ | ⟨d, ds⟩
  case cons => simp [hp] at h
  exact ⟨rfl, rfl, rfl⟩
theorem lifted (os : Os) (started : os.Started) (H : Type) (enc : TypeId × Value → H) :
    ReturnsInHanded {} Tryz.checked os 3 .any (Rows.partitionRenumbersSpec.pre6 enc Tryz.prog Tryz.f3 Rows.partitionRenumbersRow.domain false) (Rows.partitionRenumbersSpec.post enc Tryz.prog Tryz.f3 false true false false) :=
  Fw.lift_law (C := Tryz.checked) (TT := Fw.tt) own started (by kernel_rfl) Tryz.func3
    (ChangeSpec.witness6 (enc := enc) (C := Tryz.checked) false ⟨#[], #[.agg #[.int .i64 0, .int .u64 0, .slice none 0 0, .slice none 0 0], .slice none 0 0, .int .i64 0, .agg #[.int .u8 0, .int .u8 0, .int .u8 0, .int .u8 0, .int .u8 0, .int .u8 0, .int .u8 0, .int .u8 0, .int .u8 0, .int .u8 0, .int .u8 0, .int .u8 0, .int .u8 0, .int .u8 0, .int .u8 0, .int .u8 0, .int .i64 0], .slice none 0 0, .int .i64 0], []⟩ 8 (by kernel_rfl) (by kernel_rfl) (by kernel_rfl) (by kernel_rfl))
    (by kernel_rfl) rfl spec rfl Tryz.underlying4 (by kernel_rfl) Fw.ttok 8 (by kernel_rfl) (fun _ => rfl) (by kernel_rfl) con
theorem over : Rows.partitionRenumbersRow.holds Tryz.pinned (OpenSpec.ofChange Rows.partitionRenumbersSpec) :=
  OpenClaim.holds_of_wide 3 Tryz.f3 rfl rfl rfl rfl rfl rfl rfl ⟨rfl, rfl, rfl, rfl, rfl⟩ rfl rfl rfl rfl rfl (by kernel_rfl) Tryz.func3 (by kernel_rfl)
    (of_decide_eq_true (by kernel_rfl)) (by unfold Func.isWrapper; first | (rw [if_pos (by decide +kernel)]; kernel_rfl) | (rw [if_neg (by decide +kernel)]; exact ⟨rfl, rfl⟩))
    (fun os started H enc _ => lifted os started H enc)
/-- THE STATEMENT -/
theorem proved : Rows.PartitionRenumbersSaid :=
  over
#print axioms proved
end Go.Proofs.YtpmiaggdjgfjgaaGreat.partitionRenumbers

