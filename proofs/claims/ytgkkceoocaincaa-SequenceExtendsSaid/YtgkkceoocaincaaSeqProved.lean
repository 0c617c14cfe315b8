/- The statements of chapter 25 are true at every input: the walks, and the given form. -/
import Derived.Test.YtgkkceoocaincaaRows
import Derived.Test.YtgkkceoocaincaaSeqChains
namespace Go.Fw
open Go.Proofs
theorem shp_int {t d : Nat} {s : SV} (ht : tt t = .int .i64) (h : Shp Try.prog tt (d + 1) t s) : ∃ n, s = int n ∧ -9223372036854775808 ≤ n ∧ n ≤ 9223372036854775807 := by
  simp only [Shp, ht] at h
  obtain ⟨n, rfl, hn⟩ := h
  exact ⟨n, rfl, bounds_i64 hn⟩
theorem shp_u16 {t d : Nat} {s : SV} (ht : tt t = .int .u16) (h : Shp Try.prog tt (d + 1) t s) : ∃ n, s = u16 n ∧ 0 ≤ n ∧ n ≤ 65535 := by
  simp only [Shp, ht] at h
  obtain ⟨n, rfl, hn⟩ := h
  exact ⟨n, rfl, bounds_u16 hn⟩
theorem shp_bool {t d : Nat} {s : SV} (ht : tt t = .bool) (h : Shp Try.prog tt (d + 1) t s) : ∃ b, s = bool b := by
  simp only [Shp, ht] at h
  obtain ⟨n, rfl⟩ := h
  exact ⟨n, rfl⟩
theorem shp_ints {d : Nat} {s : SV} (h : Shp Try.prog tt (d + 2) 26 s) : ∃ l, s = .fs .no 1 (ints l) ∧ l.length ≤ maxLen := by
  obtain ⟨rows, rfl, hl, h⟩ := h
  obtain ⟨l, rfl, _⟩ := rows_of int (fun _ => True) fun r hr => let ⟨n, h1, _⟩ := shp_int (d := d) rfl (h 3 Try.underlying26 r hr); ⟨n, h1, trivial⟩
  exact ⟨l, rfl, by simpa [ints] using hl⟩
theorem shp_dist {d : Nat} {s : SV} (h : Shp Try.prog tt (d + 2) 30 s) : ∃ a b, s = dist a b := by
  obtain ⟨cs, rfl, hl, h⟩ := h
  obtain ⟨x, y, rfl, h1, h2⟩ := fields2 (Q := Shp Try.prog tt (d + 1)) hl h
  obtain ⟨a, rfl, _⟩ := shp_u16 rfl h1
  obtain ⟨b, rfl, _⟩ := shp_int rfl h2
  exact ⟨a, b, rfl⟩
end Go.Fw
namespace Go.Proofs.Ytgkkceoocaincaa.sequenceTotal
open Go.ChangeShapes Go.WideShapes Go.ChangeAt Go.RowKit
theorem own : ownKnob Try.prog.godebug = none := by kernel_rfl
theorem con : ∀ svs, Fw.ShpL Try.prog Fw.tt 8 Try.f4.params.toList svs → Fw.Con Try.prog 4 svs [] (.v (.bool true)) [] := by
  intro svs hsh
  rcases svs with _ | ⟨s0, svs⟩
  · exact hsh.elim
  obtain ⟨h0, hsh⟩ := hsh
  rcases svs with _ | ⟨s1, svs⟩
  · exact hsh.elim
  obtain ⟨h1, hsh⟩ := hsh
  rcases svs with _ | ⟨s, svs⟩
  case cons => exact hsh.elim
  obtain ⟨x, rfl, _⟩ := Fw.shp_u16 rfl h0
  obtain ⟨l, rfl, _⟩ := Fw.shp_ints h1
  exact Fw.k_SequenceTotal x l
theorem spec {H : Type} (ds : List (DataW H)) (h : ds.length = Try.f4.params.size) : (Rows.sequenceTotalSpec.fn H ds).results = [.lit (.bool true)] ∧ (Rows.sequenceTotalSpec.fn H ds).args = ds ∧ (Rows.sequenceTotalSpec.fn H ds).vars = [] := by
  have hp : Try.f4.params.size = 2 := rfl
  rcases ds with _ | ⟨d0, ds⟩
  · simp [hp] at h
  rcases ds with _ | ⟨d1, ds⟩
  · simp [hp] at h
  rcases ds with _ | ⟨d, ds⟩
  case cons => simp [hp] at h
  exact ⟨rfl, rfl, rfl⟩
theorem lifted (os : Os) (started : os.Started) (H : Type) (enc : TypeId × Value → H) :
    ReturnsInHanded {} Try.checked os 4 .any (Rows.sequenceTotalSpec.pre6 enc Try.prog Try.f4 Rows.sequenceTotalRow.domain false) (Rows.sequenceTotalSpec.post enc Try.prog Try.f4 false true false false) :=
  Fw.lift_law (C := Try.checked) (TT := Fw.tt) own started (by kernel_rfl) Try.func4
    (ChangeSpec.witness6 (enc := enc) (C := Try.checked) false ⟨#[], #[.int .u16 0, .slice none 0 0], []⟩ 8 (by kernel_rfl) (by kernel_rfl) (by kernel_rfl) (by kernel_rfl))
    (by kernel_rfl) rfl spec rfl Try.underlying4 (by kernel_rfl) Fw.ttok 8 (by kernel_rfl) con
theorem over : Rows.sequenceTotalRow.holds Try.pinned (OpenSpec.ofChange Rows.sequenceTotalSpec) :=
  OpenClaim.holds_of_wide 4 Try.f4 rfl rfl rfl rfl rfl rfl rfl ⟨rfl, rfl, rfl, rfl, rfl⟩ rfl rfl rfl rfl rfl (by kernel_rfl) Try.func4 (by kernel_rfl)
    (of_decide_eq_true (by kernel_rfl)) (by unfold Func.isWrapper; first | (rw [if_pos (by decide +kernel)]; kernel_rfl) | (rw [if_neg (by decide +kernel)]; exact ⟨rfl, rfl⟩))
    (fun os started H enc _ => lifted os started H enc)
/-- THE STATEMENT -/
theorem proved : Rows.SequenceTotalSaid :=
  over
#print axioms proved
end Go.Proofs.Ytgkkceoocaincaa.sequenceTotal

namespace Go.Proofs.Ytgkkceoocaincaa.sequenceChains
open Go.ChangeShapes Go.WideShapes Go.ChangeAt Go.RowKit
theorem own : ownKnob Try.prog.godebug = none := by kernel_rfl
theorem con : ∀ svs, Fw.ShpL Try.prog Fw.tt 8 Try.f5.params.toList svs → Fw.Con Try.prog 5 svs [] (.v (.bool true)) [] := by
  intro svs hsh
  rcases svs with _ | ⟨s0, svs⟩
  · exact hsh.elim
  obtain ⟨h0, hsh⟩ := hsh
  rcases svs with _ | ⟨s1, svs⟩
  · exact hsh.elim
  obtain ⟨h1, hsh⟩ := hsh
  rcases svs with _ | ⟨s2, svs⟩
  · exact hsh.elim
  obtain ⟨h2, hsh⟩ := hsh
  rcases svs with _ | ⟨s, svs⟩
  case cons => exact hsh.elim
  obtain ⟨a, b, rfl⟩ := Fw.shp_dist h0
  obtain ⟨l, rfl, _⟩ := Fw.shp_ints h1
  obtain ⟨n, rfl, _⟩ := Fw.shp_int rfl h2
  exact Fw.k_SequenceChains a b l n
theorem spec {H : Type} (ds : List (DataW H)) (h : ds.length = Try.f5.params.size) : (Rows.sequenceChainsSpec.fn H ds).results = [.lit (.bool true)] ∧ (Rows.sequenceChainsSpec.fn H ds).args = ds ∧ (Rows.sequenceChainsSpec.fn H ds).vars = [] := by
  have hp : Try.f5.params.size = 3 := rfl
  rcases ds with _ | ⟨d0, ds⟩
  · simp [hp] at h
  rcases ds with _ | ⟨d1, ds⟩
  · simp [hp] at h
  rcases ds with _ | ⟨d2, ds⟩
  · simp [hp] at h
  rcases ds with _ | ⟨d, ds⟩
  case cons => simp [hp] at h
  exact ⟨rfl, rfl, rfl⟩
theorem lifted (os : Os) (started : os.Started) (H : Type) (enc : TypeId × Value → H) :
    ReturnsInHanded {} Try.checked os 5 .any (Rows.sequenceChainsSpec.pre6 enc Try.prog Try.f5 Rows.sequenceChainsRow.domain false) (Rows.sequenceChainsSpec.post enc Try.prog Try.f5 false true false false) :=
  Fw.lift_law (C := Try.checked) (TT := Fw.tt) own started (by kernel_rfl) Try.func5
    (ChangeSpec.witness6 (enc := enc) (C := Try.checked) false ⟨#[], #[.agg #[.int .u16 0, .int .i64 0], .slice none 0 0, .int .i64 0], []⟩ 8 (by kernel_rfl) (by kernel_rfl) (by kernel_rfl) (by kernel_rfl))
    (by kernel_rfl) rfl spec rfl Try.underlying4 (by kernel_rfl) Fw.ttok 8 (by kernel_rfl) con
theorem over : Rows.sequenceChainsRow.holds Try.pinned (OpenSpec.ofChange Rows.sequenceChainsSpec) :=
  OpenClaim.holds_of_wide 5 Try.f5 rfl rfl rfl rfl rfl rfl rfl ⟨rfl, rfl, rfl, rfl, rfl⟩ rfl rfl rfl rfl rfl (by kernel_rfl) Try.func5 (by kernel_rfl)
    (of_decide_eq_true (by kernel_rfl)) (by unfold Func.isWrapper; first | (rw [if_pos (by decide +kernel)]; kernel_rfl) | (rw [if_neg (by decide +kernel)]; exact ⟨rfl, rfl⟩))
    (fun os started H enc _ => lifted os started H enc)
/-- THE STATEMENT -/
theorem proved : Rows.SequenceChainsSaid :=
  over
#print axioms proved
end Go.Proofs.Ytgkkceoocaincaa.sequenceChains

namespace Go.Proofs.Ytgkkceoocaincaa.sequenceForms
open Go.ChangeShapes Go.WideShapes Go.ChangeAt Go.RowKit
theorem own : ownKnob Try.prog.godebug = none := by kernel_rfl
theorem con : ∀ svs, Fw.ShpL Try.prog Fw.tt 8 Try.f6.params.toList svs → Fw.Con Try.prog 6 svs [] (.v (.bool true)) [] := by
  intro svs hsh
  rcases svs with _ | ⟨s0, svs⟩
  · exact hsh.elim
  obtain ⟨h0, hsh⟩ := hsh
  rcases svs with _ | ⟨s1, svs⟩
  · exact hsh.elim
  obtain ⟨h1, hsh⟩ := hsh
  rcases svs with _ | ⟨s2, svs⟩
  · exact hsh.elim
  obtain ⟨h2, hsh⟩ := hsh
  rcases svs with _ | ⟨s3, svs⟩
  · exact hsh.elim
  obtain ⟨h3, hsh⟩ := hsh
  rcases svs with _ | ⟨s4, svs⟩
  · exact hsh.elim
  obtain ⟨h4, hsh⟩ := hsh
  rcases svs with _ | ⟨s, svs⟩
  case cons => exact hsh.elim
  obtain ⟨a, b, rfl⟩ := Fw.shp_dist h0
  obtain ⟨a', b', rfl⟩ := Fw.shp_dist h1
  obtain ⟨l, rfl, _⟩ := Fw.shp_ints h2
  obtain ⟨p, rfl⟩ := Fw.shp_bool rfl h3
  obtain ⟨n, rfl, _⟩ := Fw.shp_int rfl h4
  exact Fw.k_SequenceForms a b a' b' l p n
theorem spec {H : Type} (ds : List (DataW H)) (h : ds.length = Try.f6.params.size) : (Rows.sequenceFormsSpec.fn H ds).results = [.lit (.bool true)] ∧ (Rows.sequenceFormsSpec.fn H ds).args = ds ∧ (Rows.sequenceFormsSpec.fn H ds).vars = [] := by
  have hp : Try.f6.params.size = 5 := rfl
  rcases ds with _ | ⟨d0, ds⟩
  · simp [hp] at h
  rcases ds with _ | ⟨d1, ds⟩
  · simp [hp] at h
  rcases ds with _ | ⟨d2, ds⟩
  · simp [hp] at h
  rcases ds with _ | ⟨d3, ds⟩
  · simp [hp] at h
  rcases ds with _ | ⟨d4, ds⟩
  · simp [hp] at h
  rcases ds with _ | ⟨d, ds⟩
  case cons => simp [hp] at h
  exact ⟨rfl, rfl, rfl⟩
theorem lifted (os : Os) (started : os.Started) (H : Type) (enc : TypeId × Value → H) :
    ReturnsInHanded {} Try.checked os 6 .any (Rows.sequenceFormsSpec.pre6 enc Try.prog Try.f6 Rows.sequenceFormsRow.domain false) (Rows.sequenceFormsSpec.post enc Try.prog Try.f6 false true false false) :=
  Fw.lift_law (C := Try.checked) (TT := Fw.tt) own started (by kernel_rfl) Try.func6
    (ChangeSpec.witness6 (enc := enc) (C := Try.checked) false ⟨#[], #[.agg #[.int .u16 0, .int .i64 0], .agg #[.int .u16 0, .int .i64 0], .slice none 0 0, .bool false, .int .i64 0], []⟩ 8 (by kernel_rfl) (by kernel_rfl) (by kernel_rfl) (by kernel_rfl))
    (by kernel_rfl) rfl spec rfl Try.underlying4 (by kernel_rfl) Fw.ttok 8 (by kernel_rfl) con
theorem over : Rows.sequenceFormsRow.holds Try.pinned (OpenSpec.ofChange Rows.sequenceFormsSpec) :=
  OpenClaim.holds_of_wide 6 Try.f6 rfl rfl rfl rfl rfl rfl rfl ⟨rfl, rfl, rfl, rfl, rfl⟩ rfl rfl rfl rfl rfl (by kernel_rfl) Try.func6 (by kernel_rfl)
    (of_decide_eq_true (by kernel_rfl)) (by unfold Func.isWrapper; first | (rw [if_pos (by decide +kernel)]; kernel_rfl) | (rw [if_neg (by decide +kernel)]; exact ⟨rfl, rfl⟩))
    (fun os started H enc _ => lifted os started H enc)
/-- THE STATEMENT -/
theorem proved : Rows.SequenceFormsSaid :=
  over
#print axioms proved
end Go.Proofs.Ytgkkceoocaincaa.sequenceForms

namespace Go.Proofs.Ytgkkceoocaincaa.sequenceExtends
open Go.ChangeShapes Go.WideShapes Go.ChangeAt Go.RowKit
theorem own : ownKnob Try.prog.godebug = none := by kernel_rfl
theorem con : ∀ svs, Fw.ShpL Try.prog Fw.tt 8 Try.f7.params.toList svs → Fw.Con Try.prog 7 svs [] (.v (.bool true)) [] := by
  intro svs hsh
  rcases svs with _ | ⟨s0, svs⟩
  · exact hsh.elim
  obtain ⟨h0, hsh⟩ := hsh
  rcases svs with _ | ⟨s1, svs⟩
  · exact hsh.elim
  obtain ⟨h1, hsh⟩ := hsh
  rcases svs with _ | ⟨s, svs⟩
  case cons => exact hsh.elim
  obtain ⟨a, b, rfl⟩ := Fw.shp_dist h0
  obtain ⟨n, rfl, _⟩ := Fw.shp_int rfl h1
  exact Fw.k_SequenceExtends a b n
theorem spec {H : Type} (ds : List (DataW H)) (h : ds.length = Try.f7.params.size) : (Rows.sequenceExtendsSpec.fn H ds).results = [.lit (.bool true)] ∧ (Rows.sequenceExtendsSpec.fn H ds).args = ds ∧ (Rows.sequenceExtendsSpec.fn H ds).vars = [] := by
  have hp : Try.f7.params.size = 2 := rfl
  rcases ds with _ | ⟨d0, ds⟩
  · simp [hp] at h
  rcases ds with _ | ⟨d1, ds⟩
  · simp [hp] at h
  rcases ds with _ | ⟨d, ds⟩
  case cons => simp [hp] at h
  exact ⟨rfl, rfl, rfl⟩
theorem lifted (os : Os) (started : os.Started) (H : Type) (enc : TypeId × Value → H) :
    ReturnsInHanded {} Try.checked os 7 .any (Rows.sequenceExtendsSpec.pre6 enc Try.prog Try.f7 Rows.sequenceExtendsRow.domain false) (Rows.sequenceExtendsSpec.post enc Try.prog Try.f7 false true false false) :=
  Fw.lift_law (C := Try.checked) (TT := Fw.tt) own started (by kernel_rfl) Try.func7
    (ChangeSpec.witness6 (enc := enc) (C := Try.checked) false ⟨#[], #[.agg #[.int .u16 0, .int .i64 0], .int .i64 0], []⟩ 8 (by kernel_rfl) (by kernel_rfl) (by kernel_rfl) (by kernel_rfl))
    (by kernel_rfl) rfl spec rfl Try.underlying4 (by kernel_rfl) Fw.ttok 8 (by kernel_rfl) con
theorem over : Rows.sequenceExtendsRow.holds Try.pinned (OpenSpec.ofChange Rows.sequenceExtendsSpec) :=
  OpenClaim.holds_of_wide 7 Try.f7 rfl rfl rfl rfl rfl rfl rfl ⟨rfl, rfl, rfl, rfl, rfl⟩ rfl rfl rfl rfl rfl (by kernel_rfl) Try.func7 (by kernel_rfl)
    (of_decide_eq_true (by kernel_rfl)) (by unfold Func.isWrapper; first | (rw [if_pos (by decide +kernel)]; kernel_rfl) | (rw [if_neg (by decide +kernel)]; exact ⟨rfl, rfl⟩))
    (fun os started H enc _ => lifted os started H enc)
/-- THE STATEMENT -/
theorem proved : Rows.SequenceExtendsSaid :=
  over
#print axioms proved
end Go.Proofs.Ytgkkceoocaincaa.sequenceExtends

