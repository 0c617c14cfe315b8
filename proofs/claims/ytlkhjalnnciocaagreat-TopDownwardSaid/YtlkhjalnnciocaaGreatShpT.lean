/- What comes in: numbers. -/
import Derived.Test.YtlkhjalnnciocaaGreatDwnH
namespace Go.Fw
set_option maxRecDepth 4000
open Go.Proofs
theorem shp_int {t d : Nat} {s : SV} (ht : tt t = .int .i64) (h : Shp Tryz.prog tt (d + 1) t s) : ∃ n, s = int n ∧ -9223372036854775808 ≤ n ∧ n ≤ 9223372036854775807 := by
  simp only [Shp, ht] at h
  obtain ⟨n, rfl, hn⟩ := h
  exact ⟨n, rfl, bounds_i64 hn⟩
theorem shp_ints {d : Nat} {s : SV} (h : Shp Tryz.prog tt (d + 2) 22 s) : ∃ l, s = .fs .no 1 (ints l) ∧ l.length ≤ maxLen := by
  obtain ⟨rows, rfl, hl, h⟩ := h
  obtain ⟨l, rfl, _⟩ := rows_of int (fun _ => True) fun r hr => let ⟨n, h1, _⟩ := shp_int (d := d) rfl (h 3 Tryz.underlying22 r hr); ⟨n, h1, trivial⟩
  exact ⟨l, rfl, by simpa using hl⟩
theorem shp_u16 {t d : Nat} {s : SV} (ht : tt t = .int .u16) (h : Shp Tryz.prog tt (d + 1) t s) : ∃ n, s = .v (.int .u16 n) ∧ 0 ≤ n ∧ n ≤ 65535 := by
  simp only [Shp, ht] at h
  obtain ⟨n, rfl, hn⟩ := h
  refine ⟨n, rfl, ?_⟩
  simp [Lit.wf, IntKind.min, IntKind.max, IntKind.signed, IntKind.bits] at hn
  omega
end Go.Fw
