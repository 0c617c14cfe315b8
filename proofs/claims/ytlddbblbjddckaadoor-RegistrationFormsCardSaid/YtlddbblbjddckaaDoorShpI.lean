/- What comes in: numbers, addresses. -/
import Derived.Test.YtlddbblbjddckaaDoorRegG
namespace Go.Fw
open Go.Proofs
theorem shp_int {t d : Nat} {s : SV} (ht : tt t = .int .i64) (h : Shp Tryd.prog tt (d + 1) t s) : ∃ n, s = int n ∧ -9223372036854775808 ≤ n ∧ n ≤ 9223372036854775807 := by
  simp only [Shp, ht] at h
  obtain ⟨n, rfl, hn⟩ := h
  exact ⟨n, rfl, bounds_i64 hn⟩
theorem shp_u64 {t d : Nat} {s : SV} (ht : tt t = .int .u64) (h : Shp Tryd.prog tt (d + 1) t s) : ∃ n, s = u64 n := by
  simp only [Shp, ht] at h
  obtain ⟨n, rfl, hn⟩ := h
  exact ⟨n, rfl⟩
theorem shp_ints {d : Nat} {s : SV} (h : Shp Tryd.prog tt (d + 2) 22 s) : ∃ l, s = .fs .no 1 (ints l) ∧ l.length ≤ maxLen := by
  obtain ⟨rows, rfl, hl, h⟩ := h
  obtain ⟨l, rfl, _⟩ := rows_of int (fun _ => True) fun r hr => let ⟨n, h1, _⟩ := shp_int (d := d) rfl (h 3 Tryd.underlying22 r hr); ⟨n, h1, trivial⟩
  exact ⟨l, rfl, by simpa using hl⟩
theorem shp_any {t d : Nat} {s : SV} {k : IntKind} (ht : tt t = .int k) (h : Shp Tryd.prog tt (d + 1) t s) : ∃ n, s = .v (.int k n) := by
  simp only [Shp, ht] at h
  obtain ⟨n, rfl, hn⟩ := h
  exact ⟨n, rfl⟩
theorem shp_ip {d : Nat} {s : SV} (h : Shp Tryd.prog tt (d + 1) 26 s) : ∃ a, s = ipV a := by
  obtain ⟨l, rfl, h1, h2⟩ := h
  exact ⟨⟨l, h1, h2⟩, rfl⟩
theorem shp_u16 {t d : Nat} {s : SV} (ht : tt t = .int .u16) (h : Shp Tryd.prog tt (d + 1) t s) : ∃ n, s = .v (.int .u16 n) ∧ 0 ≤ n ∧ n ≤ 65535 := by
  simp only [Shp, ht] at h
  obtain ⟨n, rfl, hn⟩ := h
  refine ⟨n, rfl, ?_⟩
  simp [Lit.wf, IntKind.min, IntKind.max, IntKind.signed, IntKind.bits] at hn
  omega
theorem shp_u8 {t d : Nat} {s : SV} (ht : tt t = .int .u8) (h : Shp Tryd.prog tt (d + 1) t s) : ∃ n, s = .v (.int .u8 n) ∧ 0 ≤ n ∧ n ≤ 255 := by
  simp only [Shp, ht] at h
  obtain ⟨n, rfl, hn⟩ := h
  refine ⟨n, rfl, ?_⟩
  simp [Lit.wf, IntKind.min, IntKind.max, IntKind.signed, IntKind.bits] at hn
  omega
end Go.Fw
