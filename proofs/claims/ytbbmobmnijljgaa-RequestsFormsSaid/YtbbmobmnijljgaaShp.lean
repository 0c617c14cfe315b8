/- What comes in: numbers, addresses, prefixes, destinations, distances. -/
import Derived.Test.YtbbmobmnijljgaaReqF
namespace Go.Fw
open Go.Proofs
theorem shp_int {t d : Nat} {s : SV} (ht : tt t = .int .i64) (h : Shp Try.prog tt (d + 1) t s) : ∃ n, s = int n ∧ -9223372036854775808 ≤ n ∧ n ≤ 9223372036854775807 := by
  simp only [Shp, ht] at h
  obtain ⟨n, rfl, hn⟩ := h
  exact ⟨n, rfl, bounds_i64 hn⟩
theorem shp_u64 {t d : Nat} {s : SV} (ht : tt t = .int .u64) (h : Shp Try.prog tt (d + 1) t s) : ∃ n, s = u64 n := by
  simp only [Shp, ht] at h
  obtain ⟨n, rfl, hn⟩ := h
  exact ⟨n, rfl⟩
theorem shp_ints {d : Nat} {s : SV} (h : Shp Try.prog tt (d + 2) 22 s) : ∃ l, s = .fs .no 1 (ints l) ∧ l.length ≤ maxLen := by
  obtain ⟨rows, rfl, hl, h⟩ := h
  obtain ⟨l, rfl, _⟩ := rows_of int (fun _ => True) fun r hr => let ⟨n, h1, _⟩ := shp_int (d := d) rfl (h 3 Try.underlying22 r hr); ⟨n, h1, trivial⟩
  exact ⟨l, rfl, by simpa using hl⟩
theorem shp_any {t d : Nat} {s : SV} {k : IntKind} (ht : tt t = .int k) (h : Shp Try.prog tt (d + 1) t s) : ∃ n, s = .v (.int k n) := by
  simp only [Shp, ht] at h
  obtain ⟨n, rfl, hn⟩ := h
  exact ⟨n, rfl⟩
theorem shp_ip {d : Nat} {s : SV} (h : Shp Try.prog tt (d + 1) 30 s) : ∃ a, s = ipV a := by
  obtain ⟨l, rfl, h1, h2⟩ := h
  exact ⟨⟨l, h1, h2⟩, rfl⟩
theorem shp_pfx {d : Nat} {s : SV} (h : Shp Try.prog tt (d + 2) 32 s) : ∃ p, s = pfxV p := by
  obtain ⟨cs, rfl, hl, h⟩ := h
  match cs, hl with
  | [a, b], _ =>
    obtain ⟨ip, rfl⟩ := shp_ip (d := d) (h 0 _ _ rfl rfl)
    obtain ⟨n, rfl⟩ := shp_any (d := d) rfl (h 1 _ _ rfl rfl)
    exact ⟨⟨ip, n⟩, rfl⟩
theorem shp_dst {d : Nat} {s : SV} (h : Shp Try.prog tt (d + 3) 36 s) : ∃ p, s = dstV p := by
  obtain ⟨cs, rfl, hl, h⟩ := h
  match cs, hl with
  | [a, b, c], _ =>
    obtain ⟨p, rfl⟩ := shp_pfx (d := d) (h 0 _ _ rfl rfl)
    obtain ⟨q, rfl⟩ := shp_pfx (d := d) (h 1 _ _ rfl rfl)
    obtain ⟨n, rfl⟩ := shp_any (d := d + 1) rfl (h 2 _ _ rfl rfl)
    exact ⟨⟨p, q, n⟩, rfl⟩
theorem shp_dis {d : Nat} {s : SV} (h : Shp Try.prog tt (d + 2) 50 s) : ∃ x, s = disV x := by
  obtain ⟨cs, rfl, hl, h⟩ := h
  match cs, hl with
  | [a, b], _ =>
    obtain ⟨n, rfl⟩ := shp_any (d := d) rfl (h 0 _ _ rfl rfl)
    obtain ⟨m, rfl⟩ := shp_any (d := d) rfl (h 1 _ _ rfl rfl)
    exact ⟨⟨n, m⟩, rfl⟩
theorem shp_u16 {t d : Nat} {s : SV} (ht : tt t = .int .u16) (h : Shp Try.prog tt (d + 1) t s) : ∃ n, s = .v (.int .u16 n) ∧ 0 ≤ n ∧ n ≤ 65535 := by
  simp only [Shp, ht] at h
  obtain ⟨n, rfl, hn⟩ := h
  refine ⟨n, rfl, ?_⟩
  simp [Lit.wf, IntKind.min, IntKind.max, IntKind.signed, IntKind.bits] at hn
  omega
theorem shp_disR {d : Nat} {s : SV} (h : Shp Try.prog tt (d + 2) 50 s) : ∃ x, s = disV x ∧ 0 ≤ x.seq ∧ x.seq ≤ 65535 := by
  obtain ⟨cs, rfl, hl, h⟩ := h
  match cs, hl with
  | [a, b], _ =>
    obtain ⟨n, rfl, hn⟩ := shp_u16 (d := d) rfl (h 0 _ _ rfl rfl)
    obtain ⟨m, rfl⟩ := shp_any (d := d) rfl (h 1 _ _ rfl rfl)
    exact ⟨⟨n, m⟩, rfl, hn⟩
end Go.Fw
