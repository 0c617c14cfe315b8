/- What comes in: numbers, addresses, claims. -/
import Derived.Test.YtmiicjoaaplklaaDetG
namespace Go.Fw
open Go.Proofs
theorem shp_int {t d : Nat} {s : SV} (ht : tt t = .int .i64) (h : Shp Try.prog tt (d + 1) t s) : ∃ n, s = int n ∧ -9223372036854775808 ≤ n ∧ n ≤ 9223372036854775807 := by
  simp only [Shp, ht] at h
  obtain ⟨n, rfl, hn⟩ := h
  exact ⟨n, rfl, bounds_i64 hn⟩
theorem shp_u64 {t d : Nat} {s : SV} (ht : tt t = .int .u64) (h : Shp Try.prog tt (d + 1) t s) : ∃ n, s = u64 n := by
  simp only [Shp, ht] at h
  obtain ⟨n, rfl, hn⟩ := h
  exact ⟨n, rfl⟩
theorem shp_ints {d : Nat} {s : SV} (h : Shp Try.prog tt (d + 2) 23 s) : ∃ l, s = .fs .no 1 (ints l) ∧ l.length ≤ maxLen := by
  obtain ⟨rows, rfl, hl, h⟩ := h
  obtain ⟨l, rfl, _⟩ := rows_of int (fun _ => True) fun r hr => let ⟨n, h1, _⟩ := shp_int (d := d) rfl (h 3 Try.underlying23 r hr); ⟨n, h1, trivial⟩
  exact ⟨l, rfl, by simpa using hl⟩
theorem shp_ip {d : Nat} {s : SV} (h : Shp Try.prog tt (d + 1) 25 s) : ∃ a, s = ipV a := by
  obtain ⟨l, rfl, h1, h2⟩ := h
  exact ⟨⟨l, h1, h2⟩, rfl⟩
theorem shp_clm {d : Nat} {s : SV} (h : Shp Try.prog tt (d + 2) 66 s) : ∃ c, s = clmV c := by
  obtain ⟨cs, rfl, hl, h⟩ := h
  match cs, hl with
  | [a, b, c, e, f], _ =>
    obtain ⟨ip, rfl⟩ := shp_ip (d := d) (h 0 _ _ rfl rfl)
    obtain ⟨eu, rfl⟩ := shp_u64 (d := d) rfl (h 1 _ _ rfl rfl)
    obtain ⟨sq, rfl, _⟩ := shp_int (d := d) rfl (h 2 _ _ rfl rfl)
    obtain ⟨si, rfl, _⟩ := shp_int (d := d) rfl (h 3 _ _ rfl rfl)
    obtain ⟨up, rfl, _⟩ := shp_int (d := d) rfl (h 4 _ _ rfl rfl)
    exact ⟨⟨ip, eu, sq, si, up⟩, rfl⟩
theorem shp_clms {d : Nat} {s : SV} (h : Shp Try.prog tt (d + 3) 22 s) : ∃ l, s = .fs .no 20 (lst clmV l) ∧ l.length ≤ maxLen := by
  obtain ⟨rows, rfl, hl, h⟩ := h
  obtain ⟨l, rfl, _⟩ := rows_of clmV (fun _ => True) fun r hr => let ⟨n, h1⟩ := shp_clm (d := d) (h 66 Try.underlying22 r hr); ⟨n, h1, trivial⟩
  exact ⟨l, rfl, by simpa using hl⟩
end Go.Fw
