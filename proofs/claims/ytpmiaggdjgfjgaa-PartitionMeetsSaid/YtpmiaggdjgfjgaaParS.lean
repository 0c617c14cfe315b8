/- What comes in: numbers, claims, networks. -/
import Derived.Test.YtpmiaggdjgfjgaaParK
namespace Go.Fw
set_option maxRecDepth 4000
open Go.Proofs
theorem shp_int {t d : Nat} {s : SV} (ht : tt t = .int .i64) (h : Shp Try.prog tt (d + 1) t s) : ∃ n, s = int n ∧ -9223372036854775808 ≤ n ∧ n ≤ 9223372036854775807 := by
  simp only [Shp, ht] at h
  obtain ⟨n, rfl, hn⟩ := h
  exact ⟨n, rfl, bounds_i64 hn⟩
theorem shp_u64 {t d : Nat} {s : SV} (ht : tt t = .int .u64) (h : Shp Try.prog tt (d + 1) t s) : ∃ n, s = .v (.int .u64 n) ∧ 0 ≤ n := by
  simp only [Shp, ht] at h
  obtain ⟨n, rfl, hn⟩ := h
  refine ⟨n, rfl, ?_⟩
  simp [Lit.wf, IntKind.min, IntKind.max, IntKind.signed, IntKind.bits] at hn
  omega
theorem shp_ints {d : Nat} {s : SV} (h : Shp Try.prog tt (d + 2) 30 s) : ∃ l, s = .fs .no 1 (ints l) ∧ l.length ≤ maxLen := by
  obtain ⟨rows, rfl, hl, h⟩ := h
  obtain ⟨l, rfl, _⟩ := rows_of int (fun _ => True) fun r hr => let ⟨n, h1, _⟩ := shp_int (d := d) rfl (h 3 Try.underlying30 r hr); ⟨n, h1, trivial⟩
  exact ⟨l, rfl, by simpa using hl⟩
theorem shp_euis {d : Nat} {s : SV} (h : Shp Try.prog tt (d + 2) 26 s) : ∃ l, s = .fs .no 1 (lst u64 l) ∧ (∀ x ∈ l, 0 ≤ x) ∧ l.length ≤ 9223372036854775807 := by
  obtain ⟨rows, rfl, hl, h⟩ := h
  obtain ⟨l, rfl, hs⟩ := rows_of u64 (fun x => 0 ≤ x) fun r hr => let ⟨n, h1, h2⟩ := shp_u64 (d := d) rfl (h 23 Try.underlying26 r hr); ⟨n, h1, h2⟩
  exact ⟨l, rfl, hs, Nat.le_trans (by simpa using hl) (by decide)⟩
theorem shp_ip {d : Nat} {s : SV} (h : Shp Try.prog tt (d + 1) 52 s) : ∃ a, s = ipV a := by
  obtain ⟨l, rfl, h1, h2⟩ := h
  exact ⟨⟨l, h1, h2⟩, rfl⟩
theorem shp_clm {d : Nat} {s : SV} (h : Shp Try.prog tt (d + 2) 54 s) : ∃ c, s = clmV c := by
  obtain ⟨cs, rfl, hl, h⟩ := h
  match cs, hl with
  | [a, b, c, e, f], _ =>
    obtain ⟨ip, rfl⟩ := shp_ip (d := d) (h 0 _ _ rfl rfl)
    obtain ⟨eu, rfl, _⟩ := shp_u64 (d := d) rfl (h 1 _ _ rfl rfl)
    obtain ⟨sq, rfl, _⟩ := shp_int (d := d) rfl (h 2 _ _ rfl rfl)
    obtain ⟨si, rfl, _⟩ := shp_int (d := d) rfl (h 3 _ _ rfl rfl)
    obtain ⟨up, rfl, _⟩ := shp_int (d := d) rfl (h 4 _ _ rfl rfl)
    exact ⟨⟨ip, eu, sq, si, up⟩, rfl⟩
theorem shp_clms {d : Nat} {s : SV} (h : Shp Try.prog tt (d + 3) 27 s) : ∃ l, s = .fs .no 20 (lst clmV l) ∧ l.length ≤ 9223372036854775807 := by
  obtain ⟨rows, rfl, hl, h⟩ := h
  obtain ⟨l, rfl, _⟩ := rows_of clmV (fun _ => True) fun r hr => let ⟨n, h1⟩ := shp_clm (d := d) (h 54 Try.underlying27 r hr); ⟨n, h1, trivial⟩
  exact ⟨l, rfl, Nat.le_trans (by simpa using hl) (by decide)⟩
theorem shp_idn {d : Nat} {s : SV} (h : Shp Try.prog tt (d + 2) 25 s) : ∃ e r, s = idV e r := by
  obtain ⟨cs, rfl, hl, h⟩ := h
  match cs, hl with
  | [a, b], _ =>
    obtain ⟨n1, rfl, _⟩ := shp_int (d := d) rfl (h 0 _ _ rfl rfl)
    obtain ⟨n2, rfl, _⟩ := shp_u64 (d := d) rfl (h 1 _ _ rfl rfl)
    exact ⟨n1, n2, rfl⟩
theorem shp_net {d : Nat} {s : SV} (h : Shp Try.prog tt (d + 4) 29 s) : ∃ n, s = netF n ∧ (∀ x ∈ n.mem, 0 ≤ x) ∧ n.mem.length ≤ 9223372036854775807 ∧ n.cl.length ≤ 9223372036854775807 := by
  obtain ⟨cs, rfl, hl, h⟩ := h
  match cs, hl with
  | [a, b, c], _ =>
    obtain ⟨e, r, rfl⟩ := shp_idn (d := d + 1) (h 0 _ _ rfl rfl)
    obtain ⟨m, rfl, m1, m2⟩ := shp_euis (d := d + 1) (h 1 _ _ rfl rfl)
    obtain ⟨l, rfl, l1⟩ := shp_clms (d := d) (h 2 _ _ rfl rfl)
    exact ⟨⟨e, r, m, l⟩, rfl, m1, m2, l1⟩
end Go.Fw
