/- What comes in: numbers, addresses, fragments, buffers. -/
import Derived.Test.YteebplkhnhpiiaaRasX
namespace Go.Fw
set_option maxRecDepth 4000
open Go.Proofs
theorem shp_int {t d : Nat} {s : SV} (ht : tt t = .int .i64) (h : Shp Try.prog tt (d + 1) t s) : ∃ n, s = int n ∧ -9223372036854775808 ≤ n ∧ n ≤ 9223372036854775807 := by
  simp only [Shp, ht] at h
  obtain ⟨n, rfl, hn⟩ := h
  exact ⟨n, rfl, bounds_i64 hn⟩
theorem shp_bool {t d : Nat} {s : SV} (ht : tt t = .bool) (h : Shp Try.prog tt (d + 1) t s) : ∃ b, s = bool b := by
  simp only [Shp, ht] at h
  obtain ⟨b, rfl⟩ := h
  exact ⟨b, rfl⟩
theorem shp_k {t d : Nat} {s : SV} (k : IntKind) (ht : tt t = .int k) (h : Shp Try.prog tt (d + 1) t s) : ∃ n, s = .v (.int k n) := by
  simp only [Shp, ht] at h
  obtain ⟨n, rfl, hn⟩ := h
  exact ⟨n, rfl⟩
theorem shp_u8 {t d : Nat} {s : SV} (ht : tt t = .int .u8) (h : Shp Try.prog tt (d + 1) t s) : ∃ n, s = b8 n := by
  simp only [Shp, ht] at h
  obtain ⟨n, rfl, hn⟩ := h
  refine ⟨UInt8.ofNat n.toNat, b8_ofInt ?_⟩
  simp [Lit.wf, IntKind.min, IntKind.max, IntKind.signed, IntKind.bits] at hn
  omega
theorem shp_ints {d : Nat} {s : SV} (h : Shp Try.prog tt (d + 2) 32 s) : ∃ l, s = .fs .no 1 (ints l) ∧ l.length ≤ maxLen := by
  obtain ⟨rows, rfl, hl, h⟩ := h
  obtain ⟨l, rfl, _⟩ := rows_of int (fun _ => True) fun r hr => let ⟨n, h1, _⟩ := shp_int (d := d) rfl (h 3 Try.underlying32 r hr); ⟨n, h1, trivial⟩
  exact ⟨l, rfl, by simpa using hl⟩
theorem shp_bools {d : Nat} {s : SV} (h : Shp Try.prog tt (d + 2) 59 s) : ∃ l, s = .fs .no 1 (lst bool l) ∧ l.length ≤ maxLen := by
  obtain ⟨rows, rfl, hl, h⟩ := h
  obtain ⟨l, rfl, _⟩ := rows_of bool (fun _ => True) fun r hr => let ⟨n, h1⟩ := shp_bool (d := d) rfl (h 4 Try.underlying59 r hr); ⟨n, h1, trivial⟩
  exact ⟨l, rfl, by simpa using hl⟩
theorem shp_bytes {d : Nat} {s : SV} (h : Shp Try.prog tt (d + 2) 29 s) : ∃ l, s = .fs .no 1 (lst b8 l) ∧ l.length ≤ 9223372036854775807 := by
  obtain ⟨rows, rfl, hl, h⟩ := h
  obtain ⟨l, rfl, _⟩ := rows_of b8 (fun _ => True) fun r hr => let ⟨n, h1⟩ := shp_u8 (d := d) rfl (h 5 Try.underlying29 r hr); ⟨n, h1, trivial⟩
  exact ⟨l, rfl, Nat.le_trans (by simpa using hl) (by decide)⟩
theorem shp_adr {d : Nat} {s : SV} (h : Shp Try.prog tt (d + 2) 28 s) : ∃ a, s = adrV a := by
  obtain ⟨cs, rfl, hl, h⟩ := h
  match cs, hl with
  | [a, b, c], _ =>
    obtain ⟨m, rfl, _⟩ := shp_int (d := d) rfl (h 0 _ _ rfl rfl)
    obtain ⟨o, rfl⟩ := shp_k (d := d) .u16 rfl (h 1 _ _ rfl rfl)
    obtain ⟨e, rfl⟩ := shp_k (d := d) .u64 rfl (h 2 _ _ rfl rfl)
    exact ⟨⟨m, o, e⟩, rfl⟩
theorem shp_frg {d : Nat} {s : SV} (h : Shp Try.prog tt (d + 3) 31 s) : ∃ f, s = frgV f ∧ f.data.length ≤ 9223372036854775807 := by
  obtain ⟨cs, rfl, hl, h⟩ := h
  match cs, hl with
  | [a, b, c, e], _ =>
    obtain ⟨z, rfl, _⟩ := shp_int (d := d + 1) rfl (h 0 _ _ rfl rfl)
    obtain ⟨g, rfl⟩ := shp_k (d := d + 1) .u16 rfl (h 1 _ _ rfl rfl)
    obtain ⟨o, rfl, _⟩ := shp_int (d := d + 1) rfl (h 2 _ _ rfl rfl)
    obtain ⟨l, rfl, hl⟩ := shp_bytes (d := d) (h 3 _ _ rfl rfl)
    exact ⟨⟨z, g, o, l⟩, rfl, hl⟩
theorem shp_frgs {d : Nat} {s : SV} (h : Shp Try.prog tt (d + 4) 37 s) : ∃ l, s = .fs .no 4 (lst frgV l) ∧ l.length ≤ 9223372036854775807 ∧ ∀ f ∈ l, f.data.length ≤ 9223372036854775807 := by
  obtain ⟨rows, rfl, hl, h⟩ := h
  obtain ⟨l, rfl, hs⟩ := rows_of frgV (fun f => f.data.length ≤ 9223372036854775807) fun r hr => let ⟨n, h1, h2⟩ := shp_frg (d := d) (h 31 Try.underlying37 r hr); ⟨n, h1, h2⟩
  exact ⟨l, rfl, Nat.le_trans (by simpa using hl) (by decide), hs⟩
theorem shp_buf {d : Nat} {s : SV} (h : Shp Try.prog tt (d + 5) 41 s) : ∃ b, s = bufV b ∧ sizB b := by
  obtain ⟨cs, rfl, hl, h⟩ := h
  match cs, hl with
  | [a, b, c, e, f, g], _ =>
    obtain ⟨sr, rfl⟩ := shp_adr (d := d + 2) (h 0 _ _ rfl rfl)
    obtain ⟨ds, rfl⟩ := shp_adr (d := d + 2) (h 1 _ _ rfl rfl)
    obtain ⟨tg, rfl⟩ := shp_k (d := d + 3) .u16 rfl (h 2 _ _ rfl rfl)
    obtain ⟨z, rfl, _⟩ := shp_int (d := d + 3) rfl (h 3 _ _ rfl rfl)
    obtain ⟨l, rfl, l1, l2⟩ := shp_frgs (d := d) (h 4 _ _ rfl rfl)
    obtain ⟨u, rfl, _⟩ := shp_int (d := d + 3) rfl (h 5 _ _ rfl rfl)
    exact ⟨⟨sr, ds, tg, z, l, u⟩, rfl, l1, l2⟩
theorem shp_bufs {d : Nat} {s : SV} (h : Shp Try.prog tt (d + 6) 22 s) : ∃ l, s = .fs .no 10 (lst bufV l) ∧ sizL l := by
  obtain ⟨rows, rfl, hl, h⟩ := h
  obtain ⟨l, rfl, hs⟩ := rows_of bufV sizB fun r hr => let ⟨n, h1, h2⟩ := shp_buf (d := d) (h 41 Try.underlying22 r hr); ⟨n, h1, h2⟩
  exact ⟨l, rfl, Nat.le_trans (by simpa using hl) (by decide), hs⟩
end Go.Fw
