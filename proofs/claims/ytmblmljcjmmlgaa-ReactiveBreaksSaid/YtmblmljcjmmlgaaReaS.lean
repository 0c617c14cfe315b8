/- What comes in: numbers, paths, searches, messages, states. -/
import Derived.Test.YtmblmljcjmmlgaaReaT
namespace Go.Fw
open Go.Proofs
theorem shp_int {t d : Nat} {s : SV} (ht : tt t = .int .i64) (h : Shp Try.prog tt (d + 1) t s) : ∃ n, s = int n ∧ -9223372036854775808 ≤ n ∧ n ≤ 9223372036854775807 := by
  simp only [Shp, ht] at h
  obtain ⟨n, rfl, hn⟩ := h
  exact ⟨n, rfl, bounds_i64 hn⟩
theorem shp_u64 {t d : Nat} {s : SV} (ht : tt t = .int .u64) (h : Shp Try.prog tt (d + 1) t s) : ∃ n, s = .v (.int .u64 n) ∧ 0 ≤ n := by
  simp only [Shp, ht] at h
  obtain ⟨n, rfl, hn⟩ := h
  refine ⟨n, rfl, ?_⟩
  simp [Lit.wf, IntKind.min, IntKind.max, IntKind.signed, IntKind.bits] at hn
  omega
theorem shp_u16 {t d : Nat} {s : SV} (ht : tt t = .int .u16) (h : Shp Try.prog tt (d + 1) t s) : ∃ n, s = .v (.int .u16 n) ∧ 0 ≤ n ∧ n ≤ 65535 := by
  simp only [Shp, ht] at h
  obtain ⟨n, rfl, hn⟩ := h
  refine ⟨n, rfl, ?_⟩
  simp [Lit.wf, IntKind.min, IntKind.max, IntKind.signed, IntKind.bits] at hn
  omega
theorem shp_bool {t d : Nat} {s : SV} (ht : tt t = .bool) (h : Shp Try.prog tt (d + 1) t s) : ∃ b, s = .v (.bool b) := by
  simp only [Shp, ht] at h
  exact h
theorem shp_ints {d : Nat} {s : SV} (h : Shp Try.prog tt (d + 2) 22 s) : ∃ l, s = .fs .no 1 (ints l) ∧ l.length ≤ maxLen := by
  obtain ⟨rows, rfl, hl, h⟩ := h
  obtain ⟨l, rfl, _⟩ := rows_of int (fun _ => True) fun r hr => let ⟨n, h1, _⟩ := shp_int (d := d) rfl (h 3 Try.underlying22 r hr); ⟨n, h1, trivial⟩
  exact ⟨l, rfl, by simpa using hl⟩
theorem shp_dis {d : Nat} {s : SV} (h : Shp Try.prog tt (d + 2) 44 s) : ∃ x, s = disV x := by
  obtain ⟨cs, rfl, hl, h⟩ := h
  match cs, hl with
  | [a, b], _ =>
    obtain ⟨n, rfl, _⟩ := shp_u16 (d := d) rfl (h 0 _ _ rfl rfl)
    obtain ⟨m, rfl, _⟩ := shp_int (d := d) rfl (h 1 _ _ rfl rfl)
    exact ⟨⟨n, m⟩, rfl⟩
theorem shp_pth {d : Nat} {s : SV} (h : Shp Try.prog tt (d + 3) 46 s) : ∃ p, s = pthV p ∧ 0 ≤ p.to := by
  obtain ⟨cs, rfl, hl, h⟩ := h
  match cs, hl with
  | [a, b, c, e, f], _ =>
    obtain ⟨n1, rfl, h1⟩ := shp_u64 (d := d + 1) rfl (h 0 _ _ rfl rfl)
    obtain ⟨n2, rfl, _⟩ := shp_u64 (d := d + 1) rfl (h 1 _ _ rfl rfl)
    obtain ⟨x, rfl⟩ := shp_dis (d := d) (h 2 _ _ rfl rfl)
    obtain ⟨b4, rfl⟩ := shp_bool (d := d + 1) rfl (h 3 _ _ rfl rfl)
    obtain ⟨n5, rfl, _⟩ := shp_int (d := d + 1) rfl (h 4 _ _ rfl rfl)
    exact ⟨⟨n1, n2, x, b4, n5⟩, rfl, h1⟩
theorem shp_pths {d : Nat} {s : SV} (h : Shp Try.prog tt (d + 4) 29 s) : ∃ l, s = .fs .no 6 (lst pthV l) ∧ (∀ x ∈ l, 0 ≤ x.to) ∧ l.length ≤ 9223372036854775807 := by
  obtain ⟨rows, rfl, hl, h⟩ := h
  obtain ⟨l, rfl, hs⟩ := rows_of pthV (fun x => 0 ≤ x.to) fun r hr => let ⟨n, h1, h2⟩ := shp_pth (d := d) (h 46 Try.underlying29 r hr); ⟨n, h1, h2⟩
  exact ⟨l, rfl, hs, Nat.le_trans (by simpa using hl) (by decide)⟩
theorem shp_dsc {d : Nat} {s : SV} (h : Shp Try.prog tt (d + 2) 95 s) : ∃ p, s = dscV p ∧ 0 ≤ p.to := by
  obtain ⟨cs, rfl, hl, h⟩ := h
  match cs, hl with
  | [a, b, c], _ =>
    obtain ⟨n1, rfl, h1⟩ := shp_u64 (d := d) rfl (h 0 _ _ rfl rfl)
    obtain ⟨n2, rfl, _⟩ := shp_int (d := d) rfl (h 1 _ _ rfl rfl)
    obtain ⟨n3, rfl, _⟩ := shp_int (d := d) rfl (h 2 _ _ rfl rfl)
    exact ⟨⟨n1, n2, n3⟩, rfl, h1⟩
theorem shp_dscs {d : Nat} {s : SV} (h : Shp Try.prog tt (d + 3) 30 s) : ∃ l, s = .fs .no 3 (lst dscV l) ∧ (∀ x ∈ l, 0 ≤ x.to) ∧ l.length ≤ 9223372036854775807 := by
  obtain ⟨rows, rfl, hl, h⟩ := h
  obtain ⟨l, rfl, hs⟩ := rows_of dscV (fun x => 0 ≤ x.to) fun r hr => let ⟨n, h1, h2⟩ := shp_dsc (d := d) (h 95 Try.underlying30 r hr); ⟨n, h1, h2⟩
  exact ⟨l, rfl, hs, Nat.le_trans (by simpa using hl) (by decide)⟩
theorem shp_msg {d : Nat} {s : SV} (h : Shp Try.prog tt (d + 2) 41 s) : ∃ m, s = msgV m ∧ MsgOK m := by
  obtain ⟨cs, rfl, hl, h⟩ := h
  match cs, hl with
  | [x1, x2, x3, x4, x5, x6, x7, x8], _ =>
    obtain ⟨n1, rfl, _⟩ := shp_int (d := d) rfl (h 0 _ _ rfl rfl)
    obtain ⟨n2, rfl, h2⟩ := shp_u64 (d := d) rfl (h 1 _ _ rfl rfl)
    obtain ⟨n3, rfl, h3⟩ := shp_u64 (d := d) rfl (h 2 _ _ rfl rfl)
    obtain ⟨n4, rfl, _⟩ := shp_u16 (d := d) rfl (h 3 _ _ rfl rfl)
    obtain ⟨n5, rfl, _⟩ := shp_u16 (d := d) rfl (h 4 _ _ rfl rfl)
    obtain ⟨b6, rfl⟩ := shp_bool (d := d) rfl (h 5 _ _ rfl rfl)
    obtain ⟨n7, rfl, _⟩ := shp_int (d := d) rfl (h 6 _ _ rfl rfl)
    obtain ⟨n8, rfl, _⟩ := shp_int (d := d) rfl (h 7 _ _ rfl rfl)
    exact ⟨⟨n1, n2, n3, n4, n5, b6, n7, n8⟩, rfl, h2, h3⟩
theorem shp_rea {d : Nat} {s : SV} (h : Shp Try.prog tt (d + 5) 32 s) : ∃ r, s = reaF r ∧ ReaR r := by
  obtain ⟨cs, rfl, hl, h⟩ := h
  match cs, hl with
  | [x1, x2, x3, x4, x5], _ =>
    obtain ⟨n1, rfl, _⟩ := shp_u64 (d := d + 3) rfl (h 0 _ _ rfl rfl)
    obtain ⟨n2, rfl, _⟩ := shp_u16 (d := d + 3) rfl (h 1 _ _ rfl rfl)
    obtain ⟨p, rfl, p1, p2⟩ := shp_pths (d := d) (h 2 _ _ rfl rfl)
    obtain ⟨q, rfl, q1, q2⟩ := shp_dscs (d := d + 1) (h 3 _ _ rfl rfl)
    obtain ⟨u, rfl, u1, u2⟩ := shp_pths (d := d) (h 4 _ _ rfl rfl)
    exact ⟨⟨n1, n2, p, q, u⟩, rfl, p1, q1, u1, p2, q2, u2⟩
end Go.Fw
