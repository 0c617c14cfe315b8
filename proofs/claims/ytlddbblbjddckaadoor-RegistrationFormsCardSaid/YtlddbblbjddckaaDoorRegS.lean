/- What comes in: registrations. -/
import Derived.Test.YtlddbblbjddckaaDoorShpI
namespace Go.Fw
open Go.Proofs
theorem shp_adr {d : Nat} {s : SV} (h : Shp Tryd.prog tt (d + 2) 40 s) : ∃ x, s = adrV x := by
  obtain ⟨cs, rfl, hl, h⟩ := h
  match cs, hl with
  | [a, b, c], _ =>
    obtain ⟨n1, rfl⟩ := shp_any (d := d) rfl (h 0 _ _ rfl rfl)
    obtain ⟨n2, rfl⟩ := shp_any (d := d) rfl (h 1 _ _ rfl rfl)
    obtain ⟨n3, rfl⟩ := shp_any (d := d) rfl (h 2 _ _ rfl rfl)
    exact ⟨⟨n1, n2, n3⟩, rfl⟩
theorem shp_own {d : Nat} {s : SV} (h : Shp Tryd.prog tt (d + 2) 37 s) : ∃ x, s = ownV x ∧ OwnOK x ∧ 0 ≤ x.status ∧ x.status ≤ 255 := by
  obtain ⟨cs, rfl, hl, h⟩ := h
  match cs, hl with
  | [a, b, c, e], _ =>
    obtain ⟨n1, rfl⟩ := shp_any (d := d) rfl (h 0 _ _ rfl rfl)
    obtain ⟨n2, rfl, h2⟩ := shp_u8 (d := d) rfl (h 1 _ _ rfl rfl)
    obtain ⟨n3, rfl, h3⟩ := shp_u8 (d := d) rfl (h 2 _ _ rfl rfl)
    obtain ⟨n4, rfl, h4⟩ := shp_u16 (d := d) rfl (h 3 _ _ rfl rfl)
    exact ⟨⟨n1, n2, n3, n4⟩, rfl, ⟨h2, h4⟩, h3⟩
theorem shp_reg {d : Nat} {s : SV} (h : Shp Tryd.prog tt (d + 3) 44 s) : ∃ x, s = regV x ∧ 0 ≤ x.seq ∧ x.seq ≤ 255 := by
  obtain ⟨cs, rfl, hl, h⟩ := h
  match cs, hl with
  | [a, b, c, e, f, g], _ =>
    obtain ⟨ip, rfl⟩ := shp_ip (d := d + 1) (h 0 _ _ rfl rfl)
    obtain ⟨n1, rfl⟩ := shp_any (d := d + 1) rfl (h 1 _ _ rfl rfl)
    obtain ⟨n2, rfl, h2⟩ := shp_u8 (d := d + 1) rfl (h 2 _ _ rfl rfl)
    obtain ⟨k, rfl⟩ := shp_adr (d := d) (h 3 _ _ rfl rfl)
    obtain ⟨n3, rfl⟩ := shp_any (d := d + 1) rfl (h 4 _ _ rfl rfl)
    obtain ⟨n4, rfl⟩ := shp_any (d := d + 1) rfl (h 5 _ _ rfl rfl)
    exact ⟨⟨ip, n1, n2, k, n3, n4⟩, rfl, h2⟩
theorem shp_regs {d : Nat} {s : SV} (h : Shp Tryd.prog tt (d + 4) 29 s) : ∃ l, s = .fs .no 23 (lst regV l) ∧ l.length ≤ maxLen ∧ seqR l := by
  obtain ⟨rows, rfl, hl, h⟩ := h
  obtain ⟨l, rfl, hs⟩ := rows_of regV (fun x => 0 ≤ x.seq ∧ x.seq ≤ 255) fun r hr => let ⟨n, h1, h2⟩ := shp_reg (d := d) (h 44 Tryd.underlying29 r hr); ⟨n, h1, h2⟩
  exact ⟨l, rfl, by simpa using hl, hs⟩
end Go.Fw
