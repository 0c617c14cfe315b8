/- What comes in: requests. -/
import Derived.Test.YtbbmobmnijljgaaShp
namespace Go.Fw
open Go.Proofs
theorem shp_req {d : Nat} {s : SV} (h : Shp Try.prog tt (d + 4) 46 s) : ∃ x, s = reqV x ∧ 0 ≤ x.seq ∧ x.seq ≤ 65535 := by
  obtain ⟨cs, rfl, hl, h⟩ := h
  match cs, hl with
  | [a, b, c, e, f, g], _ =>
    obtain ⟨t, rfl⟩ := shp_dst (d := d) (h 0 _ _ rfl rfl)
    obtain ⟨n1, rfl, hn⟩ := shp_u16 (d := d + 2) rfl (h 1 _ _ rfl rfl)
    obtain ⟨n2, rfl⟩ := shp_any (d := d + 2) rfl (h 2 _ _ rfl rfl)
    obtain ⟨n3, rfl⟩ := shp_any (d := d + 2) rfl (h 3 _ _ rfl rfl)
    obtain ⟨n4, rfl⟩ := shp_any (d := d + 2) rfl (h 4 _ _ rfl rfl)
    obtain ⟨n5, rfl⟩ := shp_any (d := d + 2) rfl (h 5 _ _ rfl rfl)
    exact ⟨⟨t, n1, n2, n3, n4, n5⟩, rfl, hn⟩
theorem shp_reqs {d : Nat} {s : SV} (h : Shp Try.prog tt (d + 5) 27 s) : ∃ l, s = .fs .no 40 (lst reqV l) ∧ seqs l := by
  obtain ⟨rows, rfl, hl, h⟩ := h
  obtain ⟨l, rfl, hs⟩ := rows_of reqV (fun x => 0 ≤ x.seq ∧ x.seq ≤ 65535) fun r hr => let ⟨n, h1, h2⟩ := shp_req (d := d) (h 46 Try.underlying27 r hr); ⟨n, h1, h2⟩
  exact ⟨l, rfl, hs⟩
end Go.Fw
