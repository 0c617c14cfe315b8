/- What the listed variable holds when a law begins. -/
import Derived.Test.YtlddbblbjddckaaDoorRows
import Derived.Test.YtlddbblbjddckaaDoorRegH
namespace Go.Fw
open Go.Proofs Go.Proofs.YtlddbblbjddckaaDoor
theorem gLink : Tryd.prog.globalNamed "multihop/multihoplaw21.link" = some 0 := by kernel_rfl
theorem tLink : (Tryd.prog.globals[0]?).map (·.type) = some 40 := by kernel_rfl
theorem laid_glob (W : World) (h : laidMetH Tryd.prog [("multihop/multihoplaw21.link", Rows.laid_multihop_multihoplaw21_link)] W) : Glob ⟨fun _ => none, fun _ => False⟩ W := by
  rw [MakeChecks.laidMetH_plain _ _ _ (by kernel_rfl)] at h
  obtain ⟨ps, ⟨g0, t0, cs0, f0, p0, q0, hg0, ht0, hv0, hd0, _, _⟩, _, _⟩ := h
  obtain rfl := Option.some.inj (gLink.symm.trans hg0)
  obtain rfl := Option.some.inj (tLink.symm.trans ht0)
  obtain ⟨xs, m, _, hx, hl, hlen, hf⟩ := DataW.trod_struct Tryd.underlying40 hd0
  have c0 : Tryd.prog.cellsOf 40 = 3 := by kernel_rfl
  have hcs : ∃ T fz, W.heap[0]? = some (.cells cs0 T fz) := by
    simp only [World.var?, hg0, Option.bind_some] at hv0
    split at hv0
    · rename_i cs T fz hh
      cases hv0
      exact ⟨T, fz, hh⟩
    · cases hv0
  obtain ⟨T, fz, hh⟩ := hcs
  match xs, hlen, hx with
  | [x0, x1, x2], _, hx =>
    have k3 : Tryd.prog.cellsOf 3 = 1 := by kernel_rfl
    have k38 : Tryd.prog.cellsOf 38 = 1 := by kernel_rfl
    have k34 : Tryd.prog.cellsOf 34 = 1 := by kernel_rfl
    have h0 : DataW.trod (fun _ => ()) Tryd.prog W 0 (fun _ => true) false m 3 ((cs0.toList.drop 0).take (Tryd.prog.cellsOf 3)) = some x0 := hf 0 _ rfl
    have h1 : DataW.trod (fun _ => ()) Tryd.prog W 0 (fun _ => true) false m 38 ((cs0.toList.drop 1).take (Tryd.prog.cellsOf 38)) = some x1 := hf 1 _ rfl
    have h2 : DataW.trod (fun _ => ()) Tryd.prog W 0 (fun _ => true) false m 34 ((cs0.toList.drop 2).take (Tryd.prog.cellsOf 34)) = some x2 := hf 2 _ rfl
    rw [k3] at h0
    rw [k38] at h1
    rw [k34] at h2
    obtain ⟨n0, e0, y0, _⟩ := DataW.trod_int (k := .i64) (by kernel_rfl) h0
    obtain ⟨n1, e1, y1, _⟩ := DataW.trod_int (k := .u16) (by kernel_rfl) h1
    obtain ⟨n2, e2, y2, _⟩ := DataW.trod_int (k := .u64) (by kernel_rfl) h2
    have hx1 : Rows.laid_multihop_multihoplaw21_link = DataW.agg [x0.1, x1.1, x2.1] := (Prod.mk.inj hx).1
    rw [y0, y1, y2] at hx1
    have hx2 : (2 : Int) = n0 ∧ (1 : Int) = n1 ∧ (0 : Int) = n2 := by
      simpa [Rows.laid_multihop_multihoplaw21_link] using hx1
    obtain ⟨rfl, rfl, rfl⟩ := hx2
    rw [c0] at hl
    have hv : cs0.toList = [.int .i64 2, .int .u16 1, .int .u64 0] := by
      generalize cs0.toList = v at *
      match v, hl with
      | [a, b, c], _ =>
        simp at e0 e1 e2
        rw [e0, e1, e2]
    intro g s hg
    match g, hg with
    | 0, hg =>
      have : s = .agg [.v (.int .i64 2), .v (.int .u16 1), .v (.int .u64 0)] := (Option.some.inj hg).symm
      subst this
      refine ⟨(lt_of_getElem? hh), fun h => h, (fun k C h => by cases h), cs0, T, fz, [Value.int .i64 2, Value.int .u16 1, Value.int .u64 0], hh, rfl, fun j x hx => ?_, fun cx' w' => ?_⟩
      · rw [← hv, Array.getElem?_toList] at hx; exact hx
      · exact .cons (vs := [_]) (.v rfl) (.cons (vs := [_]) (.v rfl) (.cons (vs := [_]) (.v rfl) .nil))
    | g + 1, hg => cases hg
end Go.Fw
