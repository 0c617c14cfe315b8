/- Feasibility distances, as plain data. -/
import Derived.Test.YtoljhmpconbbhaaMakD
namespace Go.Fw
open Go.Proofs
structure Src where
  to : Dst
  best : Dis
  upto : Int
  deriving DecidableEq, Inhabited
def srcV (s : Src) : SV := .agg [dstV s.to, disV s.best, .v (.int .i64 s.upto)]
theorem src_mk (t : Dst) (d : Dis) (u : Int) : SV.agg [dstV t, disV d, .v (.int .i64 u)] = srcV ⟨t, d, u⟩ := rfl
theorem src_ext {a b : Src} (h1 : a.to = b.to) (h2 : a.best = b.best) (h3 : a.upto = b.upto) : a = b := by cases a; cases b; simp_all
theorem srcV_eq (a b : Src) : (((a.to.dst.ip.1 == b.to.dst.ip.1 && (a.to.dst.bits == b.to.dst.bits && true)) && ((a.to.src.ip.1 == b.to.src.ip.1 && (a.to.src.bits == b.to.src.bits && true)) && (a.to.router == b.to.router && true))) &&
    ((a.best.seq == b.best.seq && (a.best.metric == b.best.metric && true)) && (a.upto == b.upto && true))) = decide (a = b) := by
  rw [dst_eq, dis_eq, Bool.eq_iff_iff]
  simp only [Bool.and_eq_true, beq_iff_eq, decide_eq_true_eq, and_true]
  exact ⟨fun ⟨h1, h2, h3⟩ => src_ext h1 h2 h3, fun h => by subst h; simp⟩
def dst0 : Dst := ⟨pfx0, pfx0, 0⟩
def dis0 : Dis := ⟨0, 0⟩
def src0 : Src := ⟨dst0, dis0, 0⟩
end Go.Fw
