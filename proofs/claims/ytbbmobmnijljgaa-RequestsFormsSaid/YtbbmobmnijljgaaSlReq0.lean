/- Requests for sequence numbers, as plain data. -/
import Derived.Test.YtbbmobmnijljgaaMakD
namespace Go.Fw
open Go.Proofs
structure Req where
  to : Dst
  seq : Int
  hops : Int
  who : Int
  next : Int
  left : Int
  deriving DecidableEq, Inhabited
def reqV (r : Req) : SV := .agg [dstV r.to, .v (.int .u16 r.seq), .v (.int .i64 r.hops), .v (.int .u64 r.who), .v (.int .i64 r.next), .v (.int .i64 r.left)]
theorem req_mk (t : Dst) (a b c d e : Int) : SV.agg [dstV t, .v (.int .u16 a), .v (.int .i64 b), .v (.int .u64 c), .v (.int .i64 d), .v (.int .i64 e)] = reqV ⟨t, a, b, c, d, e⟩ := rfl
theorem req_ext {a b : Req} (h1 : a.to = b.to) (h2 : a.seq = b.seq) (h3 : a.hops = b.hops) (h4 : a.who = b.who) (h5 : a.next = b.next) (h6 : a.left = b.left) : a = b := by cases a; cases b; simp_all
theorem reqV_eq (a b : Req) : (((a.to.dst.ip.1 == b.to.dst.ip.1 && (a.to.dst.bits == b.to.dst.bits && true)) && ((a.to.src.ip.1 == b.to.src.ip.1 && (a.to.src.bits == b.to.src.bits && true)) && (a.to.router == b.to.router && true))) &&
    (a.seq == b.seq && (a.hops == b.hops && (a.who == b.who && (a.next == b.next && (a.left == b.left && true)))))) = decide (a = b) := by
  rw [dst_eq, Bool.eq_iff_iff]
  simp only [Bool.and_eq_true, beq_iff_eq, decide_eq_true_eq, and_true]
  exact ⟨fun ⟨h1, h2, h3, h4, h5, h6⟩ => req_ext h1 h2 h3 h4 h5 h6, fun h => by subst h; simp⟩
def dst0 : Dst := ⟨pfx0, pfx0, 0⟩
def dis0 : Dis := ⟨0, 0⟩
def req0 : Req := ⟨dst0, 0, 0, 0, 0, 0⟩
end Go.Fw
