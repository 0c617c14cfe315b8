/- Addresses and claims, as plain data. -/
import Derived.Test.YtlkhjalnnciocaaGreatOut
namespace Go.Fw
set_option maxRecDepth 4000
open Go.Proofs
def u8 (x : Int) : SV := .v (.int .u8 x)
def u64 (x : Int) : SV := .v (.int .u64 x)
theorem u8_mk (x : Int) : SV.v (.int .u8 x) = u8 x := rfl
theorem u64_mk (x : Int) : SV.v (.int .u64 x) = u64 x := rfl
/-- An address: sixteen bytes. -/
def IP : Type := {l : List Int // l.length = 16 ∧ ∀ x ∈ l, 0 ≤ x ∧ x ≤ 255}
instance : DecidableEq IP := inferInstanceAs (DecidableEq {l : List Int // l.length = 16 ∧ ∀ x ∈ l, 0 ≤ x ∧ x ≤ 255})
instance : Inhabited IP := ⟨⟨List.replicate 16 0, by decide⟩⟩
def ipV (a : IP) : SV := .ba 16 a.1
theorem ip_ext {a b : IP} (h : a.1 = b.1) : a = b := Subtype.ext h
structure Clm where
  ip : IP
  eui : Int
  seq : Int
  since : Int
  upto : Int
  deriving DecidableEq, Inhabited
def clmV (c : Clm) : SV := .agg [ipV c.ip, .v (.int .u64 c.eui), .v (.int .i64 c.seq), .v (.int .i64 c.since), .v (.int .i64 c.upto)]
theorem clm_mk (a : IP) (e s x y : Int) : SV.agg [ipV a, .v (.int .u64 e), .v (.int .i64 s), .v (.int .i64 x), .v (.int .i64 y)] = clmV ⟨a, e, s, x, y⟩ := rfl
theorem clm_mk2 (a : IP) (e s x y : Int) : SV.agg [ipV a, .v (.int .u64 e), int s, .v (.int .i64 x), .v (.int .i64 y)] = clmV ⟨a, e, s, x, y⟩ := rfl
theorem clm_u0 (a : IP) (e s x y : Int) (b : IP) : SV.agg (setL [ipV a, .v (.int .u64 e), .v (.int .i64 s), .v (.int .i64 x), .v (.int .i64 y)] 0 (ipV b)) = clmV ⟨b, e, s, x, y⟩ := rfl
theorem clm_u1 (a : IP) (e s x y : Int) (z : Int) : SV.agg (setL [ipV a, .v (.int .u64 e), .v (.int .i64 s), .v (.int .i64 x), .v (.int .i64 y)] 1 (.v (.int .u64 z))) = clmV ⟨a, z, s, x, y⟩ := rfl
theorem clm_u2 (a : IP) (e s x y : Int) (z : Int) : SV.agg (setL [ipV a, .v (.int .u64 e), .v (.int .i64 s), .v (.int .i64 x), .v (.int .i64 y)] 2 (.v (.int .i64 z))) = clmV ⟨a, e, z, x, y⟩ := rfl
theorem clm_u3 (a : IP) (e s x y : Int) (z : Int) : SV.agg (setL [ipV a, .v (.int .u64 e), .v (.int .i64 s), .v (.int .i64 x), .v (.int .i64 y)] 3 (.v (.int .i64 z))) = clmV ⟨a, e, s, z, y⟩ := rfl
theorem clm_u4 (a : IP) (e s x y : Int) (z : Int) : SV.agg (setL [ipV a, .v (.int .u64 e), .v (.int .i64 s), .v (.int .i64 x), .v (.int .i64 y)] 4 (.v (.int .i64 z))) = clmV ⟨a, e, s, x, z⟩ := rfl
theorem Wr.sub1 {x : Int} {K : Int → Prop} (h : K (IntKind.wrap .i64 (x - 1))) : Wr .i64 (x - 1) K := ⟨h⟩
def ip0 : IP := ⟨List.replicate 16 0, by decide⟩
def clm0 : Clm := ⟨⟨List.replicate 16 0, by decide⟩, 0, 0, 0, 0⟩
theorem clm_ext {a b : Clm} (h1 : a.ip = b.ip) (h2 : a.eui = b.eui) (h3 : a.seq = b.seq) (h4 : a.since = b.since) (h5 : a.upto = b.upto) : a = b := by
  cases a; cases b; simp_all
theorem clmV_eq (a b : Clm) : (a.ip.1 == b.ip.1 && (a.eui == b.eui && (a.seq == b.seq && (a.since == b.since && (a.upto == b.upto && true))))) = decide (a = b) := by
  rw [Bool.eq_iff_iff]
  simp only [Bool.and_eq_true, beq_iff_eq, decide_eq_true_eq, and_true]
  exact ⟨fun ⟨h1, h2, h3, h4, h5⟩ => clm_ext (ip_ext h1) h2 h3 h4 h5, fun h => by subst h; simp⟩
end Go.Fw
