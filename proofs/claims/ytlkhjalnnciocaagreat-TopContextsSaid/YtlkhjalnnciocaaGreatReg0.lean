/- Link addresses, registrations and owners, as plain data. -/
import Derived.Test.YtlkhjalnnciocaaGreatClm
namespace Go.Fw
set_option maxRecDepth 4000
open Go.Proofs
structure Adr where
  mode : Int
  short : Int
  eui : Int
  deriving DecidableEq, Inhabited
def adrV (a : Adr) : SV := .agg [.v (.int .i64 a.mode), .v (.int .u16 a.short), .v (.int .u64 a.eui)]
theorem adr_mk (m s e : Int) : SV.agg [.v (.int .i64 m), .v (.int .u16 s), .v (.int .u64 e)] = adrV ⟨m, s, e⟩ := rfl
theorem adr_ext {a b : Adr} (h1 : a.mode = b.mode) (h2 : a.short = b.short) (h3 : a.eui = b.eui) : a = b := by cases a; cases b; simp_all
theorem adr_eq (a b : Adr) : (a.mode == b.mode && (a.short == b.short && (a.eui == b.eui && true))) = decide (a = b) := by
  rw [Bool.eq_iff_iff]
  simp only [Bool.and_eq_true, beq_iff_eq, decide_eq_true_eq, and_true]
  exact ⟨fun ⟨h1, h2, h3⟩ => adr_ext h1 h2 h3, fun h => by subst h; simp⟩
structure Reg where
  ip : IP
  eui : Int
  seq : Int
  link : Adr
  state : Int
  upto : Int
  deriving DecidableEq, Inhabited
def regV (r : Reg) : SV := .agg [ipV r.ip, .v (.int .u64 r.eui), .v (.int .u8 r.seq), adrV r.link, .v (.int .i64 r.state), .v (.int .i64 r.upto)]
theorem reg_mk (a : IP) (e s : Int) (k : Adr) (t u : Int) : SV.agg [ipV a, .v (.int .u64 e), .v (.int .u8 s), adrV k, .v (.int .i64 t), .v (.int .i64 u)] = regV ⟨a, e, s, k, t, u⟩ := rfl
theorem reg_mk2 (a : IP) (e s : Int) (k : Adr) (t u : Int) : SV.agg [ipV a, .v (.int .u64 e), .v (.int .u8 s), adrV k, .v (.int .i64 t), int u] = regV ⟨a, e, s, k, t, u⟩ := rfl
theorem reg_mk3 (a : IP) (e s m h v t u : Int) : SV.agg [ipV a, .v (.int .u64 e), .v (.int .u8 s), SV.agg [.v (.int .i64 m), .v (.int .u16 h), .v (.int .u64 v)], .v (.int .i64 t), .v (.int .i64 u)] = regV ⟨a, e, s, ⟨m, h, v⟩, t, u⟩ := rfl
theorem reg_mk4 (a : IP) (e s m h v t u : Int) : SV.agg [ipV a, .v (.int .u64 e), .v (.int .u8 s), SV.agg [.v (.int .i64 m), .v (.int .u16 h), .v (.int .u64 v)], .v (.int .i64 t), int u] = regV ⟨a, e, s, ⟨m, h, v⟩, t, u⟩ := rfl
theorem reg_ext {a b : Reg} (h1 : a.ip = b.ip) (h2 : a.eui = b.eui) (h3 : a.seq = b.seq) (h4 : a.link = b.link) (h5 : a.state = b.state) (h6 : a.upto = b.upto) : a = b := by cases a; cases b; simp_all
theorem reg_eq (a b : Reg) : (a.ip.1 == b.ip.1 && (a.eui == b.eui && (a.seq == b.seq && ((a.link.mode == b.link.mode && (a.link.short == b.link.short && (a.link.eui == b.link.eui && true))) && (a.state == b.state && (a.upto == b.upto && true)))))) = decide (a = b) := by
  rw [adr_eq, Bool.eq_iff_iff]
  simp only [Bool.and_eq_true, beq_iff_eq, decide_eq_true_eq, and_true]
  exact ⟨fun ⟨h1, h2, h3, h4, h5, h6⟩ => reg_ext (ip_ext h1) h2 h3 h4 h5 h6, fun h => by subst h; simp⟩
structure Own where
  eui : Int
  seq : Int
  status : Int
  life : Int
  deriving DecidableEq, Inhabited
def ownV (o : Own) : SV := .agg [.v (.int .u64 o.eui), .v (.int .u8 o.seq), .v (.int .u8 o.status), .v (.int .u16 o.life)]
theorem own_mk (e s t l : Int) : SV.agg [.v (.int .u64 e), .v (.int .u8 s), .v (.int .u8 t), .v (.int .u16 l)] = ownV ⟨e, s, t, l⟩ := rfl
def adr0 : Adr := ⟨0, 0, 0⟩
def reg0 : Reg := ⟨ip0, 0, 0, adr0, 0, 0⟩
end Go.Fw
