/- Reactive routing, as plain data. -/
import Derived.Test.YtmblmljcjmmlgaaMakD
namespace Go.Fw
set_option maxRecDepth 4000
open Go.Proofs
set_option maxHeartbeats 4000000
structure Pth where
  to : Int
  nx : Int
  own : Dis
  brk : Bool
  upto : Int
  deriving DecidableEq, Inhabited
def pthV (p : Pth) : SV := .agg [.v (.int .u64 p.to), .v (.int .u64 p.nx), disV p.own, .v (.bool p.brk), .v (.int .i64 p.upto)]
theorem pth_mk (a b : Int) (d : Dis) (c : Bool) (e : Int) : SV.agg [.v (.int .u64 a), .v (.int .u64 b), disV d, .v (.bool c), .v (.int .i64 e)] = pthV ⟨a, b, d, c, e⟩ := rfl
theorem pth_mk2 (a b q m : Int) (c : Bool) (e : Int) : SV.agg [.v (.int .u64 a), .v (.int .u64 b), .agg [.v (.int .u16 q), .v (.int .i64 m)], .v (.bool c), .v (.int .i64 e)] = pthV ⟨a, b, ⟨q, m⟩, c, e⟩ := rfl
theorem pth_mk3 (a b : Int) (d : Dis) (c : Bool) (e : Int) : SV.agg [.v (.int .u64 a), .v (.int .u64 b), disV d, .v (.bool c), int e] = pthV ⟨a, b, d, c, e⟩ := rfl
theorem pth_ext {a b : Pth} (h1 : a.to = b.to) (h2 : a.nx = b.nx) (h3 : a.own = b.own) (h4 : a.brk = b.brk) (h5 : a.upto = b.upto) : a = b := by cases a; cases b; simp_all
theorem pthV_eq (a b : Pth) : (a.to == b.to && (a.nx == b.nx && ((a.own.seq == b.own.seq && (a.own.metric == b.own.metric && true)) && (a.brk == b.brk && (a.upto == b.upto && true))))) = decide (a = b) := by
  rw [dis_eq, Bool.eq_iff_iff]
  simp only [Bool.and_eq_true, beq_iff_eq, decide_eq_true_eq, and_true]
  exact ⟨fun ⟨h1, h2, h3, h4, h5⟩ => pth_ext h1 h2 h3 h4 h5, fun h => by subst h; simp⟩
structure Dsc where
  to : Int
  left : Int
  again : Int
  deriving DecidableEq, Inhabited
def dscV (d : Dsc) : SV := .agg [.v (.int .u64 d.to), .v (.int .i64 d.left), .v (.int .i64 d.again)]
theorem dsc_mk (a b c : Int) : SV.agg [.v (.int .u64 a), .v (.int .i64 b), .v (.int .i64 c)] = dscV ⟨a, b, c⟩ := rfl
theorem dscV_eq (a b : Dsc) : (a.to == b.to && (a.left == b.left && (a.again == b.again && true))) = decide (a = b) := by
  rw [Bool.eq_iff_iff]
  simp only [Bool.and_eq_true, beq_iff_eq, decide_eq_true_eq, and_true]
  exact ⟨fun ⟨h1, h2, h3⟩ => by cases a; cases b; simp_all, fun h => by subst h; simp⟩
/-- A message. -/
structure Msg where
  kind : Int
  org : Int
  to : Int
  num : Int
  kn : Int
  has : Bool
  cost : Int
  hops : Int
  deriving DecidableEq, Inhabited
def msgV (m : Msg) : SV := .agg [.v (.int .i64 m.kind), .v (.int .u64 m.org), .v (.int .u64 m.to), .v (.int .u16 m.num), .v (.int .u16 m.kn), .v (.bool m.has), .v (.int .i64 m.cost), .v (.int .i64 m.hops)]
theorem msg_mk (a b c d e : Int) (f : Bool) (g h : Int) : SV.agg [.v (.int .i64 a), .v (.int .u64 b), .v (.int .u64 c), .v (.int .u16 d), .v (.int .u16 e), .v (.bool f), .v (.int .i64 g), .v (.int .i64 h)] = msgV ⟨a, b, c, d, e, f, g, h⟩ := rfl
theorem msgV_eq (a b : Msg) : (a.kind == b.kind && (a.org == b.org && (a.to == b.to && (a.num == b.num && (a.kn == b.kn && (a.has == b.has && (a.cost == b.cost && (a.hops == b.hops && true)))))))) = decide (a = b) := by
  rw [Bool.eq_iff_iff]
  simp only [Bool.and_eq_true, beq_iff_eq, decide_eq_true_eq, and_true]
  exact ⟨fun ⟨h1, h2, h3, h4, h5, h6, h7, h8⟩ => by cases a; cases b; simp_all, fun h => by subst h; simp⟩
structure Snd where
  to : Int
  msg : Msg
  deriving DecidableEq, Inhabited
def sndV (s : Snd) : SV := .agg [.v (.int .u64 s.to), msgV s.msg]
theorem snd_mk (t : Int) (m : Msg) : SV.agg [.v (.int .u64 t), msgV m] = sndV ⟨t, m⟩ := rfl
theorem snd_mk2 (t a b c d e : Int) (f : Bool) (g h : Int) : SV.agg [.v (.int .u64 t), .agg [.v (.int .i64 a), .v (.int .u64 b), .v (.int .u64 c), .v (.int .u16 d), .v (.int .u16 e), .v (.bool f), .v (.int .i64 g), .v (.int .i64 h)]] = sndV ⟨t, ⟨a, b, c, d, e, f, g, h⟩⟩ := rfl
theorem sndV_eq (a b : Snd) : (a.to == b.to && ((a.msg.kind == b.msg.kind && (a.msg.org == b.msg.org && (a.msg.to == b.msg.to && (a.msg.num == b.msg.num && (a.msg.kn == b.msg.kn && (a.msg.has == b.msg.has && (a.msg.cost == b.msg.cost && (a.msg.hops == b.msg.hops && true)))))))) && true)) = decide (a = b) := by
  rw [msgV_eq, Bool.eq_iff_iff]
  simp only [Bool.and_eq_true, beq_iff_eq, decide_eq_true_eq, and_true]
  exact ⟨fun ⟨h1, h2⟩ => by cases a; cases b; simp_all, fun h => by subst h; simp⟩
/-- The state of a node. -/
structure Rea where
  self : Int
  num : Int
  paths : List Pth
  srch : List Dsc
  seen : List Pth
  deriving DecidableEq, Inhabited
def rea0 : Rea := ⟨0, 0, [], [], []⟩
/-- It lies in shared slices; or in owned ones. -/
abbrev reaF (r : Rea) : SV := .agg [.v (.int .u64 r.self), .v (.int .u16 r.num), .fs .no 6 (lst pthV r.paths), .fs .no 3 (lst dscV r.srch), .fs .no 6 (lst pthV r.seen)]
abbrev reaO (r : Rea) (a b c : Nat) : SV := .agg [.v (.int .u64 r.self), .v (.int .u16 r.num), .ov 6 a 0 r.paths.length, .ov 3 b 0 r.srch.length, .ov 6 c 0 r.seen.length]
abbrev reaH (r : Rea) : List OB := [.arr none 6 (lst pthV r.paths), .arr none 3 (lst dscV r.srch), .arr none 6 (lst pthV r.seen)]
/-! ### What is computed -/
theorem cmpI_ok2 : CmpOK cmpI := ⟨cmpI_zero, cmpI_anti, fun {a b c} h g => by unfold cmpI at *; split at h <;> split at g <;> (repeat' split) <;> omega⟩
abbrev atP (l : List Pth) (t : Int) : Nat := atK cmpI Pth.to l t
abbrev fndP (l : List Pth) (t : Int) : Bool := fndK cmpI Pth.to l t
abbrev atD (l : List Dsc) (t : Int) : Nat := atK cmpI Dsc.to l t
abbrev fndD (l : List Dsc) (t : Int) : Bool := fndK cmpI Dsc.to l t
abbrev isT (t : Int) : Prop := 0 ≤ t ∧ t ≤ 1099511627776
def lat (now d : Int) : Int := min (now + d) 1099511627776
def ownOK (p : Pth) : Bool := okM p.own.metric && (p.own.metric != 65535 && decide (isT p.upto))
def pathOK (self : Int) (p : Pth) : Bool := decide (p.to ≠ 0 ∧ p.to ≠ self) && (p.nx != 0 && ownOK p)
def seenOK (self : Int) (p : Pth) : Bool := decide (p.to ≠ 0 ∧ p.to ≠ self) && (p.nx == 0 && (!p.brk && ownOK p))
def dscOK (self : Int) (d : Dsc) : Bool := decide (d.to ≠ 0 ∧ d.to ≠ self) && (decide (1 ≤ d.left ∧ d.left ≤ 3) && decide (isT d.again))
abbrev okPs (self : Int) (l : List Pth) : Bool := okL 64 (pathOK self) cmpI Pth.to l
abbrev okSs (self : Int) (l : List Pth) : Bool := okL 64 (seenOK self) cmpI Pth.to l
abbrev okDs (self : Int) (l : List Dsc) : Bool := okL 64 (dscOK self) cmpI Dsc.to l
def validX (r : Rea) : Bool := r.self != 0 && (okPs r.self r.paths && (okDs r.self r.srch && okSs r.self r.seen))
/-- The path to a target is current; can be used. -/
def curP (l : List Pth) (now t : Int) : Bool := fndP l t && decide (now < (gt l (atP l t)).upto)
def usbP (l : List Pth) (now t : Int) : Bool := curP l now t && !(gt l (atP l t)).brk
def putP (l : List Pth) (x : Pth) : List Pth := if fndP l x.to = true then l.set (atP l x.to) x else l.take (atP l x.to) ++ [x] ++ l.drop (atP l x.to)
def offX (now t nb : Int) (d : Dis) : Pth := ⟨t, nb, d, false, lat now 20⟩
def offM (r : Rea) (now t nb : Int) (d : Dis) : Rea × Bool :=
  if t = r.self ∨ d.metric = 65535 then (r, false)
  else if curP r.paths now t = true ∧ cmpD d (gt r.paths (atP r.paths t)).own ≠ -1 ∧ ¬ ((gt r.paths (atP r.paths t)).brk = false ∧ (gt r.paths (atP r.paths t)).nx = nb ∧ (gt r.paths (atP r.paths t)).own = d) then (r, false)
  else if fndP r.paths t = false ∧ r.paths.length ≥ 64 then (r, false)
  else ({ r with paths := putP r.paths (offX now t nb d) }, true)
/-- reactive.Next -/
def nextM (r : Rea) (now t : Int) : Int × Int :=
  if validX r = true ∧ t ≠ 0 ∧ t ≠ r.self then
    (if isT now then (if usbP r.paths now t = true then ((gt r.paths (atP r.paths t)).nx, 0) else (0, 15)) else (0, 2))
  else (0, 1)
def reqS (self num : Int) (l : List Pth) (now t : Int) : Snd :=
  ⟨0, ⟨1, self, t, num, if curP l now t = true then (gt l (atP l t)).own.seq else 0, curP l now t, 0, 32⟩⟩
def w16 (x : Int) : Int := IntKind.wrap .u16 x
def insD (l : List Dsc) (x : Dsc) : List Dsc := l.take (atD l x.to) ++ [x] ++ l.drop (atD l x.to)
/-- reactive.Seek -/
def seekM (r : Rea) (now t : Int) : Rea × List Snd × Int :=
  if validX r = true ∧ t ≠ 0 ∧ t ≠ r.self then
    (if isT now then
      (if fndD r.srch t = true ∨ usbP r.paths now t = true then (r, [], 0)
      else if r.srch.length ≥ 64 then (rea0, [], 10)
      else ({ r with num := w16 (r.num + 1), srch := insD r.srch ⟨t, 3, lat now 8⟩ }, [reqS r.self (w16 (r.num + 1)) r.paths now t], 0))
    else (rea0, [], 2))
  else (rea0, [], 1)
/-- The first of those that end first. -/
def minP (l : List Pth) : Nat → Nat
  | 0 => 0
  | k + 1 => if (gt l k).upto < (gt l (minP l k)).upto then k else minP l k
def delP (l : List Pth) (i : Nat) : List Pth := l.take i ++ l.drop (i + 1)
def seeX (now o : Int) (d : Dis) : Pth := ⟨o, 0, d, false, lat now 20⟩
def seeM (r : Rea) (now o : Int) (d : Dis) : Rea × Bool :=
  if curP r.seen now o = true ∧ cmpD d (gt r.seen (atP r.seen o)).own ≠ -1 then (r, false)
  else if fndP r.seen o = false ∧ r.seen.length ≥ 64 then ({ r with seen := putP (delP r.seen (minP r.seen r.seen.length)) (seeX now o d) }, true)
  else ({ r with seen := putP r.seen (seeX now o d) }, true)
def raise (own wanted : Int) : Int := if newer wanted own = true then wanted else own
def onM (d : Dis) (m : Msg) : Msg := { m with cost := d.metric, hops := m.hops - 1 }
def hReq (r : Rea) (now nb : Int) (d : Dis) (m : Msg) : Rea × List Snd :=
  if m.org = r.self then (r, [])
  else if (seeM r now m.org d).2 = false then (r, [])
  else if m.to = r.self then
    ({ (offM (seeM r now m.org d).1 now m.org nb d).1 with num := if m.has = true then raise r.num m.kn else r.num }, [⟨nb, ⟨2, m.org, r.self, if m.has = true then raise r.num m.kn else r.num, 0, false, 0, 32⟩⟩])
  else if m.hops ≤ 1 then ((offM (seeM r now m.org d).1 now m.org nb d).1, [])
  else ((offM (seeM r now m.org d).1 now m.org nb d).1, [⟨0, onM d m⟩])
def delD (l : List Dsc) (t : Int) : List Dsc := if fndD l t = true then l.take (atD l t) ++ l.drop (atD l t + 1) else l
def hRep (r : Rea) (now nb : Int) (d : Dis) (m : Msg) : Rea × List Snd :=
  if (offM r now m.to nb d).2 = false then (r, [])
  else if m.org = r.self then ({ (offM r now m.to nb d).1 with srch := delD r.srch m.to }, [])
  else if usbP (offM r now m.to nb d).1.paths now m.org = false ∨ m.hops ≤ 1 then ((offM r now m.to nb d).1, [])
  else ((offM r now m.to nb d).1, [⟨(gt (offM r now m.to nb d).1.paths (atP (offM r now m.to nb d).1.paths m.org)).nx, onM d m⟩])
def brk1 (p : Pth) (n : Int) : Pth := ⟨p.to, p.nx, ⟨n, p.own.metric⟩, true, p.upto⟩
def hErr (r : Rea) (now nb : Int) (m : Msg) : Rea × List Snd :=
  if usbP r.paths now m.to = false ∨ (gt r.paths (atP r.paths m.to)).nx ≠ nb then (r, [])
  else if m.num ≠ (gt r.paths (atP r.paths m.to)).own.seq ∧ newer m.num (gt r.paths (atP r.paths m.to)).own.seq = false then (r, [])
  else ({ r with paths := r.paths.set (atP r.paths m.to) (brk1 (gt r.paths (atP r.paths m.to)) m.num) }, if m.hops ≤ 1 then [] else [⟨0, { m with hops := m.hops - 1 }⟩])
def vMsg (m : Msg) : Bool :=
  decide (m.to ≠ 0) && (okM m.cost && (decide (1 ≤ m.hops ∧ m.hops ≤ 32) && ((m.has || m.kn == 0) &&
    decide ((m.kind = 1 ∧ m.org ≠ 0) ∨ (m.kind = 2 ∧ m.org ≠ 0 ∧ m.has = false) ∨ (m.kind = 3 ∧ m.org = 0 ∧ m.has = false ∧ m.cost = 0)))))
def addC (a b : Int) : Int := if okM a = true ∧ okM b = true then min (a + b) 65535 else 65535
/-- reactive.Hear -/
def hearM (r : Rea) (now nb cost : Int) (m : Msg) : Rea × List Snd × Int :=
  if validX r = true ∧ vMsg m = true ∧ nb ≠ 0 ∧ nb ≠ r.self then
    (if isT now ∧ 1 ≤ cost ∧ cost ≤ 65535 then
      (if m.kind = 3 then ((hErr r now nb m).1, (hErr r now nb m).2, 0)
      else if addC m.cost cost = 65535 then (r, [], 0)
      else if m.kind = 1 then ((hReq r now nb ⟨m.num, addC m.cost cost⟩ m).1, (hReq r now nb ⟨m.num, addC m.cost cost⟩ m).2, 0)
      else ((hRep r now nb ⟨m.num, addC m.cost cost⟩ m).1, (hRep r now nb ⟨m.num, addC m.cost cost⟩ m).2, 0))
    else (rea0, [], 2))
  else (rea0, [], 1)
/-- reactive.Lost -/
def hitP (now nb : Int) (p : Pth) : Bool := decide (now < p.upto) && (!p.brk && p.nx == nb)
def lostP (now nb : Int) (p : Pth) : Pth := if hitP now nb p = true then brk1 p (w16 (p.own.seq + 1)) else p
def lostS (p : Pth) : Snd := ⟨0, ⟨3, 0, p.to, w16 (p.own.seq + 1), 0, false, 0, 32⟩⟩
def lostM (r : Rea) (now nb : Int) : Rea × List Snd × Int :=
  if validX r = true ∧ nb ≠ 0 then
    (if isT now then ({ r with paths := r.paths.map (lostP now nb) }, (r.paths.filter (hitP now nb)).map lostS, 0) else (rea0, [], 2))
  else (rea0, [], 1)
/-- reactive.Tick -/
def liveP (l : List Pth) (now : Int) : List Pth := l.filter fun p => decide (now < p.upto)
structure TkS where
  num : Int
  srch : List Dsc
  out : List Snd
def tickStep (self : Int) (l : List Pth) (now : Int) (s : TkS) (x : Dsc) : TkS :=
  if now < x.again then ⟨s.num, s.srch ++ [x], s.out⟩
  else if x.left = 1 ∨ usbP l now x.to = true then s
  else ⟨w16 (s.num + 1), s.srch ++ [⟨x.to, x.left - 1, lat now 8⟩], s.out ++ [reqS self (w16 (s.num + 1)) l now x.to]⟩
def tickS (r : Rea) (now : Int) (k : Nat) : TkS := (r.srch.take k).foldl (tickStep r.self (liveP r.paths now) now) ⟨r.num, [], []⟩
def tickM (r : Rea) (now : Int) : Rea × List Snd × Int :=
  if validX r = true then
    (if isT now then (⟨r.self, (tickS r now r.srch.length).num, liveP r.paths now, (tickS r now r.srch.length).srch, liveP r.seen now⟩, (tickS r now r.srch.length).out, 0) else (rea0, [], 2))
  else (rea0, [], 1)
end Go.Fw
