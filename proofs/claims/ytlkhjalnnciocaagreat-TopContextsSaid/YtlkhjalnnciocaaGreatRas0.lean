/- Fragments and buffers, as plain data. -/
import Derived.Test.YtlkhjalnnciocaaGreatReg0
namespace Go.Fw
set_option maxRecDepth 4000
open Go.Proofs
set_option maxHeartbeats 4000000
/-- A byte. -/
def b8 (x : UInt8) : SV := .v (.int .u8 (x.toNat : Int))
structure Frg where
  size : Int
  tag : Int
  off : Int
  data : List UInt8
  deriving DecidableEq, Inhabited
def frgV (f : Frg) : SV := .agg [int f.size, .v (.int .u16 f.tag), int f.off, .fs .no 1 (lst b8 f.data)]
theorem frg_mk (s t o : Int) (d : List UInt8) : SV.agg [int s, .v (.int .u16 t), int o, .fs .no 1 (lst b8 d)] = frgV ⟨s, t, o, d⟩ := rfl
structure Buf where
  src : Adr
  dst : Adr
  tag : Int
  size : Int
  parts : List Frg
  upto : Int
  deriving DecidableEq, Inhabited
def bufV (b : Buf) : SV := .agg [adrV b.src, adrV b.dst, .v (.int .u16 b.tag), int b.size, .fs .no 4 (lst frgV b.parts), int b.upto]
theorem buf_mk (s d : Adr) (t z : Int) (p : List Frg) (u : Int) : SV.agg [adrV s, adrV d, .v (.int .u16 t), int z, .fs .no 4 (lst frgV p), int u] = bufV ⟨s, d, t, z, p, u⟩ := rfl
/-! ### What is computed -/
abbrev isTm (t : Int) : Prop := 0 ≤ t ∧ t ≤ 1099511627776
def vAdr (a : Adr) : Bool := decide ((a.mode = 0 ∧ a.short = 0 ∧ a.eui = 0) ∨ (a.mode = 2 ∧ a.eui = 0) ∨ (a.mode = 3 ∧ a.short = 0))
def someA (a : Adr) : Bool := vAdr a && !decide (a.mode = 0)
def fEnd (f : Frg) : Int := f.off + f.data.length
def okF (f : Frg) : Bool := decide (1 ≤ f.size ∧ f.size ≤ 2047 ∧ 0 ≤ f.off ∧ f.off.tmod 8 = 0 ∧ 1 ≤ f.data.length ∧ fEnd f ≤ f.size ∧ (fEnd f = f.size ∨ (f.data.length : Int).tmod 8 = 0))
theorem okF_iff {f : Frg} : okF f = true ↔ 1 ≤ f.size ∧ f.size ≤ 2047 ∧ 0 ≤ f.off ∧ f.off.tmod 8 = 0 ∧ 1 ≤ f.data.length ∧ f.off + f.data.length ≤ f.size ∧ (f.off + f.data.length = f.size ∨ (f.data.length : Int).tmod 8 = 0) := by
  rw [okF, decide_eq_true_eq]; exact Iff.rfl
/-- What parts cover; none: they are not parts of one datagram. c is covered so far, up to b. -/
def chkP (s t : Int) : Int → Int → List Frg → Option Int
  | c, _, [] => some c
  | c, b, f :: r => if okF f = true ∧ f.size = s ∧ f.tag = t ∧ b ≤ f.off then chkP s t (c + f.data.length) (fEnd f) r else none
def partsOK (s t : Int) (l : List Frg) : Bool := match chkP s t 0 0 l with | some c => decide (c < s) | none => false
def validB (b : Buf) : Bool := someA b.src && (someA b.dst && (decide (isTm b.upto) && (decide (b.parts ≠ []) && partsOK b.size b.tag b.parts)))
def keyB (a b : Buf) : Bool := decide (a.src = b.src ∧ a.dst = b.dst ∧ a.tag = b.tag ∧ a.size = b.size)
def validL (l : List Buf) : Bool := decide (l.length ≤ 4 ∧ (∀ b ∈ l, validB b = true) ∧ l.Pairwise fun a b => keyB a b = false)
/-! ### Joining -/
def putL {α : Type} (l : List α) (o : Nat) (d : List α) : List α := l.take o ++ d ++ l.drop (o + d.length)
def clashB (h : List Bool) (o n : Nat) : Bool := ((h.drop o).take n).any id
structure JS where
  out : List UInt8
  hv : List Bool
  cnt : Int
def jstep (s t : Int) (x : JS) (f : Frg) : Option JS :=
  if okF f = true ∧ f.size = s ∧ f.tag = t then
    (if clashB x.hv f.off.toNat f.data.length = true then none else some ⟨putL x.out f.off.toNat f.data, putL x.hv f.off.toNat (List.replicate f.data.length true), x.cnt + f.data.length⟩)
  else none
def jfold (s t : Int) : JS → List Frg → Option JS
  | x, [] => some x
  | x, f :: r => match jstep s t x f with | some y => jfold s t y r | none => none
def js0 (s : Int) : JS := ⟨List.replicate s.toNat 0, List.replicate s.toNat false, 0⟩
def joinF (l : List Frg) : Option (List UInt8) :=
  match l with
  | [] => none
  | f :: _ => if okF f = true then (match jfold f.size f.tag (js0 f.size) l with | some x => if x.cnt = f.size then some x.out else none | none => none) else none
/-! ### Adding -/
def ovl (p f : Frg) : Bool := decide (p.off < fEnd f ∧ f.off < fEnd p)
def eqP (p f : Frg) : Bool := decide (p.off = f.off ∧ p.data = f.data)
/-- where it goes -/
def posF (f : Frg) (l : List Frg) : Nat := bsA (fun p => if p.off < f.off then -1 else 1) l
def insF (f : Frg) (l : List Frg) : List Frg := l.take (posF f l) ++ [f] ++ l.drop (posF f l)
/-- The parts with one more; none: it contradicts them. -/
def addP (l : List Frg) (f : Frg) : Option (List Frg) := if l.any (eqP · f) = true then some l else if l.any (ovl · f) = true then none else some (insF f l)
def expB (l : List Buf) (now : Int) : List Buf := l.filter fun b => decide (b.upto > now)
/-- reassembly.Expire -/
def expM (l : List Buf) (now : Int) : List Buf × Int := if validL l = true then (if isTm now then (expB l now, 0) else ([], 2)) else ([], 1)
def freshB (src dst : Adr) (f : Frg) (now : Int) : Buf := ⟨src, dst, f.tag, f.size, [f], min (now + 12) 1099511627776⟩
def withB (b : Buf) (f : Frg) (fr : Buf) : Buf := match addP b.parts f with | some ps => ⟨b.src, b.dst, b.tag, b.size, ps, b.upto⟩ | none => fr
def finB (l : List Buf) (i : Nat) : List Buf × List UInt8 × Int := match joinF (gt l i).parts with | none => (l, [], 0) | some d => (l.eraseIdx i, d, 0)
/-- reassembly.Add -/
def addM (l : List Buf) (src dst : Adr) (f : Frg) (now : Int) : List Buf × List UInt8 × Int :=
  if validL l = true ∧ someA src = true ∧ someA dst = true ∧ okF f = true then
    (if isTm now then
      (let K := expB l now
       let fr := freshB src dst f now
       if K.any (keyB · fr) = true then finB (K.set (idxF (keyB · fr) K).toNat (withB (gt K (idxF (keyB · fr) K).toNat) f fr)) (idxF (keyB · fr) K).toNat
       else if 4 ≤ K.length then ([], [], 10) else finB (K ++ [fr]) K.length)
    else ([], [], 2))
  else ([], [], 1)
end Go.Fw
