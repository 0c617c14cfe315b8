/- The executor: what a piece of code does to an abstract state, as a proposition that Lean reckons by itself. -/
import Derived.Test.YtgkkceoocaincaaFwA
namespace Go.Fw

/-- What one operation does: the slots and blocks that it reads, what it writes; 'bar': it stands in order with every other one. -/
structure Rec where
  rd : List Nat
  rh : List Nat
  wr : List (Nat × SV)
  wh : List (Nat × OB)
  bar : Bool

def slotsOf : List Operand → List Nat
  | [] => []
  | .tmp t :: r => t :: slotsOf r
  | _ :: r => slotsOf r
def dst1 (d : Option Nat) (s : SV) : List (Nat × SV) := match d with | some d => [(d, s)] | none => []
def Rec.plain (o : Oper) (s : SV) : Rec := ⟨slotsOf o.op.operands.toList, [], dst1 o.dst s, [], false⟩
def Rec.look (o : Oper) (k : Nat) (s : SV) : Rec := ⟨slotsOf o.op.operands.toList, [k], dst1 o.dst s, [], false⟩
def Rec.new (o : Oper) (k : Nat) (ob : OB) (s : SV) : Rec := ⟨slotsOf o.op.operands.toList, [k], dst1 o.dst s, [(k, ob)], false⟩
def Rec.put (o : Oper) (k : Nat) (ob : OB) : Rec := ⟨slotsOf o.op.operands.toList, [k], dst1 o.dst .top, [(k, ob)], false⟩

def putW : List (Nat × SV) → List (Nat × SV) → (List (Nat × SV) → Prop) → Prop
  | [], e, K => K e
  | (t, s) :: r, e, K => putW r ((t, s) :: e) K
/-- Block k is turned, or laid behind the last one. -/
def setH : List OB → Nat → OB → (List OB → Prop) → Prop
  | [], 0, y, K => K [y]
  | [], _ + 1, _, _ => False
  | _ :: r, 0, y, K => K (y :: r)
  | x :: r, i + 1, y, K => setH r i y fun r' => K (x :: r')
def putH : List (Nat × OB) → List OB → (List OB → Prop) → Prop
  | [], h, K => K h
  | (k, ob) :: r, h, K => setH h k ob fun h' => putH r h' K
def updK (e : List (Nat × SV)) (h : List OB) (r : Rec) (K : List (Nat × SV) → List OB → Prop) : Prop := putW r.wr e fun e => putH r.wh h fun h => K e h

/-- Follow a path into a value. -/
def follow : List PS → SV → (SV → Prop) → Prop
  | [], s, K => K s
  | .fld j off :: p, s, K => match s with
    | .agg cs => match Nat.beq (wds (cs.take j)) off with
      | true => match nth cs j with | some s => follow p s K | none => False
      | false => False
    | _ => False
  | .ix E n i :: p, s, K => match s with
    | .ba m l => match p with
      | [] => match Nat.beq E 1, Nat.beq n m with
        | true, true => Need (i < n) (K (.v (.int .u8 (l.getD i 0))))
        | _, _ => False
      | _ => False
    | .agg cs => Need (cs.all (fun s => Nat.beq (wd s) E) = true) (Elem cs i fun s => follow p s K)
    | _ => False
/-- Put a value at the end of a path. -/
def place : List PS → SV → SV → (SV → Prop) → Prop
  | [], s, x, K => match Nat.beq (wd s) (wd x) with | true => K x | false => False
  | .fld j off :: p, s, x, K => match s with
    | .agg cs => match Nat.beq (wds (cs.take j)) off with
      | true => match nth cs j with | some s => place p s x fun y => K (.agg (setL cs j y)) | none => False
      | false => False
    | _ => False
  | .ix E n i :: p, s, x, K => match s with
    | .ba m l => match p, x with
      | [], .v (.int .u8 z) => match Nat.beq E 1, Nat.beq n m with
        | true, true => Need (i < n) (K (.ba m (l.set i z)))
        | _, _ => False
      | _, _ => False
    | .agg cs => Need (cs.all (fun s => Nat.beq (wd s) E) = true) (Elem cs i fun s => place p s x fun y => K (.agg (cs.set i y)))
    | _ => False

def natLen (n : Nat) : SV := .v (.int .i64 (n : Int))

/-- The length of a slice. -/
def lenOf (s : SV) (K : Nat → Prop) : Prop :=
  match s with
  | .fs _ _ rows => K rows.length
  | .ov _ _ _ n => K n
  | .sb _ _ _ n => K n
  | .v (.slice none 0 _) => K 0
  | _ => False

def bytesRows (l : List Int) : List SV := l.map fun x => .v (.int .u8 x)

/-- The elements of a slice, whatever it lies in. -/
def rowsOf' (hp : List OB) (s : SV) (K : Nat → List SV → List Nat → Prop) : Prop :=
  match s with
  | .fs _ E rows => K E rows []
  | .ov E k off n => match nthB hp k with
    | some (.arr E' rows) => match Nat.beq E E' with | true => Need (off + n ≤ rows.length) (K E ((rows.drop off).take n) [k]) | false => False
    | _ => False
  | .sb k p off n => match nthB hp k with
    | some (.cells s) => follow p s fun y => match y with
      | .ba m l => Need (off + n ≤ m) (K 1 (((bytesRows l).drop off).take n) [k])
      | _ => False
    | _ => False
  | _ => False
def rowsOf (E : Nat) (hp : List OB) (s : SV) (K : List SV → List Nat → Prop) : Prop :=
  match s with
  | .v (.slice none 0 0) => K [] []
  | s => rowsOf' hp s fun E' rows ks => match Nat.beq E E' with | true => K rows ks | false => False

def intOf? (s : SV) (K : Int → Prop) : Prop := match s with | .v (.int _ n) => K n | _ => False
def bound (s : Option SV) (d : Nat) (K : Int → Prop) : Prop := match s with | some s => intOf? s K | none => K (d : Int)

def setRows : List (Nat × SV) → List SV → List SV
  | [], r => r
  | (i, s) :: ps, r => setRows ps (setL r i s)

def reps {α : Type} : Nat → α → List α
  | 0, _ => []
  | n + 1, x => x :: reps n x

def notTop : SV → Bool
  | .top => false
  | .tup _ => false
  | _ => true
/-- Fill a struct or an array. -/
def fillS (fs : List (Nat × Nat)) : List (Nat × SV) → List SV → (List SV → Prop) → Prop
  | [], cs, K => K cs
  | (i, s) :: r, cs, K => match fs[i]? with
    | some (_, n) => match Nat.beq (wd s) n && notTop s with | true => fillS fs r (setL cs i s) K | false => False
    | none => False
def fillA (E : Nat) : List (Nat × SV) → List SV → (List SV → Prop) → Prop
  | [], cs, K => K cs
  | (i, s) :: r, cs, K => match Nat.beq (wd s) E && notTop s, Nat.blt i (len cs) with | true, true => fillA E r (setL cs i s) K | _, _ => False
def fillB (n : Nat) : List (Nat × SV) → List Int → (List Int → Prop) → Prop
  | [], l, K => K l
  | (i, s) :: r, l, K => match s, Nat.blt i n with | .v (.int .u8 x), true => fillB n r (l.set i x) K | _, _ => False

/-! ### Calls -/
mutual
def noRef : SV → Bool
  | .v _ => true
  | .ba _ _ => true
  | .fs _ _ _ => true
  | .pf .. => true
  | .agg cs => noRefs cs
  | .clo _ cs => noRefs cs
  | .tup cs => noRefs cs
  | _ => false
def noRefs : List SV → Bool
  | [] => true
  | s :: r => match noRef s with | true => noRefs r | false => false
end
mutual
/-- The owned blocks that a value names, each once. -/
def refs : SV → List Nat → List Nat
  | .pb k _, acc => addN k acc
  | .pe _ k _ _, acc => addN k acc
  | .ov _ k _ _, acc => addN k acc
  | .sb k _ _ _, acc => addN k acc
  | .agg cs, acc => refss cs acc
  | .clo _ cs, acc => refss cs acc
  | .tup cs, acc => refss cs acc
  | _, acc => acc
def refss : List SV → List Nat → List Nat
  | [], acc => acc
  | s :: r, acc => refss r (refs s acc)
def addN : Nat → List Nat → List Nat
  | k, [] => [k]
  | k, j :: r => match Nat.beq k j with | true => j :: r | false => j :: addN k r
end
mutual
def ren (f : Nat → Nat) : SV → SV
  | .pb k p => .pb (f k) p
  | .pe E k i p => .pe E (f k) i p
  | .ov E k off n => .ov E (f k) off n
  | .sb k p off n => .sb (f k) p off n
  | .agg cs => .agg (rens f cs)
  | .clo g cs => .clo g (rens f cs)
  | .tup cs => .tup (rens f cs)
  | s => s
def rens (f : Nat → Nat) : List SV → List SV
  | [] => []
  | s :: r => ren f s :: rens f r
end
end Go.Fw
