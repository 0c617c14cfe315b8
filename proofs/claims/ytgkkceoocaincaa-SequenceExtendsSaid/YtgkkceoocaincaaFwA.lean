/- Abstract values, abstract states and the executor of the walks: plain definitions, no program in sight. -/
import Derived.Orders
import Derived.KernelRfl
namespace Go.Fw

/-- A step of a path inside a value: a field (its number, its cell offset), an element (cells of an element, length of the array, index). -/
inductive PS where
  | fld (j off : Nat)
  | ix (E n i : Nat)

/-- What is known of a shared slice beside its elements: its capacity; that it is not nil. -/
structure Tg where
  cap : Option Nat
  nn : Bool
def Tg.no : Tg := ⟨none, false⟩
def Tg.cut (t : Tg) (l : Nat) : Tg := ⟨t.cap.map (· - l), t.nn⟩

/-- Abstract values. -/
inductive SV where
  | v (x : Value)
  | agg (cs : List SV)
  | ba (n : Nat) (l : List Int)
  | fs (t : Tg) (E : Nat) (rows : List SV)
  | ov (E k off len : Nat)
  | sb (k : Nat) (p : List PS) (off len : Nat)
  | pb (k : Nat) (p : List PS)
  | pe (E k i : Nat) (p : List PS)
  | pf (E : Nat) (rows : List SV) (i : Nat) (p : List PS)
  | clo (f : FuncId) (caps : List SV)
  | tup (l : List SV)
  | top
  deriving Inhabited

/-- Owned blocks: a box that holds one value; an array with these elements; nothing. -/
inductive OB where
  | cells (s : SV)
  | arr (E : Nat) (rows : List SV)
  | gone
  deriving Inhabited

structure ST where
  env : List (Nat × SV)
  hp : List OB
  deriving Inhabited

/-- What the executor knows of a type. -/
inductive TI where
  | none
  | int (k : IntKind)
  | bool
  | sc (z : SV)              -- another type of one cell; its zero
  | slc (E bytes : Nat) (z : SV)      -- a slice: cells, bytes and zero of an element
  | arr (n E el : Nat) (z : SV)       -- an array: length, cells of an element, its type; its zero
  | str (fs : List (Nat × Nat)) (ft : List Nat) (z : SV)      -- a struct: offset and cells of each field, their types; its zero
  | ptr (E : Nat)
  deriving Inhabited

def TI.zero : TI → SV
  | .none => .top
  | .int k => .v (.int k 0)
  | .bool => .v (.bool false)
  | .sc z => z
  | .arr _ _ _ z => z
  | .slc .. => .v (.slice Option.none 0 0)
  | .ptr _ => .v (.pointer Option.none)
  | .str _ _ z => z
def TI.isAgg : TI → Bool
  | .arr .. => true
  | .str .. => true
  | _ => false

/-! ### Marks: what is left to the prover -/
def Need (p : Prop) (K : Prop) : Prop := p ∧ K
def Elem (rows : List SV) (i : Nat) (K : SV → Prop) : Prop := ∃ s, rows[i]? = some s ∧ K s
def Bif (b : Bool) (A B : Prop) : Prop := match b with | true => A | false => B

theorem Need.mk {p K : Prop} (h : p) (k : K) : Need p K := ⟨h, k⟩
theorem Elem.mk {rows : List SV} {i : Nat} {K : SV → Prop} (s : SV) (h : rows[i]? = some s) (k : K s) : Elem rows i K := ⟨s, h, k⟩
theorem Bif.mk {b : Bool} {A B : Prop} (h : b = true → A) (g : b = false → B) : Bif b A B := by
  cases b
  · exact g rfl
  · exact h rfl
theorem Bif.ff {b : Bool} {A B : Prop} (h : b = false) (g : B) : Bif b A B := by subst h; exact g
theorem Bif.tt {b : Bool} {A B : Prop} (h : b = true) (g : A) : Bif b A B := by subst h; exact g
attribute [irreducible] Need Elem

/-! ### Small tools -/
def lk : List (Nat × SV) → Nat → Option SV
  | [], _ => none
  | (j, s) :: r, i => match Nat.beq j i with | true => some s | false => lk r i
def nth : List SV → Nat → Option SV
  | [], _ => none
  | x :: _, 0 => some x
  | _ :: r, i + 1 => nth r i
def nthB : List OB → Nat → Option OB
  | [], _ => none
  | x :: _, 0 => some x
  | _ :: r, i + 1 => nthB r i
def setL {α : Type} : List α → Nat → α → List α
  | [], _, _ => []
  | _ :: r, 0, y => y :: r
  | x :: r, i + 1, y => x :: setL r i y
def len {α : Type} : List α → Nat
  | [] => 0
  | _ :: r => len r + 1
def snoc {α : Type} : List α → α → List α
  | [], y => [y]
  | x :: r, y => x :: snoc r y
def app {α : Type} : List α → List α → List α
  | [], y => y
  | x :: r, y => x :: app r y

mutual
def wd : SV → Nat
  | .agg cs => wds cs
  | .ba n _ => n
  | _ => 1
def wds : List SV → Nat
  | [] => 0
  | s :: r => wd s + wds r
end

def cst (v : Value) (K : SV → Prop) : Prop :=
  match v with
  | .agg _ => K .top
  | .tuple _ => K .top
  | .func .. => False
  | v => K (.v v)

def opd (e : List (Nat × SV)) : Operand → (SV → Prop) → Prop
  | .tmp t, K => match lk e t with | some s => K s | none => False
  | .const v, K => cst v K
  | .func f, K => K (.clo f [])
  | .global _, _ => False
def opds (e : List (Nat × SV)) : List Operand → (List SV → Prop) → Prop
  | [], K => K []
  | x :: r, K => opd e x fun s => opds e r fun l => K (s :: l)
def opdo (e : List (Nat × SV)) : Option Operand → (Option SV → Prop) → Prop
  | none, K => K none
  | some x, K => opd e x fun s => K (some s)

def kbeq : IntKind → IntKind → Bool
  | .i8, .i8 => true | .i16, .i16 => true | .i32, .i32 => true | .i64, .i64 => true
  | .u8, .u8 => true | .u16, .u16 => true | .u32, .u32 => true | .u64, .u64 => true
  | _, _ => false

def ibin (op : BinOp) (k : IntKind) (a : Int) (k' : IntKind) (b : Int) (K : SV → Prop) : Prop :=
  match op with
  | .shl => Need (0 ≤ b) (K (.v (.int k (k.wrap (a * 2 ^ (min b.toNat k.bits))))))
  | .shr => Need (0 ≤ b) (K (.v (.int k (a.fdiv (2 ^ (min b.toNat k.bits))))))
  | _ => match kbeq k k' with
    | false => False
    | true => match op with
      | .add => K (.v (.int k (k.wrap (a + b))))
      | .sub => K (.v (.int k (k.wrap (a - b))))
      | .mul => K (.v (.int k (k.wrap (a * b))))
      | .quo => Need (b ≠ 0) (K (.v (.int k (k.wrap (a.tdiv b)))))
      | .rem => Need (b ≠ 0) (K (.v (.int k (a.tmod b))))
      | .and => K (.v (.int k (k.wrap (BitVec.ofInt k.bits a &&& BitVec.ofInt k.bits b).toNat)))
      | .or => K (.v (.int k (k.wrap (BitVec.ofInt k.bits a ||| BitVec.ofInt k.bits b).toNat)))
      | .xor => K (.v (.int k (k.wrap (BitVec.ofInt k.bits a ^^^ BitVec.ofInt k.bits b).toNat)))
      | .andNot => K (.v (.int k (k.wrap (BitVec.ofInt k.bits a &&& ~~~BitVec.ofInt k.bits b).toNat)))
      | .eql => K (.v (.bool (a == b)))
      | .neq => K (.v (.bool (a != b)))
      | .lss => K (.v (.bool (decide (a < b))))
      | .leq => K (.v (.bool (decide (a ≤ b))))
      | .gtr => K (.v (.bool (decide (a > b))))
      | .geq => K (.v (.bool (decide (a ≥ b))))
      | _ => False

end Go.Fw
