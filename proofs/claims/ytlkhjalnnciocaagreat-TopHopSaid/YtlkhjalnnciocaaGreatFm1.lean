/- Abstract values, abstract states and the executor of the walks: plain definitions, no program in sight. -/
import Derived.Orders
import Derived.KernelRfl
import Derived.Laws.BytesArg
import Derived.Laws.CopyRow
import Derived.WalkKit
import Derived.RowKit3

namespace Go.Fw

/-- A step of a path inside a value: a field (its number, its cell offset), an element (cells of an element, length of the array, index). -/
inductive PS where
  | fld (j off : Nat)
  | ix (E n i : Nat)

/-- What is known of a shared slice beside its elements: its capacity; that it is not nil. -/
structure Tg where
  cap : Option Nat
  nn : Bool
def Tg.no : Tg := ⟨none, false⟩
def Tg.cut (t : Tg) (l : Nat) : Tg := ⟨t.cap.map (· - l), t.nn⟩

/-- Abstract values. -/
inductive SV where
  | v (x : Value)
  | agg (cs : List SV)
  | ba (n : Nat) (l : List Int)
  | fs (t : Tg) (E : Nat) (rows : List SV)
  | ov (E k off len : Nat)
  | sb (k : Nat) (p : List PS) (off len : Nat)
  | pb (k : Nat) (p : List PS)
  | pe (E k i : Nat) (p : List PS)
  | pf (E : Nat) (rows : List SV) (i : Nat) (p : List PS)
  | clo (f : FuncId) (caps : List SV)
  | tup (l : List SV)
  | top
  deriving Inhabited

/-- Owned blocks: a box that holds one value; an array with these elements; nothing. -/
inductive OB where
  | cells (s : SV)
  | arr (x : Option Nat) (E : Nat) (rows : List SV)
  | gone
  deriving Inhabited

/-- What the executor knows of a type. -/
inductive TI where
  | none
  | int (k : IntKind)
  | bool
  | sc (z : SV)              -- another type of one cell; its zero
  | slc (E bytes : Nat) (z : SV)      -- a slice: cells, bytes and zero of an element
  | arr (n E el : Nat) (z : SV)       -- an array: length, cells of an element, its type; its zero
  | str (fs : List (Nat × Nat)) (ft : List Nat) (z : SV)      -- a struct: offset and cells of each field, their types; its zero
  | ptr (E : Nat)
  deriving Inhabited

def TI.zero : TI → SV
  | .none => .top
  | .int k => .v (.int k 0)
  | .bool => .v (.bool false)
  | .sc z => z
  | .arr _ _ _ z => z
  | .slc .. => .v (.slice Option.none 0 0)
  | .ptr _ => .v (.pointer Option.none)
  | .str _ _ z => z
/-- The zero of bytes; the type of strings. -/
def isU8 : SV → Bool
  | .v (.int .u8 (.ofNat 0)) => true
  | _ => false
def isStrT : TI → Bool
  | .sc (.v (.string _)) => true
  | _ => false
def TI.isAgg : TI → Bool
  | .arr .. => true
  | .str .. => true
  | _ => false

/-! ### Marks: what is left to the prover. They are inductive, so that neither the elaborator nor the kernel ever looks into them. -/
def botN : Prop := False
def trueN : Bool := true
inductive Need (p : Prop) (K : Prop) : Prop where
  | up (h : p ∧ K)
inductive Elem (rows : List SV) (i : Nat) (K : SV → Prop) : Prop where
  | up (h : ∃ s, rows[i]? = some s ∧ K s)
inductive Bif (b : Bool) (A B : Prop) : Prop where
  | up (h : match b with | true => A | false => B)

theorem Need.mk {p K : Prop} (h : p) (k : K) : Need p K := ⟨h, k⟩
theorem need_iff {p K : Prop} : Need p K ↔ p ∧ K := ⟨fun ⟨h⟩ => h, fun h => ⟨h⟩⟩
theorem Elem.mk {rows : List SV} {i : Nat} {K : SV → Prop} (s : SV) (h : rows[i]? = some s) (k : K s) : Elem rows i K := ⟨s, h, k⟩
theorem elem_iff {rows : List SV} {i : Nat} {K : SV → Prop} : Elem rows i K ↔ ∃ s, rows[i]? = some s ∧ K s := ⟨fun ⟨h⟩ => h, fun h => ⟨h⟩⟩
theorem Bif.mk {b : Bool} {A B : Prop} (h : b = true → A) (g : b = false → B) : Bif b A B := by
  cases b
  · exact ⟨g rfl⟩
  · exact ⟨h rfl⟩
theorem bif_eq {b : Bool} {A B : Prop} : Bif b A B = (match b with | true => A | false => B) := propext ⟨fun ⟨h⟩ => h, fun h => ⟨h⟩⟩
theorem Bif.ff {b : Bool} {A B : Prop} (h : b = false) (g : B) : Bif b A B := by subst h; exact ⟨g⟩
theorem Bif.tt {b : Bool} {A B : Prop} (h : b = true) (g : A) : Bif b A B := by subst h; exact ⟨g⟩
theorem Bif.T {A B : Prop} (h : A) : Bif true A B := ⟨h⟩
theorem Bif.F {A B : Prop} (h : B) : Bif false A B := ⟨h⟩
theorem Bif.not {b : Bool} {A B : Prop} (h : Bif b B A) : Bif (!b) A B := by cases b <;> exact ⟨h.1⟩
theorem Bif.and {a b : Bool} {A B : Prop} (h : Bif a (Bif b A B) B) : Bif (a && b) A B := by
  obtain ⟨h⟩ := h
  cases a
  · exact ⟨h⟩
  · exact ⟨h.1⟩
theorem Bif.or {a b : Bool} {A B : Prop} (h : Bif a A (Bif b A B)) : Bif (a || b) A B := by
  obtain ⟨h⟩ := h
  cases a
  · exact ⟨h.1⟩
  · exact ⟨h⟩
/-- One of two roads, as the prover says. -/
inductive Alt (A B : Prop) : Prop where
  | up (h : A ∨ B)
theorem Alt.l {A B : Prop} (h : A) : Alt A B := ⟨.inl h⟩
theorem Alt.r {A B : Prop} (h : B) : Alt A B := ⟨.inr h⟩
theorem Alt.inv {A B : Prop} : Alt A B → A ∨ B := fun ⟨h⟩ => h
/-- A slice with three indices: nothing is known of it; or its array goes among the shared ones. -/
inductive Sl3 (A B : Prop) : Prop where
  | up (h : A ∨ B)
theorem Sl3.l {A B : Prop} (h : A) : Sl3 A B := ⟨.inl h⟩
theorem Sl3.r {A B : Prop} (h : B) : Sl3 A B := ⟨.inr h⟩
theorem Sl3.inv {A B : Prop} : Sl3 A B → A ∨ B := fun ⟨h⟩ => h
/-- At the end: an array as it stands; or a first part of it. -/
inductive Cut (A B : Prop) : Prop where
  | up (h : A ∨ B)
theorem Cut.l {A B : Prop} (h : A) : Cut A B := ⟨.inl h⟩
theorem Cut.r {A B : Prop} (h : B) : Cut A B := ⟨.inr h⟩
theorem Cut.inv {A B : Prop} : Cut A B → A ∨ B := fun ⟨h⟩ => h
/-- A term that the prover may write in a nicer way. -/
inductive Nm {α : Type} (x : α) (K : α → Prop) : Prop where
  | up (h : K x)
theorem Nm.mk {α : Type} {x y : α} {K : α → Prop} (h : x = y) (k : K y) : Nm x K := by subst h; exact ⟨k⟩
theorem Nm.id {α : Type} {x : α} {K : α → Prop} (k : K x) : Nm x K := ⟨k⟩
theorem nm_eq {α : Type} {x : α} {K : α → Prop} : Nm x K = K x := propext ⟨fun ⟨h⟩ => h, fun h => ⟨h⟩⟩
/-- A number that is brought into its kind's range. -/
inductive Wr (k : IntKind) (x : Int) (K : Int → Prop) : Prop where
  | up (h : K (k.wrap x))
theorem Wr.mk {k : IntKind} {x : Int} {K : Int → Prop} (h : K (k.wrap x)) : Wr k x K := ⟨h⟩
theorem Wr.eq {k : IntKind} {x y : Int} {K : Int → Prop} (e : k.wrap x = y) (h : K y) : Wr k x K := by subst e; exact ⟨h⟩
theorem wr_eq {k : IntKind} {x : Int} {K : Int → Prop} : Wr k x K = K (k.wrap x) := propext ⟨fun ⟨h⟩ => h, fun h => ⟨h⟩⟩
theorem Wr.i64 {x : Int} {K : Int → Prop} (h : -9223372036854775808 ≤ x ∧ x ≤ 9223372036854775807) (k : K x) : Wr .i64 x K := by
  have e : IntKind.wrap .i64 x = x := by simp [IntKind.wrap, IntKind.bits, IntKind.signed]; omega
  exact Wr.eq e k
theorem Wr.u64 {x : Int} {K : Int → Prop} (h : 0 ≤ x ∧ x ≤ 18446744073709551615) (k : K x) : Wr .u64 x K := by
  have e : IntKind.wrap .u64 x = x := by simp [IntKind.wrap, IntKind.bits, IntKind.signed]; omega
  exact Wr.eq e k
theorem Wr.u32 {x : Int} {K : Int → Prop} (h : 0 ≤ x ∧ x ≤ 4294967295) (k : K x) : Wr .u32 x K := by
  have e : IntKind.wrap .u32 x = x := by simp [IntKind.wrap, IntKind.bits, IntKind.signed]; omega
  exact Wr.eq e k
theorem Wr.u16 {x : Int} {K : Int → Prop} (h : 0 ≤ x ∧ x ≤ 65535) (k : K x) : Wr .u16 x K := by
  have e : IntKind.wrap .u16 x = x := by simp [IntKind.wrap, IntKind.bits, IntKind.signed]; omega
  exact Wr.eq e k
theorem Wr.u8 {x : Int} {K : Int → Prop} (h : 0 ≤ x ∧ x ≤ 255) (k : K x) : Wr .u8 x K := by
  have e : IntKind.wrap .u8 x = x := by simp [IntKind.wrap, IntKind.bits, IntKind.signed]; omega
  exact Wr.eq e k

/-! ### Small tools -/
def lk : List (Nat × SV) → Nat → Option SV
  | [], _ => none
  | (j, s) :: r, i => match Nat.beq j i with | true => some s | false => lk r i
def nth : List SV → Nat → Option SV
  | [], _ => none
  | x :: _, 0 => some x
  | _ :: r, i + 1 => nth r i
def nthB : List OB → Nat → Option OB
  | [], _ => none
  | x :: _, 0 => some x
  | _ :: r, i + 1 => nthB r i
def setL {α : Type} : List α → Nat → α → List α
  | [], _, _ => []
  | _ :: r, 0, y => y :: r
  | x :: r, i + 1, y => x :: setL r i y
def len {α : Type} : List α → Nat
  | [] => 0
  | _ :: r => len r + 1
def snoc {α : Type} : List α → α → List α
  | [], y => [y]
  | x :: r, y => x :: snoc r y
def app {α : Type} : List α → List α → List α
  | [], y => y
  | x :: r, y => x :: app r y

mutual
def wd : SV → Nat
  | .agg cs => wds cs
  | .ba n _ => n
  | _ => 1
def wds : List SV → Nat
  | [] => 0
  | s :: r => wd s + wds r
end

def cst (v : Value) (K : SV → Prop) : Prop :=
  match v with
  | .agg _ => K .top
  | .tuple _ => K .top
  | .func .. => botN
  | v => K (.v v)

/-- What the package-level variables hold that the statements list. -/
def glob (g : Nat) : Option SV :=
  none
def opd (e : List (Nat × SV)) : Operand → (SV → Prop) → Prop
  | .tmp t, K => match lk e t with | some s => K s | none => False
  | .const v, K => cst v K
  | .func f, K => K (.clo f [])
  | .global g, K => match glob g with | some s => K (.pf (wd s) [s] 0 []) | none => False
def opds (e : List (Nat × SV)) : List Operand → (List SV → Prop) → Prop
  | [], K => K []
  | x :: r, K => opd e x fun s => opds e r fun l => K (s :: l)
def opdo (e : List (Nat × SV)) : Option Operand → (Option SV → Prop) → Prop
  | none, K => K none
  | some x, K => opd e x fun s => K (some s)

def kbeq : IntKind → IntKind → Bool
  | .i8, .i8 => true | .i16, .i16 => true | .i32, .i32 => true | .i64, .i64 => true
  | .u8, .u8 => true | .u16, .u16 => true | .u32, .u32 => true | .u64, .u64 => true
  | _, _ => false

def ibin (op : BinOp) (k : IntKind) (a : Int) (k' : IntKind) (b : Int) (K : SV → Prop) : Prop :=
  match op with
  | .shl => Need (0 ≤ b) (Wr k (a * 2 ^ (min b.toNat k.bits)) fun x => K (.v (.int k x)))
  | .shr => Need (0 ≤ b) (K (.v (.int k (a.fdiv (2 ^ (min b.toNat k.bits))))))
  | _ => match kbeq k k' with
    | false => False
    | true => match op with
      | .add => Wr k (a + b) fun x => K (.v (.int k x))
      | .sub => Wr k (a - b) fun x => K (.v (.int k x))
      | .mul => Wr k (a * b) fun x => K (.v (.int k x))
      | .quo => Need (b ≠ 0) (Wr k (a.tdiv b) fun x => K (.v (.int k x)))
      | .rem => Need (b ≠ 0) (K (.v (.int k (a.tmod b))))
      | .and => K (.v (.int k (k.wrap (BitVec.ofInt k.bits a &&& BitVec.ofInt k.bits b).toNat)))
      | .or => K (.v (.int k (k.wrap (BitVec.ofInt k.bits a ||| BitVec.ofInt k.bits b).toNat)))
      | .xor => K (.v (.int k (k.wrap (BitVec.ofInt k.bits a ^^^ BitVec.ofInt k.bits b).toNat)))
      | .andNot => K (.v (.int k (k.wrap (BitVec.ofInt k.bits a &&& ~~~BitVec.ofInt k.bits b).toNat)))
      | .eql => K (.v (.bool (a == b)))
      | .neq => K (.v (.bool (a != b)))
      | .lss => K (.v (.bool (decide (a < b))))
      | .leq => K (.v (.bool (decide (a ≤ b))))
      | .gtr => K (.v (.bool (decide (a > b))))
      | .geq => K (.v (.bool (decide (a ≥ b))))
      | _ => False

end Go.Fw

/- The executor: what a piece of code does to an abstract state, as a proposition that Lean reckons by itself. -/
namespace Go.Fw

/-! ### Reckoned out: nothing is left to be reckoned again -/
def fN (k : Nat) (K : Nat → Prop) : Prop :=
  match Nat.beq k 0 with | true => K 0 | false => match Nat.beq k 1 with | true => K 1 | false => match Nat.beq k 2 with | true => K 2 | false => match Nat.beq k 3 with | true => K 3 | false => match Nat.beq k 4 with | true => K 4 | false => match Nat.beq k 5 with | true => K 5 | false => match Nat.beq k 6 with | true => K 6 | false => match Nat.beq k 7 with | true => K 7 | false => match Nat.beq k 8 with | true => K 8 | false => match Nat.beq k 9 with | true => K 9 | false => match Nat.beq k 10 with | true => K 10 | false => match Nat.beq k 11 with | true => K 11 | false => match Nat.beq k 12 with | true => K 12 | false => match Nat.beq k 13 with | true => K 13 | false => match Nat.beq k 14 with | true => K 14 | false => match Nat.beq k 15 with | true => K 15 | false => match Nat.beq k 16 with | true => K 16 | false => match Nat.beq k 17 with | true => K 17 | false => match Nat.beq k 18 with | true => K 18 | false => match Nat.beq k 19 with | true => K 19 | false => match Nat.beq k 20 with | true => K 20 | false => match Nat.beq k 21 with | true => K 21 | false => match Nat.beq k 22 with | true => K 22 | false => match Nat.beq k 23 with | true => K 23 | false => match Nat.beq k 24 with | true => K 24 | false => match Nat.beq k 25 with | true => K 25 | false => match Nat.beq k 26 with | true => K 26 | false => match Nat.beq k 27 with | true => K 27 | false => match Nat.beq k 28 with | true => K 28 | false => match Nat.beq k 29 with | true => K 29 | false => match Nat.beq k 30 with | true => K 30 | false => match Nat.beq k 31 with | true => K 31 | false => K k
theorem fN_eq {k : Nat} {K : Nat → Prop} : fN k K = K k := by
  have one : ∀ {m : Nat} {A B : Prop}, (A = K m) → (B = K k) → (match Nat.beq k m with | true => A | false => B) = K k := by
    intro m A B h1 h2
    cases hb : Nat.beq k m
    · exact h2
    · rw [Nat.eq_of_beq_eq_true hb]; exact h1
  unfold fN
  repeat (refine one rfl ?_)
  rfl
def fNs : List Nat → (List Nat → Prop) → Prop
  | [], K => K []
  | k :: r, K => fN k fun k => fNs r fun r => K (k :: r)
theorem fNs_eq : ∀ {l : List Nat} {K : List Nat → Prop}, fNs l K = K l
  | [], _ => rfl
  | k :: r, K => by simp only [fNs, fN_eq, fNs_eq]
def setLK {α : Type} : List α → Nat → α → (List α → Prop) → Prop
  | [], _, _, K => K []
  | _ :: r, 0, y, K => K (y :: r)
  | x :: r, i + 1, y, K => setLK r i y fun r' => K (x :: r')
theorem setLK_eq {α : Type} : ∀ {l : List α} {i : Nat} {y : α} {K : List α → Prop}, setLK l i y K = K (setL l i y)
  | [], _, _, _ => rfl
  | _ :: _, 0, _, _ => rfl
  | _ :: r, i + 1, y, K => by simp only [setLK, setL, setLK_eq (l := r)]
def fP : List PS → (List PS → Prop) → Prop
  | [], K => K []
  | x :: r, K => fP r fun r' => K (x :: r')
theorem fP_eq : ∀ {p : List PS} {K : List PS → Prop}, fP p K = K p
  | [], _ => rfl
  | x :: r, K => by simp only [fP, fP_eq (p := r)]
/-- A value as it is written: which block it names is reckoned out. -/
def fS (s : SV) (K : SV → Prop) : Prop :=
  match s with
  | .ov E k o n => fN k fun k => K (.ov E k o n)
  | .pb k p => fN k fun k => fP p fun p => K (.pb k p)
  | .pe E k i p => fN k fun k => fP p fun p => K (.pe E k i p)
  | .pf E rows i p => fP p fun p => K (.pf E rows i p)
  | .sb k p o n => fN k fun k => K (.sb k p o n)
  | _ => K s
theorem fS_eq {s : SV} {K : SV → Prop} : fS s K = K s := by
  cases s <;> simp only [fS, fN_eq, fP_eq]
def fWr : List (Nat × SV) → (List (Nat × SV) → Prop) → Prop
  | [], K => K []
  | (t, s) :: r, K => fS s fun s' => fWr r fun r' => K ((t, s') :: r')
theorem fWr_eq : ∀ {l : List (Nat × SV)} {K : List (Nat × SV) → Prop}, fWr l K = K l
  | [], _ => rfl
  | (t, s) :: r, K => by simp only [fWr, fS_eq, fWr_eq (l := r)]
def fOB (ob : OB) (K : OB → Prop) : Prop :=
  match ob with
  | .cells s => fS s fun s => K (.cells s)
  | .arr x E rows => K (.arr x E rows)
  | .gone => K .gone
theorem fOB_eq {ob : OB} {K : OB → Prop} : fOB ob K = K ob := by
  cases ob <;> simp only [fOB, fS_eq]
def fWh : List (Nat × OB) → (List (Nat × OB) → Prop) → Prop
  | [], K => K []
  | (k, ob) :: r, K => fN k fun k => fOB ob fun ob => fWh r fun r' => K ((k, ob) :: r')
theorem fWh_eq : ∀ {l : List (Nat × OB)} {K : List (Nat × OB) → Prop}, fWh l K = K l
  | [], _ => rfl
  | (k, ob) :: r, K => by simp only [fWh, fN_eq, fOB_eq, fWh_eq (l := r)]

/-- What one operation does: the slots and blocks that it reads, what it writes; 'bar': it stands in order with every other one. -/
structure Rec where
  rd : List Nat
  rh : List Nat
  wr : List (Nat × SV)
  wh : List (Nat × OB)
  bar : Bool

def slotsOf : List Operand → List Nat
  | [] => []
  | .tmp t :: r => t :: slotsOf r
  | _ :: r => slotsOf r
def dst1 (d : Option Nat) (s : SV) : List (Nat × SV) := match d with | some d => [(d, s)] | none => []
def Rec.plain (o : Oper) (s : SV) : Rec := ⟨slotsOf o.op.operands.toList, [], dst1 o.dst s, [], false⟩
def Rec.look (o : Oper) (k : Nat) (s : SV) : Rec := ⟨slotsOf o.op.operands.toList, [k], dst1 o.dst s, [], false⟩
def Rec.new (o : Oper) (k : Nat) (ob : OB) (s : SV) : Rec := ⟨slotsOf o.op.operands.toList, [k], dst1 o.dst s, [(k, ob)], false⟩
def Rec.put (o : Oper) (k : Nat) (ob : OB) : Rec := ⟨slotsOf o.op.operands.toList, [k], dst1 o.dst .top, [(k, ob)], false⟩

/-- What an operation does, reckoned out. -/
def frc (K : Rec → Prop) (rc : Rec) : Prop :=
  match rc with
  | ⟨rd, rh, wr, wh, bar⟩ => fNs rh fun rh => fWr wr fun wr => fWh wh fun wh => K ⟨rd, rh, wr, wh, bar⟩
theorem frc_eq {K : Rec → Prop} : frc K = K := by
  funext rc
  cases rc
  simp only [frc, fNs_eq, fWr_eq, fWh_eq]
def putW : List (Nat × SV) → List (Nat × SV) → (List (Nat × SV) → Prop) → Prop
  | [], e, K => match trueN with | true => K e | false => False
  | (t, s) :: r, e, K => putW r ((t, s) :: e) K
/-- Block k is turned, or laid behind the last one. -/
def setH : List OB → Nat → OB → (List OB → Prop) → Prop
  | [], 0, y, K => K [y]
  | [], _ + 1, _, _ => botN
  | _ :: r, 0, y, K => K (y :: r)
  | x :: r, i + 1, y, K => setH r i y fun r' => K (x :: r')
def putH : List (Nat × OB) → List OB → (List OB → Prop) → Prop
  | [], h, K => K h
  | (k, ob) :: r, h, K => setH h k ob fun h' => putH r h' K
def updK (e : List (Nat × SV)) (h : List OB) (r : Rec) (K : List (Nat × SV) → List OB → Prop) : Prop := putW r.wr e fun e => putH r.wh h fun h => K e h

/-- Follow a path into a value. -/
def follow : List PS → SV → (SV → Prop) → Prop
  | [], s, K => K s
  | .fld j off :: p, s, K => match s with
    | .agg cs => match Nat.beq (wds (cs.take j)) off with
      | true => match nth cs j with | some s => follow p s K | none => False
      | false => False
    | _ => False
  | .ix E n i :: p, s, K => match s with
    | .ba m l => match p with
      | [] => match Nat.beq E 1, Nat.beq n m with
        | true, true => Need (i < n) (K (.v (.int .u8 (l.getD i 0))))
        | _, _ => False
      | _ => False
    | .agg cs => Need (cs.all (fun s => Nat.beq (wd s) E) = true) (Elem cs i fun s => follow p s K)
    | _ => False
/-- Put a value at the end of a path. -/
def place : List PS → SV → SV → (SV → Prop) → Prop
  | [], s, x, K => match Nat.beq (wd s) (wd x) with | true => K x | false => False
  | .fld j off :: p, s, x, K => match s with
    | .agg cs => match Nat.beq (wds (cs.take j)) off with
      | true => match nth cs j with | some s => place p s x fun y => setLK cs j y fun l => K (.agg l) | none => False
      | false => False
    | _ => False
  | .ix E n i :: p, s, x, K => match s with
    | .ba m l => match p, x with
      | [], .v (.int .u8 z) => match Nat.beq E 1, Nat.beq n m with
        | true, true => Need (i < n) (K (.ba m (l.set i z)))
        | _, _ => False
      | _, _ => False
    | .agg cs => Need (cs.all (fun s => Nat.beq (wd s) E) = true) (Elem cs i fun s => place p s x fun y => K (.agg (cs.set i y)))
    | _ => False

def natLen (n : Nat) : SV := .v (.int .i64 (n : Int))

/-- The length of a slice. -/
def lenOf (s : SV) (K : Nat → Prop) : Prop :=
  match s with
  | .fs _ _ rows => Nm rows.length K
  | .ov _ _ _ n => K n
  | .sb _ _ _ n => K n
  | .v (.slice none 0 _) => K 0
  | _ => False

def bytesRows (l : List Int) : List SV := l.map fun x => .v (.int .u8 x)
/-- These values are bytes. -/
inductive Byt (xs : List SV) (K : List Int → Prop) : Prop where
  | up (h : ∃ ys, xs = bytesRows ys ∧ K ys)
theorem Byt.mk {xs : List SV} {K : List Int → Prop} (ys : List Int) (h : xs = bytesRows ys) (k : K ys) : Byt xs K := ⟨ys, h, k⟩
theorem byt_iff {xs : List SV} {K : List Int → Prop} : Byt xs K ↔ ∃ ys, xs = bytesRows ys ∧ K ys := ⟨fun ⟨h⟩ => h, fun h => ⟨h⟩⟩

/-- The elements of a slice, whatever it lies in. -/
def rowsOf' (hp : List OB) (s : SV) (K : Nat → List SV → List Nat → Prop) : Prop :=
  match s with
  | .fs _ E rows => K E rows []
  | .ov E k off n => match nthB hp k with
    | some (.arr _ E' rows) => match Nat.beq E E' with | true => Need (off + n ≤ rows.length) (Nm ((rows.drop off).take n) fun rs => K E rs [k]) | false => False
    | _ => False
  | .sb k p off n => match nthB hp k with
    | some (.cells s) => follow p s fun y => match y with
      | .ba m l => Need (off + n ≤ m) (Nm (((bytesRows l).drop off).take n) fun rs => K 1 rs [k])
      | _ => False
    | some (.arr _ E0 rows) => match p with
      | .ix E1 _ i :: p' => match Nat.beq E0 E1 with
        | true => Elem rows i fun s => follow p' s fun y => match y with
          | .ba m l => Need (off + n ≤ m) (Nm (((bytesRows l).drop off).take n) fun rs => K 1 rs [k])
          | _ => False
        | false => False
      | _ => False
    | _ => False
  | _ => False
def rowsOf (E : Nat) (hp : List OB) (s : SV) (K : List SV → List Nat → Prop) : Prop :=
  match s with
  | .v (.slice none 0 0) => K [] []
  | s => rowsOf' hp s fun E' rows ks => match Nat.beq E E' with | true => K rows ks | false => False

def intOf? (s : SV) (K : Int → Prop) : Prop := match s with | .v (.int _ n) => K n | _ => botN
def bound (s : Option SV) (d : Nat) (K : Int → Prop) : Prop := match s with | some s => intOf? s K | none => K (d : Int)

def reps {α : Type} : Nat → α → List α
  | 0, _ => []
  | n + 1, x => x :: reps n x

def notTop : SV → Bool
  | .top => false
  | .tup _ => false
  | _ => true
/-- Fill a struct or an array. -/
def fillS (fs : List (Nat × Nat)) : List (Nat × SV) → List SV → (List SV → Prop) → Prop
  | [], cs, K => K cs
  | (i, s) :: r, cs, K => match fs[i]? with
    | some (_, n) => match Nat.beq (wd s) n && notTop s with | true => setLK cs i s fun l => fillS fs r l K | false => False
    | none => False
def fillA (E : Nat) : List (Nat × SV) → List SV → (List SV → Prop) → Prop
  | [], cs, K => K cs
  | (i, s) :: r, cs, K => match Nat.beq (wd s) E && notTop s, Nat.blt i (len cs) with | true, true => setLK cs i s fun l => fillA E r l K | _, _ => False
def fillB (n : Nat) : List (Nat × SV) → List Int → (List Int → Prop) → Prop
  | [], l, K => K l
  | (i, s) :: r, l, K => match s, Nat.blt i n with | .v (.int .u8 x), true => fillB n r (l.set i x) K | _, _ => False

/-! ### Calls -/
mutual
def noRef : SV → Bool
  | .v _ => true
  | .ba _ _ => true
  | .fs _ _ _ => true
  | .pf .. => true
  | .agg cs => noRefs cs
  | .clo _ cs => noRefs cs
  | .tup cs => noRefs cs
  | _ => false
def noRefs : List SV → Bool
  | [] => true
  | s :: r => match noRef s with | true => noRefs r | false => false
end
mutual
/-- The owned blocks that a value names, each once. -/
def refs : SV → List Nat → List Nat
  | .pb k _, acc => addN k acc
  | .pe _ k _ _, acc => addN k acc
  | .ov _ k _ _, acc => addN k acc
  | .sb k _ _ _, acc => addN k acc
  | .agg cs, acc => refss cs acc
  | .clo _ cs, acc => refss cs acc
  | .tup cs, acc => refss cs acc
  | _, acc => acc
def refss : List SV → List Nat → List Nat
  | [], acc => acc
  | s :: r, acc => refss r (refs s acc)
def addN : Nat → List Nat → List Nat
  | k, [] => [k]
  | k, j :: r => match Nat.beq k j with | true => j :: r | false => j :: addN k r
end
mutual
def ren (f : Nat → Nat) : SV → SV
  | .pb k p => .pb (f k) p
  | .pe E k i p => .pe E (f k) i p
  | .ov E k off n => .ov E (f k) off n
  | .sb k p off n => .sb (f k) p off n
  | .agg cs => .agg (rens f cs)
  | .clo g cs => .clo g (rens f cs)
  | .tup cs => .tup (rens f cs)
  | s => s
def rens (f : Nat → Nat) : List SV → List SV
  | [] => []
  | s :: r => ren f s :: rens f r
end
mutual
/-- The same, reckoned out; what names no block stays as it is written. -/
def renK (f : Nat → Nat) : SV → (SV → Prop) → Prop
  | .pb k p, K => fN (f k) fun k => K (.pb k p)
  | .pe E k i p, K => fN (f k) fun k => K (.pe E k i p)
  | .ov E k off n, K => fN (f k) fun k => K (.ov E k off n)
  | .sb k p off n, K => fN (f k) fun k => K (.sb k p off n)
  | .agg cs, K => renKs f cs fun cs => K (.agg cs)
  | .clo g cs, K => renKs f cs fun cs => K (.clo g cs)
  | .tup cs, K => renKs f cs fun cs => K (.tup cs)
  | .v x, K => K (.v x)
  | .ba n l, K => K (.ba n l)
  | .fs t E r, K => K (.fs t E r)
  | .pf E r i p, K => K (.pf E r i p)
  | .top, K => K .top
def renKs (f : Nat → Nat) : List SV → (List SV → Prop) → Prop
  | [], K => K []
  | s :: r, K => match noRef s with
    | true => renKs f r fun r => K (s :: r)
    | false => renK f s fun s => renKs f r fun r => K (s :: r)
end
mutual
theorem ren_noRef (f : Nat → Nat) : ∀ (s : SV), noRef s = true → ren f s = s
  | .v _, _ => rfl
  | .ba _ _, _ => rfl
  | .fs _ _ _, _ => rfl
  | .pf .., _ => rfl
  | .top, h => by simp [noRef] at h
  | .pb .., h => by simp [noRef] at h
  | .pe .., h => by simp [noRef] at h
  | .ov .., h => by simp [noRef] at h
  | .sb .., h => by simp [noRef] at h
  | .agg cs, h => by simp only [noRef] at h; simp only [ren, rens_noRef f cs h]
  | .clo g cs, h => by simp only [noRef] at h; simp only [ren, rens_noRef f cs h]
  | .tup cs, h => by simp only [noRef] at h; simp only [ren, rens_noRef f cs h]
theorem rens_noRef (f : Nat → Nat) : ∀ (l : List SV), noRefs l = true → rens f l = l
  | [], _ => rfl
  | s :: r, h => by
    simp only [noRefs] at h
    split at h
    · rename_i hs
      simp only [rens, ren_noRef f s hs, rens_noRef f r h]
    · cases h
end
mutual
theorem renK_eq (f : Nat → Nat) : ∀ (s : SV) (K : SV → Prop), renK f s K = K (ren f s)
  | .v _, _ => rfl
  | .ba _ _, _ => rfl
  | .fs _ _ _, _ => rfl
  | .pf .., _ => rfl
  | .top, _ => rfl
  | .pb .., _ => by simp only [renK, fN_eq, ren]
  | .pe .., _ => by simp only [renK, fN_eq, ren]
  | .ov .., _ => by simp only [renK, fN_eq, ren]
  | .sb .., _ => by simp only [renK, fN_eq, ren]
  | .agg cs, K => by simp only [renK, renKs_eq f cs, ren]
  | .clo g cs, K => by simp only [renK, renKs_eq f cs, ren]
  | .tup cs, K => by simp only [renK, renKs_eq f cs, ren]
theorem renKs_eq (f : Nat → Nat) : ∀ (l : List SV) (K : List SV → Prop), renKs f l K = K (rens f l)
  | [], _ => rfl
  | s :: r, K => by
    simp only [renKs, rens]
    split
    · rename_i hs
      rw [renKs_eq f r, ren_noRef f s hs]
    · rw [renK_eq f s, renKs_eq f r]
end
/-- The same of a value; what names no block stays as it is written. -/
def renV (f : Nat → Nat) (s : SV) (K : SV → Prop) : Prop := match noRef s with | true => K s | false => renK f s K
theorem renV_eq {f : Nat → Nat} {s : SV} {K : SV → Prop} : renV f s K = K (ren f s) := by
  unfold renV
  split
  · rename_i hs; rw [ren_noRef f s hs]
  · exact renK_eq f s K
end Go.Fw

/- What an abstract state says of a world; what a contract says of a function. -/

namespace Go.Fw

/-- Where an owned block lies: not made yet (an empty array), or at a block, with room for so many elements. -/
inductive BL where
  | virt
  | at (b C : Nat)

structure Cx where
  bl : Nat → Option BL
  O : Nat → Prop

def Cx.bare (cx : Cx) : Cx := ⟨fun _ => none, cx.O⟩

def Tg.ok (t : Tg) (a : Option Addr) (cap : Nat) : Prop := (t.nn = true → a ≠ none) ∧ ∀ c, t.cap = some c → cap = c
theorem Tg.ok_no {a : Option Addr} {cap : Nat} : Tg.no.ok a cap := And.intro (fun h => absurd h (by decide)) (fun c h => by simp [Tg.no] at h)

def offs : List PS → Nat
  | [] => 0
  | .fld _ off :: p => off + offs p
  | .ix E _ i :: p => i * E + offs p

inductive RelC : Cx → World → SV → List Value → Prop where
  | v {cx w x} : x.oneCell' = true → RelC cx w (.v x) [x]
  | top {cx w x} : x.oneCell' = true → RelC cx w .top [x]
  | nil {cx w} : RelC cx w (.agg []) []
  | cons {cx w s cs vs us} : RelC cx w s vs → RelC cx w (.agg cs) us → RelC cx w (.agg (s :: cs)) (vs ++ us)
  | ba {cx w n l} : l.length = n → RelC cx w (.ba n l) (l.map fun x => .int .u8 x)
  | fs0 {cx w t E a} : t.ok a 0 → RelC cx w (.fs t E []) [.slice a 0 0]
  | fs {cx : Cx} {w : World} {t : Tg} {E : Nat} {rows : List SV} {b off cap : Nat} {cs : Array Value} {T fz} (f : Nat → List Value) :
      w.heap[b]? = some (.cells cs T fz) → ¬ cx.O b → rows.length ≤ cap → t.ok (some ⟨b, off, none⟩) cap →
      (∀ i s, rows[i]? = some s → RelC ⟨fun _ => none, cx.O⟩ w s (f i)) →
      (∀ i, i < rows.length → (f i).length = E) → (∀ i, i < rows.length → ∀ (j : Nat) x, (f i)[j]? = some x → cs[off + i * E + j]? = some x) →
      RelC cx w (.fs t E rows) [.slice (some ⟨b, off, none⟩) rows.length cap]
  | ov {cx : Cx} {w E k off n b C} : cx.bl k = some (.at b C) → off + n ≤ C → RelC cx w (.ov E k off n) [.slice (some ⟨b, off * E, none⟩) n (C - off)]
  | ov0 {cx : Cx} {w E k a} : cx.bl k = some .virt → RelC cx w (.ov E k 0 0) [.slice a 0 0]
  | ovz {cx : Cx} {w E k a b C} : cx.bl k = some (.at b C) → RelC cx w (.ov E k C 0) [.slice a 0 0]
  | sb {cx : Cx} {w k p off n b C cap} : cx.bl k = some (.at b C) → n ≤ cap → RelC cx w (.sb k p off n) [.slice (some ⟨b, offs p + off, none⟩) n cap]
  | pb {cx : Cx} {w k p b C} : cx.bl k = some (.at b C) → RelC cx w (.pb k p) [.pointer (some ⟨b, offs p, none⟩)]
  | pe {cx : Cx} {w E k i p b C} : cx.bl k = some (.at b C) → RelC cx w (.pe E k i p) [.pointer (some ⟨b, i * E + offs p, none⟩)]
  | pf {cx w t E rows b off n cap i p} : RelC cx w (.fs t E rows) [.slice (some ⟨b, off, none⟩) n cap] →
      RelC cx w (.pf E rows i p) [.pointer (some ⟨b, off + i * E + offs p, none⟩)]
  | clo {cx : Cx} {w f caps} (vs : List Value) : vs.length = caps.length → (∀ (i : Nat) s x, caps[i]? = some s → vs[i]? = some x → RelC cx w s [x]) →
      RelC cx w (.clo f caps) [.func (.func f) #[] vs.toArray]

def RelV1 (cx : Cx) (w : World) (s : SV) (v : Value) : Prop :=
  match s with
  | .top => True
  | .agg cs => ∃ vs : List Value, v = .agg vs.toArray ∧ RelC cx w (.agg cs) vs
  | .ba n l => ∃ vs : List Value, v = .agg vs.toArray ∧ RelC cx w (.ba n l) vs
  | .tup _ => False
  | s => RelC cx w s [v]

inductive RelVL (cx : Cx) (w : World) : List SV → List Value → Prop where
  | nil : RelVL cx w [] []
  | cons {s v l vs} : RelV1 cx w s v → RelVL cx w l vs → RelVL cx w (s :: l) (v :: vs)

def RelV (cx : Cx) (w : World) (s : SV) (v : Value) : Prop :=
  match s with
  | .tup l => ∃ vs : List Value, v = .tuple vs.toArray ∧ RelVL cx w l vs
  | s => RelV1 cx w s v

/-- An array with room for C elements, n of them known; x: its room is known. -/
structure ArrOK (x : Option Nat) (C n : Nat) (vs : List Value) : Prop where
  le : n ≤ C
  cap : ∀ c, x = some c → C = c
  ones : ∀ v ∈ vs, v.oneCell' = true
/-- What an owned block holds. -/
def Holds (cx : Cx) (w : World) (b C : Nat) : OB → Prop
  | .cells s => ∃ (vs : List Value) (T : TypeId), w.heap[b]? = some (.cells vs.toArray T (0, 0)) ∧ RelC cx w s vs
  | .arr x E rows => ∃ (vs : List Value) (T : TypeId), w.heap[b]? = some (.cells vs.toArray T (0, 0)) ∧ vs.length = C * E ∧ ArrOK x C rows.length vs ∧
      ∀ i s, rows[i]? = some s → RelC cx.bare w s ((vs.drop (i * E)).take E)
  | .gone => True

/-- An array that lies nowhere has no room. -/
def x0 : OB → Option Nat
  | .arr (some _) _ _ => some 0
  | _ => none
def Live (cx : Cx) (w : World) (k : Nat) (ob : OB) : Prop :=
  match ob with
  | .gone => True
  | ob => (∃ b C, cx.bl k = some (.at b C) ∧ cx.O b ∧ Holds cx w b C ob) ∨ (cx.bl k = some .virt ∧ ∃ E, ob = .arr (x0 ob) E [])

structure Mem (cx : Cx) (w : World) (hp : Nat → Option OB) : Prop where
  live : ∀ k ob, hp k = some ob → Live cx w k ob
  inj : ∀ k k' ob ob' b C C', hp k = some ob → hp k' = some ob' → ob ≠ .gone → ob' ≠ .gone → cx.bl k = some (.at b C) → cx.bl k' = some (.at b C') → k = k'
  dom : ∀ k, hp k = none → cx.bl k = none
  lt : ∀ b, cx.O b → b < w.heap.size

/-- What is no memory stays, and what is frozen. -/
structure WK (w w' : World) : Prop where
  os : w'.os = w.os
  out : w'.output = w.output
  fz : ∀ a, w'.frozen? a = w.frozen? a
theorem WK.refl (w : World) : WK w w := ⟨rfl, rfl, fun _ => rfl⟩
theorem WK.trans {w w1 w2 : World} (h : WK w w1) (g : WK w1 w2) : WK w w2 := ⟨g.os.trans h.os, g.out.trans h.out, fun a => (g.fz a).trans (h.fz a)⟩

/-- How the world may have gone on: the owned blocks that were handed over may have changed, the others are as they were. -/
structure Fr (keep : Nat → Prop) (cx : Cx) (w : World) (cx' : Cx) (w' : World) : Prop where
  le : w.heap.size ≤ w'.heap.size
  same : ∀ b, b < w.heap.size → (∀ k C, cx.bl k ≠ some (.at b C)) → w'.heap[b]? = w.heap[b]?
  own : ∀ b, cx'.O b → cx.O b ∨ w.heap.size ≤ b
  old : ∀ b, b < w.heap.size → cx.O b → cx'.O b ∨ ∃ k C, ¬ keep k ∧ cx.bl k = some (.at b C)
  blk : ∀ k b C, cx'.bl k = some (.at b C) → (∃ k', (k' = k ∨ ¬ keep k') ∧ cx.bl k' = some (.at b C)) ∨ w.heap.size ≤ b
  keep : ∀ k, keep k → cx'.bl k = cx.bl k
  wk : WK w w'

def isCells (hp : Nat → Option OB) (k : Nat) : Prop := ∃ s, hp k = some (.cells s)

/-- The function has a body of its own. -/
def Enters (P : Program) (f : FuncId) : Prop := ∃ fn, P.funcs[f]? = some fn ∧ (fn.name == "runtime.NumGoroutine") = false ∧ fn.body.isNone = false
/-- A call, entered; or answered by the model at once. -/
def Does (P : Program) (f : FuncId) (args : Array Value) (w : World) (R : Ending → World → Prop) : Prop :=
  (Enters P f ∧ Calls P f args w R) ∨ ∃ v w', (callFunc f args).run P w = .ok (.value v) w' ∧ R (.returned v) w'
theorem Does.mono {P : Program} {f : FuncId} {args : Array Value} {w : World} {R R' : Ending → World → Prop} (h : Does P f args w R) (hr : ∀ e w', R e w' → R' e w') : Does P f args w R' := by
  rcases h with ⟨h1, h2⟩ | ⟨v, w', h1, h2⟩
  · exact .inl ⟨h1, h2.mono hr⟩
  · exact .inr ⟨v, w', h1, hr _ _ h2⟩
/-- The listed package-level variables lie apart from what is owned, and hold what is listed. -/
def Glob (cx : Cx) (w : World) : Prop := ∀ g s, glob g = some s → g < w.heap.size ∧ ¬ cx.O g ∧ (∀ k C, cx.bl k ≠ some (.at g C)) ∧
  ∃ (cs : Array Value) (T : TypeId) (fz : Nat × Nat) (vs : List Value), w.heap[g]? = some (.cells cs T fz) ∧ vs.length = wd s ∧ (∀ (j : Nat) x, vs[j]? = some x → cs[j]? = some x) ∧ ∀ cx' w', RelC cx' w' s vs
theorem Glob.rel {cx : Cx} {w : World} (h : Glob cx w) {g : Nat} {s : SV} (hg : glob g = some s) : RelC cx w (.pf (wd s) [s] 0 []) [.pointer (some ⟨g, 0, none⟩)] := by
  obtain ⟨_, h2, _, cs, T, fz, vs, h4, h5, h6, h7⟩ := h g s hg
  have h1 : RelC cx w (.fs .no (wd s) [s]) [.slice (some ⟨g, 0, none⟩) 1 1] := by
    refine .fs (fun _ => vs) h4 h2 (Nat.le_refl _) Tg.ok_no (fun i x hi => ?_) (fun i hi => h5) (fun i hi j x hx => ?_)
    · cases i with
      | zero => simp at hi; subst hi; exact h7 _ _
      | succ i => simp at hi
    · have : i = 0 := by simp at hi; exact hi
      subst this
      simpa using h6 j x hx
  have := RelC.pf (i := 0) (p := []) h1
  simpa [offs] using this
theorem Glob.fr {keep : Nat → Prop} {cx cx' : Cx} {w w' : World} (h : Glob cx w) (hf : Fr keep cx w cx' w') : Glob cx' w' := by
  intro g s hg
  obtain ⟨h1, h2, h3, cs, T, fz, vs, h4, h5, h6, h7⟩ := h g s hg
  refine ⟨by have := hf.le; omega, fun h => ?_, fun k C h => ?_, cs, T, fz, vs, by rw [hf.same g h1 h3]; exact h4, h5, h6, h7⟩
  · rcases hf.own g h with h | h
    · exact h2 h
    · omega
  · rcases hf.blk k g C h with ⟨k', _, h⟩ | h
    · exact h3 k' C h
    · omega
/-- A contract: called with these arguments over these owned blocks, the function returns this, and leaves the blocks so; those of KP stay where they are. -/
def SpecG (KP : Nat → Prop) (P : Program) (f : FuncId) (args : List SV) (hp : List OB) (r : SV) (hp' : List OB) : Prop :=
  ∀ (cx : Cx) (w : World) (vals : List Value), Glob cx w → Mem cx w (nthB hp) → RelVL cx w args vals →
    Does P f vals.toArray w fun e w' => ∃ cx' v, e = .returned v ∧ RelV cx' w' r v ∧ Mem cx' w' (nthB hp') ∧ Fr KP cx w cx' w'
def Spec (P : Program) (f : FuncId) (args : List SV) (hp : List OB) (r : SV) (hp' : List OB) : Prop := SpecG (isCells (nthB hp)) P f args hp r hp'
/-- Every block stays where it is. -/
def isLive (hp : Nat → Option OB) (k : Nat) : Prop := ∃ ob, hp k = some ob ∧ ob ≠ .gone

/-! ### What lasts -/
structure Ext (cx : Cx) (w : World) (cx' : Cx) (w' : World) : Prop where
  bl : ∀ k x, cx.bl k = some x → cx'.bl k = some x
  same : ∀ b, b < w.heap.size → ¬ cx.O b → w'.heap[b]? = w.heap[b]?
  own : ∀ b, cx'.O b → cx.O b ∨ w.heap.size ≤ b

theorem lt_of_getElem? {α : Type} {xs : Array α} {i : Nat} {x : α} (h : xs[i]? = some x) : i < xs.size := by
  rcases Nat.lt_or_ge i xs.size with h' | h'
  · exact h'
  · rw [Array.getElem?_eq_none h'] at h; cases h

theorem Ext.bare {cx w cx' w'} (h : Ext cx w cx' w') : Ext ⟨fun _ => none, cx.O⟩ w ⟨fun _ => none, cx'.O⟩ w' :=
  ⟨fun _ _ h' => (by cases h'), h.same, h.own⟩

theorem RelC.mono {cx w s vs} (h : RelC cx w s vs) : ∀ {cx' w'}, Ext cx w cx' w' → RelC cx' w' s vs := by
  induction h with
  | v h => intro _ _ _; exact .v h
  | top h => intro _ _ _; exact .top h
  | nil => intro _ _ _; exact .nil
  | cons _ _ ih1 ih2 => intro _ _ e; exact .cons (ih1 e) (ih2 e)
  | ba h => intro _ _ _; exact .ba h
  | fs0 h => intro _ _ _; exact .fs0 h
  | fs f hb hO hc ht hr hl hx ih =>
    intro cx' w' e
    have hlt := lt_of_getElem? hb
    refine .fs f (by rw [e.same _ hlt hO]; exact hb) (fun h => ?_) hc ht (fun i s hs => ih i s hs e.bare) hl hx
    rcases e.own _ h with h | h
    · exact hO h
    · omega
  | ov h1 h2 => intro _ _ e; exact .ov (e.bl _ _ h1) h2
  | ov0 h1 => intro _ _ e; exact .ov0 (e.bl _ _ h1)
  | ovz h1 => intro _ _ e; exact .ovz (e.bl _ _ h1)
  | sb h1 h2 => intro _ _ e; exact .sb (e.bl _ _ h1) h2
  | pb h1 => intro _ _ e; exact .pb (e.bl _ _ h1)
  | pe h1 => intro _ _ e; exact .pe (e.bl _ _ h1)
  | pf _ ih => intro _ _ e; exact .pf (ih e)
  | clo vs hl _ ih => intro _ _ e; exact .clo vs hl fun i s x h1 h2 => ih i s x h1 h2 e

theorem RelV1.mono {cx w s v} (h : RelV1 cx w s v) {cx' w'} (e : Ext cx w cx' w') : RelV1 cx' w' s v := by
  cases s <;> simp only [RelV1] at h ⊢ <;> first | exact h | exact h.mono e | (obtain ⟨vs, h1, h2⟩ := h; exact ⟨vs, h1, h2.mono e⟩)
theorem RelVL.mono {cx w l vs} (h : RelVL cx w l vs) {cx' w'} (e : Ext cx w cx' w') : RelVL cx' w' l vs := by
  induction h with
  | nil => exact .nil
  | cons h _ ih => exact .cons (h.mono e) ih
theorem RelV.mono {cx w s v} (h : RelV cx w s v) {cx' w'} (e : Ext cx w cx' w') : RelV cx' w' s v := by
  cases s <;> simp only [RelV] at h ⊢ <;> first | exact h.mono e | (obtain ⟨vs, h1, h2⟩ := h; exact ⟨vs, h1, h2.mono e⟩)
theorem Holds.mono {cx w b C ob} (h : Holds cx w b C ob) {cx' w'} (e : Ext cx w cx' w') (hb : w'.heap[b]? = w.heap[b]?) : Holds cx' w' b C ob := by
  cases ob with
  | gone => trivial
  | cells s =>
    obtain ⟨vs, T, h1, h2⟩ := h
    exact ⟨vs, T, by rw [hb]; exact h1, h2.mono e⟩
  | arr x E rows =>
    obtain ⟨vs, T, h1, h2, h3, h4⟩ := h
    exact ⟨vs, T, by rw [hb]; exact h1, h2, h3, fun i s hs => (h4 i s hs).mono e.bare⟩

theorem Ext.refl (cx : Cx) (w : World) : Ext cx w cx w := ⟨fun _ _ h => h, fun _ _ _ => rfl, fun _ h => .inl h⟩

/-- The width of a value is the number of its cells. -/
theorem RelC.width {cx w s vs} (h : RelC cx w s vs) : vs.length = wd s := by
  induction h with
  | cons _ _ ih1 ih2 => simp only [List.length_append, ih1, ih2, Fw.wd, Fw.wds]
  | nil => rfl
  | ba h => simpa [Fw.wd] using h
  | _ => rfl
end Go.Fw

/- The executor: operations, regions, code. -/
namespace Go.Fw

def Con (P : Program) (f : FuncId) (args : List SV) (hp : List OB) (r : SV) (hp' : List OB) : Prop := Spec P f args hp r hp'
/-- A call that is left to the prover: its contract, and what comes behind it. -/
inductive CallN (P : Program) (f : FuncId) (args : List SV) (hp : List OB) (K : SV → List OB → Prop) (KR : SV → Prop) : Prop where
  | up (h : ∃ r hp', Con P f args hp r hp' ∧ (K r hp' ∨ (hp' = hp ∧ KR r)))
theorem CallN.mk {P : Program} {f : FuncId} {args : List SV} {hp : List OB} {K : SV → List OB → Prop} {KR : SV → Prop} {r : SV} {hp' : List OB} (h : Con P f args hp r hp') (k : K r hp') :
    CallN P f args hp K KR := ⟨r, hp', h, .inl k⟩
theorem CallN.ex {P : Program} {f : FuncId} {args : List SV} {hp : List OB} {K : SV → List OB → Prop} {KR : SV → Prop} {R : SV → List OB → Prop} (h : ∃ r hp', R r hp' ∧ Con P f args hp r hp') (k : ∀ r hp', R r hp' → K r hp') :
    CallN P f args hp K KR := let ⟨r, hp', h1, h2⟩ := h; ⟨r, hp', h2, .inl (k r hp' h1)⟩
theorem CallN.inv {P : Program} {f : FuncId} {args : List SV} {hp : List OB} {K : SV → List OB → Prop} {KR : SV → Prop} (h : CallN P f args hp K KR) : ∃ r hp', Con P f args hp r hp' ∧ (K r hp' ∨ (hp' = hp ∧ KR r)) := h.1

mutual
/-- Values without memory. -/
def cl : SV → Bool
  | .v _ => true
  | .ba _ _ => true
  | .top => false
  | .agg cs => cls cs
  | .tup cs => cls cs
  | _ => false
def cls : List SV → Bool
  | [] => true
  | s :: r => match cl s with | true => cls r | false => false
end
def cleanOB : OB → Prop
  | .cells s => cl s = true
  | .arr _ _ rows => ∀ s ∈ rows, cl s = true
  | .gone => True
mutual
/-- cl, but an owned slice may stand in it -/
def cl2 : SV → Bool
  | .v _ => true
  | .ba _ _ => true
  | .ov .. => true
  | .top => false
  | .agg cs => cl2s cs
  | .tup cs => cl2s cs
  | _ => false
def cl2s : List SV → Bool
  | [] => true
  | s :: r => match cl2 s with | true => cl2s r | false => false
end
def CleanP (r : SV) (hp : List OB) : Prop := cl2 r = true ∧ ∀ ob ∈ hp, cleanOB ob

mutual
def ment (k : Nat) : SV → Bool
  | .pb j _ => Nat.beq j k
  | .pe _ j _ _ => Nat.beq j k
  | .ov _ j _ _ => Nat.beq j k
  | .sb j _ _ _ => Nat.beq j k
  | .agg cs => ments k cs
  | .clo _ cs => ments k cs
  | .tup cs => ments k cs
  | _ => false
def ments (k : Nat) : List SV → Bool
  | [] => false
  | s :: r => match ment k s with | true => true | false => ments k r
end
mutual
def kill (k : Nat) : SV → SV
  | .pb j p => match Nat.beq j k with | true => .top | false => .pb j p
  | .pe E j i p => match Nat.beq j k with | true => .top | false => .pe E j i p
  | .ov E j o n => match Nat.beq j k with | true => .top | false => .ov E j o n
  | .sb j p o n => match Nat.beq j k with | true => .top | false => .sb j p o n
  | .agg cs => .agg (kills k cs)
  | .clo f cs => match ments k cs with | true => .top | false => .clo f cs
  | .tup cs => .tup (kills k cs)
  | s => s
def kills (k : Nat) : List SV → List SV
  | [] => []
  | s :: r => kill k s :: kills k r
end
def killsE (k : Nat) : List (Nat × SV) → List (Nat × SV)
  | [] => []
  | (t, s) :: r => match ment k s with | true => (t, .top) :: killsE k r | false => killsE k r
def killsH (k : Nat) : List OB → Nat → List (Nat × OB)
  | [], _ => []
  | .cells s :: r, i => match ment k s with | true => (i, .cells (kill k s)) :: killsH k r (i + 1) | false => killsH k r (i + 1)
  | _ :: r, i => killsH k r (i + 1)

def okT (b : Bool) (K : Prop) : Prop := match b with | true => K | false => botN
/-- An owned slice becomes a shared one: it goes into an array. -/
def frzOne (hp : List OB) (n0 : Nat) (s : SV) (K : SV → List Nat → Prop) : Prop :=
  match s with
  | .ov E k off m => match Nat.ble n0 k, nthB hp k with
    | true, some (.arr x E' rows) => okT (Nat.beq E E') (Need (off + m ≤ rows.length) (Nm ((rows.drop off).take m) fun rs => K (.fs ⟨x.map (· - off), false⟩ E rs) [k]))
    | _, _ => False
  | .sb k [] off m => match Nat.ble n0 k, nthB hp k with
    | true, some (.cells (.ba q l)) => Need (off + m ≤ q) (Nm (((bytesRows l).drop off).take m) fun rs => K (.fs .no 1 rs) [k])
    | _, _ => False
  | s => K s []
mutual
/-- Does it name an owned slice? -/
def slcs1 : SV → Bool
  | .ov .. => true
  | .sb .. => true
  | .agg cs => slcs cs
  | _ => false
def slcs : List SV → Bool
  | [] => false
  | s :: r => match slcs1 s with | true => true | false => slcs r
end
mutual
def frzS (hp : List OB) (n0 : Nat) : SV → (SV → List Nat → Prop) → Prop
  | .agg cs, K => match slcs cs with | true => frzL hp n0 cs fun cs' ks => K (.agg cs') ks | false => K (.agg cs) []
  | s, K => frzOne hp n0 s K
def frzL (hp : List OB) (n0 : Nat) : List SV → (List SV → List Nat → Prop) → Prop
  | [], K => K [] []
  | s :: r, K => frzS hp n0 s fun s' ks => frzL hp n0 r fun r' ks' => K (s' :: r') (app ks ks')
end
def frz (hp : List OB) (n0 : Nat) (s : SV) (K : SV → List Nat → Prop) : Prop :=
  match s with
  | .agg cs => frzL hp n0 cs fun cs' ks => K (.agg cs') ks
  | s => frzOne hp n0 s K
def frzPs (hp : List OB) (n0 : Nat) : List (Nat × SV) → (List (Nat × SV) → List Nat → Prop) → Prop
  | [], K => K [] []
  | (i, s) :: r, K => frz hp n0 s fun s' ks => frzPs hp n0 r fun r' ks' => K ((i, s') :: r') (app ks ks')
def goneL : List Nat → List (Nat × OB)
  | [] => []
  | k :: r => (k, .gone) :: goneL r

def Rec.newF (o : Oper) (k : Nat) (ob : OB) (s : SV) (ks : List Nat) : Rec := ⟨slotsOf o.op.operands.toList, k :: ks, dst1 o.dst s, app (goneL ks) [(k, ob)], false⟩
def Rec.putF (o : Oper) (k : Nat) (ob : OB) (ks : List Nat) : Rec := ⟨slotsOf o.op.operands.toList, k :: ks, dst1 o.dst .top, app (goneL ks) [(k, ob)], false⟩

/-- Which of the owned slices among the arguments are given away: the prover says their places. -/
inductive GM where
  | inst
  | give (g : List Nat)
  | keep (g : List Nat)
inductive GiveN (K : GM → Prop) : Prop where
  | up (h : ∃ g, K g)
theorem GiveN.lend {K : GM → Prop} (k : K (.give [])) : GiveN K := ⟨_, k⟩
theorem GiveN.mk {K : GM → Prop} (g : List Nat) (k : K (.give g)) : GiveN K := ⟨_, k⟩
/-- These are lent, to be written in. -/
theorem GiveN.keep {K : GM → Prop} (g : List Nat) (k : K (.keep g)) : GiveN K := ⟨_, k⟩
/-- The call is answered by the model at once. -/
theorem GiveN.inst {K : GM → Prop} (k : K .inst) : GiveN K := ⟨_, k⟩
theorem give_iff {K : GM → Prop} : GiveN K ↔ ∃ g, K g := ⟨fun ⟨h⟩ => h, fun h => ⟨h⟩⟩
/-- A contract under which every block stays where it is. -/
def ConK (P : Program) (f : FuncId) (args : List SV) (hp : List OB) (r : SV) (hp' : List OB) : Prop := SpecG (isLive (nthB hp)) P f args hp r hp'
inductive CallKN (P : Program) (f : FuncId) (args : List SV) (hp : List OB) (K : SV → List OB → Prop) : Prop where
  | up (h : ∃ r hp', ConK P f args hp r hp' ∧ K r hp')
theorem CallKN.mk {P : Program} {f : FuncId} {args : List SV} {hp : List OB} {K : SV → List OB → Prop} {r : SV} {hp' : List OB} (h : ConK P f args hp r hp') (k : K r hp') : CallKN P f args hp K := ⟨r, hp', h, k⟩
theorem CallKN.ex {P : Program} {f : FuncId} {args : List SV} {hp : List OB} {K : SV → List OB → Prop} {R : SV → List OB → Prop} (h : ∃ r hp', R r hp' ∧ ConK P f args hp r hp') (k : ∀ r hp', R r hp' → K r hp') :
    CallKN P f args hp K := let ⟨r, hp', h1, h2⟩ := h; ⟨r, hp', h2, k r hp' h1⟩
theorem CallKN.inv {P : Program} {f : FuncId} {args : List SV} {hp : List OB} {K : SV → List OB → Prop} (h : CallKN P f args hp K) : ∃ r hp', ConK P f args hp r hp' ∧ K r hp' := h.1
/-- What a call that the model answers at once returns; memory stays as it is. -/
def Inst (P : Program) (f : FuncId) (args : List SV) (hp : Nat → Option OB) (ks : List Nat) (r : SV) : Prop :=
  ∀ (cx : Cx) (w : World) (vals : List Value) (hp' : Nat → Option OB), (∀ k ∈ ks, hp' k = hp k) → Mem cx w hp' → RelVL cx w args vals → ∃ v, (callFunc f vals.toArray).run P w = .ok (.value v) w ∧ RelV cx w r v
inductive InstN (P : Program) (f : FuncId) (args : List SV) (h : List OB) (ks : List Nat) (K : SV → Prop) : Prop where
  | up (h : ∃ r, Inst P f args (nthB h) ks r ∧ K r)
theorem InstN.mk {P : Program} {f : FuncId} {args : List SV} {h : List OB} {ks : List Nat} {K : SV → Prop} {r : SV} (hi : Inst P f args (nthB h) ks r) (k : K r) : InstN P f args h ks K := ⟨r, hi, k⟩
theorem InstN.inv {P : Program} {f : FuncId} {args : List SV} {h : List OB} {ks : List Nat} {K : SV → Prop} (hi : InstN P f args h ks K) : ∃ r, Inst P f args (nthB h) ks r ∧ K r := hi.1
def isOv : SV → Bool
  | .ov .. => true
  | _ => false
def hasN (k : Nat) : List Nat → Bool
  | [] => false
  | j :: r => match Nat.beq j k with | true => true | false => hasN k r
/-- Within a struct the owned slices become shared ones. -/
def lendA (hp : List OB) : List SV → (List SV → List Nat → Prop) → Prop
  | [], K => K [] []
  | s :: r, K => match s with
    | .ov .. => rowsOf' hp s fun E rows ks => lendA hp r fun l ks' => K (.fs .no E rows :: l) (app ks ks')
    | s => lendA hp r fun l ks => K (s :: l) ks
/-- The arguments that are lent become shared slices; those that are given stay. -/
def lendG (hp : List OB) (g : List Nat) : Nat → List SV → (List SV → List Nat → Prop) → Prop
  | _, [], K => K [] []
  | j, s :: r, K => match s with
    | .ov .. => match hasN j g with
      | true => lendG hp g (j + 1) r fun l ks => K (s :: l) ks
      | false => rowsOf' hp s fun E rows ks => lendG hp g (j + 1) r fun l ks' => K (.fs .no E rows :: l) (app ks ks')
    | .sb .. => rowsOf' hp s fun E rows ks => lendG hp g (j + 1) r fun l ks' => K (.fs .no E rows :: l) (app ks ks')
    | .agg cs => match cs.any isOv, hasN j g with
      | true, false => lendA hp cs fun cs' ks => lendG hp g (j + 1) r fun l ks' => K (.agg cs' :: l) (app ks ks')
      | _, _ => lendG hp g (j + 1) r fun l ks => K (s :: l) ks
    | s => lendG hp g (j + 1) r fun l ks => K (s :: l) ks
/-- The blocks that the boxes among these name, too. -/
def boxRefs (hp : List OB) : List Nat → List Nat → List Nat
  | [], acc => acc
  | k :: r, acc => match nthB hp k with
    | some (.cells s) => boxRefs hp r (refs s acc)
    | _ => boxRefs hp r acc
def refsC (hp : List OB) (args : List SV) : List Nat := boxRefs hp (refss args []) (refss args [])
def subN : List Nat → List Nat → Bool
  | [], _ => true
  | k :: r, l => match hasN k l with | true => subN r l | false => false
def anyArr (hp : List OB) : List Nat → Bool
  | [] => false
  | k :: r => match nthB hp k with | some (.arr ..) => true | some (.cells s) => (match noRef s with | true => anyArr hp r | false => true) | _ => anyArr hp r
/-- The frame's slots; the owned blocks that were handed over. -/
structure Sz where
  n : Nat
  n0 : Nat
  fr : List OB
/-- An array of its own, or one that was given and may move. -/
def isArrO : Option OB → Bool
  | some (.arr ..) => true
  | _ => false
def freeB (n : Sz) (k : Nat) : Bool := match Nat.ble n.n0 k with | true => true | false => isArrO (nthB n.fr k)
/-- The blocks that go into a call: boxes, and arrays that are given. -/
def inHpG (hp : List OB) (n0 : Sz) (all : List Nat) : List Nat → (List Nat → List Nat → List OB → List OB → Prop) → Prop
  | [], K => K [] [] [] []
  | k :: r, K => match nthB hp k with
    | some (.cells s) => match subN (refs s []) all with | true => inHpG hp n0 all r fun a b c d => K (k :: a) b (.cells s :: c) d | false => False
    | some (.arr x E rows) => match freeB n0 k with | true => inHpG hp n0 all r fun a b c d => K a (k :: b) c (.arr x E rows :: d) | false => False
    | _ => False

def lendK (hp : List OB) : List SV → (List SV → List Nat → Prop) → Prop
  | [], K => K [] []
  | s :: r, K => match s with
    | .ov .. => rowsOf' hp s fun E rows ks => lendK hp r fun l ks' => K (.fs .no E rows :: l) (app ks ks')
    | .sb .. => rowsOf' hp s fun E rows ks => lendK hp r fun l ks' => K (.fs .no E rows :: l) (app ks ks')
    | .agg cs => match cs.any isOv with
      | true => lendA hp cs fun cs' ks => lendK hp r fun l ks' => K (.agg cs' :: l) (app ks ks')
      | false => lendK hp r fun l ks => K (s :: l) ks
    | s => lendK hp r fun l ks => K (s :: l) ks
def idx : List Nat → Nat → Nat
  | [], _ => 0
  | j :: r, k => match Nat.beq j k with | true => 0 | false => idx r k + 1
def nthN : List Nat → Nat → Nat
  | [], _ => 0
  | x :: _, 0 => x
  | _ :: r, i + 1 => nthN r i
def backN (ks : List Nat) (n0 base j : Nat) : Nat := match Nat.blt j n0 with | true => nthN ks j | false => base + (j - n0)
def renOB (f : Nat → Nat) : OB → OB
  | .cells s => .cells (ren f s)
  | ob => ob
/-- The blocks that go into a call. -/
def inHp (hp : List OB) : List Nat → (List OB → Prop) → Prop
  | [], K => K []
  | k :: r, K => match nthB hp k with
    | some (.cells s) => match noRef s with | true => inHp hp r fun l => K (.cells s :: l) | false => False
    | _ => False
def outHp (f : Nat → Nat) : Nat → List OB → List (Nat × OB)
  | _, [] => []
  | j, ob :: r => (f j, renOB f ob) :: outHp f (j + 1) r

def renOBK (f : Nat → Nat) (ob : OB) (K : OB → Prop) : Prop := match ob with | .cells s => renV f s fun s => K (.cells s) | ob => K ob
theorem renOBK_eq {f : Nat → Nat} {ob : OB} {K : OB → Prop} : renOBK f ob K = K (renOB f ob) := by
  cases ob <;> simp only [renOBK, renOB, renV_eq]
def renOBsK (f : Nat → Nat) : List OB → (List OB → Prop) → Prop
  | [], K => K []
  | ob :: r, K => renOBK f ob fun ob => renOBsK f r fun r => K (ob :: r)
theorem renOBsK_eq {f : Nat → Nat} : ∀ {l : List OB} {K : List OB → Prop}, renOBsK f l K = K (l.map (renOB f))
  | [], _ => rfl
  | ob :: r, K => by simp only [renOBsK, renOBK_eq, renOBsK_eq (l := r), List.map_cons]
def outHpK (f : Nat → Nat) : Nat → List OB → (List (Nat × OB) → Prop) → Prop
  | _, [], K => K []
  | j, ob :: r, K => fN (f j) fun k => renOBK f ob fun ob => outHpK f (j + 1) r fun l => K ((k, ob) :: l)
theorem outHpK_eq {f : Nat → Nat} : ∀ {l : List OB} {j : Nat} {K : List (Nat × OB) → Prop}, outHpK f j l K = K (outHp f j l)
  | [], _, _ => rfl
  | ob :: r, j, K => by simp only [outHpK, outHp, fN_eq, renOBK_eq, outHpK_eq (l := r)]
def callRec (o : Oper) (base : Nat) (ks lent : List Nat) (r : SV) (hp' : List OB) : Rec :=
  ⟨slotsOf o.op.operands.toList, app ks (app lent ((outHp (backN ks (len ks) base) 0 hp').map Prod.fst)), dst1 o.dst (ren (backN ks (len ks) base) r), outHp (backN ks (len ks) base) 0 hp', false⟩
def callRecK (o : Oper) (base : Nat) (ks lent : List Nat) (r : SV) (hp' : List OB) (K : Rec → Prop) : Prop :=
  renV (backN ks (len ks) base) r fun r1 => outHpK (backN ks (len ks) base) 0 hp' fun l => K ⟨slotsOf o.op.operands.toList, app ks (app lent (l.map Prod.fst)), dst1 o.dst r1, l, false⟩
theorem callRecK_eq {o : Oper} {base : Nat} {ks lent : List Nat} {r : SV} {hp' : List OB} {K : Rec → Prop} : callRecK o base ks lent r hp' K = K (callRec o base ks lent r hp') := by
  simp only [callRecK, renV_eq, outHpK_eq]; rfl
def callK (o : Oper) (base : Nat) (ks lent : List Nat) (K : Rec → Prop) (r : SV) (hp' : List OB) : Prop :=
  match Nat.ble (len ks) (len hp') with
  | false => False
  | true => match lent with
    | [] => callRecK o base ks lent r hp' K
    | _ => Need (CleanP r hp') (callRecK o base ks lent r hp' K)
def meets (a b : List Nat) : Bool := a.any fun x => b.any (Nat.beq x)
def scal : SV → Bool
  | .top => false
  | .tup _ => false
  | .agg _ => false
  | .ba .. => false
  | _ => true
def argOK : SV → Bool
  | .tup _ => false
  | _ => true
def callRecG (o : Oper) (base : Nat) (ks gs lent : List Nat) (r : SV) (hp' : List OB) : Rec :=
  ⟨slotsOf o.op.operands.toList, app ks (app gs (app lent ((outHp (backN ks (len ks) base) 0 hp').map Prod.fst))), dst1 o.dst (ren (backN ks (len ks) base) r), app (goneL gs) (outHp (backN ks (len ks) base) 0 hp'), false⟩
def callRecGK (o : Oper) (base : Nat) (ks gs lent : List Nat) (r : SV) (hp' : List OB) (K : Rec → Prop) : Prop :=
  renV (backN ks (len ks) base) r fun r1 => outHpK (backN ks (len ks) base) 0 hp' fun l => K ⟨slotsOf o.op.operands.toList, app ks (app gs (app lent (l.map Prod.fst))), dst1 o.dst r1, app (goneL gs) l, false⟩
theorem callRecGK_eq {o : Oper} {base : Nat} {ks gs lent : List Nat} {r : SV} {hp' : List OB} {K : Rec → Prop} : callRecGK o base ks gs lent r hp' K = K (callRecG o base ks gs lent r hp') := by
  simp only [callRecGK, renV_eq, outHpK_eq]; rfl
def callG (o : Oper) (base : Nat) (ks gs lent : List Nat) (K : Rec → Prop) (r : SV) (hp' : List OB) : Prop :=
  match Nat.ble (len ks) (len hp') with
  | false => False
  | true => match lent with
    | [] => callRecGK o base ks gs lent r hp' K
    | _ => Need (CleanP r hp') (callRecGK o base ks gs lent r hp' K)
/-- The boxes are left as they are. -/
def callR (o : Oper) (base : Nat) (ks lent : List Nat) (K : Rec → Prop) (r : SV) : Prop :=
  match lent with
  | [] => renV (backN ks (len ks) base) r fun r1 => K ⟨slotsOf o.op.operands.toList, ks, dst1 o.dst r1, [], false⟩
  | _ => botN
def execCall0 (P : Program) (o : Oper) (h : List OB) (f : FuncId) (args : List SV) (K : Rec → Prop) : Prop :=
  lendK h args fun args lent =>
    match noRefs args with
    | true => CallN P f args [] (callK o (len h) [] lent K) fun _ => botN
    | false => fNs (refss args []) fun ks => okT (!(meets ks lent)) (inHp h ks fun hpi => renKs (idx ks) args fun args => CallN P f args hpi (callK o (len h) ks lent K) (callR o (len h) ks lent K))
def execCallG (P : Program) (n0 : Sz) (o : Oper) (h : List OB) (f : FuncId) (args : List SV) (g : List Nat) (K : Rec → Prop) : Prop :=
  lendG h g 0 args fun args lent =>
    fNs (refsC h args) fun rs => okT (!(meets rs lent)) (inHpG h n0 rs rs fun ks gs hc ha => renOBsK (idx (app ks gs)) hc fun hc => renKs (idx (app ks gs)) args fun args => CallN P f args (app hc ha) (callG o (len h) ks gs lent K) fun _ => botN)
def inHpK (hp : List OB) (all : List Nat) : List Nat → (List OB → Prop) → Prop
  | [], K => K []
  | k :: r, K => match nthB hp k with
    | some (.cells s) => match subN (refs s []) all with | true => inHpK hp all r fun l => K (.cells s :: l) | false => False
    | some (.arr x E rows) => inHpK hp all r fun l => K (.arr x E rows :: l)
    | _ => False
def execCallK (P : Program) (o : Oper) (h : List OB) (f : FuncId) (args : List SV) (g : List Nat) (K : Rec → Prop) : Prop :=
  lendG h g 0 args fun args lent =>
    fNs (refsC h args) fun ks => okT (!(meets ks lent)) (inHpK h ks ks fun hpi => renOBsK (idx ks) hpi fun hpi => renKs (idx ks) args fun args => CallKN P f args hpi (callK o (len h) ks lent K))
def execCall (P : Program) (n0 : Sz) (o : Oper) (h : List OB) (f : FuncId) (args : List SV) (K : Rec → Prop) : Prop :=
  okT (args.all argOK) (match args.any isOv || anyArr h (refsC h args) with
    | false => execCall0 P o h f args K
    | true => GiveN fun g => match g with
      | .inst => (match refss args [] with | ks => InstN P f args h ks fun r => K ⟨slotsOf o.op.operands.toList, ks, dst1 o.dst r, [], false⟩)
      | .give [] => execCall0 P o h f args K
      | .give g => execCallG P n0 o h f args g K
      | .keep g => execCallK P o h f args g K)

def roomOK (n bytes : Nat) : Prop := n * bytes ≤ 70368744177664 ∧ n ≤ 70368744177664

def inFrame (n : Sz) : Option Nat → Bool
  | some d => Nat.blt d n.n
  | none => true
/-- append: onto nothing, onto a slice without room, onto an owned one. -/
def execAppend (n : Sz) (o : Oper) (e : List (Nat × SV)) (h : List OB) (E bytes : Nat) (s x : SV) (K : Rec → Prop) : Prop :=
  rowsOf E h x fun xs ks =>
      match s with
      | .v (.slice none 0 0) => Need (roomOK xs.length bytes)
          (Nm xs.length fun n1 => K ⟨slotsOf o.op.operands.toList, len h :: ks, dst1 o.dst (.ov E (len h) 0 n1), [(len h, .arr none E xs)], false⟩)
      | .fs t E0 rows => match Nat.beq E0 E, t.cap with
        | true, some c => Alt (Need ((c < rows.length + xs.length ∨ (rows = [] ∧ c = 0)) ∧ roomOK (rows.length + xs.length) bytes)
          (Nm (rows ++ xs) fun rs => Nm rs.length fun n1 => K ⟨slotsOf o.op.operands.toList, len h :: ks, dst1 o.dst (.ov E (len h) 0 n1), [(len h, .arr none E rs)], false⟩))
          (Need (xs = [] ∧ rows.length ≤ c) (K ⟨slotsOf o.op.operands.toList, ks, dst1 o.dst (.fs t E rows), [], false⟩))
        | _, _ => False
      | .ov E0 k off m => match Nat.beq E0 E, nthB h k with
        | true, some (.arr x E1 rows) => match Nat.beq E1 E with
          | true => Alt (okT (freeB n k && Nat.beq off 0) (Need (m = rows.length ∧ roomOK (rows.length + xs.length) bytes)
              (Nm (rows ++ xs) fun rs => Nm rs.length fun n1 => K ⟨slotsOf o.op.operands.toList, k :: ks, app (killsE k e) (dst1 o.dst (.ov E k 0 n1)), (k, .arr none E rs) :: killsH k h 0, true⟩)))
            (Alt (Need (off + m + xs.length ≤ rows.length)
              (Nm (rows.take (off + m) ++ xs ++ rows.drop (off + m + xs.length)) fun rs => Nm (m + xs.length) fun n1 => K ⟨slotsOf o.op.operands.toList, k :: ks, dst1 o.dst (.ov E k off n1), [(k, .arr x E rs)], false⟩))
            (match x with
              | some c => Need (off + m ≤ rows.length ∧ c - off < m + xs.length ∧ roomOK (m + xs.length) bytes)
                (Nm ((rows.drop off).take m ++ xs) fun rs => Nm rs.length fun n1 => K ⟨slotsOf o.op.operands.toList, len h :: k :: ks, dst1 o.dst (.ov E (len h) 0 n1), [(len h, .arr none E rs)], false⟩)
              | none => False))
          | false => False
        | _, _ => False
      | _ => False
/-- append of so many zeros, beyond the room that there is. -/
def execAppendMake (o : Oper) (h : List OB) (E bytes : Nat) (z s : SV) (q : Int) (K : Rec → Prop) : Prop :=
  match s with
  | .ov E0 k off m => match Nat.beq E0 E, nthB h k with
    | true, some (.arr (some c) E1 rows) => okT (Nat.beq E1 E) (Need (0 ≤ q ∧ off + m ≤ rows.length ∧ c - off < m + q.toNat ∧ roomOK (m + q.toNat) bytes)
        (Nm q.toNat fun q1 => Nm ((rows.drop off).take m ++ List.replicate q1 z) fun rs => Nm rs.length fun n1 => K ⟨slotsOf o.op.operands.toList, [len h, k], dst1 o.dst (.ov E (len h) 0 n1), [(len h, .arr none E rs)], false⟩))
    | _, _ => False
  | .fs t E0 rows => match Nat.beq E0 E, t.cap with
    | true, some c => Need (0 < q ∧ c < rows.length + q.toNat ∧ roomOK (rows.length + q.toNat) bytes)
        (Nm q.toNat fun q1 => Nm (rows ++ List.replicate q1 z) fun rs => Nm rs.length fun n1 => K ⟨slotsOf o.op.operands.toList, [len h], dst1 o.dst (.ov E (len h) 0 n1), [(len h, .arr none E rs)], false⟩)
    | _, _ => False
  | _ => False
def isIntT : TI → Bool
  | .int _ => true
  | _ => false
/-- copy: into an owned array. -/
def execCopy (o : Oper) (h : List OB) (E : Nat) (d s : SV) (K : Rec → Prop) : Prop :=
  rowsOf E h s fun xs ks =>
    match d with
    | .ov E0 k off m => match Nat.beq E0 E, nthB h k with
      | true, some (.arr x E1 rows) => okT (Nat.beq E1 E) (Need (off + m ≤ rows.length)
          (Nm (rows.take off ++ xs.take m ++ rows.drop (off + (xs.take m).length)) fun rs => Nm (min xs.length m) fun n1 => K ⟨slotsOf o.op.operands.toList, k :: ks, dst1 o.dst (.v (.int .i64 (n1 : Nat))), [(k, .arr x E rs)], false⟩))
      | _, _ => False
    | .sb k p off m => match nthB h k with
      | some (.cells s) => okT (Nat.beq E 1) (follow p s fun y => match y with
        | .ba n1 l => Byt xs fun ys => Need (off + m ≤ n1) (Nm (l.take off ++ ys.take m ++ l.drop (off + (ys.take m).length)) fun l2 => place p s (.ba n1 l2) fun s' =>
            Nm (min ys.length m) fun q => K ⟨slotsOf o.op.operands.toList, k :: ks, dst1 o.dst (.v (.int .i64 (q : Nat))), [(k, .cells s')], false⟩)
        | _ => False)
      | _ => False
    | _ => False
def execCap (o : Oper) (h : List OB) (s : SV) (K : Rec → Prop) : Prop :=
  match s with
  | .ov E0 k off _ => match nthB h k with
    | some (.arr (some c) E1 _) => okT (Nat.beq E0 E1) (Nm (c - off) fun n1 => K (.look o k (.v (.int .i64 (n1 : Nat)))))
    | _ => False
  | .fs t _ _ => match t.cap with
    | some c => K (.plain o (.v (.int .i64 (c : Nat))))
    | none => False
  | .v (.slice none _ c) => K (.plain o (.v (.int .i64 (c : Nat))))
  | _ => False
def execClear (o : Oper) (h : List OB) (E : Nat) (z s : SV) (K : Rec → Prop) : Prop :=
  match s with
  | .ov E0 k off m => match Nat.beq E0 E, nthB h k with
    | true, some (.arr x E1 rows) => okT (Nat.beq E1 E) (Need (off + m ≤ rows.length)
        (Nm (rows.take off ++ List.replicate m z ++ rows.drop (off + (List.replicate m z).length)) fun rs => K ⟨slotsOf o.op.operands.toList, [k], dst1 o.dst (.tup []), [(k, .arr x E rs)], false⟩))
    | _, _ => False
  | .v (.slice none _ _) => K (.plain o (.tup []))
  | _ => False

/-- A value of this type: an aggregate of its cells, or one cell. -/
def ofType (ti : TI) (y : SV) : Bool :=
  match ti with
  | .none => false
  | ti => match ti.isAgg, y with
  | true, .agg cs => Nat.beq (wds cs) (wd ti.zero)
  | true, .ba n _ => Nat.beq n (wd ti.zero)
  | true, _ => false
  | false, .agg _ => false
  | false, .ba _ _ => false
  | false, .tup _ => false
  | false, .top => false
  | false, _ => true
def isSlc : TI → Bool
  | .slc .. => true
  | _ => false
/-- Elements of a slice: its sub-slices. -/
def sliceFs (o : Oper) (E0 : Nat) (t : Tg) (E : Nat) (rows : List SV) (lo hi mx : Option SV) (K : Rec → Prop) : Prop :=
  okT (Nat.beq E0 E) (bound lo 0 fun l => bound hi rows.length fun u =>
    match mx, hi with
    | none, none => Need (0 ≤ l ∧ l ≤ u ∧ u ≤ rows.length) (Nm l.toNat fun l1 => Nm ((rows.drop l1).take (u.toNat - l1)) fun rs => K (.plain o (.fs (t.cut l1) E rs)))
    | none, some _ => Need (0 ≤ l ∧ l ≤ u ∧ u ≤ rows.length) (Nm l.toNat fun l1 => Nm ((rows.drop l1).take (u.toNat - l1)) fun rs => K (.plain o (.fs (t.cut l1) E rs)))
    | some m, some _ => intOf? m fun m => Need (0 ≤ l ∧ l ≤ u ∧ u = m ∧ u ≤ rows.length) (Nm l.toNat fun l1 => Nm (m.toNat - l1) fun c1 => Nm ((rows.drop l1).take (u.toNat - l1)) fun rs => K (.plain o (.fs ⟨some c1, t.nn⟩ E rs)))
    | some _, none => False)
/-- With three indices: nothing is known of it; or the array goes among the shared ones. -/
def sliceOv3 (o : Oper) (h : List OB) (n0 E k off n : Nat) (l u m : Int) (K : Rec → Prop) : Prop :=
  Sl3 (Need (0 ≤ l ∧ l ≤ u ∧ u ≤ m ∧ m ≤ n) (K (.plain o .top)))
    (match Nat.ble n0 k, nthB h k with
      | true, some (.arr _ E' rows) => okT (Nat.beq E E') (Need (0 ≤ l ∧ l ≤ u ∧ u ≤ m ∧ m ≤ n ∧ off + n ≤ rows.length)
        (Nm l.toNat fun l1 => Nm (m.toNat - l1) fun c1 => Nm ((rows.drop (off + l1)).take (u.toNat - l1)) fun rs => K ⟨slotsOf o.op.operands.toList, [k], dst1 o.dst (.fs ⟨some c1, false⟩ E rs), [(k, .gone)], false⟩))
      | _, _ => False)
def sliceOv (o : Oper) (h : List OB) (n0 E0 E k off n : Nat) (lo hi mx : Option SV) (K : Rec → Prop) : Prop :=
  okT (Nat.beq E0 E) (match mx with
    | some m => match hi with
      | some _ => bound lo 0 fun l => bound hi n fun u => intOf? m fun m => sliceOv3 o h n0 E k off n l u m K
      | none => False
    | none => bound lo 0 fun l => bound hi n fun u => match nthB h k with
      | some (.arr _ _ rows) => Need (0 ≤ l ∧ l ≤ u ∧ (u ≤ n ∨ off + u ≤ rows.length)) (Nm (off + l.toNat) fun l1 => Nm (u.toNat - l.toNat) fun n1 => K (.look o k (.ov E k l1 n1)))
      | _ => Need (0 ≤ l ∧ l ≤ u ∧ u ≤ n) (Nm (off + l.toNat) fun l1 => Nm (u.toNat - l.toNat) fun n1 => K (.look o k (.ov E k l1 n1))))
def sliceBox (o : Oper) (n E k : Nat) (p : List PS) (lo hi mx : Option SV) (K : Rec → Prop) : Prop :=
  match lo, hi, mx with
  | none, none, none => okT (Nat.beq E 1 && Nat.blt 0 n) (K (.look o k (.sb k p 0 n)))
  | some s, none, none => okT (Nat.beq E 1) (intOf? s fun l => Need (0 ≤ l ∧ l < n) (Nm l.toNat fun l1 => Nm (n - l1) fun n1 => K (.look o k (.sb k p l1 n1))))
  | lo, some s, none => okT (Nat.beq E 1) (bound lo 0 fun l => intOf? s fun u => Need (0 ≤ l ∧ l ≤ u ∧ u ≤ n ∧ l < n) (Nm l.toNat fun l1 => Nm (u.toNat - l1) fun n1 => K (.look o k (.sb k p l1 n1))))
  | _, _, _ => False
/-- The bytes of an array within a shared slice. -/
def sliceIn (o : Oper) (n E : Nat) (rows : List SV) (i : Nat) (p : List PS) (lo hi mx : Option SV) (K : Rec → Prop) : Prop :=
  match lo, hi, mx with
  | none, none, none => okT (Nat.beq E 1 && Nat.blt 0 n) (Elem rows i fun s => follow p s fun y => match y with
    | .ba m l => okT (Nat.beq m n) (K (.plain o (.fs ⟨some n, true⟩ 1 (bytesRows l))))
    | _ => False)
  | _, _, _ => False
/-- The bytes of an array within an owned slice. -/
def sliceEl (o : Oper) (n E E1 k i : Nat) (p : List PS) (lo hi mx : Option SV) (K : Rec → Prop) : Prop :=
  match lo, hi, mx with
  | none, none, none => okT (Nat.beq E 1 && Nat.blt 0 n) (K (.look o k (.sb k (.ix E1 0 i :: p) 0 n)))
  | _, _, _ => False
def execSlice (o : Oper) (h : List OB) (n0 : Nat) (ti : TI) (x : SV) (lo hi mx : Option SV) (K : Rec → Prop) : Prop :=
  match ti, x with
  | .slc E0 _ _, .fs t E rows => sliceFs o E0 t E rows lo hi mx K
  | .slc E0 _ _, .ov E k off n => sliceOv o h n0 E0 E k off n lo hi mx K
  | .arr n E _ _, .pb k p => sliceBox o n E k p lo hi mx K
  | .arr n E _ _, .pf _ rows i p => sliceIn o n E rows i p lo hi mx K
  | .arr n E _ _, .pe E1 k i p => sliceEl o n E E1 k i p lo hi mx K
  | _, _ => False

def execBuiltin (TT : Nat → TI) (n : Sz) (o : Oper) (e : List (Nat × SV)) (h : List OB) (b : Builtin) (argTypes : List TypeId) (args : List SV) (K : Rec → Prop) : Prop :=
  match b, args with
  | .len, [s] => match argTypes with
    | t :: _ => okT (isSlc (TT t)) (lenOf s fun n => K (.plain o (natLen n)))
    | _ => False
  | .append, [s, x] => match argTypes with
    | [t, t'] => match Nat.beq t t', TT t with
      | true, .slc E bytes _ => okT (Nat.blt 0 E) (execAppend n o e h E bytes s x K)
      | false, .slc E bytes z => okT (Nat.blt 0 E && isIntT (TT t')) (intOf? x fun q => execAppendMake o h E bytes z s q K)
      | _, _ => False
    | _ => False
  | .copy, [d, s] => match argTypes with
    | t :: _ => match TT t with | .slc E _ _ => okT (Nat.blt 0 E) (execCopy o h E d s K) | _ => False
    | _ => False
  | .cap, [s] => match argTypes with
    | t :: _ => okT (isSlc (TT t)) (execCap o h s K)
    | _ => False
  | .clear, [s] => match argTypes with
    | t :: _ => match TT t with | .slc E _ z => okT (Nat.blt 0 E) (execClear o h E z s K) | _ => False
    | _ => False
  | .min, [.v (.int k x), .v (.int _ y)] => K (.plain o (.v (.int k (min x y))))
  | .max, [.v (.int k x), .v (.int _ y)] => K (.plain o (.v (.int k (max x y))))
  | _, _ => False

/-- Equality of values of a type. -/
def eqT (TT : Nat → TI) : Nat → Nat → SV → SV → Option Bool
  | 0, _, _, _ => none
  | d + 1, t, x, y =>
    match TT t with
    | .int k => match x, y with
      | .v (.int k1 a), .v (.int k2 b) => match kbeq k k1, kbeq k k2 with | true, true => some (a == b) | _, _ => none
      | _, _ => none
    | .bool => match x, y with
      | .v (.bool a), .v (.bool b) => some (a == b)
      | _, _ => none
    | .str _ (u :: ft) _ => match x, y with
      | .agg xs, .agg ys => go d (u :: ft) xs ys
      | _, _ => none
    | .arr n E el _ => match x, y with
      | .ba m l, .ba m' r => match Nat.beq m n, Nat.beq m' n, Nat.beq E 1, TT el with
        | true, true, true, .int .u8 => some (l == r)
        | _, _, _, _ => none
      | .agg xs, .agg ys => match Nat.beq (len xs) n, Nat.beq (len ys) n with
        | true, true => go d (reps n el) xs ys
        | _, _ => none
      | _, _ => none
    | _ => none
where
  go : Nat → List Nat → List SV → List SV → Option Bool
  | 0, _, _, _ => none
  | _ + 1, [], [], [] => some true
  | d + 1, t :: ts, x :: xs, y :: ys => match ofType (TT t) x, ofType (TT t) y, eqT TT d t x y with
    | true, true, some b => match go d ts xs ys with
      | some c => some (b && c)
      | none => none
    | _, _, _ => none
  | _, _, _, _ => none

def isAggS : SV → Bool
  | .agg _ => true
  | .ba .. => true
  | _ => false
def isBool : TI → Bool
  | .bool => true
  | _ => false

def execBin (TT : Nat → TI) (op : BinOp) (t : Nat) (x y : SV) (K : SV → Prop) : Prop :=
  match x, y with
  | .v (.int k a), .v (.int k' b) => ibin op k a k' b K
  | .v (.bool a), .v (.bool b) => match op with
    | .eql => okT (isBool (TT t)) (K (.v (.bool (a == b))))
    | .neq => okT (isBool (TT t)) (K (.v (.bool (a != b))))
    | _ => False
  | .v (.string a), .v (.string b) => match op with
    | .eql => K (.v (.bool (a.toList == b.toList)))
    | .neq => K (.v (.bool (!(a.toList == b.toList))))
    | _ => False
  | .v (.slice none _ _), .v (.slice none _ _) => match op with
    | .eql => okT (isSlc (TT t)) (K (.v (.bool true)))
    | .neq => okT (isSlc (TT t)) (K (.v (.bool false)))
    | _ => False
  | .fs g _ rows, .v (.slice none _ _) => match g.nn, op with
    | true, .eql => okT (isSlc (TT t)) (K (.v (.bool false)))
    | true, .neq => okT (isSlc (TT t)) (K (.v (.bool true)))
    | false, .eql => okT (isSlc (TT t)) (Need (rows ≠ []) (K (.v (.bool false))))
    | false, .neq => okT (isSlc (TT t)) (Need (rows ≠ []) (K (.v (.bool true))))
    | _, _ => False
  | .ov _ _ _ n, .v (.slice none _ _) => match op with
    | .eql => okT (isSlc (TT t)) (Need (0 < n) (K (.v (.bool false))))
    | .neq => okT (isSlc (TT t)) (Need (0 < n) (K (.v (.bool true))))
    | _ => False
  | x, y => okT (isAggS x) (match op, eqT TT 40 t x y with
    | .eql, some b => K (.v (.bool b))
    | .neq, some b => K (.v (.bool (!b)))
    | _, _ => False)

def partsK (e : List (Nat × SV)) : List (Nat × Operand) → (List (Nat × SV) → Prop) → Prop
  | [], K => K []
  | (i, x) :: r, K => opd e x fun s => partsK e r fun l => K ((i, s) :: l)

def execLoad (o : Oper) (h : List OB) (ti : TI) (x : SV) (K : Rec → Prop) : Prop :=
  match x with
  | .pb k p => match nthB h k with
    | some (.cells s) => follow p s fun y => okT (ofType ti y) (K (.look o k y))
    | _ => False
  | .pe E k i p => match nthB h k with
    | some (.arr _ E' rows) => okT (Nat.beq E E') (Elem rows i fun s => follow p s fun y => okT (ofType ti y) (K (.look o k y)))
    | _ => False
  | .pf _ rows i p => Elem rows i fun s => follow p s fun y => okT (ofType ti y) (K (.plain o y))
  | _ => False
def execStore (n0 : Nat) (o : Oper) (h : List OB) (ti : TI) (x y : SV) (K : Rec → Prop) : Prop :=
  match ofType ti y with
  | false => False
  | true => match x with
    | .pb k p => match nthB h k with | some (.cells s) => place p s y fun z => K (.put o k (.cells z)) | _ => False
    | .pe E k i p => match nthB h k with
      | some (.arr x E' rows) => frz h n0 y fun y ks => match Nat.beq E E' && !(ks.any (Nat.beq k)), noRef y && ofType ti y with
        | true, true => Elem rows i fun s => place p s y fun z => Nm (rows.set i z) fun rs => K (.putF o k (.arr x E rs) ks)
        | _, _ => False
      | _ => False
    | _ => False

def convN (o : Oper) (ti tj : TI) (a : SV) (K : Rec → Prop) : Prop :=
  match ti with
  | .none => False
  | _ => match a, tj with
    | .v (.int _ n), .int k => Wr k n fun x => K (.plain o (.v (.int k x)))
    | _, _ => False
/-- Bytes become a string. -/
def convS (o : Oper) (h : List OB) (ti : TI) (a : SV) (K : Rec → Prop) : Prop :=
  match ti with
  | .slc E1 _ z => match isU8 z with
    | true => okT (Nat.beq E1 1) (rowsOf 1 h a fun xs ks => Byt xs fun ys => K ⟨slotsOf o.op.operands.toList, ks, dst1 o.dst (.v (.string (strOfNums ys))), [], false⟩)
    | false => False
  | _ => False
/-- A byte of a string. -/
def strAt (d : ByteArray) (i : Nat) : Int := match d[i]? with | some b => b.toNat | none => 0
def xOp (P : Program) (TT : Nat → TI) (n : Sz) (o : Oper) (e : List (Nat × SV)) (h : List OB) (K : Rec → Prop) : Prop :=
  match o.op with
  | .move x => opd e x fun s => K (.plain o s)
  | .assign x => opd e x fun s => K (.plain o s)
  | .pick c a b => opd e c fun sc => match sc with
    | .v (.bool c) => opd e a fun sa => opd e b fun sb => Bif c (K (.plain o sa)) (K (.plain o sb))
    | _ => False
  | .alloc t => match TT t with
    | .none => False
    | ti => K (.new o (len h) (.cells ti.zero) (.pb (len h) []))
  | .box _ x => opd e x fun s => match notTop s with
    | true => K (.new o (len h) (.cells s) (.pb (len h) []))
    | false => False
  | .build t parts => partsK e parts.toList fun ps => match TT t with
    | .str fs _ (.agg z) => fillS fs ps z fun cs => K (.plain o (.agg cs))
    | .arr _ E _ (.agg z) => match z.all fun s => Nat.beq (wd s) E with
      | true => fillA E ps z fun cs => K (.plain o (.agg cs))
      | false => False
    | .arr n E _ (.ba m z) => match Nat.beq E 1, Nat.beq m n with
      | true, true => fillB n ps z fun l => K (.plain o (.ba n l))
      | _, _ => False
    | _ => False
  | .buildSlice t m parts => partsK e parts.toList fun ps => frzPs h n.n0 ps fun ps ks => match TT t with
    | .slc E _ z => okT (Nat.blt 0 E && Nat.ble (m * E) 16777216) (fillA E ps (reps m z) fun rows => okT (noRefs rows) (K (.newF o (len h) (.arr (some m) E rows) (.ov E (len h) 0 m) ks)))
    | _ => False
  | .load t x => opd e x fun s => execLoad o h (TT t) s K
  | .store t x y => opd e x fun s => opd e y fun z => execStore n.n0 o h (TT t) s z K
  | .nilCheck x => opd e x fun s => match s with
    | .pb .. => K (.plain o s)
    | .pe .. => K (.plain o s)
    | .pf .. => K (.plain o s)
    | .clo .. => K (.plain o s)
    | _ => False
  | .binOp op t x y _ => opd e x fun a => opd e y fun b => execBin TT op t a b fun s => K (.plain o s)
  | .unOp op _ x => opd e x fun a => match op, a with
    | .neg, .v (.int k n) => Wr k (0 - n) fun x => K (.plain o (.v (.int k x)))
    | .not, .v (.bool b) => K (.plain o (.v (.bool (!b))))
    | .xor, .v (.int k n) => K (.plain o (.v (.int k (k.wrap (BitVec.ofInt k.bits (if k.signed then -1 else k.max) ^^^ BitVec.ofInt k.bits n).toNat))))
    | _, _ => False
  | .convert c d x => opd e x fun a => match isStrT (TT d) with
    | true => convS o h (TT c) a K
    | false => convN o (TT c) (TT d) a K
  | .makeFunc (.func f) first caps => match first.toList with
    | [] => opds e caps.toList fun l => match l.all scal with | true => K (.plain o (.clo f l)) | false => False
    | _ => False
  | .makeSlice t l c => opd e l fun l => opd e c fun c => intOf? l fun l => intOf? c fun c => match TT t with
    | .slc E bytes z => okT (Nat.blt 0 E) (Need (0 ≤ l ∧ l ≤ c ∧ roomOK c.toNat bytes)
        (Nm c.toNat fun c1 => Nm l.toNat fun l1 => Nm (List.replicate c1 z) fun rs => K (.new o (len h) (.arr (some c1) E rs) (.ov E (len h) 0 l1))))
    | _ => False
  | .slice t x lo hi mx => opd e x fun x => opdo e lo fun lo => opdo e hi fun hi => opdo e mx fun mx => execSlice o h n.n0 (TT t) x lo hi mx K
  | .fieldAddr t x f => opd e x fun s => match TT t with
    | .str fs _ _ => match fs[f]? with
      | some (off, n) => match Nat.blt 0 n with
        | true => match s with
          | .pb k p => K (.plain o (.pb k (snoc p (.fld f off))))
          | .pe E k i p => K (.plain o (.pe E k i (snoc p (.fld f off))))
          | .pf E rows i p => K (.plain o (.pf E rows i (snoc p (.fld f off))))
          | _ => False
        | false => False
      | none => False
    | _ => False
  | .field t x f => opd e x fun s => match TT t, s with
    | .str fs ft _, .agg cs => match fs[f]?, ft[f]?, nth cs f with
      | some (off, _), some u, some y => okT (Nat.beq (wds (cs.take f)) off) (okT (ofType (TT u) y) (K (.plain o y)))
      | _, _, _ => False
    | _, _ => False
  | .indexAddr t x i => opd e x fun s => opd e i fun i => intOf? i fun i => match TT t, s with
    | .slc E0 _ _, .fs _ E rows => okT (Nat.beq E0 E) (Need (0 ≤ i ∧ i < rows.length) (Nm i.toNat fun j => K (.plain o (.pf E rows j []))))
    | .slc E0 _ _, .ov E k off n => okT (Nat.beq E0 E) (Need (0 ≤ i ∧ i < n) (Nm (off + i.toNat) fun j => K (.plain o (.pe E k j []))))
    | .slc E0 _ _, .sb k p off n => match nthB h k with
      | some (.cells s) => okT (Nat.beq E0 1) (Need (0 ≤ i ∧ i < n) (follow p s fun y => match y with
        | .ba N _ => Nm (off + i.toNat) fun j => K (.plain o (.pb k (snoc p (.ix 1 N j))))
        | _ => False))
      | _ => False
    | .arr n E _ _, .pb k p => Need (0 ≤ i ∧ i < n) (Nm i.toNat fun j => K (.plain o (.pb k (snoc p (.ix E n j)))))
    | .arr n E _ _, .pe E' k j p => Need (0 ≤ i ∧ i < n) (Nm i.toNat fun j1 => K (.plain o (.pe E' k j (snoc p (.ix E n j1)))))
    | .arr n E _ _, .pf E' rows j p => Need (0 ≤ i ∧ i < n) (Nm i.toNat fun j1 => K (.plain o (.pf E' rows j (snoc p (.ix E n j1)))))
    | _, _ => False
  | .index t x i => opd e x fun s => opd e i fun i => intOf? i fun i => match TT t with
    | .arr n E el _ => Need (0 ≤ i ∧ i < n) (Nm i.toNat fun j => follow [.ix E n j] s fun y => okT (ofType (TT el) y) (okT (isAggS s) (K (.plain o y))))
    | .sc (.v (.string _)) => match s with
      | .v (.string d) => Need (0 ≤ i ∧ i < d.size) (K (.plain o (.v (.int .u8 (strAt d i.toNat)))))
      | _ => False
    | _ => False
  | .extract x i => opd e x fun s => match s with
    | .tup l => match nth l i with | some y => K (.plain o y) | none => False
    | _ => False
  | .call c => opds e c.args.toList fun args => match c.callee with
    | .builtin b => execBuiltin TT n o e h b c.argTypes.toList args K
    | .value f => opd e f fun s => match s with
      | .clo f caps => okT (caps.all scal) (execCall P n o h f (app args caps) K)
      | _ => False
    | _ => False
  | _ => False

/-! ### Regions, code -/
def dstOf : List Oper → Nat → Option Nat
  | [], _ => none
  | o :: _, 0 => o.dst
  | _ :: r, i + 1 => dstOf r i

def Rec.skip (o : Oper) (t : Nat) : Rec := ⟨[t], [], dst1 o.dst (.tup []), [], false⟩
def Rec.seen (rc : Rec) (t : Nat) : Rec := { rc with rd := t :: rc.rd }
abbrev KT := List (Nat × SV) → List OB → List Rec → Prop
/-- One operation of a region; R is what stands behind it. -/
def stepOp (P : Program) (TT : Nat → TI) (n : Sz) (all : List Oper) (o : Oper) (R : List (Nat × SV) → List OB → List Rec → KT → Prop) (e : List (Nat × SV)) (h : List OB) (rs : List Rec) (K : KT) : Prop :=
  match inFrame n o.dst with
   | false => False
   | true => match o.guard with
    | none => xOp P TT n o e h (frc fun rc => updK e h rc fun e h => R e h (rc :: rs) K)
    | some (j, want) => match dstOf all j with
      | none => False
      | some t =>
        match lk e t with
        | some (.v (.bool b)) => Bif b
            (match want with
              | true => xOp P TT n o ((t, .v (.bool true)) :: e) h (frc fun rc => updK ((t, .v (.bool true)) :: e) h rc fun e h => R e h (rc.seen t :: rs) K)
              | false => updK ((t, .v (.bool true)) :: e) h (Rec.skip o t) fun e h => R e h (Rec.skip o t :: rs) K)
            (match want with
              | true => updK ((t, .v (.bool false)) :: e) h (Rec.skip o t) fun e h => R e h (Rec.skip o t :: rs) K
              | false => xOp P TT n o ((t, .v (.bool false)) :: e) h (frc fun rc => updK ((t, .v (.bool false)) :: e) h rc fun e h => R e h (rc.seen t :: rs) K))
        | some (.tup []) => updK e h (Rec.skip o t) fun e h => R e h (Rec.skip o t :: rs) K
        | _ => False
/-- By the recursor itself, so that the kernel and the elaborator go one way. -/
def execOps (P : Program) (TT : Nat → TI) (n : Sz) (all l : List Oper) : List (Nat × SV) → List OB → List Rec → KT → Prop :=
  @List.rec Oper (fun _ => List (Nat × SV) → List OB → List Rec → KT → Prop) (fun e h rs K => K e h rs) (fun o _ R e h rs K => stepOp P TT n all o R e h rs K) l
theorem execOps_cons {P : Program} {TT : Nat → TI} {n : Sz} {all : List Oper} {o : Oper} {r : List Oper} {e : List (Nat × SV)} {h : List OB} {rs : List Rec} {K : KT} :
    execOps P TT n all (o :: r) e h rs K = stepOp P TT n all o (execOps P TT n all r) e h rs K := rfl

/-- The slots whose bits stand in T0, each once. -/
def prune (T0 : Nat) : List (Nat × SV) → List (Nat × SV) → (List (Nat × SV) → Prop) → Prop
  | [], _, K => K []
  | (t, s) :: r, seen, K => match Nat.beq (Nat.land 1 (Nat.shiftRight T0 t)) 1 with
    | true => match lk seen t with
      | some _ => prune T0 r seen K
      | none => prune T0 r ((t, s) :: seen) fun e => K ((t, s) :: e)
    | false => prune T0 r seen K

def ancs : List Oper → List Nat → List Nat      -- for each operation the bits of those that come before it
  | [], acc => acc
  | o :: r, acc => ancs r (snoc acc (o.after.toList.foldl (fun s e => if Region.binds .any e then s ||| (1 <<< e.on) ||| nthN acc e.on else s) 0))
/-- It turns boxes at most. -/
def boxOB : OB → Bool
  | .cells _ => true
  | _ => false
def shapeOK (b : Rec) : Bool := match b.bar with
  | false => b.wh.all fun p => boxOB p.2
  | true => false
mutual
/-- The blocks that a value names, by bits. -/
def nmS : SV → Nat
  | .pb k _ => Nat.shiftLeft 1 k
  | .pe _ k _ _ => Nat.shiftLeft 1 k
  | .ov _ k _ _ => Nat.shiftLeft 1 k
  | .sb k _ _ _ => Nat.shiftLeft 1 k
  | .agg cs => nmSs cs
  | .clo _ cs => nmSs cs
  | .tup cs => nmSs cs
  | _ => 0
def nmSs : List SV → Nat
  | [] => 0
  | s :: r => Nat.lor (nmS s) (nmSs r)
end
def nmOB : OB → Nat
  | .cells s => nmS s
  | _ => 0
def nmW : List (Nat × SV) → Nat
  | [] => 0
  | (_, s) :: r => Nat.lor (nmS s) (nmW r)
def nmH : List (Nat × OB) → Nat
  | [] => 0
  | (_, ob) :: r => Nat.lor (nmOB ob) (nmH r)
def nmR (b : Rec) : Nat := Nat.lor (nmW b.wr) (nmH b.wh)
/-- By bits. -/
def mskN : List Nat → Nat
  | [] => 0
  | t :: r => Nat.lor (Nat.shiftLeft 1 t) (mskN r)
def mskF {α : Type} : List (Nat × α) → Nat
  | [] => 0
  | (t, _) :: r => Nat.lor (Nat.shiftLeft 1 t) (mskF r)
def nil0 (a b : Nat) : Bool := Nat.beq (Nat.land a b) 0
/-- The arrays that are turned. -/
def arrW : List (Nat × OB) → List Nat
  | [] => []
  | (k, ob) :: r => match ob with | .arr .. => k :: arrW r | _ => arrW r
/-- The second turns no array, and names no array that the first turns. -/
def inertA (a b : Rec) : Bool := match shapeOK b with
  | true => nil0 (mskN (arrW a.wh)) (nmR b)
  | false => false
/-- And it turns no block. -/
def inert0 (a b : Rec) : Bool := match inertA a b, b.wh with
  | true, [] => true
  | _, _ => false
def clash (m0 : Nat) (a b : Rec) : Bool :=
  a.bar && !inertA a b || b.bar && !(inert0 b a && nil0 (mskF a.wr) m0) || meets (a.wr.map Prod.fst) (app b.rd (b.wr.map Prod.fst)) || meets a.rd (b.wr.map Prod.fst) ||
  meets (a.wh.map Prod.fst) (app b.rh (b.wh.map Prod.fst)) || meets a.rh (b.wh.map Prod.fst)
def fits (m0 : Nat) : List Rec → List Rec → List Nat → Nat → Bool      -- those ahead; this one and those behind
  | _, [], _, _ => true
  | ahead, b :: r, an, j => (ahead.zipIdx.all fun (a, i) => !clash m0 a b || (nthN an j).testBit i) && fits m0 (snoc ahead b) r an (j + 1)
structure RM where
  bar : Bool
  sh : Bool
  e0 : Bool
  ar : Nat
  nm : Nat
  rd : Nat
  wr : Nat
  rh : Nat
  wh : Nat
def emptyB : List (Nat × OB) → Bool
  | [] => true
  | _ => false
def rmOf (b : Rec) : RM := ⟨b.bar, shapeOK b, emptyB b.wh, mskN (arrW b.wh), nmR b, mskN b.rd, mskF b.wr, mskN b.rh, mskF b.wh⟩
def rms : List Rec → List RM
  | [] => []
  | b :: r => rmOf b :: rms r
def barA (a b : RM) : Bool := match a.bar with
  | true => match b.sh with | true => nil0 a.ar b.nm | false => false
  | false => true
def barB (m0 : Nat) (a b : RM) : Bool := match b.bar with
  | true => match a.sh with
    | true => match a.e0 with
      | true => match nil0 b.ar a.nm with | true => nil0 a.wr m0 | false => false
      | false => false
    | false => false
  | false => true
def apartM (m0 : Nat) (a b : RM) : Bool :=
  match barA a b, barB m0 a b with
  | true, true => match nil0 a.wr (Nat.lor b.rd b.wr) with
    | true => match nil0 a.rd b.wr with
      | true => match nil0 a.wh (Nat.lor b.rh b.wh) with
        | true => nil0 a.rh b.wh
        | false => false
      | false => false
    | false => false
  | _, _ => false
def okOne (m0 an : Nat) (b : RM) : Nat → List RM → Bool
  | _, [] => true
  | i, a :: r => match Nat.beq (Nat.land 1 (Nat.shiftRight an i)) 1 with
    | true => okOne m0 an b (i + 1) r
    | false => match apartM m0 a b with | true => okOne m0 an b (i + 1) r | false => false
def fitsM (m0 : Nat) : List RM → List RM → List Nat → Nat → Bool
  | _, [], _, _ => true
  | ahead, b :: r, an, j => match okOne m0 (nthN an j) b 0 ahead with | true => fitsM m0 (snoc ahead b) r an (j + 1) | false => false
/-- The slots that stand at the beginning and are written, or are written twice. -/
def twiceM : List Rec → Nat → Nat → Nat
  | [], _, tw => tw
  | b :: r, seen, tw => twiceM r (Nat.lor seen (mskF b.wr)) (Nat.lor tw (Nat.land seen (mskF b.wr)))
def backB : List Oper → Nat → Bool
  | [], _ => true
  | o :: r, i => match o.after.toList.all (fun e => match Region.binds .any e with | true => Nat.blt e.on i | false => true) with | true => backB r (i + 1) | false => false
/-- Every two operations that touch one thing stand in order; and edges point backward. -/
def drawOK (m : Nat) (ops : List Oper) (recs : List Rec) : Bool :=
  match fitsM (twiceM recs m 0) [] (rms recs) (ancs ops []) 0 with | true => backB ops 0 | false => false

structure Base where
  n : Sz
  cx : Cx
  w : World
  keep : Nat → Prop
  kp : ∀ k, keep k → cx.bl k ≠ none
  kn : ∀ k, keep k → k < n.n0
  dm : ∀ k, n.n0 ≤ k → cx.bl k = none
  gl : Glob cx w
  kf : ∀ k, keep k → isArrO (nthB n.fr k) = false

structure SatF (B : Base) (cx : Cx) (sl : Nat → Option SV) (hp : Nat → Option OB) (a : Act) (w : World) : Prop where
  df : a.defers = []
  sz : a.tmps.size = B.n.n
  sl : ∀ t s, sl t = some s → ∃ v, a.tmps[t]? = some v ∧ RelV cx w s v
  mem : Mem cx w hp
  fr : Fr B.keep B.cx B.w cx w
theorem SatF.glob {B : Base} {cx : Cx} {sl : Nat → Option SV} {hp : Nat → Option OB} {a : Act} {w : World} (h : SatF B cx sl hp a w) : Glob cx w := B.gl.fr h.fr
def Sat (B : Base) (cx : Cx) (e : List (Nat × SV)) (h : List OB) (a : Act) (w : World) : Prop := SatF B cx (lk e) (nthB h) a w

/-- From the first state on the code runs, and it ends in this one way, in the second state. -/
def Ends (P : Program) (n : Sz) (c : Code) (e : List (Nat × SV)) (h : List OB) (x : Exit) (e' : List (Nat × SV)) (h' : List OB) : Prop :=
  ∀ (B : Base) (cx : Cx) (a : Act) (w : World) (Q : Exit → Act → World → Prop), B.n = n → Sat B cx e h a w →
    (∀ cx' a' w', Sat B cx' e' h' a' w' → Q x a' w') → c.wp P Q a w
/-- It ends in some one way that meets K. -/
def WPd (P : Program) (n : Sz) (c : Code) (e : List (Nat × SV)) (h : List OB) (K : Exit → List (Nat × SV) → List OB → Prop) : Prop :=
  ∃ x e' h', K x e' h' ∧ Ends P n c e h x e' h'
/-- A loop, left to the prover. -/
inductive LoopN (P : Program) (n : Sz) (c : Code) (e : List (Nat × SV)) (h : List OB) (K : Exit → List (Nat × SV) → List OB → Prop) : Prop where
  | up (h : WPd P n (.loop c) e h K)

abbrev KX := Exit → List (Nat × SV) → List OB → Prop
/-- Ahead of a region that draws: an owned array may go among the shared ones. -/
inductive Frz (K : Option Nat → Prop) : Prop where
  | up (h : ∃ o, K o)
theorem Frz.l {K : Option Nat → Prop} (k : K none) : Frz K := ⟨_, k⟩
theorem Frz.mk {K : Option Nat → Prop} (j : Nat) (k : K (some j)) : Frz K := ⟨_, k⟩
theorem frz_iff {K : Option Nat → Prop} : Frz K ↔ ∃ o, K o := ⟨fun ⟨h⟩ => h, fun h => ⟨h⟩⟩
def frzE (h : List OB) (n0 k : Nat) : List (Nat × SV) → (List (Nat × SV) → Prop) → Prop
  | [], K => K []
  | (t, s) :: r, K => match s with
    | .ov E j off m => match Nat.beq j k with
      | true => frzOne h n0 (.ov E j off m) fun s' _ => frzE h n0 k r fun l => K ((t, s') :: l)
      | false => frzE h n0 k r fun l => K ((t, .ov E j off m) :: l)
    | s => frzE h n0 k r fun l => K ((t, s) :: l)
/-- The boxes that name it. -/
def frzH (h : List OB) (n0 k : Nat) : List OB → (List OB → Prop) → Prop
  | [], K => K []
  | ob :: r, K => match ob with
    | .cells (.agg cs) => match ments k cs with
      | true => frzL h n0 cs fun cs' ks => okT (ks.all (Nat.beq k)) (frzH h n0 k r fun l => K (.cells (.agg cs') :: l))
      | false => frzH h n0 k r fun l => K (.cells (.agg cs) :: l)
    | ob => frzH h n0 k r fun l => K (ob :: l)
def frzK (n0 : Nat) (h : List OB) (k : Nat) (e : List (Nat × SV)) (K : List (Nat × SV) → List OB → Prop) : Prop :=
  match Nat.ble n0 k, nthB h k with
  | true, some (.arr ..) => frzE h n0 k e fun e => frzH h n0 k h fun h => setH h k .gone fun h => K e h
  | _, _ => False
def xDraw (P : Program) (TT : Nat → TI) (n : Sz) (ops : Array Oper) (e : List (Nat × SV)) (h : List OB) (K : KX) : Prop :=
  execOps P TT n ops.toList ops.toList e h [] fun e' h' rs => Need (drawOK (mskF e) ops.toList rs.reverse = true) (K .normal e' h')
def xRegion (P : Program) (TT : Nat → TI) (T0 : Nat) (n : Sz) (ops : Array Oper) (draw : Bool) (e : List (Nat × SV)) (h : List OB) (K : KX) : Prop :=
  prune T0 e [] fun e => match draw with
    | false => execOps P TT n ops.toList ops.toList e h [] fun e' h' _ => K .normal e' h'
    | true => Frz fun o => match o with
      | none => xDraw P TT n ops e h K
      | some k => frzK n.n0 h k e fun e h => xDraw P TT n ops e h K
def xSeq (A B : List (Nat × SV) → List OB → KX → Prop) (e : List (Nat × SV)) (h : List OB) (K : KX) : Prop :=
  A e h fun x e' h' => match x with | .normal => (match trueN with | true => B e' h' K | false => False) | x => K x e' h'
def xCond (c : Operand) (A B : List (Nat × SV) → List OB → KX → Prop) (e : List (Nat × SV)) (h : List OB) (K : KX) : Prop :=
  opd e c fun s => match s with
    | .v (.bool t) => Bif t (A e h K) (B e h K)
    | _ => False
def xBlock (id : Nat) (A : List (Nat × SV) → List OB → KX → Prop) (e : List (Nat × SV)) (h : List OB) (K : KX) : Prop :=
  A e h fun x e' h' => match x with
    | .exit i => match Nat.beq i id with | true => K .normal e' h' | false => K (.exit i) e' h'
    | x => K x e' h'
def xScope (A : List (Nat × SV) → List OB → KX → Prop) (e : List (Nat × SV)) (h : List OB) (K : KX) : Prop :=
  A e h fun x e' h' => match x with
    | .goto _ => botN
    | x => K x e' h'
def exec (P : Program) (TT : Nat → TI) (T0 : Nat) (n : Sz) (c : Code) : List (Nat × SV) → List OB → KX → Prop :=
  @Code.rec (fun _ => List (Nat × SV) → List OB → KX → Prop)
    (fun e h K => K .normal e h)
    (fun _ ops draw e h K => xRegion P TT T0 n ops draw e h K)
    (fun _ _ A B e h K => xSeq A B e h K)
    (fun c _ _ A B e h K => xCond c A B e h K)
    (fun id _ A e h K => xBlock id A e h K)
    (fun c _ e h K => LoopN P n c e h K)
    (fun _ _ _ _ _ _ _ _ _ => False)
    (fun id e h K => K (.exit id) e h)
    (fun _ A e h K => xScope A e h K)
    (fun _ e h K => K .normal e h)
    (fun _ _ _ _ => False)
    (fun e h K => K .ret e h)
    (fun _ _ _ _ => False) c
end Go.Fw

/- The executor is sound: first, what a step does to a state. -/
namespace Go.Fw

def updSl (sl : Nat → Option SV) : List (Nat × SV) → Nat → Option SV
  | [] => sl
  | (t, s) :: r => updSl (fun i => if i = t then some s else sl i) r
def updHp (hp : Nat → Option OB) : List (Nat × OB) → Nat → Option OB
  | [] => hp
  | (k, ob) :: r => updHp (fun i => if i = k then some ob else hp i) r

theorem lk_cons (t : Nat) (s : SV) (e : List (Nat × SV)) : lk ((t, s) :: e) = fun i => if i = t then some s else lk e i := by
  funext i
  simp only [lk]
  by_cases h : t = i
  · subst h; simp
  · have h' : Nat.beq t i = false := by
      cases hb : Nat.beq t i with
      | false => rfl
      | true => exact absurd (Nat.eq_of_beq_eq_true hb) h
    rw [h']; simp [Ne.symm h]
theorem putW_sound : ∀ (wr e : List (Nat × SV)) (K : List (Nat × SV) → Prop), putW wr e K → ∃ e', lk e' = updSl (lk e) wr ∧ K e'
  | [], e, _, h => ⟨e, rfl, h⟩
  | (t, s) :: r, e, K, h => by
    obtain ⟨e', h1, h2⟩ := putW_sound r ((t, s) :: e) K h
    exact ⟨e', by rw [h1, lk_cons]; rfl, h2⟩
theorem setH_sound : ∀ (h : List OB) (k : Nat) (ob : OB) (K : List OB → Prop), setH h k ob K → ∃ h', (nthB h' = fun i => if i = k then some ob else nthB h i) ∧ K h'
  | [], 0, ob, K, h => ⟨[ob], by funext i; cases i <;> simp [nthB], h⟩
  | [], _ + 1, _, _, h => h.elim
  | x :: r, 0, ob, K, h => ⟨ob :: r, by funext i; cases i <;> simp [nthB], h⟩
  | x :: r, k + 1, ob, K, h => by
    obtain ⟨h', h1, h2⟩ := setH_sound r k ob _ h
    refine ⟨x :: h', ?_, h2⟩
    funext i
    cases i with
    | zero => simp [nthB]
    | succ i => simp [nthB, h1]
theorem putH_sound : ∀ (wh : List (Nat × OB)) (h : List OB) (K : List OB → Prop), putH wh h K → ∃ h', nthB h' = updHp (nthB h) wh ∧ K h'
  | [], h, _, hK => ⟨h, rfl, hK⟩
  | (k, ob) :: r, h, K, hK => by
    obtain ⟨h1, e1, hK1⟩ := setH_sound h k ob _ hK
    obtain ⟨h2, e2, hK2⟩ := putH_sound r h1 K hK1
    exact ⟨h2, by rw [e2, e1]; rfl, hK2⟩
theorem updK_sound {e h rc K} (hK : updK e h rc K) : ∃ e' h', lk e' = updSl (lk e) rc.wr ∧ nthB h' = updHp (nthB h) rc.wh ∧ K e' h' := by
  obtain ⟨e', h1, h2⟩ := putW_sound _ _ _ hK
  obtain ⟨h', h3, h4⟩ := putH_sound _ _ _ h2
  exact ⟨e', h', h1, h3, h4⟩

theorem Fr.refl (keep : Nat → Prop) (cx : Cx) (w : World) : Fr keep cx w cx w :=
  ⟨Nat.le_refl _, fun _ _ _ => rfl, fun _ h => .inl h, fun _ _ h => .inl h, fun k _ _ h => .inl ⟨k, .inl rfl, h⟩, fun _ _ => rfl, .refl w⟩
theorem Fr.trans {keep keep' cx0 w0 cx w cx' w'} (h : Fr keep cx0 w0 cx w) (h' : Fr keep' cx w cx' w') (hk : ∀ k, keep k → keep' k) : Fr keep cx0 w0 cx' w' where
  le := Nat.le_trans h.le h'.le
  same b hb hn := by
    rw [h'.same b (Nat.lt_of_lt_of_le hb h.le) (fun k C hc => ?_), h.same b hb hn]
    rcases h.blk k b C hc with ⟨k', _, hc⟩ | hc
    · exact hn k' C hc
    · omega
  own b hb := by
    rcases h'.own b hb with hb | hb
    · exact h.own b hb
    · exact .inr (Nat.le_trans h.le hb)
  old b hb hO := by
    rcases h.old b hb hO with h1 | h1
    · rcases h'.old b (Nat.lt_of_lt_of_le hb h.le) h1 with h2 | ⟨k, C, h2, h3⟩
      · exact .inl h2
      · rcases h.blk k b C h3 with ⟨k', h4, h5⟩ | h4
        · refine .inr ⟨k', C, ?_, h5⟩
          rcases h4 with rfl | h4
          · exact fun hc => h2 (hk _ hc)
          · exact h4
        · omega
    · exact .inr h1
  blk k b C hc := by
    rcases h'.blk k b C hc with ⟨k', h1, hc⟩ | hc
    · rcases h.blk k' b C hc with ⟨k2, h2, h3⟩ | h2
      · refine .inl ⟨k2, ?_, h3⟩
        rcases h2 with rfl | h2
        · rcases h1 with rfl | h1
          · exact .inl rfl
          · exact .inr fun hc => h1 (hk _ hc)
        · exact .inr h2
      · exact .inr h2
    · exact .inr (Nat.le_trans h.le hc)
  keep k hk1 := by rw [h'.keep k (hk k hk1), h.keep k hk1]
  wk := h.wk.trans h'.wk

theorem SatF.put {B cx sl hp a w s v} (h : SatF B cx sl hp a w) {dst : Option Nat} (hr : RelV cx w s v) (hd : inFrame B.n dst = true) :
    SatF B cx (updSl sl (dst1 dst s)) hp (a.put dst v) w := by
  cases dst with
  | none => exact h
  | some d =>
    have hd' : d < B.n.n := by simpa [inFrame] using hd
    refine ⟨h.df, by simpa [Act.put] using h.sz, fun t s' ht => ?_, h.mem, h.fr⟩
    simp only [updSl, dst1] at ht
    by_cases htd : t = d
    · subst htd
      simp at ht
      subst ht
      exact ⟨v, by simp [Act.put, h.sz, hd'], hr⟩
    · simp [htd] at ht
      obtain ⟨v', h1, h2⟩ := h.sl t s' ht
      exact ⟨v', by simpa [Act.put, Array.getElem?_setIfInBounds_ne (Ne.symm htd)] using h1, h2⟩

/-- A state carried to a later world. -/
theorem SatF.later {B cx sl hp a w} (h : SatF B cx sl hp a w) {cx' w' hp'} (e : Ext cx w cx' w') (hm : Mem cx' w' hp') (hf : Fr B.keep cx w cx' w') : SatF B cx' sl hp' a w' :=
  ⟨h.df, h.sz, fun t s ht => let ⟨v, h1, h2⟩ := h.sl t s ht; ⟨v, h1, h2.mono e⟩, hm, h.fr.trans hf (fun _ h => h)⟩

/-! ### The world goes on: a new block -/
def Cx.with (cx : Cx) (k : Nat) (x : BL) (O : Nat → Prop) : Cx := ⟨fun i => if i = k then some x else cx.bl i, O⟩

theorem heap_alloc_old (w : World) (o : Obj) (b : Nat) (h : b < w.heap.size) : (w.alloc o).heap[b]? = w.heap[b]? := by
  show (w.heap.push o)[b]? = _
  rw [Array.getElem?_push, if_neg (Nat.ne_of_lt h)]
theorem heap_alloc_new (w : World) (o : Obj) : (w.alloc o).heap[w.heap.size]? = some o := by
  show (w.heap.push o)[w.heap.size]? = _
  rw [Array.getElem?_push, if_pos rfl]
theorem heap_alloc_size (w : World) (o : Obj) : (w.alloc o).heap.size = w.heap.size + 1 := Array.size_push o

theorem ext_alloc (cx : Cx) (w : World) (o : Obj) (k C : Nat) (hk : cx.bl k = none) :
    Ext cx w (cx.with k (.at w.heap.size C) (fun b => cx.O b ∨ b = w.heap.size)) (w.alloc o) where
  bl j x hj := by
    have : j ≠ k := fun e => by subst e; rw [hk] at hj; cases hj
    simp [Cx.with, this, hj]
  same b hb _ := heap_alloc_old w o b hb
  own b hb := by
    rcases hb with hb | hb
    · exact .inl hb
    · exact .inr (by omega)
theorem fr_alloc (keep : Nat → Prop) (cx : Cx) (w : World) (o : Obj) (k C : Nat) (hk : ¬ keep k) (hz : ∃ c t, o = .cells c t (0, 0)) :
    Fr keep cx w (cx.with k (.at w.heap.size C) (fun b => cx.O b ∨ b = w.heap.size)) (w.alloc o) where
  le := by rw [heap_alloc_size]; omega
  same b hb _ := heap_alloc_old w o b hb
  own b hb := by
    rcases hb with hb | hb
    · exact .inl hb
    · exact .inr (by omega)
  old b _ hO := .inl (.inl hO)
  blk j b C' hj := by
    by_cases e : j = k
    · subst e
      simp [Cx.with] at hj
      exact .inr (by omega)
    · simp [Cx.with, e] at hj
      exact .inl ⟨j, .inl rfl, hj⟩
  keep j hj := by
    have : j ≠ k := fun e => hk (e ▸ hj)
    simp [Cx.with, this]
  wk := by
    obtain ⟨c, t, rfl⟩ := hz
    exact ⟨rfl, rfl, fun a => RowKit.frozen?_alloc_cells w c t a⟩
theorem mem_alloc {cx : Cx} {w : World} {hp : Nat → Option OB} (hm : Mem cx w hp) (o : Obj) (k C : Nat) (hk : hp k = none) (ob : OB)
    (hob : ∀ cx', Ext cx w cx' (w.alloc o) → Holds cx' (w.alloc o) w.heap.size C ob) :
    Mem (cx.with k (.at w.heap.size C) (fun b => cx.O b ∨ b = w.heap.size)) (w.alloc o) (fun i => if i = k then some ob else hp i) where
  live j ob' hj := by
    have e := ext_alloc cx w o k C (hm.dom k hk)
    by_cases h : j = k
    · subst h
      simp at hj
      subst hj
      cases ob with
      | gone => trivial
      | cells s => exact .inl ⟨w.heap.size, C, by simp [Cx.with], .inr rfl, hob _ e⟩
      | arr x E rows => exact .inl ⟨w.heap.size, C, by simp [Cx.with], .inr rfl, hob _ e⟩
    · simp [h] at hj
      have hl := hm.live j ob' hj
      cases ob' with
      | gone => trivial
      | cells s =>
        rcases hl with ⟨b, C', h1, h2, h3⟩ | ⟨h1, E, h2⟩
        · exact .inl ⟨b, C', e.bl _ _ h1, .inl h2, h3.mono e (heap_alloc_old w o b (hm.lt b h2))⟩
        · cases h2
      | arr x E rows =>
        rcases hl with ⟨b, C', h1, h2, h3⟩ | ⟨h1, E', h2⟩
        · exact .inl ⟨b, C', e.bl _ _ h1, .inl h2, h3.mono e (heap_alloc_old w o b (hm.lt b h2))⟩
        · exact .inr ⟨e.bl _ _ h1, E', h2⟩
  inj j j' ob1 ob2 b C1 C2 h1 h2 g1 g2 b1 b2 := by
    have old : ∀ i ob C', i ≠ k → hp i = some ob → ob ≠ .gone → cx.bl i = some (.at b C') → b < w.heap.size := by
      intro i ob C' _ hi hg hb
      have hl := hm.live i ob hi
      cases ob with
      | gone => exact absurd rfl hg
      | cells s =>
        rcases hl with ⟨b', C'', h1, h2, _⟩ | ⟨_, E, h2⟩
        · rw [h1] at hb; cases hb; exact hm.lt _ h2
        · cases h2
      | arr x E rows =>
        rcases hl with ⟨b', C'', h1, h2, _⟩ | ⟨h1, _⟩
        · rw [h1] at hb; cases hb; exact hm.lt _ h2
        · rw [h1] at hb; cases hb
    by_cases e1 : j = k <;> by_cases e2 : j' = k
    · rw [e1, e2]
    · simp [e1, e2, Cx.with] at h2 b1 b2
      have := old j' ob2 C2 e2 h2 g2 b2
      omega
    · simp [e1, e2, Cx.with] at h1 b1 b2
      have := old j ob1 C1 e1 h1 g1 b1
      omega
    · simp [e1, e2, Cx.with] at h1 h2 b1 b2
      exact hm.inj j j' ob1 ob2 b C1 C2 h1 h2 g1 g2 b1 b2
  dom j hj := by
    by_cases h : j = k
    · simp [h] at hj
    · simp [h] at hj
      simp [Cx.with, h, hm.dom j hj]
  lt b hb := by
    rw [heap_alloc_size]
    rcases hb with hb | hb
    · have := hm.lt b hb; omega
    · omega

/-! ### A block of one's own is written -/
theorem wk_setRow (w : World) (b : Nat) (cs : Array Value) : WK w (w.setRow b cs) := by
  refine ⟨rfl, rfl, fun a => ?_⟩
  by_cases h : a.block = b
  · subst h
    cases hb : w.heap[a.block]? with
    | none => simp [World.frozen?, World.setRow, Array.getElem?_modify, hb]
    | some o => cases o <;> simp [World.frozen?, World.setRow, Array.getElem?_modify, hb]
  · simp only [World.frozen?, setRow_other w b a.block cs h]
theorem fr_set (keep : Nat → Prop) (cx : Cx) (w : World) (k b C : Nat) (cs : Array Value) (hk : cx.bl k = some (.at b C)) : Fr keep cx w cx (w.setRow b cs) where
  le := by simp
  same b' hb hn := setRow_other w b b' cs fun e => hn k C (e ▸ hk)
  own b h := .inl h
  old _ _ h := .inl h
  blk k _ _ h := .inl ⟨k, .inl rfl, h⟩
  keep _ _ := rfl
  wk := wk_setRow w b cs
theorem ext_set (cx : Cx) (w : World) (b : Nat) (cs : Array Value) (hO : cx.O b) : Ext cx w cx (w.setRow b cs) where
  bl _ _ h := h
  same b' _ hn := setRow_other w b b' cs fun e => hn (e ▸ hO)
  own _ h := .inl h
theorem live_at {cx w hp k ob} (hm : Mem cx w hp) (hk : hp k = some ob) {b C : Nat} (hb : cx.bl k = some (.at b C)) (hg : ob ≠ .gone) : cx.O b ∧ Holds cx w b C ob := by
  have hl := hm.live k ob hk
  cases ob with
  | gone => exact absurd rfl hg
  | cells s =>
    rcases hl with ⟨b', C', h1, h2, h3⟩ | ⟨h1, E, h2⟩
    · rw [h1] at hb; cases hb; exact ⟨h2, h3⟩
    · cases h2
  | arr x E rows =>
    rcases hl with ⟨b', C', h1, h2, h3⟩ | ⟨h1, E', h2⟩
    · rw [h1] at hb; cases hb; exact ⟨h2, h3⟩
    · rw [h1] at hb; cases hb
theorem mem_set {cx : Cx} {w : World} {hp : Nat → Option OB} (hm : Mem cx w hp) {k b C : Nat} {ob ob' : OB} (cs : Array Value) (hk : hp k = some ob) (hg : ob ≠ .gone) (hg' : ob' ≠ .gone)
    (hb : cx.bl k = some (.at b C)) (hob : Ext cx w cx (w.setRow b cs) → Holds cx (w.setRow b cs) b C ob') :
    Mem cx (w.setRow b cs) (fun i => if i = k then some ob' else hp i) where
  live j x hj := by
    have hO := (live_at hm hk hb hg).1
    have e := ext_set cx w b cs hO
    by_cases h : j = k
    · subst h
      simp at hj
      subst hj
      cases ob' with
      | gone => trivial
      | cells s => exact .inl ⟨b, C, hb, hO, hob e⟩
      | arr x E rows => exact .inl ⟨b, C, hb, hO, hob e⟩
    · simp [h] at hj
      have hl := hm.live j x hj
      cases x with
      | gone => trivial
      | cells s =>
        rcases hl with ⟨b', C', h1, h2, h3⟩ | ⟨h1, E, h2⟩
        · have hne : b' ≠ b := fun e1 => h (hm.inj j k _ _ b C' C hj hk (by simp) hg (e1 ▸ h1) hb)
          exact .inl ⟨b', C', h1, h2, h3.mono e (setRow_other w b b' cs hne)⟩
        · cases h2
      | arr x E rows =>
        rcases hl with ⟨b', C', h1, h2, h3⟩ | ⟨h1, E', h2⟩
        · have hne : b' ≠ b := fun e1 => h (hm.inj j k _ _ b C' C hj hk (by simp) hg (e1 ▸ h1) hb)
          exact .inl ⟨b', C', h1, h2, h3.mono e (setRow_other w b b' cs hne)⟩
        · exact .inr ⟨h1, E', h2⟩
  inj j j' ob1 ob2 b1 C1 C2 h1 h2 g1 g2 e1 e2 := by
    have hh : ∀ i x, (if i = k then some ob' else hp i) = some x → ∃ y, hp i = some y ∧ (x ≠ .gone → y ≠ .gone) := by
      intro i x hx
      by_cases e : i = k
      · subst e; exact ⟨ob, hk, fun _ => hg⟩
      · simp [e] at hx; exact ⟨x, hx, id⟩
    obtain ⟨y1, a1, c1⟩ := hh j ob1 h1
    obtain ⟨y2, a2, c2⟩ := hh j' ob2 h2
    exact hm.inj j j' y1 y2 b1 C1 C2 a1 a2 (c1 g1) (c2 g2) e1 e2
  dom j hj := by
    by_cases h : j = k
    · simp [h] at hj
    · simp [h] at hj; exact hm.dom j hj
  lt b' h := by rw [setRow_size]; exact hm.lt b' h
end Go.Fw

/- The executor is sound: operations. -/
namespace Go.Fw

def StepOK (P : Program) (o : Oper) (n : Sz) (sl : Nat → Option SV) (hp : Nat → Option OB) (rc : Rec) : Prop :=
  ∀ (B : Base) (cx : Cx) (a : Act) (w : World) (Q : Exit → Act → World → Prop) (K : Act → World → Prop), B.n = n → SatF B cx sl hp a w →
    (∀ cx' a' w', SatF B cx' (updSl sl rc.wr) (updHp hp rc.wh) a' w' → K a' w') → o.wp P a w K Q

def Agree (rc : Rec) (sl sl' : Nat → Option SV) (hp hp' : Nat → Option OB) : Prop :=
  if rc.bar = true then (∀ t, sl' t = sl t ∨ (t ∉ rc.rd ∧ t ∉ rc.wr.map Prod.fst ∧ (sl' t = none ∨ ∃ s, sl' t = some s ∧ ∀ k ∈ arrW rc.wh, ment k s = false))) ∧ (∀ k, hp' k = hp k ∨ (k ∉ rc.rh ∧ k ∉ rc.wh.map Prod.fst ∧ ∃ s, hp' k = some (.cells s) ∧ ∀ j ∈ arrW rc.wh, ment j s = false)) else (∀ t ∈ rc.rd, sl' t = sl t) ∧ (∀ k ∈ rc.rh, hp' k = hp k)

/-- The step is right in every state that agrees on what is read. -/
def OpD (P : Program) (o : Oper) (n : Sz) (sl : Nat → Option SV) (hp : Nat → Option OB) (rc : Rec) : Prop :=
  ∀ sl' hp', Agree rc sl sl' hp hp' → StepOK P o n sl' hp' rc

def OpdR (sl : Nat → Option SV) (x : Operand) (s : SV) : Prop :=
  match x with
  | .tmp t => sl t = some s
  | .const v => s = .top ∨ (v.oneCell' = true ∧ s = .v v)
  | .func f => s = .clo f []
  | .global g => ∃ s', glob g = some s' ∧ s = .pf (wd s') [s'] 0 []

theorem opd_sound {e : List (Nat × SV)} {x : Operand} {K : SV → Prop} (h : opd e x K) : ∃ s, OpdR (lk e) x s ∧ K s := by
  cases x with
  | tmp t =>
    simp only [opd] at h
    split at h
    · rename_i s hs; exact ⟨s, hs, h⟩
    · exact h.elim
  | const v =>
    simp only [opd, cst] at h
    split at h <;> first | exact h.elim | exact ⟨.top, .inl rfl, h⟩ | skip
    rename_i h1 h2 h3
    refine ⟨.v v, .inr ⟨?_, rfl⟩, h⟩
    cases v <;> simp_all [Value.oneCell']
  | func f => exact ⟨.clo f [], rfl, h⟩
  | global g =>
    simp only [opd] at h
    split at h
    · rename_i s hs; exact ⟨_, ⟨s, hs, rfl⟩, h⟩
    · exact h.elim

def Reads (sl : Nat → Option SV) (ts : List Nat) (cx : Cx) (w : World) (a : Act) : Prop :=
  (∀ t ∈ ts, ∀ s, sl t = some s → ∃ v, a.tmps[t]? = some v ∧ RelV cx w s v) ∧ Glob cx w

theorem mem_slotsOf {t : Nat} : ∀ {l : List Operand}, Operand.tmp t ∈ l → t ∈ slotsOf l
  | [], h => by cases h
  | x :: r, h => by
    rcases List.mem_cons.1 h with h | h
    · subst h; simp [slotsOf]
    · have := mem_slotsOf h
      cases x <;> simp [slotsOf, this]

theorem OpdR.rel {sl x s ts cx w a} (h : OpdR sl x s) (hr : Reads sl ts cx w a) (hx : ∀ t, x = .tmp t → t ∈ ts) : RelV cx w s (a.eval x) := by
  cases x with
  | tmp t =>
    obtain ⟨v, h1, h2⟩ := hr.1 t (hx t rfl) s h
    simpa [Act.eval, h1] using h2
  | const v =>
    rcases h with rfl | ⟨h1, rfl⟩
    · exact trivial
    · exact .v h1
  | func f =>
    obtain rfl := h
    exact .clo [] rfl (fun i s x h => by simp at h)
  | global g =>
    obtain ⟨s', h1, rfl⟩ := h
    exact hr.2.rel h1

theorem opds_sound {e : List (Nat × SV)} : ∀ {l : List Operand} {K : List SV → Prop}, opds e l K → ∃ ss, ss.length = l.length ∧ (∀ (i : Nat) x s, l[i]? = some x → ss[i]? = some s → OpdR (lk e) x s) ∧ K ss
  | [], K, h => ⟨[], rfl, fun i x s h => by simp at h, h⟩
  | x :: r, K, h => by
    obtain ⟨s, h1, h2⟩ := opd_sound h
    obtain ⟨ss, h3, h4, h5⟩ := opds_sound h2
    refine ⟨s :: ss, by simp [h3], fun i y u hy hu => ?_, h5⟩
    cases i with
    | zero => simp at hy hu; subst hy hu; exact h1
    | succ i => simp at hy hu; exact h4 i y u hy hu

/-- An operand that may be left out. -/
def OptR (sl : Nat → Option SV) (o : Option Operand) (s : Option SV) : Prop := match o, s with | none, none => True | some x, some s => OpdR sl x s | _, _ => False
theorem opdo_sound {e : List (Nat × SV)} {x : Option Operand} {K : Option SV → Prop} (h : opdo e x K) :
    ∃ s, OptR (lk e) x s ∧ K s := by
  cases x with
  | none => exact ⟨none, trivial, h⟩
  | some x =>
    obtain ⟨s, h1, h2⟩ := opd_sound h
    exact ⟨some s, h1, h2⟩

theorem Reads.of_sat {B cx sl hp a w} (h : SatF B cx sl hp a w) {sl0 : Nat → Option SV} {ts : List Nat} (he : ∀ t ∈ ts, sl t = sl0 t) : Reads sl0 ts cx w a :=
  ⟨fun t ht s hs => h.sl t s (by rw [he t ht, hs]), h.glob⟩

theorem wp_value {P : Program} {o : Oper} {a : Act} {w w' : World} {K : Act → World → Prop} {Q : Exit → Act → World → Prop} {v : Value} (h : (execOp a.eval o).run P w = .ok (.value v) w') (hk : K (a.put o.dst v) w') : o.wp P a w K Q := by
  unfold Oper.wp; rw [h]; exact hk
theorem wp_skip_op {P : Program} {o : Oper} {a : Act} {w w' : World} {K : Act → World → Prop} {Q : Exit → Act → World → Prop} (h : (execOp a.eval o).run P w = .ok .skip w') (hk : K (a.put o.dst undef) w') : o.wp P a w K Q := by
  unfold Oper.wp; rw [h]; exact hk

/-- An operation that reads slots alone. -/
theorem opD_plain {P : Program} {o : Oper} {n : Sz} {sl : Nat → Option SV} {hp : Nat → Option OB} (s : SV) (hn : inFrame n o.dst = true)
    (h : ∀ (cx : Cx) (w : World) (a : Act), Reads sl (slotsOf o.op.operands.toList) cx w a → ∃ v, (execOp a.eval o).run P w = .ok (.value v) w ∧ RelV cx w s v) : OpD P o n sl hp (.plain o s) := by
  intro sl' hp' ha B cx a w Q K hB hs hK
  simp only [Agree, Rec.plain, Bool.false_eq_true, if_false] at ha
  obtain ⟨v, h1, h2⟩ := h cx w a (.of_sat hs ha.1)
  exact wp_value h1 (hK cx _ _ (by subst hB; exact hs.put h2 hn))
/-- An operation that reads slots and one owned block. -/
theorem opD_look {P : Program} {o : Oper} {n : Sz} {sl : Nat → Option SV} {hp : Nat → Option OB} (k : Nat) (ob : OB) (s : SV) (hn : inFrame n o.dst = true) (hk : hp k = some ob)
    (h : ∀ (cx : Cx) (w : World) (a : Act), Reads sl (slotsOf o.op.operands.toList) cx w a → Live cx w k ob → ∃ v, (execOp a.eval o).run P w = .ok (.value v) w ∧ RelV cx w s v) : OpD P o n sl hp (.look o k s) := by
  intro sl' hp' ha B cx a w Q K hB hs hK
  simp only [Agree, Rec.look, Bool.false_eq_true, if_false] at ha
  have hk' : hp' k = some ob := by rw [ha.2 k (by simp), hk]
  obtain ⟨v, h1, h2⟩ := h cx w a (.of_sat hs ha.1) (hs.mem.live k ob hk')
  exact wp_value h1 (hK cx _ _ (by subst hB; exact hs.put h2 hn))
/-- An operation that lays a new block. -/
theorem opD_new {P : Program} {o : Oper} {n : Sz} {sl : Nat → Option SV} {hp : Nat → Option OB} (k : Nat) (ob : OB) (s : SV) (hn : inFrame n o.dst = true) (hk : hp k = none)
    (h : ∀ (cx : Cx) (w : World) (a : Act), Reads sl (slotsOf o.op.operands.toList) cx w a → ∃ v O C, (execOp a.eval o).run P w = .ok (.value v) (w.alloc O) ∧
      (∀ cx', Ext cx w cx' (w.alloc O) → Holds cx' (w.alloc O) w.heap.size C ob) ∧
      (∀ cx', Ext cx w cx' (w.alloc O) → cx'.bl k = some (.at w.heap.size C) → RelV cx' (w.alloc O) s v)) (hg : ob ≠ .gone := by simp) : OpD P o n sl hp (.new o k ob s) := by
  intro sl' hp' ha B cx a w Q K hB hs hK
  simp only [Agree, Rec.new, Bool.false_eq_true, if_false] at ha
  have hk' : hp' k = none := by rw [ha.2 k (by simp), hk]
  obtain ⟨v, O, C, h1, h2, h3⟩ := h cx w a (.of_sat hs ha.1)
  have hbl := hs.mem.dom k hk'
  have e := ext_alloc cx w O k C hbl
  have hnk : ¬ B.keep k := fun hk2 => by
    have := hs.fr.keep k hk2
    rw [hbl] at this
    exact B.kp k hk2 this.symm
  have hz : ∃ c t, O = .cells c t (0, 0) := by
    have h4 := h2 _ e
    cases ob with
    | gone => exact absurd rfl hg
    | cells s =>
      obtain ⟨vs, T, h5, _⟩ := h4
      rw [heap_alloc_new] at h5
      exact ⟨_, _, Option.some.inj h5⟩
    | arr x E rows =>
      obtain ⟨vs, T, h5, _⟩ := h4
      rw [heap_alloc_new] at h5
      exact ⟨_, _, Option.some.inj h5⟩
  refine wp_value h1 (hK (cx.with k (.at w.heap.size C) (fun b => cx.O b ∨ b = w.heap.size)) _ _ ?_)
  subst hB
  exact (hs.later e (mem_alloc hs.mem O k C hk' ob h2) (fr_alloc B.keep cx w O k C hnk hz)).put (h3 _ e (by simp [Cx.with])) hn
end Go.Fw

/- Paths: what a value holds at the end of a path. -/
namespace Go.Fw

theorem RelC.ones {cx w s vs} (h : RelC cx w s vs) : ∀ v ∈ vs, v.oneCell' = true := by
  induction h with
  | v h => simpa using h
  | top h => simpa using h
  | nil => simp
  | cons _ _ ih1 ih2 => intro v hv; exact (List.mem_append.1 hv).elim (ih1 v) (ih2 v)
  | ba h => intro v hv; obtain ⟨x, _, rfl⟩ := List.mem_map.1 hv; rfl
  | _ => intro v hv; simp at hv; subst hv; rfl

theorem splice_ones {vs us : List Value} {off : Nat} (h : ∀ v ∈ vs, v.oneCell' = true) (g : ∀ v ∈ us, v.oneCell' = true) : ∀ v ∈ vs.take off ++ us ++ vs.drop (off + us.length), v.oneCell' = true := by
  intro v hv
  rcases List.mem_append.1 hv with hv | hv
  · rcases List.mem_append.1 hv with hv | hv
    · exact h v (List.mem_of_mem_take hv)
    · exact g v hv
  · exact h v (List.mem_of_mem_drop hv)
theorem app_ones {a b c : List Value} (h : ∀ v ∈ a, v.oneCell' = true) (g : ∀ v ∈ b, v.oneCell' = true) (k : ∀ v ∈ c, v.oneCell' = true) : ∀ v ∈ a ++ b ++ c, v.oneCell' = true := by
  intro v hv
  rcases List.mem_append.1 hv with hv | hv
  · exact (List.mem_append.1 hv).elim (h v) (g v)
  · exact k v hv
theorem RelC.agg_inv {cx w s cs vs} (h : RelC cx w (.agg (s :: cs)) vs) : ∃ us ws, vs = us ++ ws ∧ RelC cx w s us ∧ RelC cx w (.agg cs) ws := by
  cases h with
  | cons h1 h2 => exact ⟨_, _, rfl, h1, h2⟩
theorem nth_eq : ∀ (cs : List SV) (j : Nat), nth cs j = cs[j]?
  | [], j => by simp [nth]
  | s :: cs, 0 => by simp [nth]
  | s :: cs, j + 1 => by simp [nth, nth_eq cs j]
theorem nthB_eq : ∀ (cs : List OB) (j : Nat), nthB cs j = cs[j]?
  | [], j => by simp [nthB]
  | s :: cs, 0 => by simp [nthB]
  | s :: cs, j + 1 => by simp [nthB, nthB_eq cs j]
theorem setL_eq {α : Type} : ∀ (cs : List α) (j : Nat) (y : α), setL cs j y = cs.set j y
  | [], j, y => by simp [setL]
  | s :: cs, 0, y => by simp [setL]
  | s :: cs, j + 1, y => by simp [setL, setL_eq cs j]
theorem len_eq {α : Type} : ∀ (l : List α), len l = l.length
  | [] => rfl
  | _ :: r => by simp [len, len_eq r]
theorem app_eq {α : Type} : ∀ (l r : List α), app l r = l ++ r
  | [], _ => rfl
  | _ :: l, r => by simp [app, app_eq l r]
theorem snoc_eq {α : Type} : ∀ (l : List α) (y : α), snoc l y = l ++ [y]
  | [], _ => rfl
  | _ :: l, y => by simp [snoc, snoc_eq l y]

theorem dropA {α : Type} (xs ws : List α) (n : Nat) : (xs ++ ws).drop (xs.length + n) = ws.drop n := by
  rw [← List.drop_drop, List.drop_left]
theorem wds_get : ∀ (cs : List SV) (j : Nat) (s : SV), cs[j]? = some s → wds (cs.take j) + wd s ≤ wds cs
  | [], j, s, h => by simp at h
  | x :: cs, 0, s, h => by simp at h; subst h; simp [wds]
  | x :: cs, j + 1, s, h => by simp at h; have := wds_get cs j s h; simp [wds]; omega
theorem RelC.get {cx w} : ∀ {cs : List SV} {vs : List Value} (j : Nat) (s : SV), RelC cx w (.agg cs) vs → cs[j]? = some s →
    RelC cx w s ((vs.drop (wds (cs.take j))).take (wd s))
  | [], _, j, s, _, h => by simp at h
  | x :: cs, vs, 0, s, hr, h => by
    simp at h; subst h
    obtain ⟨us, ws, rfl, h1, h2⟩ := hr.agg_inv
    have := h1.width
    simpa [wds, ← this] using h1
  | x :: cs, vs, j + 1, s, hr, h => by
    simp at h
    obtain ⟨us, ws, rfl, h1, h2⟩ := hr.agg_inv
    have := RelC.get j s h2 h
    have hu := h1.width
    simp only [List.take_succ_cons, wds, ← hu]
    rw [dropA]
    exact this
theorem RelC.set {cx w} : ∀ {cs : List SV} {vs : List Value} (j : Nat) (s y : SV) (us : List Value), RelC cx w (.agg cs) vs → cs[j]? = some s → RelC cx w y us → wd y = wd s →
    RelC cx w (.agg (cs.set j y)) (vs.take (wds (cs.take j)) ++ us ++ vs.drop (wds (cs.take j) + us.length))
  | [], _, j, s, _, _, _, h, _, _ => by simp at h
  | x :: cs, vs, 0, s, y, us, hr, h, hy, hw => by
    simp at h; subst h
    obtain ⟨xs, ws, rfl, h1, h2⟩ := hr.agg_inv
    have h3 := h1.width
    have h4 := hy.width
    have : xs.length = us.length := by omega
    simp only [List.set_cons_zero, List.take_zero, wds, List.take_zero, List.nil_append, Nat.zero_add]
    rw [← this, List.drop_left]
    exact .cons hy h2
  | x :: cs, vs, j + 1, s, y, us, hr, h, hy, hw => by
    simp at h
    obtain ⟨xs, ws, rfl, h1, h2⟩ := hr.agg_inv
    have h3 := h1.width
    have := RelC.set j s y us h2 h hy hw
    simp only [List.set_cons_succ, List.take_succ_cons, wds, ← h3]
    have e := RelC.cons h1 this
    rw [List.take_append, Nat.add_assoc, dropA]
    simpa [List.take_of_length_le] using e
theorem wds_set : ∀ (cs : List SV) (j : Nat) (s y : SV), cs[j]? = some s → wd y = wd s → wds (cs.set j y) = wds cs
  | [], j, s, y, h, _ => by simp at h
  | x :: cs, 0, s, y, h, hw => by simp at h; subst h; simp [wds, hw]
  | x :: cs, j + 1, s, y, h, hw => by simp at h; simp [wds, wds_set cs j s y h hw]
theorem wds_all (E : Nat) : ∀ (cs : List SV), (cs.all fun s => Nat.beq (wd s) E) = true → ∀ j, j ≤ cs.length → wds (cs.take j) = j * E
  | [], _, j, hj => by simp at hj; subst hj; simp [wds]
  | s :: cs, h, 0, _ => by simp [wds]
  | s :: cs, h, j + 1, hj => by
    simp only [List.all_cons, Bool.and_eq_true] at h
    have h1 := Nat.eq_of_beq_eq_true h.1
    have := wds_all E cs h.2 j (by simpa using hj)
    simp [wds, this, h1, Nat.add_mul]; omega


theorem follow_sound : ∀ (p : List PS) (s : SV) (K : SV → Prop), follow p s K →
    ∃ y, K y ∧ offs p + wd y ≤ wd s ∧ ∀ cx w vs, RelC cx w s vs → RelC cx w y ((vs.drop (offs p)).take (wd y))
  | [], s, K, h => ⟨s, h, by simp [offs], fun cx w vs hr => by have := hr.width; simpa [offs, ← this] using hr⟩
  | .fld j off :: p, s, K, h => by
    simp only [follow] at h
    split at h
    · rename_i cs
      split at h
      · rename_i ho
        have ho := Nat.eq_of_beq_eq_true ho
        split at h
        · rename_i s' hs
          rw [nth_eq] at hs
          obtain ⟨y, hk, hle, hy⟩ := follow_sound p s' K h
          have h1 := wds_get cs j s' hs
          refine ⟨y, hk, by simp only [offs, wd]; omega, fun cx w vs hr => ?_⟩
          have h2 := hy cx w _ (hr.get j s' hs)
          rw [List.drop_take, List.take_take, List.drop_drop, ho] at h2
          simpa [offs, Nat.min_eq_left (show wd y ≤ wd s' - offs p by omega)] using h2
        · exact h.elim
      · exact h.elim
    · exact h.elim
  | .ix E n i :: p, s, K, h => by
    simp only [follow] at h
    split at h
    · rename_i m l
      split at h
      · split at h
        · rename_i hE hn
          have hE := Nat.eq_of_beq_eq_true hE
          have hn := Nat.eq_of_beq_eq_true hn
          subst hE hn
          obtain ⟨hi, h⟩ := need_iff.1 h
          refine ⟨_, h, by simp [offs, wd]; omega, fun cx w vs hr => ?_⟩
          cases hr with
          | ba hl =>
            subst hl
            have : ((l.map fun x => Value.int .u8 x).drop i).take 1 = [.int .u8 (l.getD i 0)] := by
              rw [← List.map_drop, ← List.map_take, List.take_one, List.head?_drop]
              simp [List.getD, hi]
            simpa [offs, wd, this] using (RelC.v (cx := cx) (w := w) (x := .int .u8 (l.getD i 0)) rfl)
        · exact h.elim
      · exact h.elim
    · rename_i cs
      obtain ⟨hall, h⟩ := need_iff.1 h
      obtain ⟨s', hs, h⟩ := elem_iff.1 h
      obtain ⟨y, hk, hle, hy⟩ := follow_sound p s' K h
      have h1 := wds_get cs i s' hs
      have hlt : i < cs.length := (List.getElem?_eq_some_iff.1 hs).1
      have ho := wds_all E cs hall i (by omega)
      refine ⟨y, hk, by simp only [offs, wd]; omega, fun cx w vs hr => ?_⟩
      have h2 := hy cx w _ (hr.get i s' hs)
      rw [List.drop_take, List.take_take, List.drop_drop, ho] at h2
      simpa [offs, Nat.min_eq_left (show wd y ≤ wd s' - offs p by omega)] using h2
    · exact h.elim

theorem place_sound : ∀ (p : List PS) (s x : SV) (K : SV → Prop), place p s x K →
    ∃ z, K z ∧ wd z = wd s ∧ offs p + wd x ≤ wd s ∧ ∀ cx w vs us, RelC cx w s vs → RelC cx w x us → RelC cx w z (vs.take (offs p) ++ us ++ vs.drop (offs p + us.length))
  | [], s, x, K, h => by
    simp only [place] at h
    split at h
    · rename_i hw
      have hw := Nat.eq_of_beq_eq_true hw
      refine ⟨x, h, hw.symm, by simp [offs]; omega, fun cx w vs us hr hx => ?_⟩
      have h1 := hr.width
      have h2 := hx.width
      simpa [offs, List.drop_eq_nil_of_le (show vs.length ≤ us.length by omega)] using hx
    · exact h.elim
  | .fld j off :: p, s, x, K, h => by
    simp only [place] at h
    split at h
    · rename_i cs
      split at h
      · rename_i ho
        have ho := Nat.eq_of_beq_eq_true ho
        split at h
        · rename_i s' hs
          rw [nth_eq] at hs
          obtain ⟨z, hk, hwz, hle, hz⟩ := place_sound p s' x _ h
          rw [setLK_eq, setL_eq] at hk
          have h1 := wds_get cs j s' hs
          refine ⟨_, hk, by simp only [wd]; exact wds_set cs j s' z hs hwz, by simp only [offs, wd]; omega, fun cx w vs us hr hx => ?_⟩
          have hu := hx.width
          have hv := hr.width
          simp only [wd] at hv
          have h2 := hz cx w _ us (hr.get j s' hs) hx
          have h3 := hr.set j s' z _ hs h2 hwz
          rw [ho] at h3
          have e : vs.take off ++ (((vs.drop off).take (wd s')).take (offs p) ++ us ++ ((vs.drop off).take (wd s')).drop (offs p + us.length)) ++
              vs.drop (off + (((vs.drop off).take (wd s')).take (offs p) ++ us ++ ((vs.drop off).take (wd s')).drop (offs p + us.length)).length) =
              vs.take (off + offs p) ++ us ++ vs.drop (off + offs p + us.length) := by
            have hl : (((vs.drop off).take (wd s')).take (offs p) ++ us ++ ((vs.drop off).take (wd s')).drop (offs p + us.length)).length = wd s' := by
              simp; omega
            rw [hl, List.take_take, Nat.min_eq_left (by omega), List.drop_take, List.drop_drop, List.take_add]
            have : vs.drop (off + offs p + us.length) = (vs.drop (off + (offs p + us.length))).take (wd s' - (offs p + us.length)) ++ vs.drop (off + wd s') := by
              have := List.take_append_drop (wd s' - (offs p + us.length)) (vs.drop (off + (offs p + us.length)))
              rw [List.drop_drop] at this
              rw [show off + wd s' = off + (offs p + us.length) + (wd s' - (offs p + us.length)) by omega, show off + offs p + us.length = off + (offs p + us.length) by omega]
              exact this.symm
            rw [this]
            simp
          rw [e] at h3
          simpa [offs] using h3
        · exact h.elim
      · exact h.elim
    · exact h.elim
  | .ix E n i :: p, s, x, K, h => by
    simp only [place] at h
    split at h
    · rename_i m l
      split at h
      · rename_i z
        split at h
        · rename_i hE hn
          have hE := Nat.eq_of_beq_eq_true hE
          have hn := Nat.eq_of_beq_eq_true hn
          subst hE hn
          obtain ⟨hi, h⟩ := need_iff.1 h
          refine ⟨_, h, rfl, by simp [offs, wd]; omega, fun cx w vs us hr hx => ?_⟩
          cases hr with
          | ba hl =>
            cases hx with
            | v =>
              have e : (l.set i z).map (fun x => Value.int .u8 x) = (l.map fun x => Value.int .u8 x).take i ++ [.int .u8 z] ++ (l.map fun x => Value.int .u8 x).drop (i + 1) := by
                rw [List.map_set, List.set_eq_take_append_cons_drop]
                simp [hl, hi]
              simp only [offs, Nat.mul_one, Nat.add_zero, List.length_singleton]
              rw [← e]
              exact .ba (by simpa using hl)
        · exact h.elim
      · exact h.elim
    · rename_i cs
      · obtain ⟨hall, h⟩ := need_iff.1 h
        obtain ⟨s', hs, h⟩ := elem_iff.1 h
        obtain ⟨z, hk, hwz, hle, hz⟩ := place_sound p s' x _ h
        have h1 := wds_get cs i s' hs
        have hlt : i < cs.length := (List.getElem?_eq_some_iff.1 hs).1
        have ho := wds_all E cs hall i (by omega)
        refine ⟨_, hk, by simp only [wd]; exact wds_set cs i s' z hs hwz, by simp only [offs, wd]; omega, fun cx w vs us hr hx => ?_⟩
        have hu := hx.width
        have hv := hr.width
        simp only [wd] at hv
        have h2 := hz cx w _ us (hr.get i s' hs) hx
        have h3 := hr.set i s' z _ hs h2 hwz
        rw [ho] at h3
        have e : vs.take (i * E) ++ (((vs.drop (i * E)).take (wd s')).take (offs p) ++ us ++ ((vs.drop (i * E)).take (wd s')).drop (offs p + us.length)) ++
            vs.drop (i * E + (((vs.drop (i * E)).take (wd s')).take (offs p) ++ us ++ ((vs.drop (i * E)).take (wd s')).drop (offs p + us.length)).length) =
            vs.take (i * E + offs p) ++ us ++ vs.drop (i * E + offs p + us.length) := by
          have hl : (((vs.drop (i * E)).take (wd s')).take (offs p) ++ us ++ ((vs.drop (i * E)).take (wd s')).drop (offs p + us.length)).length = wd s' := by
            simp; omega
          rw [hl, List.take_take, Nat.min_eq_left (by omega), List.drop_take, List.drop_drop, List.take_add]
          have : vs.drop (i * E + offs p + us.length) = (vs.drop (i * E + (offs p + us.length))).take (wd s' - (offs p + us.length)) ++ vs.drop (i * E + wd s') := by
            have := List.take_append_drop (wd s' - (offs p + us.length)) (vs.drop (i * E + (offs p + us.length)))
            rw [List.drop_drop] at this
            rw [show i * E + wd s' = i * E + (offs p + us.length) + (wd s' - (offs p + us.length)) by omega, show i * E + offs p + us.length = i * E + (offs p + us.length) by omega]
            exact this.symm
          rw [this]
          simp
        rw [e] at h3
        simpa [offs] using h3
    · exact h.elim
end Go.Fw

/- The executor is sound: types, loads, stores, new blocks. -/
namespace Go.Fw

/-! ### Types -/
mutual
def flat : SV → List Value
  | .v x => [x]
  | .ba _ l => l.map fun x => .int .u8 x
  | .agg cs => flats cs
  | _ => []
def flats : List SV → List Value
  | [] => []
  | s :: r => flat s ++ flats r
end
mutual
def okz : SV → Bool
  | .v x => x.oneCell'
  | .ba n l => Nat.beq l.length n
  | .agg cs => okzs cs
  | _ => false
def okzs : List SV → Bool
  | [] => true
  | s :: r => okz s && okzs r
end
def toVal : SV → Value
  | .v x => x
  | .ba _ l => .agg (l.map fun x => Value.int .u8 x).toArray
  | .agg cs => .agg (flats cs).toArray
  | _ => undef

mutual
theorem okz_rel {cx w} : ∀ {s : SV}, okz s = true → RelC cx w s (flat s)
  | .v x, h => .v h
  | .ba n l, h => .ba (Nat.eq_of_beq_eq_true h)
  | .agg cs, h => okzs_rel (cs := cs) h
  | .fs .., h => by simp [okz] at h
  | .ov .., h => by simp [okz] at h
  | .sb .., h => by simp [okz] at h
  | .pb .., h => by simp [okz] at h
  | .pe .., h => by simp [okz] at h
  | .pf .., h => by simp [okz] at h
  | .clo .., h => by simp [okz] at h
  | .tup .., h => by simp [okz] at h
  | .top, h => by simp [okz] at h
theorem okzs_rel {cx w} : ∀ {cs : List SV}, okzs cs = true → RelC cx w (.agg cs) (flats cs)
  | [], _ => .nil
  | s :: r, h => by
    simp only [okzs, Bool.and_eq_true] at h
    exact .cons (okz_rel h.1) (okzs_rel h.2)
end
theorem okz_val {cx w s} (h : okz s = true) : RelV cx w s (toVal s) := by
  have := okz_rel (cx := cx) (w := w) h
  cases s <;> simp only [okz, Bool.false_eq_true] at h
  · exact this
  · exact ⟨_, rfl, this⟩
  · exact ⟨_, rfl, this⟩

def infoIs (P : Program) (t : TypeId) (size bytes : Nat) (z : Value) : Prop := (P.info? t).map (fun i => (i.size, i.bytes, i.zero)) = some (size, bytes, some z)
def structOf (P : Program) (t : TypeId) : Option (List (Option (Nat × Nat))) :=
  match P.underlying t with
  | some (.struct fs) => some (fs.toList.map fun f => (P.info? f.type).map fun i => (f.offset, i.size))
  | _ => none
def typesOf (P : Program) (t : TypeId) : Option (List Nat) :=
  match P.underlying t with
  | some (.struct fs) => match fs.toList.all fun f => f.name != "_" with | true => some (fs.toList.map fun f => f.type) | false => none
  | _ => none
def notAgg : TypeDesc → Bool
  | .struct _ => false
  | .array .. => false
  | .named .. => false
  | _ => true

def layout : List SV → Nat → List (Nat × Nat)
  | [], _ => []
  | s :: r, off => (off, wd s) :: layout r (off + wd s)

def descOK (P : Program) (t : TypeId) : TI → Prop
  | .none => True
  | .int k => P.underlying t = some (.int k)
  | .bool => P.underlying t = some .bool
  | .sc z => wd z = 1 ∧ (∃ d, P.underlying t = some d ∧ notAgg d = true) ∧ ∀ s, z = .v (.string s) → P.underlying t = some .string
  | .slc E bytes z => ∃ e, P.underlying t = some (.slice e) ∧ infoIs P e E bytes (toVal z) ∧ okz z = true ∧ wd z = E ∧ (isU8 z = true → P.underlying e = some (.int .u8))
  | .arr n E el _ => P.underlying t = some (.array n el) ∧ (∃ b z, infoIs P el E b z) ∧ P.eqGuardType P.depth t = false
  | .str fs ft z => structOf P t = some (fs.map some) ∧ (∃ cs, z = .agg cs ∧ fs = layout cs 0) ∧
      (ft ≠ [] → typesOf P t = some ft ∧ P.stoodInHeld t = false ∧ P.eqGuardType P.depth t = false)
  | .ptr _ => ∃ e, P.underlying t = some (.pointer e)
structure TIok (P : Program) (t : TypeId) (ti : TI) : Prop where
  info : ti ≠ .none → (∃ bytes, infoIs P t (wd ti.zero) bytes (toVal ti.zero)) ∧ okz ti.zero = true
  desc : descOK P t ti

theorem infoIs.mk {P t size bytes z} (h : infoIs P t size bytes z) : ∃ i, P.info? t = some i ∧ i.size = size ∧ i.bytes = bytes ∧ i.zero = some z := by
  unfold infoIs at h
  cases hi : P.info? t with
  | none => rw [hi] at h; cases h
  | some i =>
    rw [hi] at h
    simp only [Option.map_some, Option.some.injEq, Prod.mk.injEq] at h
    exact ⟨i, rfl, h.1, h.2.1, h.2.2⟩
theorem run_typeInfo' {P : Program} {t : TypeId} {i : TypeInfo} (h : P.info? t = some i) (w : World) : (typeInfo t).run P w = .ok i w := by
  simp [typeInfo, h]
theorem run_sizeOf' {P : Program} {t : TypeId} {i : TypeInfo} (h : P.info? t = some i) (w : World) : (sizeOf t).run P w = .ok i.size w := by
  simp [sizeOf, run_typeInfo' h]
theorem run_zeroValue' {P : Program} {t : TypeId} {i : TypeInfo} {z : Value} (h : P.info? t = some i) (hz : i.zero = some z) (w : World) : (zeroValue t).run P w = .ok z w := by
  simp [zeroValue, run_typeInfo' h, hz]

theorem TIok.underlying {P t ti} (h : TIok P t ti) (hn : ti ≠ .none) : ∃ d, P.underlying t = some d ∧ (match d with | .struct _ | .array _ _ => true | _ => false) = ti.isAgg := by
  have hd := h.desc
  cases ti <;> simp only [descOK] at hd
  case none => exact absurd rfl hn
  case int k => exact ⟨_, hd, rfl⟩
  case bool => exact ⟨_, hd, rfl⟩
  case sc z =>
    obtain ⟨_, ⟨d, h1, h2⟩, _⟩ := hd
    refine ⟨d, h1, ?_⟩
    cases d <;> first | rfl | (simp [notAgg] at h2)
  case slc =>
    obtain ⟨e, h1, _⟩ := hd
    exact ⟨_, h1, rfl⟩
  case arr => exact ⟨_, hd.1, rfl⟩
  case str fs ft z =>
    replace hd := hd.1
    unfold structOf at hd
    split at hd
    · rename_i fs' hu; exact ⟨_, hu, rfl⟩
    · cases hd
  case ptr =>
    obtain ⟨e, h1⟩ := hd
    exact ⟨_, h1, rfl⟩

theorem run_isAgg {P t ti} (h : TIok P t ti) (hn : ti ≠ .none) (w : World) : (isAgg t).run P w = .ok ti.isAgg w := by
  obtain ⟨d, h1, h2⟩ := h.underlying hn
  simp only [isAgg, Sem.run_bind, run_underlying h1, Result.andThen_ok]
  rw [← h2]
  cases d <;> rfl

theorem ofType_ne {ti y} (h : ofType ti y = true) : ti ≠ .none := by
  intro e; subst e; simp [ofType] at h

theorem ofType_wd {P t ti y} (ht : TIok P t ti) (h : ofType ti y = true) : wd y = wd ti.zero := by
  have hd := ht.desc
  cases ti <;> cases y <;> simp only [ofType, TI.isAgg, Bool.false_eq_true] at h <;> first
    | rfl
    | exact hd.1.symm
    | (simpa [wd] using (Nat.eq_of_beq_eq_true h))

/-! ### Loads -/
theorem cell_of {w : World} {b : Nat} {cs : Array Value} {T : TypeId} {fz : Nat × Nat} (h : w.heap[b]? = some (.cells cs T fz)) (i : Nat) : w.cell? ⟨b, i, none⟩ = cs[i]? := by
  simp [World.cell?, h]
theorem add_none (b off i : Nat) : (⟨b, off, none⟩ : Addr).add i = ⟨b, off + i, none⟩ := by
  unfold Addr.add; split <;> simp_all

theorem run_load_rel {P : Program} {t : TypeId} {ti : TI} (ht : TIok P t ti) {y : SV} (hy : ofType ti y = true) {cx : Cx} {w : World} {us : List Value} {b off : Nat}
    (hr : RelC cx w y us) (hc : ∀ (j : Nat) x, us[j]? = some x → w.cell? ⟨b, off + j, none⟩ = some x) : ∃ v, (loadVar t ⟨b, off, none⟩).run P w = .ok v w ∧ RelV cx w y v := by
  have hn := ofType_ne hy
  obtain ⟨⟨by_, hi⟩, _⟩ := ht.info hn
  obtain ⟨i, hi1, hi2, _, _⟩ := hi.mk
  have hl := hr.width
  have hcells : (loadCells ⟨b, off, none⟩ us.length).run P w = .ok us.toArray w :=
    run_loadCells_list (P := P) w ⟨b, off, none⟩ us (fun j x hx => by rw [add_none]; exact hc j x hx)
  cases ha : ti.isAgg with
  | true =>
    have hw : us.length = i.size := by
      rw [hl, hi2, ofType_wd ht hy]
    refine ⟨.agg us.toArray, by simp only [loadVar, Sem.run_bind, run_isAgg ht hn, ha, Result.andThen_ok, if_true, run_sizeOf' hi1, ← hw, hcells, Sem.run_pure], ?_⟩
    cases ti <;> simp only [TI.isAgg, Bool.false_eq_true] at ha <;> cases y <;> simp only [ofType, TI.isAgg, Bool.false_eq_true] at hy <;> exact ⟨us, rfl, hr⟩
  | false =>
    have hone : ∃ x, us = [x] ∧ RelV cx w y x := by
      cases ti <;> simp only [TI.isAgg, Bool.true_eq_false] at ha <;> cases hr <;> simp only [ofType, TI.isAgg, Bool.false_eq_true] at hy <;> first
        | exact ⟨_, rfl, .v ‹_›⟩
        | exact ⟨_, rfl, .fs0 ‹_›⟩
        | exact ⟨_, rfl, .fs _ ‹_› ‹_› ‹_› ‹_› ‹_› ‹_› ‹_›⟩
        | exact ⟨_, rfl, .ov ‹_› ‹_›⟩
        | exact ⟨_, rfl, .ov0 ‹_›⟩
        | exact ⟨_, rfl, .ovz ‹_›⟩
        | exact ⟨_, rfl, .sb ‹_› ‹_›⟩
        | exact ⟨_, rfl, .pb ‹_›⟩
        | exact ⟨_, rfl, .pe ‹_›⟩
        | exact ⟨_, rfl, .pf ‹_›⟩
        | exact ⟨_, rfl, .clo _ ‹_› ‹_›⟩
    obtain ⟨x, rfl, hx⟩ := hone
    have hc0 := hc 0 x rfl
    refine ⟨x, ?_, hx⟩
    simp only [loadVar, Sem.run_bind, run_isAgg ht hn, ha, Result.andThen_ok, Bool.false_eq_true, if_false, run_load]
    rw [Nat.add_zero] at hc0
    rw [hc0]

/-! ### Stores -/
theorem RelV.cells {cx w s v} (h : RelV cx w s v) (hs : s ≠ .top) (ht : ∀ l, s ≠ .tup l) : ∃ us : List Value, v.cells = us.toArray ∧ RelC cx w s us := by
  cases s <;> simp only [RelV, RelV1] at h
  case agg cs => obtain ⟨vs, rfl, h⟩ := h; exact ⟨vs, rfl, h⟩
  case ba n l => obtain ⟨vs, rfl, h⟩ := h; exact ⟨vs, rfl, h⟩
  case top => exact absurd rfl hs
  case tup l => exact absurd rfl (ht l)
  all_goals
    refine ⟨[v], ?_, h⟩
    have := h.ones v (by simp)
    cases v <;> first | rfl | (simp [Value.oneCell'] at this)

theorem run_store_rel {P : Program} {t : TypeId} {ti : TI} (ht : TIok P t ti) {y : SV} (hy : ofType ti y = true) {cx : Cx} {w : World} {v : Value} {b off : Nat} {cs : List Value} {T : TypeId}
    (hr : RelV cx w y v) (hb : w.heap[b]? = some (.cells cs.toArray T (0, 0))) (hle : off + wd y ≤ cs.length) :
    ∃ us, RelC cx w y us ∧ (storeVar t ⟨b, off, none⟩ v).run P w = .ok () (w.setRow b (cs.take off ++ us ++ cs.drop (off + us.length)).toArray) := by
  have hn := ofType_ne hy
  obtain ⟨⟨by_, hi⟩, _⟩ := ht.info hn
  obtain ⟨i, hi1, hi2, _, _⟩ := hi.mk
  obtain ⟨us, hu, hrc⟩ := hr.cells (by intro e; subst e; cases ti <;> simp [ofType, TI.isAgg] at hy) (by intro l e; subst e; cases ti <;> simp [ofType, TI.isAgg] at hy)
  have hl := hrc.width
  have hw : us.length = i.size := by
    rw [hl, hi2, ofType_wd ht hy]
  refine ⟨us, hrc, ?_⟩
  have hst := run_storeCells_at P b off T us 0 cs.toArray w hb (by simp; omega) hrc.ones
  simp only [storeVar, Sem.run_bind, run_sizeOf' hi1, Result.andThen_ok, hu, List.size_toArray, hw, ne_eq, not_true_eq_false, if_false, List.toList_toArray]
  rw [← hw]
  simpa using hst

theorem fields_get {P : Program} {t : TypeId} {fs : List (Nat × Nat)} (h : structOf P t = some (fs.map some)) {f off n : Nat} (hf : fs[f]? = some (off, n)) :
    ∃ fields fd i, P.underlying t = some (.struct fields) ∧ fields[f]? = some fd ∧ fd.offset = off ∧ P.info? fd.type = some i ∧ i.size = n := by
  unfold structOf at h
  split at h
  · rename_i fields hu
    simp only [Option.some.injEq] at h
    have : (fields.toList.map fun f => (P.info? f.type).map fun i => (f.offset, i.size))[f]? = some (some (off, n)) := by rw [h]; simp [hf]
    rw [List.getElem?_map] at this
    cases hfd : fields.toList[f]? with
    | none => rw [hfd] at this; cases this
    | some fd =>
      rw [hfd] at this
      simp only [Option.map_some, Option.some.injEq] at this
      cases hi : P.info? fd.type with
      | none => rw [hi] at this; cases this
      | some i =>
        rw [hi] at this
        simp only [Option.map_some, Option.some.injEq, Prod.mk.injEq] at this
        exact ⟨fields, fd, i, hu, by rw [← Array.getElem?_toList]; exact hfd, this.1, hi, this.2⟩
  · cases h
end Go.Fw
