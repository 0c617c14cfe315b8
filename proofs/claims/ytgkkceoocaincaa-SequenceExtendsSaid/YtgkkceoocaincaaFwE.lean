/- The executor: operations, regions, code. -/
import Derived.Test.YtgkkceoocaincaaFwR
namespace Go.Fw

/-- The function has a body of its own. -/
def Enters (P : Program) (f : FuncId) : Prop := ∃ fn, P.funcs[f]? = some fn ∧ (fn.name == "runtime.NumGoroutine") = false ∧ fn.body.isNone = false
def Con (P : Program) (f : FuncId) (args : List SV) (hp : List OB) (r : SV) (hp' : List OB) : Prop := Enters P f ∧ Spec P f args hp r hp'
/-- A call that is left to the prover: its contract, and what comes behind it. -/
def CallN (P : Program) (f : FuncId) (args : List SV) (hp : List OB) (K : SV → List OB → Prop) : Prop := ∃ r hp', Con P f args hp r hp' ∧ K r hp'
theorem CallN.mk {P : Program} {f : FuncId} {args : List SV} {hp : List OB} {K : SV → List OB → Prop} {r : SV} {hp' : List OB} (h : Con P f args hp r hp') (k : K r hp') :
    CallN P f args hp K := ⟨r, hp', h, k⟩
theorem CallN.ex {P : Program} {f : FuncId} {args : List SV} {hp : List OB} {K : SV → List OB → Prop} {R : SV → List OB → Prop} (h : ∃ r hp', R r hp' ∧ Con P f args hp r hp') (k : ∀ r hp', R r hp' → K r hp') :
    CallN P f args hp K := let ⟨r, hp', h1, h2⟩ := h; ⟨r, hp', h2, k r hp' h1⟩
theorem CallN.inv {P : Program} {f : FuncId} {args : List SV} {hp : List OB} {K : SV → List OB → Prop} (h : CallN P f args hp K) : ∃ r hp', Con P f args hp r hp' ∧ K r hp' := h
attribute [irreducible] CallN

mutual
/-- Values without memory. -/
def cl : SV → Bool
  | .v _ => true
  | .ba _ _ => true
  | .top => false
  | .agg cs => cls cs
  | .tup cs => cls cs
  | _ => false
def cls : List SV → Bool
  | [] => true
  | s :: r => match cl s with | true => cls r | false => false
end
def cleanOB : OB → Prop
  | .cells s => cl s = true
  | .arr _ rows => ∀ s ∈ rows, cl s = true
  | .gone => True
mutual
/-- cl, but an owned slice may stand in it -/
def cl2 : SV → Bool
  | .v _ => true
  | .ba _ _ => true
  | .ov .. => true
  | .top => false
  | .agg cs => cl2s cs
  | .tup cs => cl2s cs
  | _ => false
def cl2s : List SV → Bool
  | [] => true
  | s :: r => match cl2 s with | true => cl2s r | false => false
end
def CleanP (r : SV) (hp : List OB) : Prop := cl2 r = true ∧ ∀ ob ∈ hp, cleanOB ob

mutual
def ment (k : Nat) : SV → Bool
  | .pb j _ => Nat.beq j k
  | .pe _ j _ _ => Nat.beq j k
  | .ov _ j _ _ => Nat.beq j k
  | .sb j _ _ _ => Nat.beq j k
  | .agg cs => ments k cs
  | .clo _ cs => ments k cs
  | .tup cs => ments k cs
  | _ => false
def ments (k : Nat) : List SV → Bool
  | [] => false
  | s :: r => match ment k s with | true => true | false => ments k r
end
mutual
def kill (k : Nat) : SV → SV
  | .pb j p => match Nat.beq j k with | true => .top | false => .pb j p
  | .pe E j i p => match Nat.beq j k with | true => .top | false => .pe E j i p
  | .ov E j o n => match Nat.beq j k with | true => .top | false => .ov E j o n
  | .sb j p o n => match Nat.beq j k with | true => .top | false => .sb j p o n
  | .agg cs => .agg (kills k cs)
  | .clo f cs => match ments k cs with | true => .top | false => .clo f cs
  | .tup cs => .tup (kills k cs)
  | s => s
def kills (k : Nat) : List SV → List SV
  | [] => []
  | s :: r => kill k s :: kills k r
end
def killsE (k : Nat) : List (Nat × SV) → List (Nat × SV)
  | [] => []
  | (t, s) :: r => match ment k s with | true => (t, .top) :: killsE k r | false => killsE k r
def killsH (k : Nat) : List OB → Nat → List (Nat × OB)
  | [], _ => []
  | .cells s :: r, i => match ment k s with | true => (i, .cells (kill k s)) :: killsH k r (i + 1) | false => killsH k r (i + 1)
  | _ :: r, i => killsH k r (i + 1)

def lendK (hp : List OB) : List SV → (List SV → List Nat → Prop) → Prop
  | [], K => K [] []
  | s :: r, K => match s with
    | .ov .. => rowsOf' hp s fun E rows ks => lendK hp r fun l ks' => K (.fs .no E rows :: l) (app ks ks')
    | .sb .. => rowsOf' hp s fun E rows ks => lendK hp r fun l ks' => K (.fs .no E rows :: l) (app ks ks')
    | s => lendK hp r fun l ks => K (s :: l) ks
def idx : List Nat → Nat → Nat
  | [], _ => 0
  | j :: r, k => match Nat.beq j k with | true => 0 | false => idx r k + 1
def nthN : List Nat → Nat → Nat
  | [], _ => 0
  | x :: _, 0 => x
  | _ :: r, i + 1 => nthN r i
def backN (ks : List Nat) (n0 base j : Nat) : Nat := match Nat.blt j n0 with | true => nthN ks j | false => base + (j - n0)
def renOB (f : Nat → Nat) : OB → OB
  | .cells s => .cells (ren f s)
  | ob => ob
/-- The blocks that go into a call. -/
def inHp (hp : List OB) : List Nat → (List OB → Prop) → Prop
  | [], K => K []
  | k :: r, K => match nthB hp k with
    | some (.cells s) => match noRef s with | true => inHp hp r fun l => K (.cells s :: l) | false => False
    | _ => False
def outHp (f : Nat → Nat) : Nat → List OB → List (Nat × OB)
  | _, [] => []
  | j, ob :: r => (f j, renOB f ob) :: outHp f (j + 1) r

def callRec (o : Oper) (base : Nat) (ks lent : List Nat) (r : SV) (hp' : List OB) : Rec :=
  ⟨slotsOf o.op.operands.toList, app ks (app lent ((outHp (backN ks (len ks) base) 0 hp').map Prod.fst)), dst1 o.dst (ren (backN ks (len ks) base) r), outHp (backN ks (len ks) base) 0 hp', false⟩
def callK (o : Oper) (base : Nat) (ks lent : List Nat) (K : Rec → Prop) (r : SV) (hp' : List OB) : Prop :=
  match Nat.ble (len ks) (len hp') with
  | false => False
  | true => match lent with
    | [] => K (callRec o base ks lent r hp')
    | _ => Need (CleanP r hp') (K (callRec o base ks lent r hp'))
def okT (b : Bool) (K : Prop) : Prop := match b with | true => K | false => False
def meets (a b : List Nat) : Bool := a.any fun x => b.any (Nat.beq x)
def scal : SV → Bool
  | .top => false
  | .tup _ => false
  | .agg _ => false
  | .ba .. => false
  | _ => true
def argOK : SV → Bool
  | .tup _ => false
  | _ => true
def execCall (P : Program) (o : Oper) (h : List OB) (f : FuncId) (args : List SV) (K : Rec → Prop) : Prop :=
  okT (args.all argOK) (lendK h args fun args lent =>
    match noRefs args with
    | true => CallN P f args [] (callK o (len h) [] lent K)
    | false => match refss args [] with
      | ks => okT (!(meets ks lent)) (inHp h ks fun hpi => CallN P f (rens (idx ks) args) hpi (callK o (len h) ks lent K)))

def roomOK (n bytes : Nat) : Prop := n * bytes ≤ 70368744177664 ∧ n ≤ 70368744177664

/-- The frame's slots; the owned blocks that were handed over. -/
structure Sz where
  n : Nat
  n0 : Nat
def inFrame (n : Sz) : Option Nat → Bool
  | some d => Nat.blt d n.n
  | none => true
/-- append: onto nothing, onto a slice without room, onto an owned one. -/
def execAppend (n : Sz) (o : Oper) (e : List (Nat × SV)) (h : List OB) (E bytes : Nat) (s x : SV) (K : Rec → Prop) : Prop :=
  rowsOf E h x fun xs ks =>
      match s with
      | .v (.slice none 0 0) => Need (roomOK xs.length bytes)
          (K ⟨slotsOf o.op.operands.toList, len h :: ks, dst1 o.dst (.ov E (len h) 0 xs.length), [(len h, .arr E xs)], false⟩)
      | .fs t E0 rows => match Nat.beq E0 E, t.cap with
        | true, some c => Need ((c < rows.length + xs.length ∨ (rows = [] ∧ c = 0)) ∧ roomOK (rows.length + xs.length) bytes)
          (K ⟨slotsOf o.op.operands.toList, len h :: ks, dst1 o.dst (.ov E (len h) 0 (rows ++ xs).length), [(len h, .arr E (rows ++ xs))], false⟩)
        | _, _ => False
      | .ov E0 k off m => match Nat.beq E0 E && Nat.ble n.n0 k, Nat.beq off 0, nthB h k with
        | true, true, some (.arr E1 rows) => match Nat.beq E1 E with
          | true => Need (m = rows.length ∧ roomOK (rows.length + xs.length) bytes)
              (K ⟨slotsOf o.op.operands.toList, k :: ks, app (killsE k e) (dst1 o.dst (.ov E k 0 (rows ++ xs).length)), (k, .arr E (rows ++ xs)) :: killsH k h 0, true⟩)
          | false => False
        | _, _, _ => False
      | _ => False

/-- A value of this type: an aggregate of its cells, or one cell. -/
def ofType (ti : TI) (y : SV) : Bool :=
  match ti with
  | .none => false
  | ti => match ti.isAgg, y with
  | true, .agg cs => Nat.beq (wds cs) (wd ti.zero)
  | true, .ba n _ => Nat.beq n (wd ti.zero)
  | true, _ => false
  | false, .agg _ => false
  | false, .ba _ _ => false
  | false, .tup _ => false
  | false, .top => false
  | false, _ => true
def isSlc : TI → Bool
  | .slc .. => true
  | _ => false
/-- Elements of a slice: its sub-slices. -/
def sliceFs (o : Oper) (E0 : Nat) (t : Tg) (E : Nat) (rows : List SV) (lo hi mx : Option SV) (K : Rec → Prop) : Prop :=
  okT (Nat.beq E0 E) (bound lo 0 fun l => bound hi rows.length fun u =>
    match mx, hi with
    | none, none => Need (0 ≤ l ∧ l ≤ u ∧ u ≤ rows.length) (K (.plain o (.fs (t.cut l.toNat) E ((rows.drop l.toNat).take (u.toNat - l.toNat)))))
    | none, some _ => Need (0 ≤ l ∧ l ≤ u ∧ u ≤ rows.length) (K (.plain o (.fs (t.cut l.toNat) E ((rows.drop l.toNat).take (u.toNat - l.toNat)))))
    | some m, some _ => intOf? m fun m => Need (0 ≤ l ∧ l ≤ u ∧ u = m ∧ u ≤ rows.length) (K (.plain o (.fs ⟨some (m.toNat - l.toNat), t.nn⟩ E ((rows.drop l.toNat).take (u.toNat - l.toNat)))))
    | some _, none => False)
def sliceOv (o : Oper) (E0 E k off n : Nat) (lo hi mx : Option SV) (K : Rec → Prop) : Prop :=
  okT (Nat.beq E0 E) (match mx with
    | some _ => False
    | none => bound lo 0 fun l => bound hi n fun u => Need (0 ≤ l ∧ l ≤ u ∧ u ≤ n) (K (.look o k (.ov E k (off + l.toNat) (u.toNat - l.toNat)))))
def sliceBox (o : Oper) (n E k : Nat) (p : List PS) (lo hi mx : Option SV) (K : Rec → Prop) : Prop :=
  match lo, hi, mx with
  | none, none, none => okT (Nat.beq E 1 && Nat.blt 0 n) (K (.look o k (.sb k p 0 n)))
  | _, _, _ => False
def execSlice (o : Oper) (ti : TI) (x : SV) (lo hi mx : Option SV) (K : Rec → Prop) : Prop :=
  match ti, x with
  | .slc E0 _ _, .fs t E rows => sliceFs o E0 t E rows lo hi mx K
  | .slc E0 _ _, .ov E k off n => sliceOv o E0 E k off n lo hi mx K
  | .arr n E _ _, .pb k p => sliceBox o n E k p lo hi mx K
  | _, _ => False

def execBuiltin (TT : Nat → TI) (n : Sz) (o : Oper) (e : List (Nat × SV)) (h : List OB) (b : Builtin) (argTypes : List TypeId) (args : List SV) (K : Rec → Prop) : Prop :=
  match b, args with
  | .len, [s] => match argTypes with
    | t :: _ => okT (isSlc (TT t)) (lenOf s fun n => K (.plain o (natLen n)))
    | _ => False
  | .append, [s, x] => match argTypes with
    | [t, t'] => match Nat.beq t t', TT t with | true, .slc E bytes _ => okT (Nat.blt 0 E) (execAppend n o e h E bytes s x K) | _, _ => False
    | _ => False
  | .min, [.v (.int k x), .v (.int _ y)] => K (.plain o (.v (.int k (min x y))))
  | .max, [.v (.int k x), .v (.int _ y)] => K (.plain o (.v (.int k (max x y))))
  | _, _ => False

/-- Equality of values of a type. -/
def eqT (TT : Nat → TI) : Nat → Nat → SV → SV → Option Bool
  | 0, _, _, _ => none
  | d + 1, t, x, y =>
    match TT t with
    | .int k => match x, y with
      | .v (.int k1 a), .v (.int k2 b) => match kbeq k k1, kbeq k k2 with | true, true => some (a == b) | _, _ => none
      | _, _ => none
    | .bool => match x, y with
      | .v (.bool a), .v (.bool b) => some (a == b)
      | _, _ => none
    | .str _ (u :: ft) _ => match x, y with
      | .agg xs, .agg ys => go d (u :: ft) xs ys
      | _, _ => none
    | .arr n E el _ => match x, y with
      | .ba m l, .ba m' r => match Nat.beq m n, Nat.beq m' n, Nat.beq E 1, TT el with
        | true, true, true, .int .u8 => some (l == r)
        | _, _, _, _ => none
      | .agg xs, .agg ys => match Nat.beq (len xs) n, Nat.beq (len ys) n with
        | true, true => go d (reps n el) xs ys
        | _, _ => none
      | _, _ => none
    | _ => none
where
  go : Nat → List Nat → List SV → List SV → Option Bool
  | 0, _, _, _ => none
  | _ + 1, [], [], [] => some true
  | d + 1, t :: ts, x :: xs, y :: ys => match ofType (TT t) x, ofType (TT t) y, eqT TT d t x y with
    | true, true, some b => match go d ts xs ys with
      | some c => some (b && c)
      | none => none
    | _, _, _ => none
  | _, _, _, _ => none

def isAggS : SV → Bool
  | .agg _ => true
  | .ba .. => true
  | _ => false
def isBool : TI → Bool
  | .bool => true
  | _ => false

def execBin (TT : Nat → TI) (op : BinOp) (t : Nat) (x y : SV) (K : SV → Prop) : Prop :=
  match x, y with
  | .v (.int k a), .v (.int k' b) => ibin op k a k' b K
  | .v (.bool a), .v (.bool b) => match op with
    | .eql => okT (isBool (TT t)) (K (.v (.bool (a == b))))
    | .neq => okT (isBool (TT t)) (K (.v (.bool (a != b))))
    | _ => False
  | .v (.slice none _ _), .v (.slice none _ _) => match op with
    | .eql => okT (isSlc (TT t)) (K (.v (.bool true)))
    | .neq => okT (isSlc (TT t)) (K (.v (.bool false)))
    | _ => False
  | .fs g _ rows, .v (.slice none _ _) => match g.nn, op with
    | true, .eql => okT (isSlc (TT t)) (K (.v (.bool false)))
    | true, .neq => okT (isSlc (TT t)) (K (.v (.bool true)))
    | false, .eql => okT (isSlc (TT t)) (Need (rows ≠ []) (K (.v (.bool false))))
    | false, .neq => okT (isSlc (TT t)) (Need (rows ≠ []) (K (.v (.bool true))))
    | _, _ => False
  | .ov _ _ _ n, .v (.slice none _ _) => match op with
    | .eql => okT (isSlc (TT t)) (Need (0 < n) (K (.v (.bool false))))
    | .neq => okT (isSlc (TT t)) (Need (0 < n) (K (.v (.bool true))))
    | _ => False
  | x, y => okT (isAggS x) (match op, eqT TT 40 t x y with
    | .eql, some b => K (.v (.bool b))
    | .neq, some b => K (.v (.bool (!b)))
    | _, _ => False)

def partsK (e : List (Nat × SV)) : List (Nat × Operand) → (List (Nat × SV) → Prop) → Prop
  | [], K => K []
  | (i, x) :: r, K => opd e x fun s => partsK e r fun l => K ((i, s) :: l)

def execLoad (o : Oper) (h : List OB) (ti : TI) (x : SV) (K : Rec → Prop) : Prop :=
  match x with
  | .pb k p => match nthB h k with
    | some (.cells s) => follow p s fun y => okT (ofType ti y) (K (.look o k y))
    | _ => False
  | .pe E k i p => match nthB h k with
    | some (.arr E' rows) => okT (Nat.beq E E') (Elem rows i fun s => follow p s fun y => okT (ofType ti y) (K (.look o k y)))
    | _ => False
  | .pf _ rows i p => Elem rows i fun s => follow p s fun y => okT (ofType ti y) (K (.plain o y))
  | _ => False
def execStore (o : Oper) (h : List OB) (ti : TI) (x y : SV) (K : Rec → Prop) : Prop :=
  match ofType ti y with
  | false => False
  | true => match x with
    | .pb k p => match nthB h k with | some (.cells s) => place p s y fun z => K (.put o k (.cells z)) | _ => False
    | .pe E k i p => match nthB h k with
      | some (.arr E' rows) => match Nat.beq E E', noRef y with
        | true, true => Elem rows i fun s => place p s y fun z => K (.put o k (.arr E (rows.set i z)))
        | _, _ => False
      | _ => False
    | _ => False

def xOp (P : Program) (TT : Nat → TI) (n : Sz) (o : Oper) (e : List (Nat × SV)) (h : List OB) (K : Rec → Prop) : Prop :=
  match o.op with
  | .move x => opd e x fun s => K (.plain o s)
  | .assign x => opd e x fun s => K (.plain o s)
  | .pick c a b => opd e c fun sc => match sc with
    | .v (.bool c) => opd e a fun sa => opd e b fun sb => Bif c (K (.plain o sa)) (K (.plain o sb))
    | _ => False
  | .alloc t => match TT t with
    | .none => False
    | ti => K (.new o (len h) (.cells ti.zero) (.pb (len h) []))
  | .box _ x => opd e x fun s => match notTop s with
    | true => K (.new o (len h) (.cells s) (.pb (len h) []))
    | false => False
  | .build t parts => partsK e parts.toList fun ps => match TT t with
    | .str fs _ (.agg z) => fillS fs ps z fun cs => K (.plain o (.agg cs))
    | .arr _ E _ (.agg z) => match z.all fun s => Nat.beq (wd s) E with
      | true => fillA E ps z fun cs => K (.plain o (.agg cs))
      | false => False
    | .arr n E _ (.ba m z) => match Nat.beq E 1, Nat.beq m n with
      | true, true => fillB n ps z fun l => K (.plain o (.ba n l))
      | _, _ => False
    | _ => False
  | .buildSlice t n parts => partsK e parts.toList fun ps => match TT t with
    | .slc E _ z => okT (Nat.blt 0 E && Nat.ble (n * E) 16777216) (fillA E ps (reps n z) fun rows => okT (noRefs rows) (K (.new o (len h) (.arr E rows) (.ov E (len h) 0 n))))
    | _ => False
  | .load t x => opd e x fun s => execLoad o h (TT t) s K
  | .store t x y => opd e x fun s => opd e y fun z => execStore o h (TT t) s z K
  | .nilCheck x => opd e x fun s => match s with
    | .pb .. => K (.plain o s)
    | .pe .. => K (.plain o s)
    | .pf .. => K (.plain o s)
    | .clo .. => K (.plain o s)
    | _ => False
  | .binOp op t x y _ => opd e x fun a => opd e y fun b => execBin TT op t a b fun s => K (.plain o s)
  | .unOp op _ x => opd e x fun a => match op, a with
    | .neg, .v (.int k n) => K (.plain o (.v (.int k (k.wrap (0 - n)))))
    | .not, .v (.bool b) => K (.plain o (.v (.bool (!b))))
    | .xor, .v (.int k n) => K (.plain o (.v (.int k (k.wrap (BitVec.ofInt k.bits (if k.signed then -1 else k.max) ^^^ BitVec.ofInt k.bits n).toNat))))
    | _, _ => False
  | .convert c d x => opd e x fun a => match TT c with
    | .none => False
    | _ => match a, TT d with
      | .v (.int _ n), .int k => K (.plain o (.v (.int k (k.wrap n))))
      | _, _ => False
  | .makeFunc (.func f) first caps => match first.toList with
    | [] => opds e caps.toList fun l => match l.all scal with | true => K (.plain o (.clo f l)) | false => False
    | _ => False
  | .makeSlice t l c => opd e l fun l => opd e c fun c => intOf? l fun l => intOf? c fun c => match TT t with
    | .slc E bytes z => okT (Nat.blt 0 E) (Need (0 ≤ l ∧ l = c ∧ roomOK l.toNat bytes)
        (K (.new o (len h) (.arr E (List.replicate l.toNat z)) (.ov E (len h) 0 l.toNat))))
    | _ => False
  | .slice t x lo hi mx => opd e x fun x => opdo e lo fun lo => opdo e hi fun hi => opdo e mx fun mx => execSlice o (TT t) x lo hi mx K
  | .fieldAddr t x f => opd e x fun s => match TT t with
    | .str fs _ _ => match fs[f]? with
      | some (off, n) => match Nat.blt 0 n with
        | true => match s with
          | .pb k p => K (.plain o (.pb k (snoc p (.fld f off))))
          | .pe E k i p => K (.plain o (.pe E k i (snoc p (.fld f off))))
          | .pf E rows i p => K (.plain o (.pf E rows i (snoc p (.fld f off))))
          | _ => False
        | false => False
      | none => False
    | _ => False
  | .field t x f => opd e x fun s => match TT t, s with
    | .str fs ft _, .agg cs => match fs[f]?, ft[f]?, nth cs f with
      | some (off, _), some u, some y => okT (Nat.beq (wds (cs.take f)) off) (okT (ofType (TT u) y) (K (.plain o y)))
      | _, _, _ => False
    | _, _ => False
  | .indexAddr t x i => opd e x fun s => opd e i fun i => intOf? i fun i => match TT t, s with
    | .slc E0 _ _, .fs _ E rows => okT (Nat.beq E0 E) (Need (0 ≤ i ∧ i < rows.length) (K (.plain o (.pf E rows i.toNat []))))
    | .slc E0 _ _, .ov E k off n => okT (Nat.beq E0 E) (Need (0 ≤ i ∧ i < n) (K (.plain o (.pe E k (off + i.toNat) []))))
    | .arr n E _ _, .pb k p => Need (0 ≤ i ∧ i < n) (K (.plain o (.pb k (snoc p (.ix E n i.toNat)))))
    | .arr n E _ _, .pe E' k j p => Need (0 ≤ i ∧ i < n) (K (.plain o (.pe E' k j (snoc p (.ix E n i.toNat)))))
    | .arr n E _ _, .pf E' rows j p => Need (0 ≤ i ∧ i < n) (K (.plain o (.pf E' rows j (snoc p (.ix E n i.toNat)))))
    | _, _ => False
  | .index t x i => opd e x fun s => opd e i fun i => intOf? i fun i => match TT t with
    | .arr n E el _ => Need (0 ≤ i ∧ i < n) (follow [.ix E n i.toNat] s fun y => okT (ofType (TT el) y) (okT (isAggS s) (K (.plain o y))))
    | _ => False
  | .extract x i => opd e x fun s => match s with
    | .tup l => match nth l i with | some y => K (.plain o y) | none => False
    | _ => False
  | .call c => opds e c.args.toList fun args => match c.callee with
    | .builtin b => execBuiltin TT n o e h b c.argTypes.toList args K
    | .value f => opd e f fun s => match s with
      | .clo f caps => okT (caps.all scal) (execCall P o h f (app args caps) K)
      | _ => False
    | _ => False
  | _ => False

/-! ### Regions, code -/
def dstOf : List Oper → Nat → Option Nat
  | [], _ => none
  | o :: _, 0 => o.dst
  | _ :: r, i + 1 => dstOf r i

def Rec.skip (o : Oper) (t : Nat) : Rec := ⟨[t], [], dst1 o.dst (.tup []), [], false⟩
def Rec.seen (rc : Rec) (t : Nat) : Rec := { rc with rd := t :: rc.rd }
abbrev KT := List (Nat × SV) → List OB → List Rec → Prop
/-- One operation of a region; R is what stands behind it. -/
def stepOp (P : Program) (TT : Nat → TI) (n : Sz) (all : List Oper) (o : Oper) (R : List (Nat × SV) → List OB → List Rec → KT → Prop) (e : List (Nat × SV)) (h : List OB) (rs : List Rec) (K : KT) : Prop :=
  match inFrame n o.dst with
   | false => False
   | true => match o.guard with
    | none => xOp P TT n o e h fun rc => updK e h rc fun e h => R e h (rc :: rs) K
    | some (j, want) => match dstOf all j with
      | none => False
      | some t =>
        match lk e t with
        | some (.v (.bool b)) => Bif b
            (match want with
              | true => xOp P TT n o ((t, .v (.bool true)) :: e) h fun rc => updK ((t, .v (.bool true)) :: e) h rc fun e h => R e h (rc.seen t :: rs) K
              | false => updK ((t, .v (.bool true)) :: e) h (Rec.skip o t) fun e h => R e h (Rec.skip o t :: rs) K)
            (match want with
              | true => updK ((t, .v (.bool false)) :: e) h (Rec.skip o t) fun e h => R e h (Rec.skip o t :: rs) K
              | false => xOp P TT n o ((t, .v (.bool false)) :: e) h fun rc => updK ((t, .v (.bool false)) :: e) h rc fun e h => R e h (rc.seen t :: rs) K)
        | some (.tup []) => updK e h (Rec.skip o t) fun e h => R e h (Rec.skip o t :: rs) K
        | _ => False
/-- By the recursor itself, so that the kernel and the elaborator go one way. -/
def execOps (P : Program) (TT : Nat → TI) (n : Sz) (all l : List Oper) : List (Nat × SV) → List OB → List Rec → KT → Prop :=
  @List.rec Oper (fun _ => List (Nat × SV) → List OB → List Rec → KT → Prop) (fun e h rs K => K e h rs) (fun o _ R e h rs K => stepOp P TT n all o R e h rs K) l
theorem execOps_cons {P : Program} {TT : Nat → TI} {n : Sz} {all : List Oper} {o : Oper} {r : List Oper} {e : List (Nat × SV)} {h : List OB} {rs : List Rec} {K : KT} :
    execOps P TT n all (o :: r) e h rs K = stepOp P TT n all o (execOps P TT n all r) e h rs K := rfl

/-- The slots below T0, each once. -/
def prune (T0 : Nat) : List (Nat × SV) → List (Nat × SV) → (List (Nat × SV) → Prop) → Prop
  | [], _, K => K []
  | (t, s) :: r, seen, K => match Nat.blt t T0 with
    | true => match lk seen t with
      | some _ => prune T0 r seen K
      | none => prune T0 r ((t, s) :: seen) fun e => K ((t, s) :: e)
    | false => prune T0 r seen K

def ancs : List Oper → List Nat → List Nat      -- for each operation the bits of those that come before it
  | [], acc => acc
  | o :: r, acc => ancs r (snoc acc (o.after.toList.foldl (fun s e => if Region.binds .any e then s ||| (1 <<< e.on) ||| nthN acc e.on else s) 0))
def clash (a b : Rec) : Bool :=
  a.bar || b.bar || meets (a.wr.map Prod.fst) (app b.rd (b.wr.map Prod.fst)) || meets a.rd (b.wr.map Prod.fst) ||
  meets (a.wh.map Prod.fst) (app b.rh (b.wh.map Prod.fst)) || meets a.rh (b.wh.map Prod.fst)
def fits : List Rec → List Rec → List Nat → Nat → Bool      -- those ahead; this one and those behind
  | _, [], _, _ => true
  | ahead, b :: r, an, j => (ahead.zipIdx.all fun (a, i) => !clash a b || (nthN an j).testBit i) && fits (snoc ahead b) r an (j + 1)
/-- Every two operations that touch one thing stand in order; and edges point backward. -/
def drawOK (ops : List Oper) (recs : List Rec) : Bool :=
  fits [] recs (ancs ops []) 0 && ops.zipIdx.all fun (o, i) => o.after.toList.all fun e => !Region.binds .any e || Nat.blt e.on i

structure Base where
  n : Sz
  cx : Cx
  w : World
  keep : Nat → Prop
  kp : ∀ k, keep k → cx.bl k ≠ none
  kn : ∀ k, keep k → k < n.n0

structure SatF (B : Base) (cx : Cx) (sl : Nat → Option SV) (hp : Nat → Option OB) (a : Act) (w : World) : Prop where
  df : a.defers = []
  sz : a.tmps.size = B.n.n
  sl : ∀ t s, sl t = some s → ∃ v, a.tmps[t]? = some v ∧ RelV cx w s v
  mem : Mem cx w hp
  fr : Fr B.keep B.cx B.w cx w
def Sat (B : Base) (cx : Cx) (e : List (Nat × SV)) (h : List OB) (a : Act) (w : World) : Prop := SatF B cx (lk e) (nthB h) a w

/-- From the first state on the code runs, and it ends in this one way, in the second state. -/
def Ends (P : Program) (n : Sz) (c : Code) (e : List (Nat × SV)) (h : List OB) (x : Exit) (e' : List (Nat × SV)) (h' : List OB) : Prop :=
  ∀ (B : Base) (cx : Cx) (a : Act) (w : World) (Q : Exit → Act → World → Prop), B.n = n → Sat B cx e h a w →
    (∀ cx' a' w', Sat B cx' e' h' a' w' → Q x a' w') → c.wp P Q a w
/-- It ends in some one way that meets K. -/
def WPd (P : Program) (n : Sz) (c : Code) (e : List (Nat × SV)) (h : List OB) (K : Exit → List (Nat × SV) → List OB → Prop) : Prop :=
  ∃ x e' h', K x e' h' ∧ Ends P n c e h x e' h'
/-- A loop, left to the prover. -/
def LoopN (P : Program) (n : Sz) (c : Code) (e : List (Nat × SV)) (h : List OB) (K : Exit → List (Nat × SV) → List OB → Prop) : Prop :=
  WPd P n (.loop c) e h K

abbrev KX := Exit → List (Nat × SV) → List OB → Prop
def xRegion (P : Program) (TT : Nat → TI) (T0 : Nat) (n : Sz) (ops : Array Oper) (draw : Bool) (e : List (Nat × SV)) (h : List OB) (K : KX) : Prop :=
  prune T0 e [] fun e => execOps P TT n ops.toList ops.toList e h [] fun e' h' rs =>
      match draw with
      | false => K .normal e' h'
      | true => Need (drawOK ops.toList rs.reverse = true) (K .normal e' h')
def xSeq (A B : List (Nat × SV) → List OB → KX → Prop) (e : List (Nat × SV)) (h : List OB) (K : KX) : Prop :=
  A e h fun x e' h' => match x with | .normal => B e' h' K | x => K x e' h'
def xCond (c : Operand) (A B : List (Nat × SV) → List OB → KX → Prop) (e : List (Nat × SV)) (h : List OB) (K : KX) : Prop :=
  opd e c fun s => match s with
    | .v (.bool t) => Bif t (A e h K) (B e h K)
    | _ => False
def xBlock (id : Nat) (A : List (Nat × SV) → List OB → KX → Prop) (e : List (Nat × SV)) (h : List OB) (K : KX) : Prop :=
  A e h fun x e' h' => match x with
    | .exit i => match Nat.beq i id with | true => K .normal e' h' | false => K (.exit i) e' h'
    | x => K x e' h'
def exec (P : Program) (TT : Nat → TI) (T0 : Nat) (n : Sz) (c : Code) : List (Nat × SV) → List OB → KX → Prop :=
  @Code.rec (fun _ => List (Nat × SV) → List OB → KX → Prop)
    (fun e h K => K .normal e h)
    (fun _ ops draw e h K => xRegion P TT T0 n ops draw e h K)
    (fun _ _ A B e h K => xSeq A B e h K)
    (fun c _ _ A B e h K => xCond c A B e h K)
    (fun id _ A e h K => xBlock id A e h K)
    (fun c _ e h K => LoopN P n c e h K)
    (fun _ _ _ _ _ _ _ _ _ => False)
    (fun id e h K => K (.exit id) e h)
    (fun _ _ _ _ _ => False)
    (fun _ _ _ _ => False)
    (fun _ _ _ _ => False)
    (fun e h K => K .ret e h)
    (fun _ _ _ _ => False) c
attribute [irreducible] LoopN
end Go.Fw
