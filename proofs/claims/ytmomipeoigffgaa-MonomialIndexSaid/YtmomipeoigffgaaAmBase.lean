/- An abstract machine over immutable data and owned objects; its runs are carried over to the model's calls in AmSound. -/
import Derived.Calls
import Derived.Orders
set_option linter.unusedVariables false
set_option linter.unusedSimpArgs false
namespace Go.AM

/-- Data that nobody writes any more: one cell each. -/
inductive T where
  | bool (b : Bool)
  | int (k : IntKind) (n : Int)
  | str (s : ByteArray)
  | nilp
  | box (cs : List T) (j : Nat)
  | sl (n : Nat) (cs : List T)
  | nils
  | fn (f : FuncId)
  | nilf
  | nili
  deriving Inhabited

/-- A cell that may lead to an object of the run's own. -/
inductive C where
  | t (x : T)
  | ref (id off : Nat)
  | osl (id off len sz : Nat)
  | fn (f : FuncId) (caps : List (Nat × Nat))
  | any
  deriving Inhabited

inductive V where
  | c (x : C)
  | agg (cs : List C)
  | tup (vs : List V)
  | any
  deriving Inhabited

inductive Ob where
  | flat (fr : Bool) (cs : List T)
  | mix (fr : Bool) (cs : List C)
  | gone
  deriving Inhabited

inductive Eff where
  | push (o : Ob)
  | set (id : Nat) (o : Ob)

/-- Kinds of cells. -/
inductive CK where
  | int (k : IntKind) | bool | str | ptr | sl (sz : Nat) | fn | ifc | other
  deriving DecidableEq, Inhabited

def CK.zero : CK → T
  | .int k => .int k 0
  | .bool => .bool false
  | .str => .str ⟨#[]⟩
  | .ptr => .nilp
  | .sl _ => .nils
  | .fn => .nilf
  | _ => .nili

inductive TK where
  | slice (e : TypeId)
  | array (n : Nat) (e : TypeId)
  | struct (fs : List (Nat × TypeId))
  | ptr (e : TypeId)
  | str
  | int (k : IntKind)
  | bool
  | func
  | other
  deriving Inhabited

structure TI where
  k : TK
  size : Nat
  bytes : Nat
  cks : List CK
  deriving Inhabited

def isOther : TK → Bool | .other => true | _ => false
abbrev Tab := List TI
def Tab.at (tb : Tab) (t : TypeId) : TI := tb.getD t ⟨.other, 0, 0, []⟩
def Tab.ok (tb : Tab) (t : TypeId) : Bool := !isOther (tb.at t).k
def TI.isAgg (i : TI) : Bool := match i.k with | .array _ _ | .struct _ => true | _ => false
def TI.zeros (i : TI) : List T := i.cks.map CK.zero
def TK.isSlice : TK → Bool | .slice _ => true | _ => false
def TI.elem (i : TI) : TypeId := match i.k with | .slice e | .array _ e | .ptr e => e | _ => 0

/-! ### reading a cell by its kind -/
def gI (cs : List T) (j : Nat) : Int := match cs[j]? with | some (.int _ n) => n | _ => 0
def gB (cs : List T) (j : Nat) : Bool := match cs[j]? with | some (.bool b) => b | _ => false
def gS (cs : List T) (j : Nat) : ByteArray := match cs[j]? with | some (.str s) => s | _ => ⟨#[]⟩
def gP (cs : List T) (j : Nat) : T := (cs[j]?).getD .nilp
def gN (cs : List T) (j : Nat) : Nat := match cs[j]? with | some (.sl n _) => n | _ => 0
def gL (cs : List T) (j : Nat) : List T := match cs[j]? with | some (.sl _ l) => l | _ => []
def gF (cs : List T) (j : Nat) : FuncId := match cs[j]? with | some (.fn f) => f | _ => 0
def isI (k : IntKind) (cs : List T) (j : Nat) : Bool := match cs[j]? with | some (.int k' _) => k' == k | _ => false
def isB (cs : List T) (j : Nat) : Bool := match cs[j]? with | some (.bool _) => true | _ => false
def isS (cs : List T) (j : Nat) : Bool := match cs[j]? with | some (.str _) => true | _ => false
def isP (cs : List T) (j : Nat) : Bool := match cs[j]? with | some .nilp | some (.box _ _) => true | _ => false
def isL (cs : List T) (j : Nat) : Bool := match cs[j]? with | some (.sl _ _) | some .nils => true | _ => false
def isF (cs : List T) (j : Nat) : Bool := match cs[j]? with | some (.fn _) => true | _ => false
def CK.is : CK → List T → Nat → Bool
  | .int k => isI k
  | .bool => isB
  | .str => isS
  | .ptr => isP
  | .sl _ => isL
  | .fn => isF
  | _ => fun _ _ => false
def CK.get : CK → List T → Nat → T
  | .int k, cs, j => .int k (gI cs j)
  | .bool, cs, j => .bool (gB cs j)
  | .str, cs, j => .str (gS cs j)
  | .ptr, cs, j => gP cs j
  | .sl _, cs, j => .sl (gN cs j) (gL cs j)
  | .fn, cs, j => .fn (gF cs j)
  | _, _, _ => .nili
/-- The cells of kinds ks from place j on. -/
def getAll : List CK → List T → Nat → List C
  | [], _, _ => []
  | k :: ks, cs, j => .t (k.get cs j) :: getAll ks cs (j + 1)
def isAll : List CK → List T → Nat → Bool
  | [], _, _ => true
  | k :: ks, cs, j => k.is cs j && isAll ks cs (j + 1)
/-- A value of a type, read from T-cells. -/
def loadT (i : TI) (cs : List T) (j : Nat) : Option V :=
  if isAll i.cks cs j then
    if i.isAgg then some (.agg (getAll i.cks cs j)) else
      match i.cks with
      | [k] => some (.c (.t (k.get cs j)))
      | _ => none
  else none

def T.isNil : T → Bool | .nilp => true | _ => false
def T.isBox : T → Bool | .box _ _ => true | _ => false
def T.bCs : T → List T | .box cs _ => cs | _ => []
def T.bJ : T → Nat | .box _ j => j | _ => 0

def C.toT : C → Option T | .t x => some x | _ => none
def allT : List C → Option (List T)
  | [] => some []
  | .t x :: cs => (allT cs).map (x :: ·)
  | _ => none

/-- A value of a type, read from an object's cells. -/
def loadC (i : TI) (cs : List C) (j : Nat) : Option V :=
  if i.isAgg then (if j + i.size ≤ cs.length then some (.agg ((cs.drop j).take i.size)) else none) else
    match cs[j]? with
    | some c => some (.c c)
    | none => none

/-! ### operations -/
inductive K where
  | mv
  | pick
  | bin (op : BinOp) (t : TypeId)
  | un (op : UnOp)
  | conv (d : IntKind)
  | alloc (t : TypeId)
  | box (t : TypeId)
  | mkslice (t : TypeId) (n : Nat) (idx : List Nat)
  | make (t : TypeId)
  | load (t : TypeId)
  | store (t : TypeId)
  | iaddr (t : TypeId)
  | faddr (t : TypeId) (i : Nat)
  | mkfn (f : FuncId)
  | ext (i : Nat)
  | len (t : TypeId)
  | max
  | min
  | append (t : TypeId)
  | call (f : FuncId)
  | callv
  deriving Inhabited

inductive Md where | sync | al | low | free
  deriving DecidableEq, Inhabited

structure Ins where
  dst : Option Nat
  k : K
  xs : List Operand
  g : Option (Nat × Bool)
  m : Md
  deriving Inhabited

inductive Cd where
  | skip
  | reg (draw : Bool) (is : List Ins)
  | seq (a b : Cd)
  | cond (c : Operand) (a b : Cd)
  | block (id : Nat) (a : Cd)
  | loop (kill : List Nat) (nils : List (Nat × Nat)) (a : Cd)
  | exit (id : Nat)
  | ret
  deriving Inhabited

structure St where
  fr : List V
  H : List Ob

def cstC : Value → C
  | .bool b => .t (.bool b)
  | .int k n => .t (.int k n)
  | .string s => .t (.str s)
  | .pointer none => .t .nilp
  | .slice none 0 0 => .t .nils
  | .nilFunc => .t .nilf
  | .nilIface => .t .nili
  | _ => .any
def cstOk : Value → Bool
  | .bool _ | .int _ _ | .string _ | .pointer none | .slice none 0 0 | .nilFunc | .nilIface => true
  | _ => false
def cst (v : Value) : V :=
  if cstOk v then .c (cstC v) else
    match v with
    | .tuple ⟨[]⟩ => .tup []
    | .agg us => if us.toList.all cstOk then .agg (us.toList.map cstC) else .any
    | _ => .any

def ev (fr : List V) : Operand → V
  | .tmp t => fr.getD t .any
  | .const v => cst v
  | .func f => .c (.t (.fn f))
  | .global _ => .any

/-- A part of a row's cells. -/
def sub (cs : List T) (off n : Nat) : List T := (cs.drop off).take n

/-- A cell made immutable. -/
def frzC (get : Nat → Option Ob) : C → Option (T × List Eff)
  | .t x => some (x, [])
  | .osl id off len sz =>
    match get id with
    | some (.flat true cs) => some (.sl len (sub cs off (len * sz)), [])
    | some (.flat false cs) => some (.sl len (sub cs off (len * sz)), [.set id (.flat true cs)])
    | _ => none
  | .ref id off =>
    match get id with
    | some (.flat true cs) => some (.box cs off, [])
    | some (.flat false cs) => some (.box cs off, [.set id (.flat true cs)])
    | some (.mix true cs) => (allT cs).map fun ts => (.box ts off, [])
    | some (.mix false cs) => (allT cs).map fun ts => (.box ts off, [.set id (.mix true cs)])
    | _ => none
  | .fn f [] => some (.fn f, [])
  | .fn _ _ => none
  | .any => none
def frzCs (get : Nat → Option Ob) : List C → Option (List T × List Eff)
  | [] => some ([], [])
  | c :: cs =>
    match frzC get c with
    | none => none
    | some (x, es) => match frzCs get cs with
      | none => none
      | some (xs, fs) => some (x :: xs, es ++ fs)
def frzV (get : Nat → Option Ob) : V → Option (V × List Eff)
  | .c x => (frzC get x).map fun (y, es) => (.c (.t y), es)
  | .agg cs => (frzCs get cs).map fun (ys, es) => (.agg (ys.map .t), es)
  | .any => some (.any, [])
  | .tup _ => none
def frzVs (get : Nat → Option Ob) : List V → Option (List V × List Eff)
  | [] => some ([], [])
  | c :: cs =>
    match frzV get c with
    | none => none
    | some (x, es) => match frzVs get cs with
      | none => none
      | some (xs, fs) => some (x :: xs, es ++ fs)
/-- A value's cells, made immutable. -/
def cellsT (get : Nat → Option Ob) : V → Option (List T × List Eff)
  | .c x => (frzC get x).map fun (y, es) => ([y], es)
  | .agg cs => frzCs get cs
  | _ => none
def cellsC : V → Option (List C)
  | .c x => some [x]
  | .agg cs => some cs
  | _ => none

def Orc := FuncId → List V → List Ob → Option (V × List Ob)

def one (x : T) : Option (V × List Eff) := some (.c (.t x), [])

def cmp (op : BinOp) (a b : Int) : Option Bool :=
  match op with
  | .eql => some (a == b)
  | .neq => some (a != b)
  | .lss => some (decide (a < b))
  | .leq => some (decide (a ≤ b))
  | .gtr => some (decide (a > b))
  | .geq => some (decide (a ≥ b))
  | _ => none

def bits (k : IntKind) (f : BitVec k.bits → BitVec k.bits → BitVec k.bits) (a b : Int) : Int :=
  k.wrap (f (BitVec.ofInt k.bits a) (BitVec.ofInt k.bits b)).toNat

def binI (op : BinOp) (k : IntKind) (a b : Int) : Option T :=
  match op with
  | .add => some (.int k (k.wrap (a + b)))
  | .sub => some (.int k (k.wrap (a - b)))
  | .mul => some (.int k (k.wrap (a * b)))
  | .quo => if b = 0 then none else some (.int k (k.wrap (a.tdiv b)))
  | .rem => if b = 0 then none else some (.int k (a.tmod b))
  | .and => some (.int k (bits k (· &&& ·) a b))
  | .or => some (.int k (bits k (· ||| ·) a b))
  | .xor => some (.int k (bits k (· ^^^ ·) a b))
  | .andNot => some (.int k (bits k (fun x y => x &&& ~~~y) a b))
  | .shl | .shr => none
  | op => (cmp op a b).map .bool

def binS (op : BinOp) (k : IntKind) (a b : Int) : Option T :=
  if b < 0 then none else
    match op with
    | .shl => some (.int k (k.wrap (a * 2 ^ min b.toNat k.bits)))
    | .shr => some (.int k (a.fdiv (2 ^ min b.toNat k.bits)))
    | _ => none

def BinOp.shifts : BinOp → Bool | .shl | .shr => true | _ => false

def T.isPtr : T → Bool | .nilp | .box _ _ => true | _ => false
def bin (k : TK) (op : BinOp) (x y : T) : Option T :=
  match x, y with
  | .int k a, .int k' b => if BinOp.shifts op then binS op k a b else if k = k' then binI op k a b else none
  | .bool a, .bool b =>
    match k, op with
    | .bool, .eql => some (.bool (a == b))
    | .bool, .neq => some (.bool (!(a == b)))
    | _, _ => none
  | .str a, .str b =>
    match op with
    | .eql => some (.bool (a.toList == b.toList))
    | .neq => some (.bool (!(a.toList == b.toList)))
    | .add => if a.size + b.size ≤ 9223372036854775807 then some (.str (a ++ b)) else none
    | _ => none
  | p, .nilp =>
    match k, op with
    | .ptr _, .eql => if p.isPtr then some (.bool p.isNil) else none
    | .ptr _, .neq => if p.isPtr then some (.bool (!p.isNil)) else none
    | _, _ => none
  | _, _ => none

def slot? : Option Ob → Option (List T)
  | some (.flat _ cs) => some cs
  | _ => none

/-- The cells that a slice shows. -/
def rowOf (get : Nat → Option Ob) : V → Option (Nat × List T)
  | .c (.t .nils) => some (0, [])
  | .c (.t (.sl n cs)) => some (n, cs)
  | .c (.osl id off len sz) => (slot? (get id)).map fun cs => (len, sub cs off (len * sz))
  | _ => none

def putCells {α : Type} (cs : List α) (j : Nat) (xs : List α) : List α :=
  match xs with
  | [] => cs
  | x :: xs => putCells (cs.set j x) (j + 1) xs

def zeroRow (i : TI) (n : Nat) : List T := match i.zeros with | [z] => List.replicate n z | zs => (List.replicate n zs).flatten

/-- Cells of a literal: the parts that are given, in order of their places; the others are zero. -/
def lit (get : Nat → Option Ob) (zs : List T) : List Nat → List V → List T → Option (List T × List Eff)
  | [], [], acc => some (acc, [])
  | i :: is, v :: vs, acc =>
    match cellsT get v with
    | none => none
    | some (ts, es) =>
      if ts.length = zs.length ∧ i * zs.length + zs.length ≤ acc.length then
        match lit get zs is vs (putCells acc (i * zs.length) ts) with
        | none => none
        | some (r, fs) => some (r, es ++ fs)
      else none
  | _, _, _ => none

/-! ### objects renumbered -/
def pos : List Nat → Nat → Option Nat
  | [], _ => none
  | i :: is, x => if i = x then some 0 else (pos is x).map (· + 1)

def renP (f : Nat → Option Nat) : List (Nat × Nat) → Option (List (Nat × Nat))
  | [] => some []
  | (id, off) :: l => match f id, renP f l with
    | some j, some l => some ((j, off) :: l)
    | _, _ => none
def renC (f : Nat → Option Nat) : C → C
  | .t x => .t x
  | .ref id off => match f id with | some j => .ref j off | none => .any
  | .osl id off len sz => match f id with | some j => .osl j off len sz | none => .any
  | .fn g caps => match renP f caps with | some l => .fn g l | none => .any
  | .any => .any
def renV1 (f : Nat → Option Nat) : V → V
  | .c x => .c (renC f x)
  | .agg cs => .agg (cs.map (renC f))
  | .tup [] => .tup []
  | _ => .any
def renV (f : Nat → Option Nat) : V → V
  | .tup vs => .tup (vs.map (renV1 f))
  | v => renV1 f v
def renO (f : Nat → Option Nat) : Ob → Ob
  | .mix fr cs => .mix fr (cs.map (renC f))
  | o => o

def idsC : C → List Nat
  | .ref id _ => [id]
  | .osl id _ _ _ => [id]
  | .fn _ caps => caps.map (·.1)
  | _ => []
def idsV1 : V → List Nat
  | .c x => idsC x
  | .agg cs => cs.flatMap idsC
  | _ => []
def idsV : V → List Nat
  | .tup vs => vs.flatMap idsV1
  | v => idsV1 v
def idsO : Option Ob → List Nat
  | some (.mix _ cs) => cs.flatMap idsC
  | _ => []
/-- What is reached, each once, in the order in which it is met. -/
def reach (get : Nat → Option Ob) : Nat → List Nat → List Nat → List Nat
  | 0, _, acc => acc
  | _ + 1, [], acc => acc
  | n + 1, i :: todo, acc =>
    match pos acc i with
    | some _ => reach get n todo acc
    | none => reach get n (todo ++ idsO (get i)) (acc ++ [i])

def getAllO (get : Nat → Option Ob) : List Nat → Option (List Ob)
  | [] => some []
  | i :: is => match get i, getAllO get is with
    | some o, some l => some (o :: l)
    | _, _ => none

def depth : Nat := 200

/-- The number, in the caller, of object j of the callee. -/
def back (live : List Nat) (nx : Nat) (j : Nat) : Option Nat := if j < live.length then live[j]? else some (nx + (j - live.length))
def sets (f : Nat → Option Nat) : List Nat → List Ob → List Eff
  | i :: is, o :: os => .set i (renO f o) :: sets f is os
  | [], os => os.map fun o => .push (renO f o)
  | _, [] => []

def callF (imp : FuncId → Bool) (orc : Orc) (get : Nat → Option Ob) (nx : Nat) (f : FuncId) (vs : List V) : Option (V × List Eff) :=
  if imp f then
    let live := reach get depth (vs.flatMap idsV) []
    match getAllO get live with
    | none => none
    | some os =>
      match orc f (vs.map (renV (pos live))) (os.map (renO (pos live))) with
      | none => none
      | some (r, os') => if live.length ≤ os'.length then some (renV (back live nx) r, sets (back live nx) live os') else none
  else
    match frzVs get vs with
    | none => none
    | some (us, es) =>
      match orc f us [] with
      | some (r, []) => some (r, es)
      | _ => none

/-- Nil slices of an object become slices of objects that are empty: the cells, and how many objects. -/
def nilsOf (nx : Nat) : List CK → List C → List C × Nat
  | .sl sz :: ks, .t .nils :: cs =>
    let r := nilsOf (nx + 1) ks cs
    (.osl nx 0 0 sz :: r.1, r.2 + 1)
  | _ :: ks, c :: cs =>
    let r := nilsOf nx ks cs
    (c :: r.1, r.2)
  | _, cs => (cs, 0)
def phants (n : Nat) : List Eff := List.replicate n (.push (.flat false []))

def noSet (id : Nat) : List Eff → Bool
  | [] => true
  | .set j _ :: es => !(j == id) && noSet id es
  | _ :: es => noSet id es

def capsOf : List V → Option (List (Nat × Nat))
  | [] => some []
  | .c (.ref id off) :: vs => (capsOf vs).map ((id, off) :: ·)
  | _ => none

abbrev Out := Option (V × List Eff)

def sMv : List V → Out
  | [v] => some (v, [])
  | _ => none
def sPick : List V → Out
  | [.c (.t (.bool c)), a, b] => some (if c then a else b, [])
  | _ => none
def sBin (k : TK) (op : BinOp) : List V → Out
  | [.c (.t x), .c (.t y)] => match bin k op x y with | some r => some (.c (.t r), []) | none => none
  | _ => none
def sNot : List V → Out
  | [.c (.t (.bool b))] => some (.c (.t (.bool (!b))), [])
  | _ => none
def sNeg : List V → Out
  | [.c (.t (.int k n))] => some (.c (.t (.int k (k.wrap (0 - n)))), [])
  | _ => none
def sConv (d : IntKind) : List V → Out
  | [.c (.t (.int _ n))] => some (.c (.t (.int d (d.wrap n))), [])
  | _ => none
def sAlloc (i : TI) (nx : Nat) : List V → Out
  | [] => if isOther i.k then none else
    some (.c (.ref (nx + (nilsOf nx i.cks (i.zeros.map .t)).2) 0), phants (nilsOf nx i.cks (i.zeros.map .t)).2 ++ [.push (.mix false (nilsOf nx i.cks (i.zeros.map .t)).1)])
  | _ => none
def sBox (i : TI) (nx : Nat) : List V → Out
  | [v] =>
    match cellsC v with
    | none => none
    | some cs => some (.c (.ref (nx + (nilsOf nx i.cks cs).2) 0), phants (nilsOf nx i.cks cs).2 ++ [.push (.mix false (nilsOf nx i.cks cs).1)])
  | _ => none
def sMkslice (own : Bool) (get : Nat → Option Ob) (nx : Nat) (sl : Bool) (i : TI) (n : Nat) (idx : List Nat) (vs : List V) : Out :=
  if sl && !isOther i.k && decide (n * i.size ≤ 16777216) then
    match lit get i.zeros idx vs (zeroRow i n) with
    | none => none
    | some (cs, es) => if own then some (.c (.osl nx 0 n i.size), es ++ [.push (.flat false cs)]) else some (.c (.t (.sl n cs)), es)
  else none
def sMake (nx : Nat) (sl : Bool) (i : TI) : List V → Out
  | [.c (.t (.int .i64 l)), .c (.t (.int .i64 c))] =>
    if sl && !isOther i.k then
      if 0 ≤ l ∧ l ≤ c ∧ c * i.bytes ≤ 281474976710656 ∧ c ≤ 281474976710656 then some (.c (.osl nx 0 l.toNat i.size), [.push (.flat false (zeroRow i l.toNat))]) else none
    else none
  | _ => none
def sLoad (get : Nat → Option Ob) (i : TI) (vs : List V) : Out :=
  if isOther i.k then none else
    match vs with
    | [.c (.t p)] => if p.isBox then (match loadT i p.bCs p.bJ with | some v => some (v, []) | none => none) else none
    | [.c (.ref id off)] =>
      match get id with
      | some (.flat _ cs) => (match loadT i cs off with | some v => some (v, []) | none => none)
      | some (.mix _ cs) => (match loadC i cs off with | some v => some (v, []) | none => none)
      | _ => none
    | _ => none
def sStore (get : Nat → Option Ob) (nx : Nat) (i : TI) (vs : List V) : Out :=
  if isOther i.k then none else
    match vs with
    | [.c (.ref id off), v] =>
      match get id with
      | some (.flat false cs) =>
        match cellsT get v with
        | some (xs, es) => if noSet id es = true ∧ (xs.length = i.size ∧ 1 ≤ xs.length) ∧ off + xs.length ≤ cs.length then some (.tup [], es ++ [.set id (.flat false (putCells cs off xs))]) else none
        | none => none
      | some (.mix false cs) =>
        match cellsC v with
        | some xs =>
          if (xs.length = i.size ∧ 1 ≤ xs.length) ∧ off + xs.length ≤ cs.length then some (.tup [], phants (nilsOf nx i.cks xs).2 ++ [.set id (.mix false (putCells cs off (nilsOf nx i.cks xs).1))]) else none
        | none => none
      | _ => none
    | _ => none
def sIaddr (tb : Tab) (k : TK) : List V → Out
  | [x, .c (.t (.int _ i))] =>
    match k, x with
    | .slice e, .c (.t (.sl n cs)) => if tb.ok e then (if 0 ≤ i ∧ i < n then some (.c (.t (.box cs (i.toNat * (tb.at e).size))), []) else none) else none
    | .slice e, .c (.osl id off len sz) => if tb.ok e && decide (sz = (tb.at e).size) then (if 0 ≤ i ∧ i < len then some (.c (.ref id (off + i.toNat * sz)), []) else none) else none
    | .array n e, .c (.ref id off) => if tb.ok e && decide (2 ≤ n) then (if 0 ≤ i ∧ i < n then some (.c (.ref id (off + i.toNat * (tb.at e).size)), []) else none) else none
    | _, _ => none
  | _ => none
def sMkfn (f : FuncId) (vs : List V) : Out := match capsOf vs with | some l => some (.c (.fn f l), []) | none => none
def sExt (i : Nat) : List V → Out
  | [.tup vs] => match vs[i]? with | some v => some (v, []) | none => none
  | _ => none
def sLen (k : TK) : List V → Out
  | [x] =>
    match k, x with
    | .slice _, .c (.t .nils) => some (.c (.t (.int .i64 0)), [])
    | .slice _, .c (.t (.sl n _)) => some (.c (.t (.int .i64 n)), [])
    | .slice _, .c (.osl _ _ n _) => some (.c (.t (.int .i64 n)), [])
    | .str, .c (.t (.str s)) => some (.c (.t (.int .i64 s.size)), [])
    | .array n _, _ => some (.c (.t (.int .i64 n)), [])
    | _, _ => none
  | _ => none
def sMax : List V → Out
  | [.c (.t (.int k a)), .c (.t (.int _ b))] => some (.c (.t (.int k (if b > a then b else a))), [])
  | _ => none
def sMin : List V → Out
  | [.c (.t (.int k a)), .c (.t (.int _ b))] => some (.c (.t (.int k (if b < a then b else a))), [])
  | _ => none
def sAppend (get : Nat → Option Ob) (nx : Nat) (sl : Bool) (i : TI) : List V → Out
  | [s, x] =>
    if sl && !isOther i.k && decide (1 ≤ i.bytes) then
      match rowOf get x with
      | none => none
      | some (m, new) =>
        match s with
        | .c (.t .nils) => if new.length = m * i.size ∧ m * i.bytes ≤ 140737488355328 then some (.c (.osl nx 0 m i.size), [.push (.flat false new)]) else none
        | .c (.osl id off len sz) =>
          match get id with
          | some (.flat false cs) =>
            if sz = i.size then
              if new.length = m * i.size ∧ off + len * i.size ≤ cs.length ∧ (len + m) * i.bytes ≤ 140737488355328 then
                some (.c (.osl nx 0 (len + m) i.size), [.set id .gone, .push (.flat false (sub cs off (len * i.size) ++ new))]) else none
            else none
          | _ => none
        | _ => none
    else none
  | _ => none
def sCallv (imp : FuncId → Bool) (orc : Orc) (get : Nat → Option Ob) (nx : Nat) : List V → Out
  | .c (.t (.fn f)) :: vs => callF imp orc get nx f vs
  | .c (.fn f caps) :: vs => callF imp orc get nx f (vs ++ caps.map fun p => V.c (.ref p.1 p.2))
  | _ => none

def step (tb : Tab) (imp : FuncId → Bool) (orc : Orc) (own : Bool) (get : Nat → Option Ob) (nx : Nat) (k : K) (vs : List V) : Out :=
  match k with
  | .mv => sMv vs
  | .pick => sPick vs
  | .bin op t => sBin (tb.at t).k op vs
  | .un .not => sNot vs
  | .un .neg => sNeg vs
  | .un _ => none
  | .conv d => sConv d vs
  | .alloc t => sAlloc (tb.at t) nx vs
  | .box t => sBox (tb.at t) nx vs
  | .mkslice t n idx => sMkslice own get nx (tb.at t).k.isSlice (tb.at (tb.at t).elem) n idx vs
  | .make t => sMake nx (tb.at t).k.isSlice (tb.at (tb.at t).elem) vs
  | .load t => sLoad get (tb.at t) vs
  | .store t => sStore get nx (tb.at t) vs
  | .iaddr t => sIaddr tb (tb.at t).k vs
  | .faddr _ _ => none
  | .mkfn f => sMkfn f vs
  | .ext i => sExt i vs
  | .len t => sLen (tb.at t).k vs
  | .max => sMax vs
  | .min => sMin vs
  | .append t => sAppend get nx (tb.at t).k.isSlice (tb.at (tb.at t).elem) vs
  | .call f => callF imp orc get nx f vs
  | .callv => sCallv imp orc get nx vs

/-! ### runs -/
def getM (m : Md) (L0 : Nat) (H : List Ob) (id : Nat) : Option Ob :=
  match m with
  | .sync | .al => H[id]?
  | .low => if id < L0 then H[id]? else none
  | .free => none
def Md.own : Md → Bool | .sync | .al => true | _ => false
def Md.nx (m : Md) (n : Nat) : Nat := match m with | .sync | .al => n | _ => 0
def applyE (m : Md) (L0 : Nat) : List Eff → List Ob → Option (List Ob)
  | [], H => some H
  | .push o :: es, H => if m.own then applyE m L0 es (H ++ [o]) else none
  | .set id o :: es, H =>
    match m with
    | .sync => applyE m L0 es (H.set id o)
    | .al => if L0 ≤ id then applyE m L0 es (H.set id o) else none
    | _ => none

def put (fr : List V) (d : Option Nat) (v : V) : List V := match d with | some d => fr.set d v | none => fr

structure Env where
  tb : Tab
  imp : FuncId → Bool
  orc : Orc
  m : Nat

def doIns (E : Env) (L0 : Nat) (i : Ins) (s : St) : Option St :=
  match step E.tb E.imp E.orc i.m.own (getM i.m L0 s.H) (i.m.nx s.H.length) i.k (i.xs.map (ev s.fr)) with
  | none => none
  | some (v, es) =>
    match applyE i.m L0 es s.H with
    | none => none
    | some H => some ⟨put s.fr i.dst v, H⟩

def skipIns (i : Ins) (s : St) : Option St := some ⟨put s.fr i.dst (.tup []), s.H⟩

def stepIns (E : Env) (L0 : Nat) (i : Ins) (s : St) : Option St :=
  match i.g with
  | none => doIns E L0 i s
  | some (g, want) =>
    match s.fr.getD g .any with
    | .c (.t (.bool b)) => if b = want then doIns E L0 i s else skipIns i s
    | .tup [] => skipIns i s
    | _ => none

def runIs (E : Env) (L0 : Nat) : List Ins → St → Option St
  | [], s => some s
  | i :: is, s => (stepIns E L0 i s).bind (runIs E L0 is)

inductive Ex where | norm | exit (id : Nat) | ret

def killed (kill : List Nat) (fr : List V) : List V := kill.foldl (fun f t => f.set t .any) fr

def pack (m : Nat) (fr : List V) (H : List Ob) : St :=
  let live := reach (H[·]?) depth ((List.range m).flatMap (fun i => idsO H[i]?) ++ fr.flatMap idsV) (List.range m)
  ⟨fr.map (renV (pos live)), live.map fun i => renO (pos live) ((H[i]?).getD .gone)⟩

/-- What a loop's round begins with. -/
def norm (m : Nat) (kill : List Nat) (nils : List (Nat × Nat)) (s : St) : St :=
  let fr := killed kill s.fr
  let s := nils.foldl (fun (s : St) p => match s.fr.getD p.1 .any with
    | .c (.t .nils) => ⟨s.fr.set p.1 (.c (.osl s.H.length 0 0 p.2)), s.H ++ [.flat false []]⟩
    | _ => s) ⟨fr, s.H⟩
  pack m s.fr s.H

def loopN {R : Type} (m : Nat) (kill : List Nat) (nils : List (Nat × Nat)) (body : St → (Ex → St → Option R) → Option R) (k : Ex → St → Option R) : Nat → St → Option R
  | 0, _ => none
  | n + 1, s => body (norm m kill nils s) fun e s' => match e with | .norm => loopN m kill nils body k n s' | e => k e s'

def exec {R : Type} (E : Env) (n : Nat) : Cd → St → (Ex → St → Option R) → Option R
  | .skip, s, k => k .norm s
  | .reg _ is, s, k => (runIs E s.H.length is s).bind (k .norm)
  | .seq a b, s, k => exec E n a s fun e s' => match e with | .norm => exec E n b s' k | e => k e s'
  | .cond c a b, s, k =>
    match ev s.fr c with
    | .c (.t (.bool t)) => if t then exec E n a s k else exec E n b s k
    | _ => none
  | .block id a, s, k => exec E n a s fun e s' => match e with | .exit j => if j = id then k .norm s' else k (.exit j) s' | e => k e s'
  | .loop kl ns a, s, k => loopN E.m kl ns (exec E n a) k n s
  | .exit id, s, k => k (.exit id) s
  | .ret, s, k => k .ret s

structure Fun where
  ntmps : Nat
  results : List Nat
  body : Cd

def result (rs : List Nat) (fr : List V) : V :=
  match rs with
  | [r] => fr.getD r .any
  | rs => .tup (rs.map fun r => fr.getD r .any)

def frzR (get : Nat → Option Ob) : V → Option V
  | .tup vs => (frzVs get vs).map fun p => .tup p.1
  | v => (frzV get v).map fun p => p.1

/-- A call ends: what it hands back, and what its caller's objects then hold. -/
def finish (imp : Bool) (m : Nat) (fd : Fun) (s : St) : Option (V × List Ob) :=
  let r := result fd.results s.fr
  if imp then
    let live := reach (s.H[·]?) depth ((List.range m).flatMap (fun i => idsO s.H[i]?) ++ idsV r) (List.range m)
    some (renV (pos live) r, live.map fun i => renO (pos live) ((s.H[i]?).getD .gone))
  else (frzR (s.H[·]?) r).map fun v => (v, [])

def look (f : FuncId) : List (FuncId × Fun) → Option Fun
  | [] => none
  | (g, x) :: l => if g = f then some x else look f l

structure Pg where
  tb : Tab
  imp : FuncId → Bool
  fn : FuncId → Option Fun

def pcall (G : Pg) : Nat → Orc
  | 0 => fun _ _ _ => none
  | n + 1 => fun f vs H =>
    match G.fn f with
    | none => none
    | some fd => exec ⟨G.tb, G.imp, pcall G n, H.length⟩ n fd.body ⟨vs ++ List.replicate (fd.ntmps - vs.length) (.tup []), H⟩ fun e s =>
      match e with
      | .norm | .ret => finish (G.imp f) H.length fd s
      | _ => none

end Go.AM
