import Derived.Calls
import Derived.Orders
import Derived.Laws.World
import Derived.Laws.Sem
import Derived.DataElems
import Derived.WalkKit
import Derived.Laws.Small
import Derived.Laws.AppendOwn
import Derived.Laws.MakeOwn
set_option linter.unusedVariables false
set_option linter.unusedSimpArgs false
set_option linter.defProp false
namespace Go.AM
inductive T where
  | bool (b : Bool)
  | int (k : IntKind) (n : Int)
  | str (s : ByteArray)
  | nilp
  | box (cs : List T) (j : Nat)
  | sl (n : Nat) (cs : List T)
  | nils
  | fn (f : FuncId)
  | nilf
  | nili
  deriving Inhabited
inductive C where
  | t (x : T)
  | ref (id off : Nat)
  | osl (id off len sz : Nat)
  | fn (f : FuncId) (caps : List (Nat × Nat))
  | any
  deriving Inhabited
inductive V where
  | c (x : C)
  | agg (cs : List C)
  | tup (vs : List V)
  | any
  | own (cs : List C)
  | oref (s off : Nat)
  deriving Inhabited
def V.isO : V → Bool
  | .own _ => true
  | .oref _ _ => true
  | .c _ => false
  | .agg _ => false
  | .tup _ => false
  | .any => false
inductive Ob where
  | flat (fr : Bool) (cs : List T)
  | mix (fr : Bool) (cs : List C)
  | gone
  deriving Inhabited
inductive Eff where
  | push (o : Ob)
  | set (id : Nat) (o : Ob)
inductive CK where
  | int (k : IntKind) | bool | str | ptr | sl (sz : Nat) | fn | ifc | other
  deriving DecidableEq, Inhabited
def CK.zero : CK → T
  | .int k => .int k 0
  | .bool => .bool false
  | .str => .str ⟨#[]⟩
  | .ptr => .nilp
  | .sl _ => .nils
  | .fn => .nilf
  | _ => .nili
inductive TK where
  | slice (e : TypeId)
  | array (n : Nat) (e : TypeId)
  | struct (fs : List (Nat × TypeId))
  | ptr (e : TypeId)
  | str
  | int (k : IntKind)
  | bool
  | func
  | other
  deriving Inhabited
structure TI where
  k : TK
  size : Nat
  bytes : Nat
  cks : List CK
  deriving Inhabited
def isOther : TK → Bool | .other => true | _ => false
abbrev Tab := List TI
def Tab.at (tb : Tab) (t : TypeId) : TI := tb.getD t ⟨.other, 0, 0, []⟩
def Tab.ok (tb : Tab) (t : TypeId) : Bool := !isOther (tb.at t).k
def TI.isAgg (i : TI) : Bool := match i.k with | .array _ _ | .struct _ => true | _ => false
def TI.zeros (i : TI) : List T := i.cks.map CK.zero
def TK.isSlice : TK → Bool | .slice _ => true | _ => false
def TI.elem (i : TI) : TypeId := match i.k with | .slice e | .array _ e | .ptr e => e | _ => 0
def gI (cs : List T) (j : Nat) : Int := match cs[j]? with | some (.int _ n) => n | _ => 0
def gB (cs : List T) (j : Nat) : Bool := match cs[j]? with | some (.bool b) => b | _ => false
def gS (cs : List T) (j : Nat) : ByteArray := match cs[j]? with | some (.str s) => s | _ => ⟨#[]⟩
def gP (cs : List T) (j : Nat) : T := (cs[j]?).getD .nilp
def gN (cs : List T) (j : Nat) : Nat := match cs[j]? with | some (.sl n _) => n | _ => 0
def gL (cs : List T) (j : Nat) : List T := match cs[j]? with | some (.sl _ l) => l | _ => []
def gF (cs : List T) (j : Nat) : FuncId := match cs[j]? with | some (.fn f) => f | _ => 0
def isI (k : IntKind) (cs : List T) (j : Nat) : Bool := match cs[j]? with | some (.int k' _) => k' == k | _ => false
def isB (cs : List T) (j : Nat) : Bool := match cs[j]? with | some (.bool _) => true | _ => false
def isS (cs : List T) (j : Nat) : Bool := match cs[j]? with | some (.str _) => true | _ => false
def isP (cs : List T) (j : Nat) : Bool := match cs[j]? with | some .nilp | some (.box _ _) => true | _ => false
def isL (cs : List T) (j : Nat) : Bool := match cs[j]? with | some (.sl _ _) | some .nils => true | _ => false
def isF (cs : List T) (j : Nat) : Bool := match cs[j]? with | some (.fn _) => true | _ => false
def CK.is : CK → List T → Nat → Bool
  | .int k => isI k
  | .bool => isB
  | .str => isS
  | .ptr => isP
  | .sl _ => isL
  | .fn => isF
  | _ => fun _ _ => false
def CK.get : CK → List T → Nat → T
  | .int k, cs, j => .int k (gI cs j)
  | .bool, cs, j => .bool (gB cs j)
  | .str, cs, j => .str (gS cs j)
  | .ptr, cs, j => gP cs j
  | .sl _, cs, j => .sl (gN cs j) (gL cs j)
  | .fn, cs, j => .fn (gF cs j)
  | _, _, _ => .nili
def getAll : List CK → List T → Nat → List C
  | [], _, _ => []
  | k :: ks, cs, j => .t (k.get cs j) :: getAll ks cs (j + 1)
def isAll : List CK → List T → Nat → Bool
  | [], _, _ => true
  | k :: ks, cs, j => k.is cs j && isAll ks cs (j + 1)
def loadT (i : TI) (cs : List T) (j : Nat) : Option V :=
  if isAll i.cks cs j then
    if i.isAgg then some (.agg (getAll i.cks cs j)) else
      match i.cks with
      | [k] => some (.c (.t (k.get cs j)))
      | _ => none
  else none
def T.isNil : T → Bool | .nilp => true | _ => false
def T.isBox : T → Bool | .box _ _ => true | _ => false
def T.bCs : T → List T | .box cs _ => cs | _ => []
def T.bJ : T → Nat | .box _ j => j | _ => 0
def C.toT : C → Option T | .t x => some x | _ => none
def allT : List C → Option (List T)
  | [] => some []
  | .t x :: cs => (allT cs).map (x :: ·)
  | _ => none
def loadC (i : TI) (cs : List C) (j : Nat) : Option V :=
  if i.isAgg then (if j + i.size ≤ cs.length then some (.agg ((cs.drop j).take i.size)) else none) else
    match cs[j]? with
    | some c => some (.c c)
    | none => none
inductive K where
  | mv
  | pick
  | bin (op : BinOp) (t : TypeId)
  | un (op : UnOp)
  | conv (d : IntKind)
  | alloc (t : TypeId)
  | box (t : TypeId)
  | mkslice (t : TypeId) (n : Nat) (idx : List Nat)
  | make (t : TypeId)
  | load (t : TypeId)
  | store (t : TypeId)
  | iaddr (t : TypeId)
  | faddr (t : TypeId) (i : Nat)
  | mkfn (f : FuncId)
  | ext (i : Nat)
  | len (t : TypeId)
  | max
  | min
  | append (t : TypeId)
  | index (t : TypeId)
  | field (t : TypeId) (i : Nat)
  | build (t : TypeId) (idx : List Nat)
  | nilck
  | slice (t : TypeId) (lo hi : Bool)
  | copy (t : TypeId)
  | b2s
  | bad
  | obox (t : TypeId)
  | oalloc (t : TypeId)
  | ofaddr (t : TypeId) (i z s : Nat)
  | oload (t : TypeId) (z s : Nat)
  | ostore (t : TypeId) (z s : Nat)
  | call (f : FuncId)
  | callv
  deriving Inhabited
inductive Md where | sync | al | low | free
  deriving DecidableEq, Inhabited
structure Ins where
  dst : Option Nat
  k : K
  xs : List Operand
  g : Option (Nat × Bool)
  m : Md
  deriving Inhabited
inductive Cd where
  | skip
  | reg (draw : Bool) (is : List Ins)
  | seq (a b : Cd)
  | cond (c : Operand) (a b : Cd)
  | block (id : Nat) (a : Cd)
  | loop (kill : List Nat) (nils : List (Nat × Nat)) (a : Cd)
  | exit (id : Nat)
  | ret
  deriving Inhabited
structure St where
  fr : List V
  H : List Ob
def cstC : Value → C
  | .bool b => .t (.bool b)
  | .int k n => .t (.int k n)
  | .string s => .t (.str s)
  | .pointer none => .t .nilp
  | .slice none 0 0 => .t .nils
  | .nilFunc => .t .nilf
  | .nilIface => .t .nili
  | _ => .any
def cstOk : Value → Bool
  | .bool _ | .int _ _ | .string _ | .pointer none | .slice none 0 0 | .nilFunc | .nilIface => true
  | _ => false
def cst (v : Value) : V :=
  if cstOk v then .c (cstC v) else
    match v with
    | .tuple ⟨[]⟩ => .tup []
    | .agg us => if us.toList.all cstOk then .agg (us.toList.map cstC) else .any
    | _ => .any
def ev (fr : List V) : Operand → V
  | .tmp t => fr.getD t .any
  | .const v => cst v
  | .func f => .c (.t (.fn f))
  | .global _ => .any
def sub (cs : List T) (off n : Nat) : List T := (cs.drop off).take n
def T.wk : T → T
  | .nils => .sl 0 []
  | .bool b => .bool b
  | .int k n => .int k n
  | .str s => .str s
  | .nilp => .nilp
  | .box cs j => .box cs j
  | .sl n cs => .sl n cs
  | .fn f => .fn f
  | .nilf => .nilf
  | .nili => .nili
def frzC (get : Nat → Option Ob) : C → Option (T × List Eff)
  | .t x => some (x.wk, [])
  | .osl id off len sz =>
    match get id with
    | some (.flat true cs) => some (.sl len (sub cs off (len * sz)), [])
    | some (.flat false cs) => some (.sl len (sub cs off (len * sz)), [.set id (.flat true cs)])
    | _ => none
  | .ref id off =>
    match get id with
    | some (.flat true cs) => some (.box cs off, [])
    | some (.flat false cs) => some (.box cs off, [.set id (.flat true cs)])
    | some (.mix true cs) => (allT cs).map fun ts => (.box ts off, [])
    | some (.mix false cs) => (allT cs).map fun ts => (.box ts off, [.set id (.mix true cs)])
    | _ => none
  | .fn f [] => some (.fn f, [])
  | .fn _ _ => none
  | .any => none
def frzCs (get : Nat → Option Ob) : List C → Option (List T × List Eff)
  | [] => some ([], [])
  | c :: cs =>
    match frzC get c with
    | none => none
    | some (x, es) => match frzCs get cs with
      | none => none
      | some (xs, fs) => some (x :: xs, es ++ fs)
def frzV (get : Nat → Option Ob) : V → Option (V × List Eff)
  | .c x => (frzC get x).map fun (y, es) => (.c (.t y), es)
  | .agg cs => (frzCs get cs).map fun (ys, es) => (.agg (ys.map .t), es)
  | .any => some (.any, [])
  | .tup _ => none
  | .own _ => none
  | .oref _ _ => none
def frzVs (get : Nat → Option Ob) : List V → Option (List V × List Eff)
  | [] => some ([], [])
  | c :: cs =>
    match frzV get c with
    | none => none
    | some (x, es) => match frzVs get cs with
      | none => none
      | some (xs, fs) => some (x :: xs, es ++ fs)
def cellsT (get : Nat → Option Ob) : V → Option (List T × List Eff)
  | .c x => (frzC get x).map fun (y, es) => ([y], es)
  | .agg cs => frzCs get cs
  | .tup _ => none
  | .any => none
  | .own _ => none
  | .oref _ _ => none
def cellsC : V → Option (List C)
  | .c x => some [x]
  | .agg cs => some cs
  | .tup _ => none
  | .any => none
  | .own _ => none
  | .oref _ _ => none
def Orc := FuncId → List V → List Ob → Option (V × List Ob)
def one (x : T) : Option (V × List Eff) := some (.c (.t x), [])
def cmp (op : BinOp) (a b : Int) : Option Bool :=
  match op with
  | .eql => some (a == b)
  | .neq => some (a != b)
  | .lss => some (decide (a < b))
  | .leq => some (decide (a ≤ b))
  | .gtr => some (decide (a > b))
  | .geq => some (decide (a ≥ b))
  | _ => none
def bits (k : IntKind) (f : BitVec k.bits → BitVec k.bits → BitVec k.bits) (a b : Int) : Int :=
  k.wrap (f (BitVec.ofInt k.bits a) (BitVec.ofInt k.bits b)).toNat
def binI (op : BinOp) (k : IntKind) (a b : Int) : Option T :=
  match op with
  | .add => some (.int k (k.wrap (a + b)))
  | .sub => some (.int k (k.wrap (a - b)))
  | .mul => some (.int k (k.wrap (a * b)))
  | .quo => if b = 0 then none else some (.int k (k.wrap (a.tdiv b)))
  | .rem => if b = 0 then none else some (.int k (a.tmod b))
  | .and => some (.int k (bits k (· &&& ·) a b))
  | .or => some (.int k (bits k (· ||| ·) a b))
  | .xor => some (.int k (bits k (· ^^^ ·) a b))
  | .andNot => some (.int k (bits k (fun x y => x &&& ~~~y) a b))
  | .shl | .shr => none
  | op => (cmp op a b).map .bool
def binS (op : BinOp) (k : IntKind) (a b : Int) : Option T :=
  if b < 0 then none else
    match op with
    | .shl => some (.int k (k.wrap (a * 2 ^ min b.toNat k.bits)))
    | .shr => some (.int k (a.fdiv (2 ^ min b.toNat k.bits)))
    | _ => none
def BinOp.shifts : BinOp → Bool | .shl | .shr => true | _ => false
def T.isPtr : T → Bool | .nilp | .box _ _ => true | _ => false
def bin (k : TK) (op : BinOp) (x y : T) : Option T :=
  match x, y with
  | .int k a, .int k' b => if BinOp.shifts op then binS op k a b else if k = k' then binI op k a b else none
  | .bool a, .bool b =>
    match k, op with
    | .bool, .eql => some (.bool (a == b))
    | .bool, .neq => some (.bool (!(a == b)))
    | _, _ => none
  | .str a, .str b =>
    match op with
    | .eql => some (.bool (a.toList == b.toList))
    | .neq => some (.bool (!(a.toList == b.toList)))
    | .add => if a.size + b.size ≤ 9223372036854775807 then some (.str (a ++ b)) else none
    | _ => none
  | p, .nilp =>
    match k, op with
    | .ptr _, .eql => if p.isPtr then some (.bool p.isNil) else none
    | .ptr _, .neq => if p.isPtr then some (.bool (!p.isNil)) else none
    | _, _ => none
  | _, _ => none
def slot? : Option Ob → Option (List T)
  | some (.flat _ cs) => some cs
  | _ => none
def rowOf (get : Nat → Option Ob) : V → Option (Nat × List T)
  | .c (.t .nils) => some (0, [])
  | .c (.t (.sl n cs)) => some (n, cs)
  | .c (.osl id off len sz) => (slot? (get id)).map fun cs => (len, sub cs off (len * sz))
  | _ => none
def putCells {α : Type} (cs : List α) (j : Nat) (xs : List α) : List α :=
  match xs with
  | [] => cs
  | x :: xs => putCells (cs.set j x) (j + 1) xs
def zeroRow (i : TI) (n : Nat) : List T := match i.zeros with | [z] => List.replicate n z | zs => (List.replicate n zs).flatten
def isNilsV : V → Bool
  | .c (.t .nils) => true
  | _ => false
def cellsK (get : Nat → Option Ob) (v : V) : Option (List T × List Eff) := if isNilsV v then some ([.nils], []) else cellsT get v
def lit (get : Nat → Option Ob) (zs : List T) : List Nat → List V → List T → Option (List T × List Eff)
  | [], [], acc => some (acc, [])
  | i :: is, v :: vs, acc =>
    match cellsK get v with
    | none => none
    | some (ts, es) =>
      if ts.length = zs.length ∧ i * zs.length + zs.length ≤ acc.length then
        match lit get zs is vs (putCells acc (i * zs.length) ts) with
        | none => none
        | some (r, fs) => some (r, es ++ fs)
      else none
  | _, _, _ => none
def pos : List Nat → Nat → Option Nat
  | [], _ => none
  | i :: is, x => if i = x then some 0 else (pos is x).map (· + 1)
def renP (f : Nat → Option Nat) : List (Nat × Nat) → Option (List (Nat × Nat))
  | [] => some []
  | (id, off) :: l => match f id, renP f l with
    | some j, some l => some ((j, off) :: l)
    | _, _ => none
def renC (f : Nat → Option Nat) : C → C
  | .t x => .t x
  | .ref id off => match f id with | some j => .ref j off | none => .any
  | .osl id off len sz => match f id with | some j => .osl j off len sz | none => .any
  | .fn g caps => match renP f caps with | some l => .fn g l | none => .any
  | .any => .any
def renV1 (f : Nat → Option Nat) : V → V
  | .c x => .c (renC f x)
  | .agg cs => .agg (cs.map (renC f))
  | .own cs => .own (cs.map (renC f))
  | .oref s o => .oref s o
  | .tup [] => .tup []
  | .tup (_ :: _) => .any
  | .any => .any
def renV (f : Nat → Option Nat) : V → V
  | .tup vs => .tup (vs.map (renV1 f))
  | .c x => renV1 f (.c x)
  | .agg cs => renV1 f (.agg cs)
  | .own cs => renV1 f (.own cs)
  | .oref s o => renV1 f (.oref s o)
  | .any => renV1 f .any
def renO (f : Nat → Option Nat) : Ob → Ob
  | .mix fr cs => .mix fr (cs.map (renC f))
  | o => o
def idsC : C → List Nat
  | .ref id _ => [id]
  | .osl id _ _ _ => [id]
  | .fn _ caps => caps.map (·.1)
  | _ => []
def idsV1 : V → List Nat
  | .c x => idsC x
  | .agg cs => cs.flatMap idsC
  | .own cs => cs.flatMap idsC
  | .oref _ _ => []
  | .tup _ => []
  | .any => []
def idsV : V → List Nat
  | .tup vs => vs.flatMap idsV1
  | .c x => idsV1 (.c x)
  | .agg cs => idsV1 (.agg cs)
  | .own cs => idsV1 (.own cs)
  | .oref s o => idsV1 (.oref s o)
  | .any => idsV1 .any
def idsO : Option Ob → List Nat
  | some (.mix _ cs) => cs.flatMap idsC
  | _ => []
def reach (get : Nat → Option Ob) : Nat → List Nat → List Nat → List Nat
  | 0, _, acc => acc
  | _ + 1, [], acc => acc
  | n + 1, i :: todo, acc =>
    match pos acc i with
    | some _ => reach get n todo acc
    | none => reach get n (todo ++ idsO (get i)) (acc ++ [i])
def getAllO (get : Nat → Option Ob) : List Nat → Option (List Ob)
  | [] => some []
  | i :: is => match get i, getAllO get is with
    | some o, some l => some (o :: l)
    | _, _ => none
def depth : Nat := 200
def back (live : List Nat) (nx : Nat) (j : Nat) : Option Nat := if j < live.length then live[j]? else some (nx + (j - live.length))
def sets (f : Nat → Option Nat) : List Nat → List Ob → List Eff
  | i :: is, o :: os => .set i (renO f o) :: sets f is os
  | [], os => os.map fun o => .push (renO f o)
  | _, [] => []
def callF (imp : FuncId → Bool) (orc : Orc) (get : Nat → Option Ob) (nx : Nat) (f : FuncId) (vs : List V) : Option (V × List Eff) :=
  if vs.any V.isO then none else if imp f then
    let live := reach get depth (vs.flatMap idsV) []
    match getAllO get live with
    | none => none
    | some os =>
      match orc f (vs.map (renV (pos live))) (os.map (renO (pos live))) with
      | none => none
      | some (r, os') => if live.length ≤ os'.length then some (renV (back live nx) r, sets (back live nx) live os') else none
  else
    match frzVs get vs with
    | none => none
    | some (us, es) =>
      match orc f us [] with
      | some (r, []) => some (r, es)
      | _ => none
def nilsOf (nx : Nat) : List CK → List C → List C × Nat
  | .sl sz :: ks, .t .nils :: cs =>
    let r := nilsOf (nx + 1) ks cs
    (.osl nx 0 0 sz :: r.1, r.2 + 1)
  | _ :: ks, c :: cs =>
    let r := nilsOf nx ks cs
    (c :: r.1, r.2)
  | _, cs => (cs, 0)
def phants (n : Nat) : List Eff := List.replicate n (.push (.flat false []))
def noSet (id : Nat) : List Eff → Bool
  | [] => true
  | .set j _ :: es => !(j == id) && noSet id es
  | _ :: es => noSet id es
def capsOf : List V → Option (List (Nat × Nat))
  | [] => some []
  | .c (.ref id off) :: vs => (capsOf vs).map ((id, off) :: ·)
  | _ => none
abbrev Out := Option (V × List Eff)
def sMv : List V → Out
  | [v] => some (v, [])
  | _ => none
def sPick : List V → Out
  | [.c (.t (.bool c)), a, b] => some (if c then a else b, [])
  | _ => none
def sBin (k : TK) (op : BinOp) : List V → Out
  | [.c (.t x), .c (.t y)] => match bin k op x y with | some r => some (.c (.t r), []) | none => none
  | _ => none
def sNot : List V → Out
  | [.c (.t (.bool b))] => some (.c (.t (.bool (!b))), [])
  | _ => none
def sNeg : List V → Out
  | [.c (.t (.int k n))] => some (.c (.t (.int k (k.wrap (0 - n)))), [])
  | _ => none
def sConv (d : IntKind) : List V → Out
  | [.c (.t (.int _ n))] => some (.c (.t (.int d (d.wrap n))), [])
  | _ => none
def sAlloc (i : TI) (nx : Nat) : List V → Out
  | [] => if isOther i.k then none else
    some (.c (.ref (nx + (nilsOf nx i.cks (i.zeros.map .t)).2) 0), phants (nilsOf nx i.cks (i.zeros.map .t)).2 ++ [.push (.mix false (nilsOf nx i.cks (i.zeros.map .t)).1)])
  | _ => none
def sBox (i : TI) (nx : Nat) : List V → Out
  | [v] =>
    match cellsC v with
    | none => none
    | some cs => some (.c (.ref (nx + (nilsOf nx i.cks cs).2) 0), phants (nilsOf nx i.cks cs).2 ++ [.push (.mix false (nilsOf nx i.cks cs).1)])
  | _ => none
def sMkslice (own : Bool) (get : Nat → Option Ob) (nx : Nat) (sl : Bool) (i : TI) (n : Nat) (idx : List Nat) (vs : List V) : Out :=
  if sl && !isOther i.k && decide (n * i.size ≤ 16777216) then
    match lit get i.zeros idx vs (zeroRow i n) with
    | none => none
    | some (cs, es) => if own then some (.c (.osl nx 0 n i.size), es ++ [.push (.flat false cs)]) else some (.c (.t (.sl n cs)), es)
  else none
def sMake (nx : Nat) (sl : Bool) (i : TI) : List V → Out
  | [.c (.t (.int .i64 l)), .c (.t (.int .i64 c))] =>
    if sl && !isOther i.k then
      if 0 ≤ l ∧ l ≤ c ∧ c * i.bytes ≤ 281474976710656 ∧ c ≤ 281474976710656 then some (.c (.osl nx 0 l.toNat i.size), [.push (.flat false (zeroRow i l.toNat))]) else none
    else none
  | _ => none
def sLoad (get : Nat → Option Ob) (i : TI) (vs : List V) : Out :=
  if isOther i.k then none else
    match vs with
    | [.c (.t p)] => if p.isBox then (match loadT i p.bCs p.bJ with | some v => some (v, []) | none => none) else none
    | [.c (.ref id off)] =>
      match get id with
      | some (.flat _ cs) => (match loadT i cs off with | some v => some (v, []) | none => none)
      | some (.mix _ cs) => (match loadC i cs off with | some v => some (v, []) | none => none)
      | _ => none
    | _ => none
def sStore (get : Nat → Option Ob) (nx : Nat) (i : TI) (vs : List V) : Out :=
  if isOther i.k then none else
    match vs with
    | [.c (.ref id off), v] =>
      match get id with
      | some (.flat false cs) =>
        match cellsT get v with
        | some (xs, es) => if noSet id es = true ∧ (xs.length = i.size ∧ 1 ≤ xs.length) ∧ off + xs.length ≤ cs.length then some (.tup [], es ++ [.set id (.flat false (putCells cs off xs))]) else none
        | none => none
      | some (.mix false cs) =>
        match cellsC v with
        | some xs =>
          if (xs.length = i.size ∧ 1 ≤ xs.length) ∧ off + xs.length ≤ cs.length then some (.tup [], phants (nilsOf nx i.cks xs).2 ++ [.set id (.mix false (putCells cs off (nilsOf nx i.cks xs).1))]) else none
        | none => none
      | _ => none
    | _ => none
def sIaddr (tb : Tab) (k : TK) : List V → Out
  | [x, .c (.t (.int _ i))] =>
    match k, x with
    | .slice e, .c (.t (.sl n cs)) => if tb.ok e then (if 0 ≤ i ∧ i < n then some (.c (.t (.box cs (i.toNat * (tb.at e).size))), []) else none) else none
    | .slice e, .c (.osl id off len sz) => if tb.ok e && decide (sz = (tb.at e).size) then (if 0 ≤ i ∧ i < len then some (.c (.ref id (off + i.toNat * sz)), []) else none) else none
    | .array n e, .c (.ref id off) => if tb.ok e && decide (2 ≤ n) then (if 0 ≤ i ∧ i < n then some (.c (.ref id (off + i.toNat * (tb.at e).size)), []) else none) else none
    | _, _ => none
  | _ => none
def sFaddr (tb : Tab) (k : TK) (i : Nat) : List V → Out
  | [x] =>
    match k with
    | .struct fs =>
      match fs[i]? with
      | some (off, t) =>
        if tb.ok t && decide ((tb.at t).size ≠ 0) then
          match x with
          | .c (.t (.box cs j)) => some (.c (.t (.box cs (j + off))), [])
          | .c (.ref id o) => some (.c (.ref id (o + off)), [])
          | _ => none
        else none
      | none => none
    | _ => none
  | _ => none
def partC (tb : Tab) (t : TypeId) (cs : List C) (off : Nat) : Out :=
  if tb.ok t then (match loadC (tb.at t) cs off with | some v => some (v, []) | none => none) else none
def sField (tb : Tab) (k : TK) (i : Nat) : List V → Out
  | [.agg cs] =>
    match k with
    | .struct fs => match fs[i]? with | some (off, t) => partC tb t cs off | none => none
    | _ => none
  | _ => none
def sIndex (tb : Tab) (k : TK) : List V → Out
  | [x, .c (.t (.int _ i))] =>
    match k, x with
    | .array n e, .agg cs => if 0 ≤ i ∧ i < n then partC tb e cs (i.toNat * (tb.at e).size) else none
    | .str, .c (.t (.str s)) => if 0 ≤ i then (match s[i.toNat]? with | some b => some (.c (.t (.int .u8 b.toNat)), []) | none => none) else none
    | _, _ => none
  | _ => none
def place (tb : Tab) (k : TK) (i : Nat) : Option (Nat × Nat) :=
  match k with
  | .struct fs => match fs[i]? with | some (off, t) => some (off, (tb.at t).size) | none => none
  | .array _ e => some (i * (tb.at e).size, (tb.at e).size)
  | _ => none
def fillC (pl : Nat → Option (Nat × Nat)) : List Nat → List V → List C → Option (List C)
  | [], [], acc => some acc
  | i :: is, v :: vs, acc =>
    match pl i, cellsC v with
    | some (off, sz), some xs => if xs.length = sz ∧ off + xs.length ≤ acc.length then fillC pl is vs (putCells acc off xs) else none
    | _, _ => none
  | _, _, _ => none
def placesOk (tb : Tab) (k : TK) : Bool :=
  match k with
  | .struct fs => fs.all fun p => tb.ok p.2
  | .array _ e => tb.ok e
  | _ => false
def sBuild (tb : Tab) (t : TypeId) (idx : List Nat) (vs : List V) : Out :=
  if placesOk tb (tb.at t).k then
    match fillC (place tb (tb.at t).k) idx vs ((tb.at t).zeros.map .t) with
    | some cs => some (.agg cs, [])
    | none => none
  else none
def sNilck : List V → Out
  | [.c (.t (.box cs j))] => some (.c (.t (.box cs j)), [])
  | [.c (.ref id off)] => some (.c (.ref id off), [])
  | [.c (.t (.fn f))] => some (.c (.t (.fn f)), [])
  | [.c (.fn f caps)] => some (.c (.fn f caps), [])
  | _ => none
def slB : Bool → Bool → Nat → List V → Option (Nat × Nat)
  | false, false, n, [] => some (0, n)
  | true, false, n, [.c (.t (.int _ l))] => if 0 ≤ l ∧ l ≤ n then some (l.toNat, n) else none
  | false, true, n, [.c (.t (.int _ h))] => if 0 ≤ h ∧ h ≤ n then some (0, h.toNat) else none
  | true, true, n, [.c (.t (.int _ l)), .c (.t (.int _ h))] => if 0 ≤ l ∧ l ≤ h ∧ h ≤ n then some (l.toNat, h.toNat) else none
  | _, _, _, _ => none
def sSlice (tb : Tab) (k : TK) (lo hi : Bool) : List V → Out
  | x :: bs =>
    match k, x with
    | .str, .c (.t (.str s)) => match slB lo hi s.size bs with | some (l, h) => some (.c (.t (.str (s.extract l h))), []) | none => none
    | .slice e, .c (.t .nils) => if tb.ok e then (match slB lo hi 0 bs with | some _ => some (.c (.t .nils), []) | none => none) else none
    | .slice e, .c (.t (.sl n cs)) => if tb.ok e then (match slB lo hi n bs with | some (l, h) => some (.c (.t (.sl (h - l) (sub cs (l * (tb.at e).size) ((h - l) * (tb.at e).size)))), []) | none => none) else none
    | .slice e, .c (.osl id off len sz) =>
      if tb.ok e && decide (sz = (tb.at e).size) then
        match slB lo hi len bs with
        | some (l, h) => if l = 0 ∨ l < len then some (.c (.osl id (off + l * sz) (h - l) sz), []) else some (.c (.t (.sl 0 [])), [])
        | none => none
      else none
    | _, _ => none
  | _ => none
def sCopy (get : Nat → Option Ob) (sl : Bool) (i : TI) : List V → Out
  | [d, x] =>
    if sl && !isOther i.k then
      match rowOf get x with
      | none => none
      | some (m, new) =>
        if new.length = m * i.size then
          match d with
          | .c (.t .nils) => some (.c (.t (.int .i64 0)), [])
          | .c (.osl id off len sz) =>
            match get id with
            | some (.flat false cs) =>
              if sz = i.size ∧ off + len * sz ≤ cs.length then
                some (.c (.t (.int .i64 (min m len : Nat))), [.set id (.flat false (putCells cs off (new.take (min m len * i.size))))])
              else none
            | _ => none
          | _ => none
        else none
    else none
  | _ => none
def bytesOf : List T → Option (List UInt8)
  | [] => some []
  | .int .u8 n :: ts => (bytesOf ts).map (UInt8.ofNat n.toNat :: ·)
  | _ => none
def sB2s (get : Nat → Option Ob) : List V → Out
  | [x] =>
    match rowOf get x with
    | some (m, cs) => if cs.length = m then (match bytesOf cs with | some l => some (.c (.t (.str ⟨l.toArray⟩)), []) | none => none) else none
    | none => none
  | _ => none
def offO (z s : Nat) : V → Option Nat
  | .own _ => if z = s then some 0 else none
  | .oref s' o => if s' = s then some o else none
  | _ => none
def sObox : List V → Out
  | [v] => match cellsC v with | some cs => some (.own cs, []) | none => none
  | _ => none
def sOalloc (i : TI) : List V → Out
  | [] => if isOther i.k then none else some (.own (i.zeros.map .t), [])
  | _ => none
def sOfaddr (tb : Tab) (k : TK) (i z s : Nat) : List V → Out
  | [vz, .own _] =>
    match k with
    | .struct fs =>
      match fs[i]?, offO z s vz with
      | some (off, t), some o => if tb.ok t && decide ((tb.at t).size ≠ 0) then some (.oref s (o + off), []) else none
      | _, _ => none
    | _ => none
  | _ => none
def sOload (i : TI) (z s : Nat) : List V → Out
  | [vz, .own cs] =>
    if isOther i.k then none else
      match offO z s vz with
      | some o => match loadC i cs o with | some v => some (v, []) | none => none
      | none => none
  | _ => none
def sOstore (i : TI) (z s : Nat) : List V → Out
  | [vz, .own cs, v] =>
    if isOther i.k then none else
      match offO z s vz, cellsC v with
      | some o, some xs => if xs.length = i.size ∧ o + xs.length ≤ cs.length then some (.own (putCells cs o xs), []) else none
      | _, _ => none
  | _ => none
def K.isO : K → Bool | .obox _ | .oalloc _ | .ofaddr .. | .oload .. | .ostore .. => true | _ => false
def K.isOst : K → Bool | .ostore .. => true | _ => false
def sMkfn (f : FuncId) (vs : List V) : Out := match capsOf vs with | some l => some (.c (.fn f l), []) | none => none
def sExt (i : Nat) : List V → Out
  | [.tup vs] => match vs[i]? with | some v => some (v, []) | none => none
  | _ => none
def sLen (k : TK) : List V → Out
  | [x] =>
    match k, x with
    | .slice _, .c (.t .nils) => some (.c (.t (.int .i64 0)), [])
    | .slice _, .c (.t (.sl n _)) => some (.c (.t (.int .i64 n)), [])
    | .slice _, .c (.osl _ _ n _) => some (.c (.t (.int .i64 n)), [])
    | .str, .c (.t (.str s)) => some (.c (.t (.int .i64 s.size)), [])
    | .array n _, _ => some (.c (.t (.int .i64 n)), [])
    | _, _ => none
  | _ => none
def sMax : List V → Out
  | [.c (.t (.int k a)), .c (.t (.int _ b))] => some (.c (.t (.int k (if b > a then b else a))), [])
  | _ => none
def sMin : List V → Out
  | [.c (.t (.int k a)), .c (.t (.int _ b))] => some (.c (.t (.int k (if b < a then b else a))), [])
  | _ => none
def nilRow : List T → Bool
  | [.nils] => true
  | _ => false
def sAppend (get : Nat → Option Ob) (nx : Nat) (sl : Bool) (i : TI) : List V → Out
  | [s, x] =>
    if sl && !isOther i.k && decide (1 ≤ i.bytes) then
      match rowOf get x with
      | none => none
      | some (m, new) =>
        match s with
        | .c (.t .nils) => if new.length = m * i.size ∧ m * i.bytes ≤ 140737488355328 then some (.c (.osl nx 0 m i.size), [.push (.flat false new)]) else none
        | .c (.osl id off len sz) =>
          match get id with
          | some (.flat false cs) =>
            if sz = i.size then
              if new.length = m * i.size ∧ off + len * i.size ≤ cs.length ∧ (len + m) * i.bytes ≤ 140737488355328 then
                some (.c (.osl nx 0 (len + m) i.size), [.set id .gone, .push (if nilRow new then .mix false ((sub cs off (len * i.size) ++ new).map .t) else .flat false (sub cs off (len * i.size) ++ new))]) else none
            else none
          | some (.mix false cs) =>
            if sz = i.size then
              if new.length = m * i.size ∧ off + len * i.size ≤ cs.length ∧ (len + m) * i.bytes ≤ 140737488355328 then
                some (.c (.osl nx 0 (len + m) i.size), [.set id .gone, .push (.mix false ((cs.drop off).take (len * i.size) ++ new.map .t))]) else none
            else none
          | _ => none
        | _ => none
    else none
  | _ => none
def sCallv (imp : FuncId → Bool) (orc : Orc) (get : Nat → Option Ob) (nx : Nat) : List V → Out
  | .c (.t (.fn f)) :: vs => callF imp orc get nx f vs
  | .c (.fn f caps) :: vs => callF imp orc get nx f (vs ++ caps.map fun p => V.c (.ref p.1 p.2))
  | _ => none
def step (tb : Tab) (imp : FuncId → Bool) (orc : Orc) (own : Bool) (get : Nat → Option Ob) (nx : Nat) (k : K) (vs : List V) : Out :=
  match k with
  | .mv => sMv vs
  | .pick => sPick vs
  | .bin op t => sBin (tb.at t).k op vs
  | .un .not => sNot vs
  | .un .neg => sNeg vs
  | .un _ => none
  | .conv d => sConv d vs
  | .alloc t => sAlloc (tb.at t) nx vs
  | .box t => sBox (tb.at t) nx vs
  | .mkslice t n idx => sMkslice own get nx (tb.at t).k.isSlice (tb.at (tb.at t).elem) n idx vs
  | .make t => sMake nx (tb.at t).k.isSlice (tb.at (tb.at t).elem) vs
  | .load t => sLoad get (tb.at t) vs
  | .store t => sStore get nx (tb.at t) vs
  | .iaddr t => sIaddr tb (tb.at t).k vs
  | .faddr t i => sFaddr tb (tb.at t).k i vs
  | .mkfn f => sMkfn f vs
  | .ext i => sExt i vs
  | .len t => sLen (tb.at t).k vs
  | .max => sMax vs
  | .min => sMin vs
  | .append t => sAppend get nx (tb.at t).k.isSlice (tb.at (tb.at t).elem) vs
  | .index t => sIndex tb (tb.at t).k vs
  | .field t i => sField tb (tb.at t).k i vs
  | .build t idx => sBuild tb t idx vs
  | .nilck => sNilck vs
  | .slice t lo hi => sSlice tb (tb.at t).k lo hi vs
  | .copy t => sCopy get (tb.at t).k.isSlice (tb.at (tb.at t).elem) vs
  | .b2s => sB2s get vs
  | .bad => none
  | .obox _ => sObox vs
  | .oalloc t => sOalloc (tb.at t) vs
  | .ofaddr t i z s => sOfaddr tb (tb.at t).k i z s vs
  | .oload t z s => sOload (tb.at t) z s vs
  | .ostore t z s => sOstore (tb.at t) z s vs
  | .call f => callF imp orc get nx f vs
  | .callv => sCallv imp orc get nx vs
def getM (m : Md) (L0 : Nat) (H : List Ob) (id : Nat) : Option Ob :=
  match m with
  | .sync | .al => H[id]?
  | .low => if id < L0 then H[id]? else none
  | .free => none
def Md.own : Md → Bool | .sync | .al => true | _ => false
def Md.nx (m : Md) (n : Nat) : Nat := match m with | .sync | .al => n | _ => 0
def applyE (m : Md) (L0 : Nat) : List Eff → List Ob → Option (List Ob)
  | [], H => some H
  | .push o :: es, H => if m.own then applyE m L0 es (H ++ [o]) else none
  | .set id o :: es, H =>
    match m with
    | .sync => applyE m L0 es (H.set id o)
    | .al => if L0 ≤ id then applyE m L0 es (H.set id o) else none
    | _ => none
def put (fr : List V) (d : Option Nat) (v : V) : List V := match d with | some d => fr.set d v | none => fr
structure Env where
  tb : Tab
  imp : FuncId → Bool
  orc : Orc
  m : Nat
def free (k : K) (fr : List V) (d : Option Nat) : Bool := match d with | some d => k.isOst || !((fr.getD d .any).isO) | none => !k.isO
def doIns (E : Env) (L0 : Nat) (i : Ins) (s : St) : Option St :=
  match step E.tb E.imp E.orc i.m.own (getM i.m L0 s.H) (i.m.nx s.H.length) i.k (i.xs.map (ev s.fr)) with
  | none => none
  | some (v, es) =>
    if free i.k s.fr i.dst && (i.k.isO || !v.isO) then
      match applyE i.m L0 es s.H with
      | none => none
      | some H => some ⟨put s.fr i.dst v, H⟩
    else none
def skipIns (i : Ins) (s : St) : Option St := if free .mv s.fr i.dst then some ⟨put s.fr i.dst (.tup []), s.H⟩ else none
def stepIns (E : Env) (L0 : Nat) (i : Ins) (s : St) : Option St :=
  match i.g with
  | none => doIns E L0 i s
  | some (g, want) =>
    match s.fr.getD g .any with
    | .c (.t (.bool b)) => if b = want then doIns E L0 i s else skipIns i s
    | .tup [] => skipIns i s
    | _ => none
def runIs (E : Env) (L0 : Nat) : List Ins → St → Option St
  | [], s => some s
  | i :: is, s => (stepIns E L0 i s).bind (runIs E L0 is)
inductive Ex where | norm | exit (id : Nat) | ret
def killed (kill : List Nat) (fr : List V) : List V := kill.foldl (fun f t => f.set t .any) fr
def pack (m : Nat) (fr : List V) (H : List Ob) : St :=
  let live := reach (H[·]?) depth ((List.range m).flatMap (fun i => idsO H[i]?) ++ fr.flatMap idsV) (List.range m)
  ⟨fr.map (renV (pos live)), live.map fun i => renO (pos live) ((H[i]?).getD .gone)⟩
def cleanO (fr : List V) : List V := fr.map fun v => match v with
  | .oref s _ => match fr.getD s .any with | .own _ => v | _ => .any
  | v => v
def V.wk : V → V
  | .c (.t x) => .c (.t x.wk)
  | .c x => .c x
  | .agg cs => .agg cs
  | .tup vs => .tup vs
  | .any => .any
  | .own cs => .own cs
  | .oref s o => .oref s o
def norm (m : Nat) (kill : List Nat) (nils : List (Nat × Nat)) (s : St) : St :=
  let fr := cleanO (killed kill s.fr)
  let s := nils.foldl (fun (s : St) p => match s.fr.getD p.1 .any with
    | .c (.t .nils) => ⟨s.fr.set p.1 (.c (.osl s.H.length 0 0 p.2)), s.H ++ [.flat false []]⟩
    | _ => s) ⟨fr, s.H⟩
  pack m (s.fr.map V.wk) s.H
def loopN {R : Type} (m : Nat) (kill : List Nat) (nils : List (Nat × Nat)) (body : St → (Ex → St → Option R) → Option R) (k : Ex → St → Option R) : Nat → St → Option R
  | 0, _ => none
  | n + 1, s => body (norm m kill nils s) fun e s' => match e with | .norm => loopN m kill nils body k n s' | e => k e s'
def exec {R : Type} (E : Env) (n : Nat) : Cd → St → (Ex → St → Option R) → Option R
  | .skip, s, k => k .norm s
  | .reg _ is, s, k => (runIs E s.H.length is s).bind (k .norm)
  | .seq a b, s, k => exec E n a s fun e s' => match e with | .norm => exec E n b s' k | e => k e s'
  | .cond c a b, s, k =>
    match ev s.fr c with
    | .c (.t (.bool t)) => if t then exec E n a s k else exec E n b s k
    | _ => none
  | .block id a, s, k => exec E n a s fun e s' => match e with | .exit j => if j = id then k .norm s' else k (.exit j) s' | e => k e s'
  | .loop kl ns a, s, k => loopN E.m kl ns (exec E n a) k n s
  | .exit id, s, k => k (.exit id) s
  | .ret, s, k => k .ret s
inductive RS where
  | t (s : Nat)
  | cell (s : Nat) (t : TypeId)
  deriving Inhabited
structure Fun where
  ntmps : Nat
  results : List RS
  body : Cd
def rsV (tb : Tab) (get : Nat → Option Ob) (fr : List V) : RS → Option V
  | .t s => some (fr.getD s .any)
  | .cell s t => match fr.getD s .any with
    | .own cs => if isOther (tb.at t).k then none else loadC (tb.at t) cs 0
    | v => match sLoad get (tb.at t) [v] with | some (v, _) => some v | none => none
def rsVs (tb : Tab) (get : Nat → Option Ob) (fr : List V) : List RS → Option (List V)
  | [] => some []
  | r :: rs => match rsV tb get fr r, rsVs tb get fr rs with
    | some v, some vs => some (v :: vs)
    | _, _ => none
def one1 : List V → V
  | [v] => v
  | vs => .tup vs
def result (tb : Tab) (get : Nat → Option Ob) (rs : List RS) (fr : List V) : Option V :=
  match rsVs tb get fr rs with
  | some vs => some (one1 vs)
  | none => none
def frzR (get : Nat → Option Ob) : V → Option V
  | .tup vs => (frzVs get vs).map fun p => .tup p.1
  | .c x => (frzV get (.c x)).map fun p => p.1
  | .agg cs => (frzV get (.agg cs)).map fun p => p.1
  | .any => (frzV get .any).map fun p => p.1
  | .own _ => none
  | .oref _ _ => none
def finish (tb : Tab) (imp : Bool) (m : Nat) (rs : List RS) (s : St) : Option (V × List Ob) :=
  match result tb (s.H[·]?) rs s.fr with
  | none => none
  | some r =>
    if r.isO then none else if imp then
      let live := reach (s.H[·]?) depth ((List.range m).flatMap (fun i => idsO s.H[i]?) ++ idsV r) (List.range m)
      some (renV (pos live) r, live.map fun i => renO (pos live) ((s.H[i]?).getD .gone))
    else (frzR (s.H[·]?) r).map fun v => (v, [])
def look (f : FuncId) : List (FuncId × Fun) → Option Fun
  | [] => none
  | (g, x) :: l => if g = f then some x else look f l
structure Pg where
  tb : Tab
  imp : FuncId → Bool
  fn : FuncId → Option Fun
  ext : Orc
def pcall (G : Pg) : Nat → Orc
  | 0 => fun _ _ _ => none
  | n + 1 => fun f vs H =>
    match G.fn f with
    | none => G.ext f vs H
    | some fd => if vs.any V.isO then none else exec ⟨G.tb, G.imp, pcall G n, H.length⟩ n fd.body ⟨vs ++ List.replicate (fd.ntmps - vs.length) (.tup []), H⟩ fun e s =>
      match e with
      | .norm | .ret => finish G.tb (G.imp f) H.length fd.results s
      | _ => none
end Go.AM

namespace Go.AM
def pairsFst (ps : Array (Nat × Operand)) : List Nat := ps.toList.map (·.1)
def pairsSnd (ps : Array (Nat × Operand)) : List Operand := ps.toList.map (·.2)
def TK.isInt : TK → Option IntKind | .int k => some k | _ => none
def compCall (tb : Tab) (c : Call) : Option (K × List Operand) :=
  match c.callee with
  | .value (.func f) => some (.call f, c.args.toList)
  | .value x => some (.callv, x :: c.args.toList)
  | .builtin .len => match c.argTypes.toList, c.args.toList with
    | [t], [x] => some (.len t, [x])
    | _, _ => none
  | .builtin .max => match c.args.toList with
    | [x, y] => some (.max, [x, y])
    | _ => none
  | .builtin .min => match c.args.toList with
    | [x, y] => some (.min, [x, y])
    | _ => none
  | .builtin .copy => match c.argTypes.toList, c.args.toList with
    | [t, u], [x, y] => if (tb.at t).k.isSlice && (tb.at u).k.isSlice then some (.copy t, [x, y]) else none
    | _, _ => none
  | .builtin .append => match c.argTypes.toList, c.args.toList with
    | [t, u], [x, y] => if (tb.at t).k.isSlice && (tb.at u).k.isSlice then some (.append t, [x, y]) else none
    | _, _ => none
  | _ => none
def compOp0 (tb : Tab) : Op → Option (K × List Operand)
  | .move x | .assign x => some (.mv, [x])
  | .pick c a b => some (.pick, [c, a, b])
  | .binOp op t x y _ => some (.bin op t, [x, y])
  | .unOp op _ x => some (.un op, [x])
  | .convert s d x => match (tb.at s).k, (tb.at d).k with
    | .int _, .int k => some (.conv k, [x])
    | .slice e, .str => match (tb.at e).k with
      | .int .u8 => some (.b2s, [x])
      | _ => none
    | _, _ => none
  | .index t x i => some (.index t, [x, i])
  | .field t x i => some (.field t i, [x])
  | .build t ps => some (.build t (pairsFst ps), pairsSnd ps)
  | .nilCheck x => some (.nilck, [x])
  | .slice t x lo hi mx => match mx with
    | none => match (tb.at t).k with
      | .str | .slice _ => some (.slice t lo.isSome hi.isSome, x :: (lo.toList ++ hi.toList))
      | _ => none
    | some _ => none
  | .alloc t => some (.alloc t, [])
  | .box t x => some (.box t, [x])
  | .buildSlice t n ps => some (.mkslice t n (pairsFst ps), pairsSnd ps)
  | .makeSlice t l c => some (.make t, [l, c])
  | .load t a => some (.load t, [a])
  | .store t a v => some (.store t, [a, v])
  | .indexAddr t x i => some (.iaddr t, [x, i])
  | .fieldAddr t x i => some (.faddr t i, [x])
  | .makeFunc (.func f) first caps => if first.isEmpty then some (.mkfn f, caps.toList) else none
  | .extract t i => some (.ext i, [t])
  | .call c => compCall tb c
  | _ => none
def compOp (tb : Tab) (o : Op) : Option (K × List Operand) :=
  match compOp0 tb o with
  | some r => some r
  | none => some (.bad, [])
def K.alone : K → Bool
  | .mv | .pick | .bin .. | .un _ | .conv _ | .iaddr _ | .faddr .. | .mkfn _ | .ext _ | .len _ | .max | .min | .index _ | .field .. | .build .. | .nilck | .slice .. | .obox _ | .oalloc _ | .ofaddr .. | .oload .. | .ostore .. => true
  | _ => false
def K.reads : K → Bool
  | .load _ | .call _ | .callv | .b2s => true
  | _ => false
def binding (o : Oper) : List Nat := (o.after.toList.filter fun e => Region.binds .any e).map (·.on)
def ancs : List Oper → List Nat → Nat → Option (List Nat)
  | [], acc, _ => some acc
  | o :: os, acc, i =>
    let b := binding o
    if b.all (· < i) then ancs os (acc ++ [b.foldl (fun m j => m ||| 2 ^ j ||| acc.getD j 0) 0]) (i + 1) else none
def tmpsOf (xs : List Operand) : List Nat := xs.filterMap fun | .tmp t => some t | _ => none
def Ins.uses (i : Ins) : List Nat := tmpsOf i.xs ++ (match i.g with | some (g, _) => [g] | none => [])
def ordered (an : List Nat) (i j : Nat) : Bool := (an.getD j 0).testBit i || (an.getD i 0).testBit j
def grows (is : List Ins) (d : Option Nat) : Bool :=
  is.any fun x => match x.k, x.xs, d with
    | .append _, .tmp t :: _, some d => t == d
    | _, _, _ => false
def K.isMk : K → Bool | .mkslice .. => true | _ => false
def modeOf (is : List Ins) (an : List Nat) (i : Nat) (k : K) (d : Option Nat) : Md :=
  if k.alone then .free else
    if is.zipIdx.all fun (x, j) => j == i || x.k.alone || ordered an i j then .sync else
      if k.reads || (k.isMk && !grows is d) then .low else .al
def compat (a b : Md) : Bool :=
  match a, b with
  | .free, _ | _, .free | .low, .low | .low, .al | .al, .low => true
  | _, _ => false
def apart (x y : Ins) : Bool :=
  (match x.dst with
   | some d => !y.uses.contains d && y.dst != some d
   | none => true) &&
  (match y.dst with
   | some d => !x.uses.contains d
   | none => true)
def loose (is : List Ins) (an : List Nat) : Bool :=
  is.zipIdx.all fun (x, i) => is.zipIdx.all fun (y, j) => !(i < j) || (an.getD j 0).testBit i || (compat x.m y.m && apart x y)
abbrev OB := List (Nat × Nat)
def OB.base (ob : OB) (z : Nat) : Option Nat := (ob.find? fun p => p.1 == z).map (·.2)
def compOwn (ob : OB) (o : Oper) : Option (Option Nat × K × List Operand) :=
  match o.op, o.dst with
  | .alloc t, some d => if ob.base d == some d then some (some d, .oalloc t, []) else none
  | .box t x, some d => if ob.base d == some d then some (some d, .obox t, [x]) else none
  | .fieldAddr t (.tmp z) i, some d => (ob.base z).map fun s => (some d, .ofaddr t i z s, [.tmp z, .tmp s])
  | .load t (.tmp z), some d => (ob.base z).map fun s => (some d, .oload t z s, [.tmp z, .tmp s])
  | .store t (.tmp z) v, none => (ob.base z).map fun s => (some s, .ostore t z s, [.tmp z, .tmp s, v])
  | _, _ => none
def compIns (tb : Tab) (ob : OB) (ops : Array Oper) (o : Oper) : Option Ins :=
  match compOwn ob o with
  | some (d, k, xs) => match o.guard with
    | none => some ⟨d, k, xs, none, .sync⟩
    | some (j, want) =>
      if k.isOst then none else
        match (ops[j]?).bind (·.dst) with
        | some g => some ⟨d, k, xs, some (g, want), .sync⟩
        | none => none
  | none =>
  match compOp tb o.op with
  | none => none
  | some (k, xs) =>
    match o.guard with
    | none => some ⟨o.dst, k, xs, none, .sync⟩
    | some (j, want) =>
      match (ops[j]?).bind (·.dst) with
      | some d => some ⟨o.dst, k, xs, some (d, want), .sync⟩
      | none => none
def compAll (tb : Tab) (ob : OB) (ops : Array Oper) : List Oper → Option (List Ins)
  | [] => some []
  | o :: os => match compIns tb ob ops o, compAll tb ob ops os with
    | some i, some is => some (i :: is)
    | _, _ => none
def compReg (tb : Tab) (ob : OB) (ops : Array Oper) (draw : Bool) : Option (List Ins) :=
  match compAll tb ob ops ops.toList with
  | none => none
  | some is =>
    if draw then
      match ancs ops.toList [] 0 with
      | none => none
      | some an =>
        let is' := is.zipIdx.map fun (x, i) => { x with m := modeOf is an i x.k x.dst }
        if loose is' an then some is' else none
    else some is
def comp0 (tb : Tab) (ob : OB) : Code → Option Cd
  | .skip => some .skip
  | .region _ ops draw => (compReg tb ob ops draw).map (.reg draw)
  | .seq a b => match comp0 tb ob a, comp0 tb ob b with
    | some a, some b => some (.seq a b)
    | _, _ => none
  | .cond c a b => match comp0 tb ob a, comp0 tb ob b with
    | some a, some b => some (.cond c a b)
    | _, _ => none
  | .block id a => (comp0 tb ob a).map (.block id)
  | .loop a => (comp0 tb ob a).map (.loop [] [])
  | .exit id => some (.exit id)
  | .ret => some .ret
  | _ => some (.reg false [⟨none, .bad, [], none, .sync⟩])
def mask (l : List Nat) : Nat := l.foldl (fun m t => m ||| 2 ^ t) 0
def opMask : Operand → Nat | .tmp t => 2 ^ t | _ => 0
def reads : Cd → Nat
  | .reg _ is => is.foldl (fun m i => m ||| mask i.uses) 0
  | .seq a b => reads a ||| reads b
  | .cond c a b => opMask c ||| reads a ||| reads b
  | .block _ a | .loop _ _ a => reads a
  | _ => 0
def writes : Cd → List Nat
  | .reg _ is => is.filterMap (·.dst)
  | .seq a b | .cond _ a b => writes a ++ writes b
  | .block _ a | .loop _ _ a => writes a
  | _ => []
def exposed : Cd → Nat → Nat × Nat
  | .reg _ is, D => is.foldl (fun (p : Nat × Nat) i => (p.1 ||| (mask i.uses &&& (p.2 ^^^ (p.2 ||| mask i.uses))), match i.dst with | some d => p.2 ||| 2 ^ d | none => p.2)) (0, D)
  | .seq a b, D =>
    let (x, D1) := exposed a D
    let (y, D2) := exposed b D1
    (x ||| y, D2)
  | .cond c a b, D =>
    let (x, D1) := exposed a D
    let (y, D2) := exposed b D
    ((opMask c &&& (D ^^^ (D ||| opMask c))) ||| x ||| y, D1 &&& D2)
  | .block _ a, D => ((exposed a D).1, D)
  | .loop _ _ a, D => ((exposed a D).1, D)
  | _, D => (0, D)
def nub : List Nat → List Nat → List Nat
  | [], acc => acc.reverse
  | x :: xs, acc => if acc.contains x then nub xs acc else nub xs (x :: acc)
def growSlots : Code → List Nat × List (Nat × Nat)
  | .region _ ops _ => ops.toList.foldl (fun p o => match o.op, o.dst with
    | .move (.tmp s), some d => (p.1, (d, s) :: p.2)
    | .call ⟨.builtin .append, xs, _⟩, _ => match xs.toList with
      | .tmp t :: _ => (t :: ((p.2.filter fun q => q.1 == t).map (·.2)) ++ p.1, p.2)
      | _ => p
    | _, _ => p) ([], [])
  | .seq a b | .cond _ a b => ((growSlots a).1 ++ (growSlots b).1, [])
  | .block _ a | .loop a => ((growSlots a).1, [])
  | _ => ([], [])
def sliceSlots (tb : Tab) (gs : List Nat) : Code → List (Nat × Nat)
  | .region _ ops _ => ops.toList.filterMap fun o => match o.op, o.dst, (tb.at o.type).k with
    | .assign _, some d, .slice e => if gs.contains d then some (d, (tb.at e).size) else none
    | _, _, _ => none
  | .seq a b | .cond _ a b => sliceSlots tb gs a ++ sliceSlots tb gs b
  | .block _ a | .loop a => sliceSlots tb gs a
  | _ => []
def nubP : List (Nat × Nat) → List (Nat × Nat) → List (Nat × Nat)
  | [], acc => acc.reverse
  | x :: xs, acc => if acc.any (·.1 == x.1) then nubP xs acc else nubP xs (x :: acc)
def dress (nt : Nat) (sl : List (Nat × Nat)) : Cd → Nat → Cd
  | .seq a b, out => .seq (dress nt sl a (out ||| (exposed b 0).1)) (dress nt sl b out)
  | .cond c a b, out => .cond c (dress nt sl a out) (dress nt sl b out)
  | .block id a, out => .block id (dress nt sl a out)
  | .loop _ _ a, out =>
    let ws := nub (writes a) []
    let ue := (exposed a 0).1
    let kill := (List.range nt).filter fun t => !ue.testBit t && !out.testBit t
    .loop kill (nubP (sl.filter fun p => ws.contains p.1 && !kill.contains p.1) []) (dress nt sl a (out ||| ue))
  | c, _ => c
def resultRS : List ResultVar → List RS
  | [] => []
  | .tmp t :: rs => .t t :: resultRS rs
  | .cell t ty :: rs => .cell t ty :: resultRS rs
def RS.slot : RS → Nat | .t s => s | .cell s _ => s
def comp (tb : Tab) (ob : OB) (f : Func) : Option Fun :=
  match f.body with
  | none => none
  | some c =>
    match comp0 tb ob c with
    | some cd => if f.results.size ≤ 5 then some ⟨f.ntmps, resultRS f.results.toList, dress f.ntmps (sliceSlots tb (growSlots c).1 c) cd (mask ((resultRS f.results.toList).map RS.slot))⟩ else none
    | none => none
end Go.AM

namespace Go.AM
inductive A2 {α β : Type} (R : α → β → Prop) : List α → List β → Prop where
  | nil : A2 R [] []
  | cons {a b as bs} (h : R a b) (t : A2 R as bs) : A2 R (a :: as) (b :: bs)
theorem A2.length {α β : Type} {R : α → β → Prop} {as : List α} {bs : List β} (h : A2 R as bs) : as.length = bs.length := by
  induction h with
  | nil => rfl
  | cons _ _ ih => simp [ih]
theorem A2.get {α β : Type} {R : α → β → Prop} {as : List α} {bs : List β} (h : A2 R as bs) : ∀ {j : Nat} {a : α}, as[j]? = some a → ∃ b, bs[j]? = some b ∧ R a b := by
  induction h with
  | nil => intro j a h; simp at h
  | cons h t ih =>
    intro j a ha
    cases j with
    | zero => simp at ha; subst ha; exact ⟨_, rfl, h⟩
    | succ j => exact ih (j := j) (by simpa using ha)
theorem A2.get' {α β : Type} {R : α → β → Prop} {as : List α} {bs : List β} (h : A2 R as bs) : ∀ {j : Nat} {b : β}, bs[j]? = some b → ∃ a, as[j]? = some a ∧ R a b := by
  induction h with
  | nil => intro j a h; simp at h
  | cons h t ih =>
    intro j a ha
    cases j with
    | zero => simp at ha; subst ha; exact ⟨_, rfl, h⟩
    | succ j => exact ih (j := j) (by simpa using ha)
theorem A2.imp {α β : Type} {R R' : α → β → Prop} {as : List α} {bs : List β} (h : A2 R as bs) (hR : ∀ a b, R a b → R' a b) : A2 R' as bs := by
  induction h with
  | nil => exact .nil
  | cons h t ih => exact .cons (hR _ _ h) ih
theorem A2.imp_mem {α β : Type} {R R' : α → β → Prop} {as : List α} {bs : List β} (h : A2 R as bs) (hR : ∀ a b, a ∈ as → R a b → R' a b) : A2 R' as bs := by
  induction h with
  | nil => exact .nil
  | cons h t ih => exact .cons (hR _ _ (by simp) h) (ih fun a b ha => hR a b (by simp [ha]))
theorem A2.map_left {α β γ : Type} {R : γ → β → Prop} {f : α → γ} {as : List α} {bs : List β} : A2 (fun a b => R (f a) b) as bs → A2 R (as.map f) bs := by
  intro h
  induction h with
  | nil => exact .nil
  | cons h t ih => exact .cons h ih
theorem A2.map_right {α β γ : Type} {R : α → γ → Prop} {f : β → γ} {as : List α} {bs : List β} : A2 (fun a b => R a (f b)) as bs → A2 R as (bs.map f) := by
  intro h
  induction h with
  | nil => exact .nil
  | cons h t ih => exact .cons h ih
theorem A2.append {α β : Type} {R : α → β → Prop} {as as' : List α} {bs bs' : List β} (h : A2 R as bs) (h' : A2 R as' bs') : A2 R (as ++ as') (bs ++ bs') := by
  induction h with
  | nil => exact h'
  | cons h t ih => exact .cons h ih
theorem A2.of_get {α β : Type} {R : α → β → Prop} : ∀ {as : List α} {bs : List β}, as.length = bs.length → (∀ (j : Nat) (a : α) (b : β), as[j]? = some a → bs[j]? = some b → R a b) → A2 R as bs
  | [], [], _, _ => .nil
  | a :: as, b :: bs, hl, h => .cons (h 0 a b rfl rfl) (A2.of_get (by simpa using hl) fun j x y hx hy => h (j + 1) x y (by simpa using hx) (by simpa using hy))
  | [], _ :: _, hl, _ => by simp at hl
  | _ :: _, [], hl, _ => by simp at hl
theorem A2.drop {α β : Type} {R : α → β → Prop} {as : List α} {bs : List β} (h : A2 R as bs) : ∀ n, A2 R (as.drop n) (bs.drop n) := by
  induction h with
  | nil => intro n; simp; exact .nil
  | cons h t ih =>
    intro n
    cases n with
    | zero => exact .cons h t
    | succ n => exact ih n
theorem A2.take {α β : Type} {R : α → β → Prop} {as : List α} {bs : List β} (h : A2 R as bs) : ∀ n, A2 R (as.take n) (bs.take n) := by
  induction h with
  | nil => intro n; simp; exact .nil
  | cons h t ih =>
    intro n
    cases n with
    | zero => exact .nil
    | succ n => exact .cons h (ih n)
theorem add_block (a : Addr) (n : Nat) : (a.add n).block = a.block := by unfold Addr.add; split <;> rfl
theorem add_plain (b o j : Nat) : (⟨b, o, none⟩ : Addr).add j = ⟨b, o + j, none⟩ := by unfold Addr.add; split <;> simp_all
mutual
def RT (w : World) (I : Nat → Prop) : T → Value → Prop
  | .bool b, v => v = .bool b
  | .int k n, v => v = .int k n
  | .str s, v => v = .string s
  | .nilp, v => v = .pointer none
  | .box cs j, v => ∃ ad : Addr, v = .pointer (some (ad.add j)) ∧ RTs w I cs ad 0
  | .sl n cs, v => ∃ A c, v = .slice A n c ∧ n ≤ c ∧ ((n = 0 ∧ cs = []) ∨ ∃ ad : Addr, A = some ad ∧ RTs w I cs ad 0)
  | .nils, v => v = .slice none 0 0
  | .fn f, v => v = .func (.func f) #[] #[]
  | .nilf, v => v = .nilFunc
  | .nili, v => v = .nilIface
def RTs (w : World) (I : Nat → Prop) : List T → Addr → Nat → Prop
  | [], _, _ => True
  | c :: cs, ad, j => (I ad.block ∧ ∃ u, w.cell? (ad.add j) = some u ∧ RT w I c u) ∧ RTs w I cs ad (j + 1)
end
theorem RTs_get {w : World} {I : Nat → Prop} {ad : Addr} : ∀ {cs : List T} {j0 : Nat}, RTs w I cs ad j0 → ∀ {j : Nat} {c : T}, cs[j]? = some c → I ad.block ∧ ∃ u, w.cell? (ad.add (j0 + j)) = some u ∧ RT w I c u
  | [], _, _, j, c, h => by simp at h
  | x :: cs, j0, h, j, c, hc => by
    simp only [RTs] at h
    cases j with
    | zero => simp at hc; subst hc; exact h.1
    | succ j =>
      have := RTs_get h.2 (j := j) (c := c) (by simpa using hc)
      rw [show j0 + (j + 1) = j0 + 1 + j by omega]
      exact this
theorem RTs_mk {w : World} {I : Nat → Prop} {ad : Addr} : ∀ {cs : List T} {j0 : Nat}, (∀ (j : Nat) (c : T), cs[j]? = some c → I ad.block ∧ ∃ u, w.cell? (ad.add (j0 + j)) = some u ∧ RT w I c u) → RTs w I cs ad j0
  | [], _, _ => by simp [RTs]
  | x :: cs, j0, h => by
    simp only [RTs]
    refine ⟨by simpa using h 0 x rfl, RTs_mk fun j c hc => ?_⟩
    have := h (j + 1) c (by simpa using hc)
    rwa [show j0 + (j + 1) = j0 + 1 + j by omega] at this
theorem RT_wk {w : World} {I : Nat → Prop} {x : T} {v : Value} (h : RT w I x v) : RT w I x.wk v := by
  cases x with
  | nils =>
    have hv : v = .slice none 0 0 := by simpa [RT] using h
    subst hv
    show ∃ A c, _ = Value.slice A 0 c ∧ 0 ≤ c ∧ _
    exact ⟨none, 0, rfl, Nat.le_refl _, .inl ⟨rfl, rfl⟩⟩
  | _ => exact h
def Fix (w : World) (I : Nat → Prop) (w' : World) (I' : Nat → Prop) : Prop := ∀ b, I b → I' b ∧ w'.heap[b]? = w.heap[b]?
theorem cell_of_block {w w' : World} {a : Addr} (h : w'.heap[a.block]? = w.heap[a.block]?) : w'.cell? a = w.cell? a := by simp [World.cell?, h]
mutual
theorem RT_fix {w w' : World} {I I' : Nat → Prop} (hf : Fix w I w' I') : ∀ (x : T) (v : Value), RT w I x v → RT w' I' x v
  | .bool _, _, h => by simpa [RT] using h
  | .int _ _, _, h => by simpa [RT] using h
  | .str _, _, h => by simpa [RT] using h
  | .nilp, _, h => by simpa [RT] using h
  | .box cs j, v, h => by
    simp only [RT] at h ⊢
    obtain ⟨ad, hv, hs⟩ := h
    exact ⟨ad, hv, RTs_fix hf cs ad 0 hs⟩
  | .sl n cs, v, h => by
    simp only [RT] at h ⊢
    obtain ⟨A, c, hv, hn, hs⟩ := h
    refine ⟨A, c, hv, hn, ?_⟩
    rcases hs with hs | ⟨ad, ha, hs⟩
    · exact .inl hs
    · exact .inr ⟨ad, ha, RTs_fix hf cs ad 0 hs⟩
  | .nils, _, h => by simpa [RT] using h
  | .fn _, _, h => by simpa [RT] using h
  | .nilf, _, h => by simpa [RT] using h
  | .nili, _, h => by simpa [RT] using h
theorem RTs_fix {w w' : World} {I I' : Nat → Prop} (hf : Fix w I w' I') : ∀ (cs : List T) (ad : Addr) (j : Nat), RTs w I cs ad j → RTs w' I' cs ad j
  | [], _, _, _ => by simp [RTs]
  | c :: cs, ad, j, h => by
    simp only [RTs] at h ⊢
    obtain ⟨⟨hi, u, hu, hr⟩, ht⟩ := h
    obtain ⟨hi', hb⟩ := hf _ hi
    refine ⟨⟨hi', u, ?_, RT_fix hf c u hr⟩, RTs_fix hf cs ad (j + 1) ht⟩
    rw [cell_of_block (w := w) (w' := w') (a := ad.add j) (by rw [add_block]; exact hb)]
    exact hu
end
abbrev Rho := Nat → Option (Nat × Nat)
def GN (H : List Ob) (id : Nat) : Prop := H[id]? = some .gone
def RP (ρ : Rho) (H : List Ob) (id off : Nat) (v : Value) : Prop := (GN H id ∧ ∃ ad, v = .pointer (some ad)) ∨ ∃ b o, ρ id = some (b, o) ∧ v = .pointer (some ⟨b, o + off, none⟩)
def Cap (w : World) (b n : Nat) : Prop := ∃ arr e fz, w.heap[b]? = some (.cells arr e fz) ∧ n ≤ arr.size
def RC (w : World) (I : Nat → Prop) (ρ : Rho) (H : List Ob) : C → Value → Prop
  | .t x, v => RT w I x v
  | .ref id off, v => RP ρ H id off v
  | .osl id off len sz, v => (GN H id ∧ ∃ A c, v = .slice A len c ∧ len ≤ c ∧ (len = 0 ∨ ∃ ad, A = some ad)) ∨ (id < H.length ∧ ρ id = none ∧ len = 0 ∧ v = .slice none 0 0) ∨
      ∃ b o c, ρ id = some (b, o) ∧ v = .slice (some ⟨b, o + off, none⟩) len c ∧ len ≤ c ∧ Cap w b (o + off + c * sz)
  | .fn f caps, v => ∃ us : List Value, v = .func (.func f) #[] us.toArray ∧ A2 (fun p u => RP ρ H p.1 p.2 u) caps us
  | .any, v => v.oneCell' = true
def RV1 (w : World) (I : Nat → Prop) (ρ : Rho) (H : List Ob) : V → Value → Prop
  | .c x, v => RC w I ρ H x v
  | .agg cs, v => ∃ us : List Value, v = .agg us.toArray ∧ A2 (RC w I ρ H) cs us
  | .tup [], v => v = .tuple #[]
  | .tup _, _ => False
  | .any, _ => True
  | .own _, _ => True
  | .oref _ _, _ => True
def RV (w : World) (I : Nat → Prop) (ρ : Rho) (H : List Ob) : V → Value → Prop
  | .tup vs, v => ∃ us : List Value, v = .tuple us.toArray ∧ A2 (RV1 w I ρ H) vs us
  | .c x, v => RV1 w I ρ H (.c x) v
  | .agg cs, v => RV1 w I ρ H (.agg cs) v
  | .any, v => RV1 w I ρ H .any v
  | .own _, _ => True
  | .oref _ _, _ => True
def Own (w : World) (I : Nat → Prop) (fr : Bool) (b : Nat) : Prop :=
  match fr with
  | true => I b
  | false => ¬ I b ∧ ∃ arr e, w.heap[b]? = some (.cells arr e (0, 0))
def RO (w : World) (I : Nat → Prop) (ρ : Rho) (H : List Ob) (id : Nat) : Ob → Prop
  | .gone => True
  | .flat fr cs => (ρ id = none ∧ cs = []) ∨ ∃ b o, ρ id = some (b, o) ∧ (∀ (j : Nat) (c : T), cs[j]? = some c → ∃ u, w.cell? ⟨b, o + j, none⟩ = some u ∧ RT w I c u) ∧ Own w I fr b
  | .mix fr cs => ∃ b o, ρ id = some (b, o) ∧ (∀ (j : Nat) (c : C), cs[j]? = some c → ∃ u, w.cell? ⟨b, o + j, none⟩ = some u ∧ RC w I ρ H c u) ∧ Own w I fr b
def Ob.mine : Ob → Prop
  | .flat fr _ => fr = false
  | .mix fr _ => fr = false
  | .gone => False
def mine (H : List Ob) (id : Nat) : Prop := ∃ o, H[id]? = some o ∧ o.mine
def ownd (ρ : Rho) (H : List Ob) (b : Nat) : Prop := ∃ id o, mine H id ∧ ρ id = some (b, o)
structure Ctx (I : Nat → Prop) (ρ : Rho) (H : List Ob) (w : World) : Prop where
  obj : ∀ id o, H[id]? = some o → RO w I ρ H id o
  lt : ∀ b, I b → b < w.heap.size
  dom : ∀ id p, ρ id = some p → id < H.length
  inj : ∀ id id' b o o', mine H id → mine H id' → ρ id = some (b, o) → ρ id' = some (b, o') → id = id'
structure Ext (w : World) (I own : Nat → Prop) (w' : World) (I' own' : Nat → Prop) : Prop where
  os : w'.os = w.os
  tape : w'.tape = w.tape
  output : w'.output = w.output
  size : w.heap.size ≤ w'.heap.size
  same : ∀ b, b < w.heap.size → ¬ own b → w'.heap[b]? = w.heap[b]?
  cap : ∀ b n, Cap w b n → Cap w' b n
  imm : ∀ b, I b → I' b
  new : ∀ b, I' b → I b ∨ own b ∨ w.heap.size ≤ b
  own : ∀ b, own' b → own b ∨ w.heap.size ≤ b
theorem Ext.refl (w : World) (I own : Nat → Prop) : Ext w I own w I own :=
  ⟨rfl, rfl, rfl, Nat.le_refl _, fun _ _ _ => rfl, fun _ _ h => h, fun _ h => h, fun _ h => .inl h, fun _ h => .inl h⟩
theorem Ext.trans {w w1 w2 : World} {I I1 I2 own own1 own2 : Nat → Prop} (h : Ext w I own w1 I1 own1) (k : Ext w1 I1 own1 w2 I2 own2) : Ext w I own w2 I2 own2 where
  os := k.os.trans h.os
  tape := k.tape.trans h.tape
  output := k.output.trans h.output
  size := Nat.le_trans h.size k.size
  same b hb ho := by
    rw [k.same b (Nat.lt_of_lt_of_le hb h.size) (fun ho1 => (h.own b ho1).elim ho fun h1 => by omega), h.same b hb ho]
  cap b n hc := k.cap b n (h.cap b n hc)
  imm b hb := k.imm b (h.imm b hb)
  new b hb := by
    rcases k.new b hb with h1 | h1 | h1
    · exact h.new b h1
    · rcases h.own b h1 with h2 | h2
      · exact .inr (.inl h2)
      · exact .inr (.inr h2)
    · exact .inr (.inr (Nat.le_trans h.size h1))
  own b hb := by
    rcases k.own b hb with h1 | h1
    · exact h.own b h1
    · exact .inr (Nat.le_trans h.size h1)
structure Stp (I : Nat → Prop) (ρ : Rho) (H : List Ob) (w : World) (I' : Nat → Prop) (ρ' : Rho) (H' : List Ob) (w' : World) : Prop where
  len : H.length ≤ H'.length
  rho : ∀ id, id < H.length → ρ' id = ρ id
  gone : ∀ id, GN H id → GN H' id
  fix : Fix w I w' I'
  ext : Ext w I (ownd ρ H) w' I' (ownd ρ' H')
theorem Stp.refl (I : Nat → Prop) (ρ : Rho) (H : List Ob) (w : World) : Stp I ρ H w I ρ H w :=
  ⟨Nat.le_refl _, fun _ _ => rfl, fun _ h => h, fun _ h => ⟨h, rfl⟩, Ext.refl _ _ _⟩
theorem Fix.trans {w w1 w2 : World} {I I1 I2 : Nat → Prop} (h : Fix w I w1 I1) (k : Fix w1 I1 w2 I2) : Fix w I w2 I2 := fun b hb =>
  ⟨(k b (h b hb).1).1, (k b (h b hb).1).2.trans (h b hb).2⟩
theorem Stp.trans {I I1 I2 : Nat → Prop} {ρ ρ1 ρ2 : Rho} {H H1 H2 : List Ob} {w w1 w2 : World} (h : Stp I ρ H w I1 ρ1 H1 w1) (k : Stp I1 ρ1 H1 w1 I2 ρ2 H2 w2) : Stp I ρ H w I2 ρ2 H2 w2 :=
  ⟨Nat.le_trans h.len k.len, fun id hid => (k.rho id (Nat.lt_of_lt_of_le hid h.len)).trans (h.rho id hid), fun id hg => k.gone id (h.gone id hg), h.fix.trans k.fix, h.ext.trans k.ext⟩
section
variable {I I' : Nat → Prop} {ρ ρ' : Rho} {H H' : List Ob} {w w' : World}
theorem RP_stp (hc : Ctx I ρ H w) (hs : Stp I ρ H w I' ρ' H' w') {id off : Nat} {v : Value} (h : RP ρ H id off v) : RP ρ' H' id off v := by
  rcases h with ⟨h, h'⟩ | ⟨b, o, hr, hv⟩
  · exact .inl ⟨hs.gone id h, h'⟩
  · exact .inr ⟨b, o, by rw [hs.rho id (hc.dom id _ hr)]; exact hr, hv⟩
theorem RC_stp (hc : Ctx I ρ H w) (hs : Stp I ρ H w I' ρ' H' w') {x : C} {v : Value} (h : RC w I ρ H x v) : RC w' I' ρ' H' x v := by
  cases x with
  | t x => exact RT_fix hs.fix x v h
  | ref id off => exact RP_stp hc hs h
  | osl id off len sz =>
    rcases h with ⟨h, h'⟩ | ⟨h1, h2, h3⟩ | ⟨b, o, c, h1, h2, h3, h4⟩
    · exact .inl ⟨hs.gone id h, h'⟩
    · exact .inr (.inl ⟨Nat.lt_of_lt_of_le h1 hs.len, by rw [hs.rho id h1]; exact h2, h3⟩)
    · exact .inr (.inr ⟨b, o, c, by rw [hs.rho id (hc.dom id _ h1)]; exact h1, h2, h3, hs.ext.cap _ _ h4⟩)
  | fn f caps =>
    obtain ⟨us, h1, h2⟩ := h
    exact ⟨us, h1, h2.imp fun p u hp => RP_stp hc hs hp⟩
  | any => exact h
theorem RV1_stp (hc : Ctx I ρ H w) (hs : Stp I ρ H w I' ρ' H' w') {x : V} {v : Value} (h : RV1 w I ρ H x v) : RV1 w' I' ρ' H' x v := by
  cases x with
  | c x => exact RC_stp hc hs h
  | agg cs =>
    obtain ⟨us, h1, h2⟩ := h
    exact ⟨us, h1, h2.imp fun p u hp => RC_stp hc hs hp⟩
  | tup vs => cases vs <;> exact h
  | any => trivial
  | own _ => trivial
  | oref _ _ => trivial
theorem RV_stp (hc : Ctx I ρ H w) (hs : Stp I ρ H w I' ρ' H' w') {x : V} {v : Value} (h : RV w I ρ H x v) : RV w' I' ρ' H' x v := by
  cases x with
  | c x => exact RC_stp hc hs h
  | agg cs => exact RV1_stp hc hs (x := .agg cs) h
  | tup vs =>
    obtain ⟨us, h1, h2⟩ := h
    exact ⟨us, h1, h2.imp fun p u hp => RV1_stp hc hs hp⟩
  | any => trivial
  | own _ => trivial
  | oref _ _ => trivial
end
theorem RT_one {w : World} {I : Nat → Prop} {x : T} {v : Value} (h : RT w I x v) : v.oneCell' = true := by
  cases x <;> simp only [RT] at h
  case box => obtain ⟨_, rfl, _⟩ := h; rfl
  case sl => obtain ⟨_, _, rfl, _⟩ := h; rfl
  all_goals (subst h; rfl)
theorem RP_one {ρ : Rho} {H : List Ob} {id off : Nat} {v : Value} (h : RP ρ H id off v) : v.oneCell' = true := by
  rcases h with ⟨_, ad, rfl⟩ | ⟨b, o, _, rfl⟩
  · rfl
  · rfl
theorem RC_one {w : World} {I : Nat → Prop} {ρ : Rho} {H : List Ob} {x : C} {v : Value} (h : RC w I ρ H x v) : v.oneCell' = true := by
  cases x with
  | t x => exact RT_one h
  | ref id off => exact RP_one h
  | osl id off len sz =>
    rcases h with ⟨_, A, c, rfl, _⟩ | ⟨_, _, _, rfl⟩ | ⟨b, o, c, _, rfl, _⟩
    · rfl
    · rfl
    · rfl
  | fn f caps => obtain ⟨us, rfl, _⟩ := h; rfl
  | any => exact h
def RF (w : World) (I : Nat → Prop) (ρ : Rho) (H : List Ob) (fr : List V) (tmps : Array Value) : Prop :=
  ∀ (t : Nat) (v : V), fr[t]? = some v → ∃ u, tmps[t]? = some u ∧ RV w I ρ H v u
end Go.AM

namespace Go.AM
def valT : T → Value
  | .bool b => .bool b
  | .int k n => .int k n
  | .str s => .string s
  | .nilp => .pointer none
  | .nils => .slice none 0 0
  | .nilf => .nilFunc
  | _ => .nilIface
def scalT : T → Bool
  | .bool _ | .int _ _ | .str _ | .nilp | .nils | .nilf | .nili => true
  | _ => false
def eqZero : Value → T → Bool
  | .bool b, .bool c => b == c
  | .int k n, .int k' n' => k == k' && n == n'
  | .string s, .str s' => s.data == s'.data
  | .pointer none, .nilp => true
  | .slice none 0 0, .nils => true
  | .nilFunc, .nilf => true
  | .nilIface, .nili => true
  | _, _ => false
theorem eqZero_ok {v : Value} {x : T} (h : eqZero v x = true) : v = valT x := by
  unfold eqZero at h
  split at h <;> simp_all [valT]
  rename_i s s'
  cases s; cases s'; simp_all
def eqZeros : List Value → List T → Bool
  | [], [] => true
  | v :: vs, x :: xs => eqZero v x && eqZeros vs xs
  | _, _ => false
theorem eqZeros_ok : ∀ {vs : List Value} {xs : List T}, eqZeros vs xs = true → vs = xs.map valT
  | [], [], _ => rfl
  | v :: vs, x :: xs, h => by
    simp only [eqZeros, Bool.and_eq_true] at h
    simp [← eqZero_ok h.1, ← eqZeros_ok h.2]
  | [], _ :: _, h => by simp [eqZeros] at h
  | _ :: _, [], h => by simp [eqZeros] at h
def dOk : TK → TypeDesc → Bool
  | .slice e, .slice e' => e == e'
  | .array n e, .array n' e' => n == n' && e == e'
  | .struct fs, .struct gs => gs.toList.map (fun g => (g.offset, g.type)) == fs
  | .ptr e, .pointer e' => e == e'
  | .str, .string => true
  | .int k, .int k' => k == k'
  | .bool, .bool => true
  | .func, .func _ _ _ => true
  | _, _ => false
def isAggV : Value → Bool | .agg _ => true | _ => false
def tyChk (P : Program) (t : TypeId) (i : TI) : Bool :=
  match i.k with
  | .other => true
  | k => (match P.underlying t with | some d => dOk k d | none => false) &&
    (match P.info? t with
     | some inf => inf.size == i.size && inf.bytes == i.bytes && i.zeros.length == i.size && (match inf.zero with | some z => eqZeros z.cells.toList i.zeros && isAggV z == i.isAgg | none => false)
     | none => false)
def tabChk (P : Program) : Nat → Tab → Bool
  | _, [] => true
  | t, i :: is => tyChk P t i && tabChk P (t + 1) is
structure TyOk (P : Program) (t : TypeId) (i : TI) : Prop where
  desc : ∃ d, P.underlying t = some d ∧ dOk i.k d = true
  info : ∃ inf z, P.info? t = some inf ∧ inf.size = i.size ∧ inf.bytes = i.bytes ∧ inf.zero = some z ∧ z.cells.toList = i.zeros.map valT ∧ isAggV z = i.isAgg
  len : i.zeros.length = i.size
def TabOk (P : Program) (tb : Tab) : Prop := ∀ t, isOther (tb.at t).k = true ∨ TyOk P t (tb.at t)
theorem tyChk_ok {P : Program} {t : TypeId} {i : TI} (h : tyChk P t i = true) : isOther i.k = true ∨ TyOk P t i := by
  by_cases ho : isOther i.k = true
  · exact .inl ho
  right
  have hk : tyChk P t i = ((match P.underlying t with | some d => dOk i.k d | none => false) &&
    (match P.info? t with
     | some inf => inf.size == i.size && inf.bytes == i.bytes && i.zeros.length == i.size && (match inf.zero with | some z => eqZeros z.cells.toList i.zeros && isAggV z == i.isAgg | none => false)
     | none => false)) := by
    unfold tyChk
    split
    · rename_i hk; simp [hk, isOther] at ho
    · rfl
  rw [hk] at h
  simp only [Bool.and_eq_true] at h
  obtain ⟨h1, h2⟩ := h
  cases hd : P.underlying t with
  | none => simp [hd] at h1
  | some d =>
    rw [hd] at h1
    cases hi : P.info? t with
    | none => simp [hi] at h2
    | some inf =>
      rw [hi] at h2
      simp only [Bool.and_eq_true, beq_iff_eq] at h2
      obtain ⟨⟨⟨h3, h4⟩, h5⟩, h6⟩ := h2
      cases hz : inf.zero with
      | none => simp [hz] at h6
      | some z =>
        rw [hz] at h6
        simp only [Bool.and_eq_true, beq_iff_eq] at h6
        exact ⟨⟨d, hd, h1⟩, ⟨inf, z, hi, h3, h4, hz, eqZeros_ok h6.1, h6.2⟩, h5⟩
theorem tabChk_ok {P : Program} : ∀ {is : Tab} {t0 : Nat}, tabChk P t0 is = true → ∀ {j : Nat} {i : TI}, is[j]? = some i → isOther i.k = true ∨ TyOk P (t0 + j) i
  | [], _, _, j, i, hj => by simp at hj
  | x :: is, t0, h, j, i, hj => by
    simp only [tabChk, Bool.and_eq_true] at h
    cases j with
    | zero => simp at hj; subst hj; exact tyChk_ok h.1
    | succ j =>
      have := tabChk_ok h.2 (j := j) (i := i) (by simpa using hj)
      rwa [show t0 + 1 + j = t0 + (j + 1) by omega] at this
theorem TabOk.of {P : Program} {tb : Tab} (h : tabChk P 0 tb = true) : TabOk P tb := by
  intro t
  unfold Tab.at
  rw [List.getD_eq_getElem?_getD]
  cases hj : tb[t]? with
  | none => exact .inl rfl
  | some i =>
    have := tabChk_ok h hj
    rwa [Nat.zero_add] at this
theorem TabOk.slice {P : Program} {tb : Tab} (h : TabOk P tb) {t : TypeId} {e : TypeId} (hk : (tb.at t).k = .slice e) : P.underlying t = some (.slice e) := by
  rcases h t with h | h
  · simp [hk, isOther] at h
  · obtain ⟨d, hd, ho⟩ := h.desc
    rw [hk] at ho
    unfold dOk at ho
    split at ho <;> simp_all
theorem TabOk.array {P : Program} {tb : Tab} (h : TabOk P tb) {t : TypeId} {n : Nat} {e : TypeId} (hk : (tb.at t).k = .array n e) : P.underlying t = some (.array n e) := by
  rcases h t with h | h
  · simp [hk, isOther] at h
  · obtain ⟨d, hd, ho⟩ := h.desc
    rw [hk] at ho
    unfold dOk at ho
    split at ho <;> simp_all
theorem TabOk.str {P : Program} {tb : Tab} (h : TabOk P tb) {t : TypeId} (hk : (tb.at t).k = .str) : P.underlying t = some .string := by
  rcases h t with h | h
  · simp [hk, isOther] at h
  · obtain ⟨d, hd, ho⟩ := h.desc
    rw [hk] at ho
    unfold dOk at ho
    split at ho <;> simp_all
theorem TabOk.bool {P : Program} {tb : Tab} (h : TabOk P tb) {t : TypeId} (hk : (tb.at t).k = .bool) : P.underlying t = some .bool := by
  rcases h t with h | h
  · simp [hk, isOther] at h
  · obtain ⟨d, hd, ho⟩ := h.desc
    rw [hk] at ho
    unfold dOk at ho
    split at ho <;> simp_all
theorem TabOk.ptr {P : Program} {tb : Tab} (h : TabOk P tb) {t : TypeId} {e : TypeId} (hk : (tb.at t).k = .ptr e) : P.underlying t = some (.pointer e) := by
  rcases h t with h | h
  · simp [hk, isOther] at h
  · obtain ⟨d, hd, ho⟩ := h.desc
    rw [hk] at ho
    unfold dOk at ho
    split at ho <;> simp_all
theorem TabOk.int {P : Program} {tb : Tab} (h : TabOk P tb) {t : TypeId} {k : IntKind} (hk : (tb.at t).k = .int k) : P.underlying t = some (.int k) := by
  rcases h t with h | h
  · simp [hk, isOther] at h
  · obtain ⟨d, hd, ho⟩ := h.desc
    rw [hk] at ho
    unfold dOk at ho
    split at ho <;> simp_all
end Go.AM

namespace Go.AM
def Res (P : Program) (o : Oper) (a : Act) (w : World) (G : Value → World → Prop) : Prop :=
  ∀ (K : Act → World → Prop) (Q : Exit → Act → World → Prop), (∀ v' w', G v' w' → K (a.put o.dst v') w') → o.wp P a w K Q
section
variable {P : Program} {o : Oper} {a : Act} {w w' : World} {G : Value → World → Prop}
theorem Res.value {v : Value} (h : (execOp a.eval o).run P w = .ok (.value v) w') (hG : G v w') : Res P o a w G := fun K Q hK => by
  unfold Oper.wp; rw [h]; exact hK _ _ hG
theorem Res.skip (h : (execOp a.eval o).run P w = .ok .skip w') (hG : G (.tuple #[]) w') : Res P o a w G := fun K Q hK => by
  unfold Oper.wp; rw [h]; exact hK _ _ hG
theorem Res.enter {f : FuncId} {args : Array Value} (h : (execOp a.eval o).run P w = .ok (.enter f args) w') (hG : Calls P f args w' fun e w'' => ∃ v, e = .returned v ∧ G v w'') : Res P o a w G := fun K Q hK => by
  unfold Oper.wp; rw [h]
  show Calls P f args w' _
  refine hG.mono ?_
  rintro e w'' ⟨v, rfl, hv⟩
  exact hK _ _ hv
end
theorem RV_ev {w : World} {I : Nat → Prop} {ρ : Rho} {H : List Ob} {fr : List V} {a : Act} (h : RF w I ρ H fr a.tmps) (x : Operand) : RV w I ρ H (ev fr x) (a.eval x) := by
  cases x with
  | tmp t =>
    simp only [ev, Act.eval, List.getD_eq_getElem?_getD]
    cases hf : fr[t]? with
    | none => simp [RV, RV1]
    | some v =>
      obtain ⟨u, hu, hr⟩ := h t v hf
      simp only [Option.getD_some, Array.getD_eq_getD_getElem?, hu]
      exact hr
  | const v =>
    have hC : ∀ v, cstOk v = true → RC w I ρ H (cstC v) v := by
      intro v hv
      unfold cstOk at hv
      split at hv <;> simp_all [cstC, RC, RT]
    simp only [ev, Act.eval, cst]
    split
    · rename_i hv; exact hC v hv
    · split
      · exact ⟨[], rfl, .nil⟩
      · rename_i us _
        split
        · rename_i hall
          refine ⟨us.toList, by simp, ?_⟩
          refine A2.of_get (by simp) fun j x y hx hy => ?_
          rw [List.getElem?_map, hy] at hx
          simp only [Option.map_some, Option.some.injEq] at hx
          subst hx
          exact hC y (List.all_eq_true.1 hall y (List.mem_of_getElem? hy))
        · trivial
      · trivial
  | global g => trivial
  | func f => simp [ev, Act.eval, RV, RV1, RC, RT]
def Post (I : Nat → Prop) (ρ : Rho) (H : List Ob) (w : World) (v : V) (H' : List Ob) (v' : Value) (w' : World) : Prop :=
  ∃ I' ρ', Ctx I' ρ' H' w' ∧ Stp I ρ H w I' ρ' H' w' ∧ RV w' I' ρ' H' v v'
theorem Post.same {I : Nat → Prop} {ρ : Rho} {H : List Ob} {w : World} {v : V} {u : Value} (hC : Ctx I ρ H w) (h : RV w I ρ H v u) : Post I ρ H w v H u w :=
  ⟨I, ρ, hC, Stp.refl _ _ _ _, h⟩
section
variable {P : Program} {I : Nat → Prop} {ρ : Rho} {H : List Ob} {w : World} {tb : Tab}
theorem RT_valT {x : T} (h : scalT x = true) : RT w I x (valT x) := by
  cases x <;> simp [scalT] at h <;> simp [RT, valT]
theorem cmp_ok {op : BinOp} {a b : Int} {r : Bool} (h : cmp op a b = some r) : (Op.intCmp op a b).run P w = .ok (.bool r) w := by
  cases op <;> simp [cmp] at h <;> subst h <;> simp [Op.intCmp]
theorem bin_ok {k : TK} {t : TypeId} (hT : TabOk P tb) (hk : (tb.at t).k = k) {op : BinOp} {x y r : T} {u v : Value} (hx : RT w I x u) (hy : RT w I y v) (h : bin k op x y = some r) {xo yo : Operand} :
    ((do eqGuard op t xo yo u v; binOp op t u v : Sem Value)).run P w = .ok (valT r) w ∧ scalT r = true := by
  unfold bin at h
  split at h
  · rename_i k1 a k2 b
    simp only [RT] at hx hy
    subst hx hy
    have hg : (eqGuard op t xo yo (.int k1 a) (.int k2 b)).run P w = .ok () w := by unfold eqGuard; split <;> simp
    split at h
    · rename_i hs
      unfold binS at h
      split at h
      · simp at h
      · rename_i hb
        cases op <;> simp [BinOp.shifts] at hs <;> simp only [Option.some.injEq] at h <;> subst h <;>
          exact ⟨by simp [hg, binOp, Op.shift, hb, valT], rfl⟩
    · rename_i hs
      split at h
      · rename_i hkk
        subst hkk
        cases op <;> simp [BinOp.shifts] at hs <;> simp [binI] at h
        all_goals first
          | (subst h; refine ⟨?_, rfl⟩; simp [hg, binOp, Op.intArith, valT]; done)
          | (subst h; refine ⟨?_, rfl⟩; simp [hg, binOp, Op.intBits, bits, valT]; done)
          | (obtain ⟨h1, h2⟩ := h; subst h2; refine ⟨?_, rfl⟩; simp [hg, binOp, Op.intDiv, h1, valT]; done)
          | (rcases h with ⟨hq, rfl⟩ | ⟨hq, rfl⟩ <;> (refine ⟨?_, rfl⟩; simp [hg, binOp, cmp_ok hq, valT]; done))
      · simp at h
  · rename_i a b
    simp only [RT] at hx hy
    subst hx hy
    have hg : (eqGuard op t xo yo (.bool a) (.bool b)).run P w = .ok () w := by unfold eqGuard; split <;> simp
    split at h <;> simp only [Option.some.injEq, reduceCtorEq] at h
    · subst h
      exact ⟨by simp [hg, run_eql_bool w t a b (hT.bool hk), valT], rfl⟩
    · subst h
      exact ⟨by simp [hg, run_neq_bool w t a b (hT.bool hk), valT], rfl⟩
  · rename_i a b
    simp only [RT] at hx hy
    subst hx hy
    have hg : (eqGuard op t xo yo (.string a) (.string b)).run P w = .ok () w := by unfold eqGuard; split <;> simp
    split at h
    · simp only [Option.some.injEq] at h; subst h
      exact ⟨by simp [hg, binOp, Op.stringOp, valT], rfl⟩
    · simp only [Option.some.injEq] at h; subst h
      exact ⟨by simp [hg, binOp, Op.stringOp, valT], rfl⟩
    · split at h
      · rename_i hs
        simp only [Option.some.injEq] at h; subst h
        have hs' : ¬ (((a.size + b.size : Nat) : Int) > IntKind.i64.max) := by
          have : IntKind.i64.max = 9223372036854775807 := by decide
          omega
        exact ⟨by simp only [Sem.run_bind, hg, Result.andThen, binOp, Op.stringOp]; rw [if_neg hs']; rfl, rfl⟩
      · simp at h
    · simp at h
  · simp only [RT] at hy
    subst hy
    have hp : x.isPtr = true ∧ (op = .eql ∧ r = .bool x.isNil ∨ op = .neq ∧ r = .bool (!x.isNil)) ∧ ∃ e, k = .ptr e := by
      cases k <;> cases op <;> simp at h
      · exact ⟨h.1, .inl ⟨rfl, h.2.symm⟩, _, rfl⟩
      · exact ⟨h.1, .inr ⟨rfl, h.2.symm⟩, _, rfl⟩
    obtain ⟨hp1, hp2, e, rfl⟩ := hp
    have hu := hT.ptr hk
    have hpt : ∃ A, u = .pointer A ∧ A.isNone = x.isNil := by
      cases x <;> simp [T.isPtr] at hp1
      · simp only [RT] at hx; exact ⟨_, hx, rfl⟩
      · simp only [RT] at hx; obtain ⟨ad, rfl, _⟩ := hx; exact ⟨_, rfl, rfl⟩
    obtain ⟨A, rfl, hA⟩ := hpt
    have hE : (Op.equal t (.pointer A) (.pointer none)).run P w = .ok x.isNil w := by
      show (Op.equalIn (9999 + 1) t (.pointer A) (.pointer none)).run P w = _
      generalize 9999 = d
      cases A <;> simp at hA <;> simp [Op.equalIn, underlying, hu, ← hA]
    have hg : (eqGuard op t xo yo (.pointer A) (.pointer none)).run P w = .ok () w := by unfold eqGuard; split <;> simp
    rcases hp2 with ⟨rfl, rfl⟩ | ⟨rfl, rfl⟩
    · exact ⟨by cases A <;> simp [hg, binOp, hE, valT], rfl⟩
    · exact ⟨by cases A <;> simp [hg, binOp, hE, valT], rfl⟩
  · simp at h
end
end Go.AM

namespace Go.AM
section
variable {I I' : Nat → Prop} {ρ ρ' : Rho} {H H' : List Ob} {w w' : World}
theorem cell_at {b i : Nat} {arr : Array Value} {e : TypeId} {fz : Nat × Nat} (h : w.heap[b]? = some (.cells arr e fz)) : w.cell? ⟨b, i, none⟩ = arr[i]? := by
  simp [World.cell?, h]
theorem lt_heap {b : Nat} {o : Obj} (h : w.heap[b]? = some o) : b < w.heap.size := (Array.getElem?_eq_some_iff.1 h).1
theorem mine_lt {id : Nat} (h : mine H id) : id < H.length := by
  obtain ⟨o, ho, _⟩ := h
  exact (List.getElem?_eq_some_iff.1 ho).1
theorem Ctx.own (hC : Ctx I ρ H w) {id b o : Nat} (hm : mine H id) (hr : ρ id = some (b, o)) : ¬ I b ∧ ∃ arr e, w.heap[b]? = some (.cells arr e (0, 0)) := by
  obtain ⟨ob, hob, hmi⟩ := hm
  have h := hC.obj id ob hob
  cases ob with
  | flat fr cs =>
    simp only [Ob.mine] at hmi
    subst hmi
    rcases h with ⟨h, _⟩ | ⟨b', o', h1, _, h3⟩
    · rw [h] at hr; cases hr
    · rw [h1] at hr; cases hr; exact h3
  | mix fr cs =>
    simp only [Ob.mine] at hmi
    subst hmi
    obtain ⟨b', o', h1, _, h3⟩ := h
    rw [h1] at hr; cases hr; exact h3
  | gone => exact hmi.elim
theorem ownd_notI (hC : Ctx I ρ H w) {b : Nat} (h : ownd ρ H b) : ¬ I b := by
  obtain ⟨id, o, hm, hr⟩ := h
  exact (hC.own hm hr).1
theorem Own_keep {fr : Bool} {b : Nat} (h : Own w I fr b) (hb : w'.heap[b]? = w.heap[b]?) (hI : I b → I' b) (hn : ¬ I b → ¬ I' b) : Own w' I' fr b := by
  cases fr with
  | true => exact hI h
  | false => obtain ⟨h1, arr, e, h2⟩ := h; exact ⟨hn h1, arr, e, hb.trans h2⟩
theorem RO_keep (hC : Ctx I ρ H w) (hs : Stp I ρ H w I' ρ' H' w') {id : Nat} {o : Ob} (h : RO w I ρ H id o) (hid : id < H.length)
    (hb : ∀ b off, o ≠ .gone → ρ id = some (b, off) → w'.heap[b]? = w.heap[b]? ∧ (¬ I b → ¬ I' b)) : RO w' I' ρ' H' id o := by
  cases o with
  | gone => trivial
  | flat fr cs =>
    rcases h with ⟨h1, h2⟩ | ⟨b, off, h1, h2, h3⟩
    · exact .inl ⟨by rw [hs.rho id hid]; exact h1, h2⟩
    · obtain ⟨hbb, hn⟩ := hb b off (by simp) h1
      refine .inr ⟨b, off, by rw [hs.rho id hid]; exact h1, fun j c hc => ?_, Own_keep h3 hbb (fun hi => (hs.fix b hi).1) hn⟩
      obtain ⟨u, hu, hr⟩ := h2 j c hc
      exact ⟨u, by rw [cell_of_block (w := w) hbb]; exact hu, RT_fix hs.fix c u hr⟩
  | mix fr cs =>
    obtain ⟨b, off, h1, h2, h3⟩ := h
    obtain ⟨hbb, hn⟩ := hb b off (by simp) h1
    refine ⟨b, off, by rw [hs.rho id hid]; exact h1, fun j c hc => ?_, Own_keep h3 hbb (fun hi => (hs.fix b hi).1) hn⟩
    obtain ⟨u, hu, hr⟩ := h2 j c hc
    exact ⟨u, by rw [cell_of_block (w := w) hbb]; exact hu, RC_stp hC hs hr⟩
def upd (ρ : Rho) (id : Nat) (p : Nat × Nat) : Rho := fun i => if i = id then some p else ρ i
def Cont (w : World) (I : Nat → Prop) (ρ : Rho) (H : List Ob) (off : Nat) (arr : Array Value) : Ob → Prop
  | .flat _ cs => ∀ (j : Nat) (c : T), cs[j]? = some c → ∃ u, arr[off + j]? = some u ∧ RT w I c u
  | .mix _ cs => ∀ (j : Nat) (c : C), cs[j]? = some c → ∃ u, arr[off + j]? = some u ∧ RC w I ρ H c u
  | .gone => True
theorem RO_of_cont (hC : Ctx I ρ H w) (hs : Stp I ρ H w I' ρ' H' w') {id b off : Nat} {o : Ob} {arr : Array Value} {e : TypeId} (hm : o.mine) (hr : ρ' id = some (b, off))
    (hb : w'.heap[b]? = some (.cells arr e (0, 0))) (hn : ¬ I' b) (hc : Cont w I ρ H off arr o) : RO w' I' ρ' H' id o := by
  cases o with
  | gone => trivial
  | flat fr cs =>
    simp only [Ob.mine] at hm
    subst hm
    refine .inr ⟨b, off, hr, fun j c hj => ?_, hn, arr, e, hb⟩
    obtain ⟨u, hu, hru⟩ := hc j c hj
    exact ⟨u, by rw [cell_at hb]; exact hu, RT_fix hs.fix c u hru⟩
  | mix fr cs =>
    simp only [Ob.mine] at hm
    subst hm
    refine ⟨b, off, hr, fun j c hj => ?_, hn, arr, e, hb⟩
    obtain ⟨u, hu, hru⟩ := hc j c hj
    exact ⟨u, by rw [cell_at hb]; exact hu, RC_stp hC hs hru⟩
theorem mine_append {o : Ob} {id : Nat} (h : mine (H ++ [o]) id) : mine H id ∨ id = H.length ∧ o.mine := by
  obtain ⟨o', ho, hm⟩ := h
  rw [List.getElem?_append] at ho
  split at ho
  · exact .inl ⟨o', ho, hm⟩
  · rename_i hl
    have : id - H.length = 0 := by
      have := (List.getElem?_eq_some_iff.1 ho).1
      simp at this
      omega
    rw [this] at ho
    simp at ho
    subst ho
    exact .inr ⟨by omega, hm⟩
theorem push_ok (hC : Ctx I ρ H w) {o : Ob} {arr : Array Value} {e : TypeId} (hm : o.mine) (hc : Cont w I ρ H 0 arr o) :
    Ctx I (upd ρ H.length (w.heap.size, 0)) (H ++ [o]) (w.alloc (.cells arr e)) ∧ Stp I ρ H w I (upd ρ H.length (w.heap.size, 0)) (H ++ [o]) (w.alloc (.cells arr e)) := by
  have hold : ∀ b, b < w.heap.size → (w.alloc (.cells arr e)).heap[b]? = w.heap[b]? := fun b hb => by simp only [World.alloc, Array.getElem?_push]; rw [if_neg (by omega)]
  have hnew : (w.alloc (.cells arr e)).heap[w.heap.size]? = some (.cells arr e (0, 0)) := heap_alloc_new w _
  have hs : Stp I ρ H w I (upd ρ H.length (w.heap.size, 0)) (H ++ [o]) (w.alloc (.cells arr e)) := by
    refine ⟨by simp, fun id hid => by simp [upd]; omega, fun id hg => ?_, fun b hb => ⟨hb, hold b (hC.lt b hb)⟩, rfl, rfl, rfl, by simp, fun b hb _ => hold b hb, fun b n hcap => ?_, fun _ h => h, fun _ h => .inl h, fun b hb => ?_⟩
    · unfold GN at hg ⊢
      rw [List.getElem?_append_left (List.getElem?_eq_some_iff.1 hg).1]; exact hg
    · obtain ⟨a, e', fz, h1, h2⟩ := hcap
      exact ⟨a, e', fz, (hold b (lt_heap h1)).trans h1, h2⟩
    · obtain ⟨id, off, hmi, hr⟩ := hb
      rcases mine_append hmi with h | ⟨rfl, _⟩
      · left
        have := mine_lt h
        rw [upd, if_neg (by omega)] at hr
        exact ⟨id, off, h, hr⟩
      · right
        simp [upd] at hr
        omega
  refine ⟨⟨fun id ob hob => ?_, fun b hb => by have := hC.lt b hb; simp; omega, fun id p hr => ?_, fun id id' b off off' h1 h2 h3 h4 => ?_⟩, hs⟩
  · rw [List.getElem?_append] at hob
    split at hob
    · rename_i hl
      refine RO_keep hC hs (hC.obj id ob hob) hl fun b off hg hr => ⟨hold b ?_, fun h => h⟩
      have h := hC.obj id ob hob
      cases ob with
      | gone => exact absurd rfl hg
      | flat fr cs =>
        rcases h with ⟨h, _⟩ | ⟨b', o', h1, _, h3⟩
        · rw [h] at hr; cases hr
        · rw [h1] at hr; cases hr
          cases fr with
          | true => exact hC.lt _ h3
          | false => obtain ⟨_, _, _, h4⟩ := h3; exact lt_heap h4
      | mix fr cs =>
        obtain ⟨b', o', h1, _, h3⟩ := h
        rw [h1] at hr; cases hr
        cases fr with
        | true => exact hC.lt _ h3
        | false => obtain ⟨_, _, _, h4⟩ := h3; exact lt_heap h4
    · rename_i hl
      have h0 : id - H.length = 0 := by
        have := (List.getElem?_eq_some_iff.1 hob).1
        simp at this
        omega
      rw [h0] at hob
      simp at hob
      subst hob
      have : id = H.length := by omega
      subst this
      exact RO_of_cont hC hs hm (by simp [upd]) hnew (fun hi => by have := hC.lt _ hi; omega) hc
  · simp only [upd] at hr
    split at hr
    · simp; omega
    · have := hC.dom id p hr; simp; omega
  · have key : ∀ id b off, mine (H ++ [o]) id → upd ρ H.length (w.heap.size, 0) id = some (b, off) → (mine H id ∧ ρ id = some (b, off) ∧ b < w.heap.size) ∨ (id = H.length ∧ b = w.heap.size) := by
      intro id b off hmi hr
      rcases mine_append hmi with h | ⟨rfl, _⟩
      · have hl := mine_lt h
        rw [upd, if_neg (by omega)] at hr
        obtain ⟨_, arr', e', hh⟩ := hC.own h hr
        exact .inl ⟨h, hr, lt_heap hh⟩
      · simp [upd] at hr
        exact .inr ⟨rfl, hr.1.symm⟩
    rcases key _ _ _ h1 h3 with ⟨a1, a2, a3⟩ | ⟨a1, a2⟩ <;> rcases key _ _ _ h2 h4 with ⟨b1, b2, b3⟩ | ⟨b1, b2⟩
    · exact hC.inj _ _ _ _ _ a1 b1 a2 b2
    · omega
    · omega
    · omega
theorem phant_ok (hC : Ctx I ρ H w) : Ctx I ρ (H ++ [.flat false []]) w ∧ Stp I ρ H w I ρ (H ++ [.flat false []]) w ∧ ρ H.length = none := by
  have hn : ρ H.length = none := by
    cases h : ρ H.length with
    | none => rfl
    | some p => have := hC.dom _ _ h; omega
  have hmine : ∀ id b off, mine (H ++ [.flat false []]) id → ρ id = some (b, off) → mine H id := by
    intro id b off hm hr
    rcases mine_append hm with h | ⟨rfl, _⟩
    · exact h
    · rw [hn] at hr; cases hr
  have hs : Stp I ρ H w I ρ (H ++ [.flat false []]) w := by
    refine ⟨by simp, fun _ _ => rfl, fun id hg => ?_, fun b hb => ⟨hb, rfl⟩, rfl, rfl, rfl, Nat.le_refl _, fun b _ _ => rfl, fun _ _ h => h, fun _ h => h, fun _ h => .inl h, fun b hb => ?_⟩
    · unfold GN at hg ⊢
      rw [List.getElem?_append_left (List.getElem?_eq_some_iff.1 hg).1]; exact hg
    · obtain ⟨id, off, hmi, hr⟩ := hb
      exact .inl ⟨id, off, hmine _ _ _ hmi hr, hr⟩
  refine ⟨⟨fun id ob hob => ?_, hC.lt, fun id p hr => by have := hC.dom id p hr; simp; omega, fun id id' b o o' h1 h2 h3 h4 => hC.inj id id' b o o' (hmine _ _ _ h1 h3) (hmine _ _ _ h2 h4) h3 h4⟩, hs, hn⟩
  rw [List.getElem?_append] at hob
  split at hob
  · rename_i hl
    exact RO_keep hC hs (hC.obj id ob hob) hl fun b off _ _ => ⟨rfl, fun h => h⟩
  · rename_i hl
    have h0 : id - H.length = 0 := by
      have := (List.getElem?_eq_some_iff.1 hob).1
      simp at this
      omega
    rw [h0] at hob
    simp at hob
    subst hob
    have : id = H.length := by omega
    subst this
    exact .inl ⟨hn, rfl⟩
theorem get_set {id i : Nat} {o o' : Ob} (h : (H.set id o)[i]? = some o') : (i = id ∧ o' = o) ∨ (i ≠ id ∧ H[i]? = some o') := by
  rw [List.getElem?_set] at h
  split at h
  · split at h
    · simp at h; exact .inl ⟨by omega, h.symm⟩
    · simp at h
  · exact .inr ⟨by omega, h⟩
theorem mine_set {id i : Nat} {o : Ob} (h : mine (H.set id o) i) : (i = id ∧ o.mine) ∨ (i ≠ id ∧ mine H i) := by
  obtain ⟨o', ho, hm⟩ := h
  rcases get_set ho with ⟨h1, rfl⟩ | ⟨h1, h2⟩
  · exact .inl ⟨h1, hm⟩
  · exact .inr ⟨h1, o', h2, hm⟩
theorem gone_set {id i : Nat} {o : Ob} (hid : ∃ q, H[id]? = some q ∧ q ≠ .gone) (h : GN H i) : GN (H.set id o) i := by
  obtain ⟨q, hq, hn⟩ := hid
  have : i ≠ id := by
    rintro rfl
    rw [h] at hq
    cases hq
    exact hn rfl
  unfold GN at h ⊢
  rw [List.getElem?_set_ne (by omega)]
  exact h
structure Wr (w : World) (b : Nat) (w' : World) (arr' : Array Value) : Prop where
  os : w'.os = w.os
  tape : w'.tape = w.tape
  output : w'.output = w.output
  size : w'.heap.size = w.heap.size
  other : ∀ i, i ≠ b → w'.heap[i]? = w.heap[i]?
  here : ∃ arr e, w.heap[b]? = some (.cells arr e (0, 0)) ∧ w'.heap[b]? = some (.cells arr' e (0, 0)) ∧ arr'.size = arr.size
theorem Wr.cap {b : Nat} {arr' : Array Value} (h : Wr w b w' arr') {i n : Nat} (hc : Cap w i n) : Cap w' i n := by
  obtain ⟨arr, e, h1, h2, h3⟩ := h.here
  obtain ⟨a, e', fz, h4, h5⟩ := hc
  by_cases hi : i = b
  · subst hi
    rw [h1] at h4
    cases h4
    exact ⟨arr', e, (0, 0), h2, by omega⟩
  · exact ⟨a, e', fz, (h.other i hi).trans h4, h5⟩
theorem write_ok (hC : Ctx I ρ H w) {id b off : Nat} {o o' : Ob} (ho : H[id]? = some o) (hm : o.mine) (hr : ρ id = some (b, off)) (hm' : o'.mine) {arr' : Array Value} (hw : Wr w b w' arr')
    (hc : Cont w I ρ H off arr' o') : Ctx I ρ (H.set id o') w' ∧ Stp I ρ H w I ρ (H.set id o') w' := by
  have hmi : mine H id := ⟨o, ho, hm⟩
  have hng : o ≠ .gone := by rintro rfl; exact hm.elim
  have hown := hC.own hmi hr
  have hsame : ∀ i, I i → w'.heap[i]? = w.heap[i]? := fun i hi => hw.other i (by rintro rfl; exact hown.1 hi)
  have hs : Stp I ρ H w I ρ (H.set id o') w' := by
    refine ⟨by simp, fun _ _ => rfl, fun i hg => gone_set ⟨o, ho, hng⟩ hg, fun i hi => ⟨hi, hsame i hi⟩, hw.os, hw.tape, hw.output, by rw [hw.size]; exact Nat.le_refl _, fun i _ hi => hw.other i ?_, fun _ _ h => hw.cap h, fun _ h => h, fun _ h => .inl h, fun i hi => ?_⟩
    · rintro rfl; exact hi ⟨id, off, hmi, hr⟩
    · obtain ⟨j, oo, hj, hjr⟩ := hi
      rcases mine_set hj with ⟨rfl, _⟩ | ⟨_, hj⟩
      · exact .inl ⟨_, oo, hmi, hjr⟩
      · exact .inl ⟨j, oo, hj, hjr⟩
  refine ⟨⟨fun i ob hob => ?_, fun i hi => by rw [hw.size]; exact hC.lt i hi, fun i p hp => by simp; exact hC.dom i p hp, fun i j b' o1 o2 h1 h2 h3 h4 => ?_⟩, hs⟩
  · rcases get_set hob with ⟨rfl, rfl⟩ | ⟨hne, hob⟩
    · obtain ⟨arr, e, _, h2, _⟩ := hw.here
      exact RO_of_cont hC hs hm' hr h2 hown.1 hc
    · refine RO_keep hC hs (hC.obj i ob hob) (List.getElem?_eq_some_iff.1 hob).1 fun b' off' hg hr' => ⟨hw.other b' ?_, fun h => h⟩
      rintro rfl
      by_cases hmo : ob.mine
      · exact hne (hC.inj _ _ _ _ _ ⟨ob, hob, hmo⟩ hmi hr' hr)
      · have h := hC.obj i ob hob
        cases ob with
        | gone => exact hg rfl
        | flat fr cs =>
          rcases h with ⟨h, _⟩ | ⟨b', o', h1, _, h3⟩
          · rw [h] at hr'; cases hr'
          · rw [h1] at hr'; cases hr'
            cases fr with
            | true => exact hown.1 h3
            | false => exact hmo rfl
        | mix fr cs =>
          obtain ⟨b', o', h1, _, h3⟩ := h
          rw [h1] at hr'; cases hr'
          cases fr with
          | true => exact hown.1 h3
          | false => exact hmo rfl
  · have f : ∀ i, mine (H.set id o') i → mine H i := fun i hi => by
      rcases mine_set hi with ⟨rfl, _⟩ | ⟨_, h⟩
      · exact hmi
      · exact h
    exact hC.inj i j b' o1 o2 (f i h1) (f j h2) h3 h4
def Ob.frozen : Ob → Ob
  | .flat _ cs => .flat true cs
  | .mix _ cs => .mix true cs
  | .gone => .gone
theorem freeze_ok (hC : Ctx I ρ H w) {id : Nat} {o : Ob} (ho : H[id]? = some o) (hm : o.mine) :
    Ctx (fun b => I b ∨ ∃ off, ρ id = some (b, off)) ρ (H.set id o.frozen) w ∧ Stp I ρ H w (fun b => I b ∨ ∃ off, ρ id = some (b, off)) ρ (H.set id o.frozen) w := by
  have hmi : mine H id := ⟨o, ho, hm⟩
  have hng : o ≠ .gone := by rintro rfl; exact hm.elim
  have hnm : ¬ o.frozen.mine := by cases o <;> simp [Ob.frozen, Ob.mine]
  have hs : Stp I ρ H w (fun b => I b ∨ ∃ off, ρ id = some (b, off)) ρ (H.set id o.frozen) w := by
    refine ⟨by simp, fun _ _ => rfl, fun i hg => gone_set ⟨o, ho, hng⟩ hg, fun i hi => ⟨.inl hi, rfl⟩, rfl, rfl, rfl, Nat.le_refl _, fun _ _ _ => rfl, fun _ _ h => h, fun _ h => .inl h, fun b hb => ?_, fun i hi => ?_⟩
    · rcases hb with hb | ⟨off, hb⟩
      · exact .inl hb
      · exact .inr (.inl ⟨id, off, hmi, hb⟩)
    · obtain ⟨j, oo, hj, hjr⟩ := hi
      rcases mine_set hj with ⟨rfl, h⟩ | ⟨_, hj⟩
      · exact (hnm h).elim
      · exact .inl ⟨j, oo, hj, hjr⟩
  refine ⟨⟨fun i ob hob => ?_, fun b hb => ?_, fun i p hp => by simp; exact hC.dom i p hp, fun i j b' o1 o2 h1 h2 h3 h4 => ?_⟩, hs⟩
  · rcases get_set hob with ⟨rfl, rfl⟩ | ⟨hne, hob⟩
    · have h := hC.obj _ _ ho
      cases o with
      | gone => trivial
      | flat fr cs =>
        rcases h with h | ⟨b', o', h1, h2, h3⟩
        · exact .inl h
        · refine .inr ⟨b', o', h1, fun j c hj => ?_, .inr ⟨o', h1⟩⟩
          obtain ⟨u, hu, hru⟩ := h2 j c hj
          exact ⟨u, hu, RT_fix hs.fix c u hru⟩
      | mix fr cs =>
        obtain ⟨b', o', h1, h2, h3⟩ := h
        refine ⟨b', o', h1, fun j c hj => ?_, .inr ⟨o', h1⟩⟩
        obtain ⟨u, hu, hru⟩ := h2 j c hj
        exact ⟨u, hu, RC_stp hC hs hru⟩
    · have hol := hC.obj i ob hob
      by_cases hmo : ob.mine
      · refine RO_keep hC hs hol (List.getElem?_eq_some_iff.1 hob).1 fun b' off' hg hr' => ⟨rfl, fun h => ?_⟩
        rintro (hi | ⟨off2, hi⟩)
        · exact h hi
        · exact hne (hC.inj _ _ _ _ _ ⟨ob, hob, hmo⟩ hmi hr' hi)
      · cases ob with
        | gone => trivial
        | flat fr cs =>
          rcases hol with h | ⟨b', o', h1, h2, h3⟩
          · exact .inl h
          · cases fr with
            | true =>
              refine .inr ⟨b', o', h1, fun j c hj => ?_, .inl h3⟩
              obtain ⟨u, hu, hru⟩ := h2 j c hj
              exact ⟨u, hu, RT_fix hs.fix c u hru⟩
            | false => exact (hmo rfl).elim
        | mix fr cs =>
          obtain ⟨b', o', h1, h2, h3⟩ := hol
          cases fr with
          | true =>
            refine ⟨b', o', h1, fun j c hj => ?_, .inl h3⟩
            obtain ⟨u, hu, hru⟩ := h2 j c hj
            exact ⟨u, hu, RC_stp hC hs hru⟩
          | false => exact (hmo rfl).elim
  · rcases hb with hb | ⟨off, hb⟩
    · exact hC.lt b hb
    · obtain ⟨_, arr, e, h⟩ := hC.own hmi hb
      exact lt_heap h
  · have f : ∀ i, mine (H.set id o.frozen) i → mine H i := fun i hi => by
      rcases mine_set hi with ⟨rfl, h⟩ | ⟨_, h⟩
      · exact (hnm h).elim
      · exact h
    exact hC.inj i j b' o1 o2 (f i h1) (f j h2) h3 h4
end
end Go.AM

namespace Go.AM
section
variable {P : Program} {I I' : Nat → Prop} {ρ ρ' : Rho} {H H' : List Ob} {w w' : World} {tb : Tab}
theorem isAgg_run (hT : TabOk P tb) {t : TypeId} (ho : tb.ok t = true) : (isAgg t).run P w = .ok (tb.at t).isAgg w := by
  rcases hT t with h | h
  · simp [Tab.ok, h] at ho
  · obtain ⟨d, hd, hk⟩ := h.desc
    have hr : (underlying t).run P w = .ok d w := run_underlying hd w
    unfold isAgg TI.isAgg
    cases hkk : (tb.at t).k <;> cases d <;> simp [hkk, dOk] at hk <;> simp [hr]
theorem sizeOf_run (hT : TabOk P tb) {t : TypeId} (ho : tb.ok t = true) : (sizeOf t).run P w = .ok (tb.at t).size w := by
  rcases hT t with h | h
  · simp [Tab.ok, h] at ho
  · obtain ⟨inf, z, hi, hs, _⟩ := h.info
    simp [sizeOf, typeInfo, hi, hs]
theorem CK.get_ok {k : CK} {cs : List T} {j : Nat} {c : T} {u : Value} (h : k.is cs j = true) (hc : cs[j]? = some c) (hr : RT w I c u) : RT w I (k.get cs j) u := by
  cases k <;> simp only [CK.is] at h <;> simp only [CK.get]
  case int k =>
    simp only [isI, gI, hc] at h ⊢
    split at h <;> simp at h
    rename_i heq
    simp at heq
    subst heq
    simp only [← h]
    exact hr
  case bool => simp only [isB, gB, hc] at h ⊢; split at h <;> simp at h; rename_i heq; simp at heq; subst heq; exact hr
  case str => simp only [isS, gS, hc] at h ⊢; split at h <;> simp at h; rename_i heq; simp at heq; subst heq; exact hr
  case ptr => simp only [gP, hc, Option.getD_some]; exact hr
  case sl =>
    simp only [isL, gN, gL, hc] at h ⊢
    split at h <;> simp at h
    · rename_i heq; simp at heq; subst heq; exact hr
    · rename_i heq; simp at heq; subst heq
      simp only [RT] at hr ⊢
      refine ⟨none, 0, hr, Nat.le_refl _, ?_⟩
      simp
  case fn => simp only [isF, gF, hc] at h ⊢; split at h <;> simp at h; rename_i heq; simp at heq; subst heq; exact hr
  case ifc => simp at h
  case other => simp at h
theorem CK.is_some {k : CK} {cs : List T} {j : Nat} (h : k.is cs j = true) : ∃ c, cs[j]? = some c := by
  cases hc : cs[j]? with
  | some c => exact ⟨c, rfl⟩
  | none => cases k <;> simp [CK.is, isI, isB, isS, isP, isL, isF, hc] at h
def MemT (w : World) (I : Nat → Prop) (ad : Addr) (cs : List T) : Prop := ∀ (j : Nat) (c : T), cs[j]? = some c → ∃ u, w.cell? (ad.add j) = some u ∧ RT w I c u
theorem MemT.of_RTs {ad : Addr} {cs : List T} (h : RTs w I cs ad 0) : MemT w I ad cs := fun j c hc => by
  have := (RTs_get h hc).2
  simpa using this
theorem getAll_ok {ad : Addr} {cs : List T} (hm : MemT w I ad cs) : ∀ (ks : List CK) (j : Nat), isAll ks cs j = true →
    ∃ us : List Value, us.length = ks.length ∧ (∀ i u, us[i]? = some u → w.cell? ((ad.add j).add i) = some u) ∧ A2 (RC w I ρ H) (getAll ks cs j) us
  | [], j, _ => ⟨[], rfl, by simp, .nil⟩
  | k :: ks, j, h => by
    simp only [isAll, Bool.and_eq_true] at h
    obtain ⟨c, hc⟩ := CK.is_some h.1
    obtain ⟨u, hu, hr⟩ := hm j c hc
    obtain ⟨us, hl, hcell, ha⟩ := getAll_ok hm ks (j + 1) h.2
    refine ⟨u :: us, by simp [hl], fun i v hv => ?_, .cons (CK.get_ok h.1 hc hr) ha⟩
    cases i with
    | zero => simp at hv; subst hv; rw [Addr.add_add]; exact hu
    | succ i =>
      have := hcell i v (by simpa using hv)
      rw [Addr.add_add] at this ⊢
      rwa [show j + (i + 1) = j + 1 + i by omega]
theorem loadT_ok (hT : TabOk P tb) {t : TypeId} (ho : tb.ok t = true) {ad : Addr} {cs : List T} (hm : MemT w I ad cs) {j : Nat} {v : V} (h : loadT (tb.at t) cs j = some v) :
    ∃ u, (Instr.loadAt t (.pointer (some (ad.add j)))).run P w = .ok u w ∧ RV w I ρ H v u := by
  have hlen : (tb.at t).cks.length = (tb.at t).size := by
    rcases hT t with h | h
    · simp [Tab.ok, h] at ho
    · have := h.len; simpa [TI.zeros] using this
  unfold loadT at h
  split at h
  · rename_i hall
    obtain ⟨us, hl, hcell, ha⟩ := getAll_ok (ρ := ρ) (H := H) hm _ _ hall
    split at h
    · rename_i hagg
      simp only [Option.some.injEq] at h
      subst h
      refine ⟨.agg us.toArray, ?_, us, rfl, ha⟩
      have := run_loadCells_list (P := P) w (ad.add j) us hcell
      rw [hl, hlen] at this
      simp [Instr.loadAt, Instr.sureAddr, loadVar, isAgg_run hT ho, hagg, sizeOf_run hT ho, this]
    · rename_i hagg
      split at h
      · rename_i k hk
        simp only [Option.some.injEq] at h
        subst h
        rw [hk] at ha hl
        simp only [getAll] at ha
        cases ha with
        | cons hr ht =>
          rename_i u us'
          refine ⟨u, ?_, hr⟩
          have := hcell 0 u rfl
          rw [Addr.add_zero'] at this
          simp [Instr.loadAt, Instr.sureAddr, loadVar, isAgg_run hT ho, hagg, run_load, this]
      · simp at h
  · simp at h
def MemC (w : World) (I : Nat → Prop) (ρ : Rho) (H : List Ob) (b o : Nat) (cs : List C) : Prop := ∀ (j : Nat) (c : C), cs[j]? = some c → ∃ u, w.cell? ⟨b, o + j, none⟩ = some u ∧ RC w I ρ H c u
theorem memC_list {b o : Nat} {cs : List C} (hm : MemC w I ρ H b o cs) : ∃ us : List Value, A2 (RC w I ρ H) cs us ∧ ∀ i u, us[i]? = some u → w.cell? ⟨b, o + i, none⟩ = some u := by
  induction cs generalizing o with
  | nil => exact ⟨[], .nil, by simp⟩
  | cons c cs ih =>
    obtain ⟨u, hu, hr⟩ := hm 0 c rfl
    obtain ⟨us, ha, hc⟩ := ih (o := o + 1) (fun j c hc => by
      have := hm (j + 1) c (by simpa using hc)
      rwa [show o + (j + 1) = o + 1 + j by omega] at this)
    refine ⟨u :: us, .cons hr ha, fun i v hv => ?_⟩
    cases i with
    | zero => simp at hv; subst hv; exact hu
    | succ i =>
      have := hc i v (by simpa using hv)
      rwa [show o + (i + 1) = o + 1 + i by omega]
theorem loadC_ok (hT : TabOk P tb) {t : TypeId} (ho : tb.ok t = true) {b o : Nat} {cs : List C} (hm : MemC w I ρ H b o cs) {j : Nat} {v : V} (h : loadC (tb.at t) cs j = some v) :
    ∃ u, (Instr.loadAt t (.pointer (some ⟨b, o + j, none⟩))).run P w = .ok u w ∧ RV w I ρ H v u := by
  unfold loadC at h
  split at h
  · rename_i hagg
    split at h
    · rename_i hlen
      simp only [Option.some.injEq] at h
      subst h
      obtain ⟨us, ha, hc⟩ := memC_list (o := o + j) (cs := (cs.drop j).take (tb.at t).size) (fun i c hi => by
        rw [List.getElem?_take] at hi
        split at hi
        · rw [List.getElem?_drop] at hi
          have := hm _ c hi
          rwa [show o + (j + i) = o + j + i by omega] at this
        · simp at hi)
      refine ⟨.agg us.toArray, ?_, us, rfl, ha⟩
      have hl : us.length = (tb.at t).size := by rw [← ha.length]; simp; omega
      have := run_loadCells_list (P := P) w ⟨b, o + j, none⟩ us (fun i u hu => by rw [add_plain]; exact hc i u hu)
      rw [hl] at this
      simp [Instr.loadAt, Instr.sureAddr, loadVar, isAgg_run hT ho, hagg, sizeOf_run hT ho, this]
    · simp at h
  · rename_i hagg
    split at h
    · rename_i c hc
      simp only [Option.some.injEq] at h
      subst h
      obtain ⟨u, hu, hr⟩ := hm j c hc
      exact ⟨u, by simp [Instr.loadAt, Instr.sureAddr, loadVar, isAgg_run hT ho, hagg, run_load, hu], hr⟩
    · simp at h
theorem row_ok (hC : Ctx I ρ H w) {get : Nat → Option Ob} (hget : ∀ id o, get id = some o → H[id]? = some o) {x : V} {u : Value} (hr : RV w I ρ H x u) {m : Nat} {new : List T} (h : rowOf get x = some (m, new)) {sz : Nat} (hl : new.length = m * sz) :
    ∃ (A : Option Addr) (c : Nat) (us : List Value), u = .slice A m c ∧ m ≤ c ∧ A2 (RT w I) new us ∧ (us = [] ∨ ∃ ad, A = some ad ∧ ∀ j v, us[j]? = some v → w.cell? (ad.add j) = some v) := by
  have key : ∀ {ad : Addr} {cs : List T}, MemT w I ad cs → ∃ us, A2 (RT w I) cs us ∧ ∀ j v, us[j]? = some v → w.cell? (ad.add j) = some v := by
    intro ad cs hm
    induction cs generalizing ad with
    | nil => exact ⟨[], .nil, by simp⟩
    | cons c cs ih =>
      obtain ⟨u, hu, hr⟩ := hm 0 c rfl
      obtain ⟨us, ha, hc⟩ := ih (ad := ad.add 1) (fun j c hc => by
        have := hm (j + 1) c (by simpa using hc)
        rwa [show j + 1 = 1 + j by omega, ← Addr.add_add] at this)
      refine ⟨u :: us, .cons hr ha, fun i v hv => ?_⟩
      cases i with
      | zero => simp at hv; subst hv; exact hu
      | succ i =>
        have := hc i v (by simpa using hv)
        rwa [Addr.add_add, show 1 + i = i + 1 by omega] at this
  unfold rowOf at h
  split at h
  · simp only [Option.some.injEq, Prod.mk.injEq] at h
    obtain ⟨rfl, rfl⟩ := h
    simp only [RV, RV1, RC, RT] at hr
    exact ⟨none, 0, [], hr, Nat.le_refl _, .nil, .inl rfl⟩
  · simp only [Option.some.injEq, Prod.mk.injEq] at h
    obtain ⟨rfl, rfl⟩ := h
    simp only [RV, RV1, RC, RT] at hr
    obtain ⟨A, c, rfl, hn, hs⟩ := hr
    rcases hs with ⟨rfl, rfl⟩ | ⟨ad, rfl, hs⟩
    · exact ⟨A, c, [], rfl, hn, .nil, .inl rfl⟩
    · obtain ⟨us, ha, hc⟩ := key (MemT.of_RTs hs)
      exact ⟨some ad, c, us, rfl, hn, ha, .inr ⟨ad, rfl, hc⟩⟩
  · rename_i id off len sz'
    cases hg : slot? (get id) with
    | none => simp [hg] at h
    | some cs =>
      rw [hg] at h
      simp only [Option.map_some, Option.some.injEq, Prod.mk.injEq] at h
      obtain ⟨rfl, rfl⟩ := h
      have ⟨fr, hob⟩ : ∃ fr, get id = some (.flat fr cs) := by
        unfold slot? at hg
        split at hg <;> simp at hg
        rename_i fr cs' heq
        subst hg
        exact ⟨fr, heq⟩
      have hH := hget _ _ hob
      have hro := hC.obj _ _ hH
      simp only [RV, RV1, RC] at hr
      rcases hr with ⟨h, _⟩ | ⟨_, h1, rfl, rfl⟩ | ⟨b, o, c, h1, rfl, h3, _⟩
      · unfold GN at h; rw [hH] at h; cases h
      · refine ⟨none, 0, [], rfl, Nat.le_refl _, ?_, .inl rfl⟩
        have : sub cs off (0 * sz') = [] := by simp [sub]
        rw [this]; exact .nil
      · rcases hro with ⟨h, _⟩ | ⟨b', o', h1', h2', _⟩
        · rw [h] at h1; cases h1
        · rw [h1] at h1'; cases h1'
          obtain ⟨us, ha, hc⟩ := key (ad := ⟨b, o + off, none⟩) (cs := sub cs off (len * sz')) (fun j t ht => by
            unfold sub at ht
            rw [List.getElem?_take] at ht
            split at ht
            · rw [List.getElem?_drop] at ht
              have := h2' _ t ht
              rw [add_plain]
              rwa [show o + off + j = o + (off + j) by omega]
            · simp at ht)
          exact ⟨some ⟨b, o + off, none⟩, c, us, rfl, h3, ha, .inr ⟨_, rfl, hc⟩⟩
  · simp at h
end
end Go.AM
