/- From the model's code to the abstract machine's: a function that checks as it goes. -/
import Derived.Test.YtmomipeoigffgaaAmBase
set_option linter.unusedVariables false
set_option linter.unusedSimpArgs false
namespace Go.AM

def pairsFst (ps : Array (Nat × Operand)) : List Nat := ps.toList.map (·.1)
def pairsSnd (ps : Array (Nat × Operand)) : List Operand := ps.toList.map (·.2)

def TK.isInt : TK → Option IntKind | .int k => some k | _ => none

def compCall (tb : Tab) (c : Call) : Option (K × List Operand) :=
  match c.callee with
  | .value (.func f) => some (.call f, c.args.toList)
  | .value x => some (.callv, x :: c.args.toList)
  | .builtin .len => match c.argTypes.toList, c.args.toList with
    | [t], [x] => some (.len t, [x])
    | _, _ => none
  | .builtin .max => match c.args.toList with
    | [x, y] => some (.max, [x, y])
    | _ => none
  | .builtin .min => match c.args.toList with
    | [x, y] => some (.min, [x, y])
    | _ => none
  | .builtin .append => match c.argTypes.toList, c.args.toList with
    | [t, u], [x, y] => if (tb.at t).k.isSlice && (tb.at u).k.isSlice then some (.append t, [x, y]) else none
    | _, _ => none
  | _ => none

def compOp (tb : Tab) : Op → Option (K × List Operand)
  | .move x | .assign x => some (.mv, [x])
  | .pick c a b => some (.pick, [c, a, b])
  | .binOp op t x y _ => some (.bin op t, [x, y])
  | .unOp op _ x => some (.un op, [x])
  | .convert s d x => match (tb.at s).k.isInt, (tb.at d).k.isInt with
    | some _, some k => some (.conv k, [x])
    | _, _ => none
  | .alloc t => some (.alloc t, [])
  | .box t x => some (.box t, [x])
  | .buildSlice t n ps => some (.mkslice t n (pairsFst ps), pairsSnd ps)
  | .makeSlice t l c => some (.make t, [l, c])
  | .load t a => some (.load t, [a])
  | .store t a v => some (.store t, [a, v])
  | .indexAddr t x i => some (.iaddr t, [x, i])
  | .fieldAddr t x i => some (.faddr t i, [x])
  | .makeFunc (.func f) first caps => if first.isEmpty then some (.mkfn f, caps.toList) else none
  | .extract t i => some (.ext i, [t])
  | .call c => compCall tb c
  | _ => none

/-- Operations that look at their operands alone. -/
def K.alone : K → Bool
  | .mv | .pick | .bin .. | .un _ | .conv _ | .iaddr _ | .faddr .. | .mkfn _ | .ext _ | .len _ | .max | .min => true
  | _ => false
/-- Operations that may make do with reading what was there before the region. -/
def K.reads : K → Bool
  | .load _ | .call _ | .callv => true
  | _ => false

def binding (o : Oper) : List Nat := (o.after.toList.filter fun e => Region.binds .any e).map (·.on)

/-- What surely comes before each operation, as bits. -/
def ancs : List Oper → List Nat → Nat → Option (List Nat)
  | [], acc, _ => some acc
  | o :: os, acc, i =>
    let b := binding o
    if b.all (· < i) then ancs os (acc ++ [b.foldl (fun m j => m ||| 2 ^ j ||| acc.getD j 0) 0]) (i + 1) else none

def tmpsOf (xs : List Operand) : List Nat := xs.filterMap fun | .tmp t => some t | _ => none
def Ins.uses (i : Ins) : List Nat := tmpsOf i.xs ++ (match i.g with | some (g, _) => [g] | none => [])

def ordered (an : List Nat) (i j : Nat) : Bool := (an.getD j 0).testBit i || (an.getD i 0).testBit j

def modeOf (is : List Ins) (an : List Nat) (i : Nat) (k : K) : Md :=
  if k.alone then .free else
    if is.zipIdx.all fun (x, j) => j == i || x.k.alone || ordered an i j then .sync else
      if k.reads then .low else .al

def compat (a b : Md) : Bool :=
  match a, b with
  | .free, _ | _, .free | .low, .low | .low, .al | .al, .low => true
  | _, _ => false

def apart (x y : Ins) : Bool :=
  (match x.dst with
   | some d => !y.uses.contains d && y.dst != some d
   | none => true) &&
  (match y.dst with
   | some d => !x.uses.contains d
   | none => true)

/-- Whether unordered operations can be exchanged. -/
def loose (is : List Ins) (an : List Nat) : Bool :=
  is.zipIdx.all fun (x, i) => is.zipIdx.all fun (y, j) => !(i < j) || (an.getD j 0).testBit i || (compat x.m y.m && apart x y)

def compIns (tb : Tab) (ops : Array Oper) (o : Oper) : Option Ins :=
  match compOp tb o.op with
  | none => none
  | some (k, xs) =>
    match o.guard with
    | none => some ⟨o.dst, k, xs, none, .sync⟩
    | some (j, want) =>
      match (ops[j]?).bind (·.dst) with
      | some d => some ⟨o.dst, k, xs, some (d, want), .sync⟩
      | none => none

def compAll (tb : Tab) (ops : Array Oper) : List Oper → Option (List Ins)
  | [] => some []
  | o :: os => match compIns tb ops o, compAll tb ops os with
    | some i, some is => some (i :: is)
    | _, _ => none

def compReg (tb : Tab) (ops : Array Oper) (draw : Bool) : Option (List Ins) :=
  match compAll tb ops ops.toList with
  | none => none
  | some is =>
    if draw then
      match ancs ops.toList [] 0 with
      | none => none
      | some an =>
        let is' := is.zipIdx.map fun (x, i) => { x with m := modeOf is an i x.k }
        if loose is' an then some is' else none
    else some is

def comp0 (tb : Tab) : Code → Option Cd
  | .skip => some .skip
  | .region _ ops draw => (compReg tb ops draw).map (.reg draw)
  | .seq a b => match comp0 tb a, comp0 tb b with
    | some a, some b => some (.seq a b)
    | _, _ => none
  | .cond c a b => match comp0 tb a, comp0 tb b with
    | some a, some b => some (.cond c a b)
    | _, _ => none
  | .block id a => (comp0 tb a).map (.block id)
  | .loop a => (comp0 tb a).map (.loop [] [])
  | .exit id => some (.exit id)
  | .ret => some .ret
  | _ => none

/-! ### what a loop's round begins with -/
def mask (l : List Nat) : Nat := l.foldl (fun m t => m ||| 2 ^ t) 0
def opMask : Operand → Nat | .tmp t => 2 ^ t | _ => 0
def reads : Cd → Nat
  | .reg _ is => is.foldl (fun m i => m ||| mask i.uses) 0
  | .seq a b => reads a ||| reads b
  | .cond c a b => opMask c ||| reads a ||| reads b
  | .block _ a | .loop _ _ a => reads a
  | _ => 0
def writes : Cd → List Nat
  | .reg _ is => is.filterMap (·.dst)
  | .seq a b | .cond _ a b => writes a ++ writes b
  | .block _ a | .loop _ _ a => writes a
  | _ => []
/-- (read before it is surely written, surely written behind it) -/
def exposed : Cd → Nat → Nat × Nat
  | .reg _ is, D => is.foldl (fun (p : Nat × Nat) i => (p.1 ||| (mask i.uses &&& (p.2 ^^^ (p.2 ||| mask i.uses))), match i.dst with | some d => p.2 ||| 2 ^ d | none => p.2)) (0, D)
  | .seq a b, D =>
    let (x, D1) := exposed a D
    let (y, D2) := exposed b D1
    (x ||| y, D2)
  | .cond c a b, D =>
    let (x, D1) := exposed a D
    let (y, D2) := exposed b D
    ((opMask c &&& (D ^^^ (D ||| opMask c))) ||| x ||| y, D1 &&& D2)
  | .block _ a, D => ((exposed a D).1, D)
  | .loop _ _ a, D => ((exposed a D).1, D)
  | _, D => (0, D)

def nub : List Nat → List Nat → List Nat
  | [], acc => acc.reverse
  | x :: xs, acc => if acc.contains x then nub xs acc else nub xs (x :: acc)

/-- The slots of slice types among those that are assigned. -/
def sliceSlots (tb : Tab) : Code → List (Nat × Nat)
  | .region _ ops _ => ops.toList.filterMap fun o => match o.op, o.dst, (tb.at o.type).k with
    | .assign _, some d, .slice e => some (d, (tb.at e).size)
    | _, _, _ => none
  | .seq a b | .cond _ a b => sliceSlots tb a ++ sliceSlots tb b
  | .block _ a | .loop a => sliceSlots tb a
  | _ => []

def nubP : List (Nat × Nat) → List (Nat × Nat) → List (Nat × Nat)
  | [], acc => acc.reverse
  | x :: xs, acc => if acc.any (·.1 == x.1) then nubP xs acc else nubP xs (x :: acc)

def dress (nt : Nat) (sl : List (Nat × Nat)) : Cd → Nat → Cd
  | .seq a b, out => .seq (dress nt sl a (out ||| (exposed b 0).1)) (dress nt sl b out)
  | .cond c a b, out => .cond c (dress nt sl a out) (dress nt sl b out)
  | .block id a, out => .block id (dress nt sl a out)
  | .loop _ _ a, out =>
    let ws := nub (writes a) []
    let ue := (exposed a 0).1
    let kill := (List.range nt).filter fun t => !ue.testBit t && !out.testBit t
    .loop kill (nubP (sl.filter fun p => ws.contains p.1 && !kill.contains p.1) []) (dress nt sl a (out ||| ue))
  | c, _ => c

def resultTmps : List ResultVar → Option (List Nat)
  | [] => some []
  | .tmp t :: rs => (resultTmps rs).map (t :: ·)
  | _ => none

def comp (tb : Tab) (f : Func) : Option Fun :=
  match f.body with
  | none => none
  | some c =>
    match resultTmps f.results.toList, comp0 tb c with
    | some rs, some cd => if rs.length ≤ 5 then some ⟨f.ntmps, rs, dress f.ntmps (sliceSlots tb c) cd (mask rs)⟩ else none
    | _, _ => none

end Go.AM
