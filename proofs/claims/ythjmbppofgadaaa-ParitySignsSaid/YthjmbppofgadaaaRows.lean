/-
  No cell of these rows narrows 'for every input' (looked for: loops, veiled, ifaces, maps, wideKeys, modest, calm, conditions, laid).
  DERIVED. THE GIVEN ROWS OF THIS SEAT. 3 by the template 'for every input the law returns true; each argument reads behind the call as it read before'; 0 by the template 'total and deterministic' (their statements: YthjmbppofgadaaaTotals.lean).
  GIVEN WITH THE SEED: the statements are not yours to turn. If you find one false, say at which input.
  Laid BY PROGRAM, IN A SANDBOX (cutbox-rows.mjs): the forced cells as the released guide's own fill.sh prints them over the translation 228085bc8ae61bef… (all of the seat's roots in one cut). By AI agents, Wed Nov 11 2026. No macro, syntax, notation, axiom, sorry.
-/
import Derived.Test.YthjmbppofgadaaaChecked
import GoSem.Claim
import GoSem.ClaimJoined
import GoSem.ClaimMapViews
import Derived.JoinedTies
import Derived.KernelRfl
namespace Go.Proofs.Ythjmbppofgadaaa
/- THE CELL 'sum', in the pinned program and in every row, IS THE sha256 OF THE DUMP (.gsa) THAT YthjmbppofgadaaaProg.lean LOADS. Nothing in Lean hashes anything: it is a label: what it is worth is what the hold of that sum in a sandbox is worth. -/
noncomputable def Try.pinned : Pinned := { name := "ythjmbppofgadaaa", sum := "228085bc8ae61beff89b8a71ea00a1226d234cbf21c719f9e944650a0f91b992", checked := Try.checked }
namespace Rows
def none {H : Type} : Left H := { results := [], args := [] }

/-- 'sosoptlaw17.ParitySigns': WHATEVER THE INPUT: true; the input reads as it did. -/
def paritySignsSpec : ChangeSpec := { name := "paritySigns", fn := fun _ => fun
  | [d] => { results := [.lit (.bool true)], args := [d] }
  | _ => none }
def paritySignsRow : OpenClaim := { program := "ythjmbppofgadaaa", sum := "228085bc8ae61beff89b8a71ea00a1226d234cbf21c719f9e944650a0f91b992", func := "sosopt/sosoptlaw17.ParitySigns", spec := "paritySigns", inPlace := ["math/bits.Add64", "math/bits.Sub64"], unfollowed := true, recurses := true, named := ["math/bits.divideError", "math/bits.overflowError"], apart := false }
def ParitySignsSaid : Prop := paritySignsRow.holds Try.pinned (OpenSpec.ofChange paritySignsSpec)

/-- ITS FALSE NEIGHBOUR: 'it returns false'. Refute it at one input. -/
def paritySignsWrong : ChangeSpec := { name := "paritySigns", fn := fun _ => fun
  | [d] => { results := [.lit (.bool false)], args := [d] }
  | _ => none }
def ParitySignsWrongFalsely : Prop := paritySignsRow.holds Try.pinned (OpenSpec.ofChange paritySignsWrong)

/-- 'sosoptlaw17.ParityClasses': WHATEVER THE INPUT: true; the input reads as it did. -/
def parityClassesSpec : ChangeSpec := { name := "parityClasses", fn := fun _ => fun
  | [d1, d2, d3] => { results := [.lit (.bool true)], args := [d1, d2, d3] }
  | _ => none }
def parityClassesRow : OpenClaim := { program := "ythjmbppofgadaaa", sum := "228085bc8ae61beff89b8a71ea00a1226d234cbf21c719f9e944650a0f91b992", func := "sosopt/sosoptlaw17.ParityClasses", spec := "parityClasses", inPlace := ["math/bits.Add64", "math/bits.Sub64"], unfollowed := true, recurses := true, named := ["math/bits.divideError", "math/bits.overflowError"], apart := false }
def ParityClassesSaid : Prop := parityClassesRow.holds Try.pinned (OpenSpec.ofChange parityClassesSpec)

/-- ITS FALSE NEIGHBOUR: 'it returns false'. Refute it at one input. -/
def parityClassesWrong : ChangeSpec := { name := "parityClasses", fn := fun _ => fun
  | [d1, d2, d3] => { results := [.lit (.bool false)], args := [d1, d2, d3] }
  | _ => none }
def ParityClassesWrongFalsely : Prop := parityClassesRow.holds Try.pinned (OpenSpec.ofChange parityClassesWrong)

/-- 'sosoptlaw17.ParityProducts': WHATEVER THE INPUT: true; the input reads as it did. -/
def parityProductsSpec : ChangeSpec := { name := "parityProducts", fn := fun _ => fun
  | [d1, d2] => { results := [.lit (.bool true)], args := [d1, d2] }
  | _ => none }
def parityProductsRow : OpenClaim := { program := "ythjmbppofgadaaa", sum := "228085bc8ae61beff89b8a71ea00a1226d234cbf21c719f9e944650a0f91b992", func := "sosopt/sosoptlaw17.ParityProducts", spec := "parityProducts", inPlace := ["math/bits.Add64", "math/bits.Sub64"], unfollowed := true, recurses := true, named := ["math/bits.divideError", "math/bits.overflowError"], apart := false }
def ParityProductsSaid : Prop := parityProductsRow.holds Try.pinned (OpenSpec.ofChange parityProductsSpec)

/-- ITS FALSE NEIGHBOUR: 'it returns false'. Refute it at one input. -/
def parityProductsWrong : ChangeSpec := { name := "parityProducts", fn := fun _ => fun
  | [d1, d2] => { results := [.lit (.bool false)], args := [d1, d2] }
  | _ => none }
def ParityProductsWrongFalsely : Prop := parityProductsRow.holds Try.pinned (OpenSpec.ofChange parityProductsWrong)

/- THE SECOND FORM. 'bulk': how many values and letters a reading holds, each counted each time it is reached (what is shared counts as often as it is met; a slice's spare places count too). A statement '..UptoSaid' is the law's where the arguments, and the package variables that the reading takes, are together of bulk at most 1048576: NARROWER than '..Said'. Prove '..Said' where nothing that the law and all that it calls make is longer than what came in: it says more and counts as full. Else prove '..UptoSaid'. A law counts once. -/
mutual
def uptoBulk {H : Type} : DataW H → Nat
  | .lit (.string bytes) => bytes.length + 1
  | .lit _ => 1
  | .nil => 1
  | .ptr d => uptoBulk d + 1
  | .slice elems spare => uptoBulkAll elems + uptoBulkAll spare + 1
  | .agg parts => uptoBulkAll parts + 1
  | .iface _ d => uptoBulk d + 1
  | .map entries => uptoBulkEntries entries + 1
  | .held _ => 1
def uptoBulkAll {H : Type} : List (DataW H) → Nat
  | [] => 0
  | d :: r => uptoBulk d + uptoBulkAll r
def uptoBulkEntries {H : Type} : List (Lit × DataW H) → Nat
  | [] => 0
  | x :: r => uptoBulkEntry x + uptoBulkEntries r
def uptoBulkEntry {H : Type} : Lit × DataW H → Nat
  | (.string bytes, d) => bytes.length + uptoBulk d + 1
  | (_, d) => uptoBulk d + 1
 end
def uptoSmall : (H : Type) → List (DataW H) → Bool := fun _ ds => decide (uptoBulkAll ds ≤ 1048576)
def OpenSpec.upto (s : _root_.Go.ChangeSpec) : _root_.Go.OpenSpec := { _root_.Go.OpenSpec.ofChange s with cond := some uptoSmall }

/-- 'sosoptlaw17.ParitySigns', WHERE WHAT IT READS IS OF BULK AT MOST 1048576: true; the input reads as it did. -/
def paritySignsUptoRow : OpenClaim := { program := "ythjmbppofgadaaa", sum := "228085bc8ae61beff89b8a71ea00a1226d234cbf21c719f9e944650a0f91b992", func := "sosopt/sosoptlaw17.ParitySigns", spec := "paritySigns", inPlace := ["math/bits.Add64", "math/bits.Sub64"], unfollowed := true, recurses := true, named := ["math/bits.divideError", "math/bits.overflowError"], apart := false, narrowed := true }
def ParitySignsUptoSaid : Prop := paritySignsUptoRow.holds Try.pinned (OpenSpec.upto paritySignsSpec)

/-- 'sosoptlaw17.ParityClasses', WHERE WHAT IT READS IS OF BULK AT MOST 1048576: true; the input reads as it did. -/
def parityClassesUptoRow : OpenClaim := { program := "ythjmbppofgadaaa", sum := "228085bc8ae61beff89b8a71ea00a1226d234cbf21c719f9e944650a0f91b992", func := "sosopt/sosoptlaw17.ParityClasses", spec := "parityClasses", inPlace := ["math/bits.Add64", "math/bits.Sub64"], unfollowed := true, recurses := true, named := ["math/bits.divideError", "math/bits.overflowError"], apart := false, narrowed := true }
def ParityClassesUptoSaid : Prop := parityClassesUptoRow.holds Try.pinned (OpenSpec.upto parityClassesSpec)

/-- 'sosoptlaw17.ParityProducts', WHERE WHAT IT READS IS OF BULK AT MOST 1048576: true; the input reads as it did. -/
def parityProductsUptoRow : OpenClaim := { program := "ythjmbppofgadaaa", sum := "228085bc8ae61beff89b8a71ea00a1226d234cbf21c719f9e944650a0f91b992", func := "sosopt/sosoptlaw17.ParityProducts", spec := "parityProducts", inPlace := ["math/bits.Add64", "math/bits.Sub64"], unfollowed := true, recurses := true, named := ["math/bits.divideError", "math/bits.overflowError"], apart := false, narrowed := true }
def ParityProductsUptoSaid : Prop := parityProductsUptoRow.holds Try.pinned (OpenSpec.upto parityProductsSpec)

end Rows
end Go.Proofs.Ythjmbppofgadaaa
