/- More rules: objects that hold rows. -/
import Derived.Test.YtmomipeoigffgaaAmSymo
set_option linter.unusedSimpArgs false
set_option linter.unusedVariables false
namespace Go.AM
section
variable {tb : Tab} {imp : FuncId → Bool} {orc : Orc} {own : Bool} {get : Nat → Option Ob} {nx L0 : Nat} {H : List Ob}
theorem t_mk0 {t e : TypeId} {a b : Nat} {c : List CK} (h : tb.at t = ⟨.slice e, a, b, c⟩) (he : tb.at e = ⟨.int .i64, 1, 8, [.int .i64]⟩) :
    step tb imp orc true get nx (.mkslice t 0 []) [] = some (.c (.osl nx 0 0 1), [.push (.flat false [])]) := by
  simp only [step, h, sMkslice, TK.isSlice, TI.elem, he, isOther]
  rfl
/-- A literal of one row that is an object: the row is frozen. -/
theorem t_mkrow {t e e2 : TypeId} {a b : Nat} {c : List CK} {id k : Nat} {cs : List T} (h : tb.at t = ⟨.slice e, a, b, c⟩) (he : tb.at e = ⟨.slice e2, 1, 24, [.sl 1]⟩) (hg : get id = some (.flat false cs)) :
    step tb imp orc true get nx (.mkslice t 1 [0]) [.c (.osl id 0 k 1)] = some (.c (.osl nx 0 1 1), [.set id (.flat true cs), .push (.flat false [.sl k (cs.take k)])]) := by
  simp only [step, h, sMkslice, TK.isSlice, TI.elem, he, isOther]
  simp only [lit, cellsT, frzC, hg, sub, TI.zeros, List.map, CK.zero, zeroRow, putCells, List.drop_zero, Nat.mul_one, Option.map]
  rfl
theorem t_mknil {t e e2 : TypeId} {a b : Nat} {c : List CK} (h : tb.at t = ⟨.slice e, a, b, c⟩) (he : tb.at e = ⟨.slice e2, 1, 24, [.sl 1]⟩) :
    step tb imp orc true get nx (.mkslice t 1 [0]) [.c (.t .nils)] = some (.c (.osl nx 0 1 1), [.push (.flat false [.nils])]) := by
  simp only [step, h, sMkslice, TK.isSlice, TI.elem, he, isOther]
  rfl
/-- What is appended to an object of one's own. -/
theorem t_appo {t e : TypeId} {a b sz by' : Nat} {c ck : List CK} {tk : TK} {id k m : Nat} {cs new : List T} {x : V} (h : tb.at t = ⟨.slice e, a, b, c⟩) (he : tb.at e = ⟨tk, 1, by', ck⟩) (ho : isOther tk = false) (hb : 1 ≤ by') (hb2 : by' ≤ 100)
    (hx : rowOf get x = some (m, new)) (hg : get id = some (.flat false cs)) (hk : k = cs.length) (hm : m = new.length) (hl : k + m ≤ 1000000000) :
    step tb imp orc own get nx (.append t) [.c (.osl id 0 k 1), x] = some (.c (.osl nx 0 (k + m) 1), [.set id .gone, .push (.flat false (cs ++ new))]) := by
  subst hk hm
  simp only [step, h, sAppend, TK.isSlice, TI.elem, he, ho, hx, hg, Bool.not_false, Bool.and_self, Bool.true_and, decide_eq_true hb, if_true]
  rw [if_pos (by
    refine ⟨by omega, by omega, ?_⟩
    have : (cs.length + new.length) * by' ≤ 1000000000 * 100 := Nat.mul_le_mul hl hb2
    omega)]
  simp [sub]
theorem t_appn {t e : TypeId} {a b by' : Nat} {c ck : List CK} {tk : TK} {m : Nat} {new : List T} {x : V} (h : tb.at t = ⟨.slice e, a, b, c⟩) (he : tb.at e = ⟨tk, 1, by', ck⟩) (ho : isOther tk = false) (hb : 1 ≤ by') (hb2 : by' ≤ 100)
    (hx : rowOf get x = some (m, new)) (hm : m = new.length) (hl : m ≤ 1000000000) :
    step tb imp orc own get nx (.append t) [.c (.t .nils), x] = some (.c (.osl nx 0 m 1), [.push (.flat false new)]) := by
  subst hm
  simp only [step, h, sAppend, TK.isSlice, TI.elem, he, ho, hx, Bool.not_false, Bool.and_self, Bool.true_and, decide_eq_true hb, if_true]
  rw [if_pos (by
    refine ⟨by omega, ?_⟩
    have : new.length * by' ≤ 1000000000 * 100 := Nat.mul_le_mul hl hb2
    omega)]
theorem row_o {id m : Nat} {cs : List T} {b : Bool} (hg : get id = some (.flat b cs)) (hm : m = cs.length) : rowOf get (.c (.osl id 0 m 1)) = some (m, cs) := by
  subst hm
  simp [rowOf, hg, slot?, sub]
theorem row_t {m : Nat} {cs : List T} : rowOf get (.c (.t (.sl m cs))) = some (m, cs) := rfl
end
end Go.AM
