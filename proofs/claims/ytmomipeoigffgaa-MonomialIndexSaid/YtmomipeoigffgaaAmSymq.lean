/- More rules: several objects; calls that hand objects over. -/
import Derived.Test.YtmomipeoigffgaaAmSymr
set_option linter.unusedSimpArgs false
set_option linter.unusedVariables false
namespace Go.AM
section
variable {tb : Tab} {imp : FuncId → Bool} {orc : Orc} {own : Bool} {get : Nat → Option Ob} {nx L0 : Nat} {H : List Ob}
theorem g_s1 {o0 o1 : Ob} {l : List Ob} : getM .sync L0 (o0 :: o1 :: l) 1 = some o1 := rfl
theorem g_s2 {o0 o1 o2 : Ob} {l : List Ob} : getM .sync L0 (o0 :: o1 :: o2 :: l) 2 = some o2 := rfl
theorem g_s3 {o0 o1 o2 o3 : Ob} {l : List Ob} : getM .sync L0 (o0 :: o1 :: o2 :: o3 :: l) 3 = some o3 := rfl
theorem g_s4 {o0 o1 o2 o3 o4 : Ob} {l : List Ob} : getM .sync L0 (o0 :: o1 :: o2 :: o3 :: o4 :: l) 4 = some o4 := rfl
theorem g_s5 {o0 o1 o2 o3 o4 o5 : Ob} {l : List Ob} : getM .sync L0 (o0 :: o1 :: o2 :: o3 :: o4 :: o5 :: l) 5 = some o5 := rfl
theorem g_s6 {o0 o1 o2 o3 o4 o5 o6 : Ob} {l : List Ob} : getM .sync L0 (o0 :: o1 :: o2 :: o3 :: o4 :: o5 :: o6 :: l) 6 = some o6 := rfl
theorem g_s7 {o0 o1 o2 o3 o4 o5 o6 o7 : Ob} {l : List Ob} : getM .sync L0 (o0 :: o1 :: o2 :: o3 :: o4 :: o5 :: o6 :: o7 :: l) 7 = some o7 := rfl
theorem g_s8 {o0 o1 o2 o3 o4 o5 o6 o7 o8 : Ob} {l : List Ob} : getM .sync L0 (o0 :: o1 :: o2 :: o3 :: o4 :: o5 :: o6 :: o7 :: o8 :: l) 8 = some o8 := rfl
theorem g_s9 {o0 o1 o2 o3 o4 o5 o6 o7 o8 o9 : Ob} {l : List Ob} : getM .sync L0 (o0 :: o1 :: o2 :: o3 :: o4 :: o5 :: o6 :: o7 :: o8 :: o9 :: l) 9 = some o9 := rfl
theorem g_al {id : Nat} : getM .al L0 H id = getM .sync 0 H id := rfl
theorem g_low {id : Nat} (h : id < L0) : getM .low L0 H id = getM .sync 0 H id := by simp [getM, h]
theorem m_ow2 : Md.own .al = true := rfl
/-- A row appended to a row. -/
def apF (by' k nx id : Nat) : Option Ob → Option (Nat × List T) → Out
  | some (.flat false cs), some (m, new) => if 0 + k * 1 ≤ cs.length ∧ new.length = m * 1 ∧ (k + m) * by' ≤ 140737488355328 then some (.c (.osl nx 0 (k + m) 1), [.set id .gone, .push (.flat false (sub cs 0 (k * 1) ++ new))]) else none
  | _, _ => none
theorem apF_go {by' k nx id m : Nat} {cs new : List T} (h : 0 + k * 1 ≤ cs.length ∧ new.length = m * 1 ∧ (k + m) * by' ≤ 140737488355328) : apF by' k nx id (some (.flat false cs)) (some (m, new)) = some (.c (.osl nx 0 (k + m) 1), [.set id .gone, .push (.flat false (sub cs 0 (k * 1) ++ new))]) := if_pos h
def apN (by' nx : Nat) : Option (Nat × List T) → Out
  | some (m, new) => if new.length = m * 1 ∧ m * by' ≤ 140737488355328 then some (.c (.osl nx 0 m 1), [.push (.flat false new)]) else none
  | _ => none
theorem apN_go {by' nx m : Nat} {new : List T} (h : new.length = m * 1 ∧ m * by' ≤ 140737488355328) : apN by' nx (some (m, new)) = some (.c (.osl nx 0 m 1), [.push (.flat false new)]) := if_pos h
theorem t_apN {t e : TypeId} {a b by' : Nat} {c ck : List CK} {tk : TK} {x : V} (h : tb.at t = ⟨.slice e, a, b, c⟩) (he : tb.at e = ⟨tk, 1, by', ck⟩) (ho : isOther tk = false) (hb : 1 ≤ by') :
    step tb imp orc own get nx (.append t) [.c (.t .nils), x] = apN by' nx (rowOf get x) := by
  simp only [step, h, sAppend, TK.isSlice, TI.elem, he, ho, Bool.not_false, Bool.and_self, Bool.true_and, decide_eq_true hb, if_true]
  cases rowOf get x <;> rfl
theorem row_O {id off len sz : Nat} : rowOf get (.c (.osl id off len sz)) = (slot? (get id)).map fun cs => (len, sub cs off (len * sz)) := rfl
theorem slot_f {b : Bool} {cs : List T} : slot? (some (.flat b cs)) = some cs := rfl
theorem row_T {n : Nat} {cs : List T} : rowOf get (.c (.t (.sl n cs))) = some (n, cs) := rfl
theorem row_N : rowOf get (.c (.t .nils)) = some (0, []) := rfl
theorem sub_a {cs : List T} {n : Nat} (h : cs.length ≤ n) : sub cs 0 n = cs := by simp [sub, List.take_of_length_le h]
def mkR (id k nx : Nat) : Option Ob → Out
  | some (.flat false cs) => some (.c (.osl nx 0 1 1), [.set id (.flat true cs), .push (.flat false [.sl k (sub cs 0 (k * 1))])])
  | some (.flat true cs) => some (.c (.osl nx 0 1 1), [.push (.flat false [.sl k (sub cs 0 (k * 1))])])
  | _ => none
theorem mkR_f {id k nx : Nat} {cs : List T} : mkR id k nx (some (.flat false cs)) = some (.c (.osl nx 0 1 1), [.set id (.flat true cs), .push (.flat false [.sl k (sub cs 0 (k * 1))])]) := rfl
theorem t_mkR {t e e2 : TypeId} {a b : Nat} {c : List CK} {id k : Nat} (h : tb.at t = ⟨.slice e, a, b, c⟩) (he : tb.at e = ⟨.slice e2, 1, 24, [.sl 1]⟩) :
    step tb imp orc true get nx (.mkslice t 1 [0]) [.c (.osl id 0 k 1)] = mkR id k nx (get id) := by
  simp only [step, h, sMkslice, TK.isSlice, TI.elem, he, isOther]
  simp only [lit, cellsT, frzC]
  cases hg : get id with
  | none => rfl
  | some o => cases o with
    | flat b cs => cases b <;> rfl
    | _ => rfl
/-- Reading a cell of rows. -/
def ldR (j : Nat) : Option Ob → Out
  | some (.flat _ cs) => if isAll [.sl 1] cs j then some (.c (.t (.sl (gN cs j) (gL cs j))), []) else none
  | some (.mix _ cs) => match cs[j]? with | some c => some (.c c, []) | none => none
  | _ => none
theorem t_ldR {t e : TypeId} {id j : Nat} (h : tb.at t = ⟨.slice e, 1, 24, [.sl 1]⟩) : step tb imp orc own get nx (.load t) [.c (.ref id j)] = ldR j (get id) := by
  simp only [step, sLoad, h, isOther]
  cases hg : get id with
  | none => rfl
  | some o => cases o with
    | flat b cs =>
      show (match loadT ⟨.slice e, 1, 24, [.sl 1]⟩ cs j with | some v => some (v, []) | none => none) = if isAll [.sl 1] cs j then some (.c (.t (.sl (gN cs j) (gL cs j))), []) else none
      unfold loadT
      by_cases hc : isAll [.sl 1] cs j = true
      · simp only [hc, if_true]; rfl
      · simp only [hc]; rfl
    | mix b cs =>
      show (match loadC ⟨.slice e, 1, 24, [.sl 1]⟩ cs j with | some v => some (v, []) | none => none) = (match cs[j]? with | some c => some (.c c, []) | none => none)
      show (match (match cs[j]? with | some c => some (V.c c) | none => none) with | some v => some (v, []) | none => none) = _
      cases cs[j]? <;> rfl
    | gone => rfl
theorem ldR_f {j : Nat} {b : Bool} {ls : List (List Int)} (hj : j < ls.length) : ldR j (some (.flat b (ls.map fun l => T.sl l.length (l.map (T.int .i64))))) = some (.c (.t (.sl (ls.getD j []).length ((ls.getD j []).map (.int .i64)))), []) := by
  have h0 : (ls.map rowT)[j]? = some (rowT (ls.getD j [])) := by
    rw [List.getElem?_map, List.getElem?_eq_getElem hj, List.getD_eq_getElem?_getD, List.getElem?_eq_getElem hj]; rfl
  have h1 : isAll [.sl 1] (ls.map rowT) j = true := by simp [isAll, CK.is, isL, h0]
  have h2 : gN (ls.map rowT) j = (ls.getD j []).length := by unfold gN; rw [h0]
  have h3 : gL (ls.map rowT) j = (ls.getD j []).map (.int .i64) := by unfold gL; rw [h0]
  show (if isAll [.sl 1] (ls.map rowT) j then some (V.c (.t (.sl (gN (ls.map rowT) j) (gL (ls.map rowT) j))), []) else none) = _
  rw [h1, h2, h3]; rfl
theorem ldR_m {b : Bool} {c : C} {l : List C} : ldR 0 (some (.mix b (c :: l))) = some (.c c, []) := rfl
theorem t_apF {t e : TypeId} {a b by' : Nat} {c ck : List CK} {tk : TK} {id k : Nat} {x : V} (h : tb.at t = ⟨.slice e, a, b, c⟩) (he : tb.at e = ⟨tk, 1, by', ck⟩) (ho : isOther tk = false) (hb : 1 ≤ by') :
    step tb imp orc own get nx (.append t) [.c (.osl id 0 k 1), x] = apF by' k nx id (get id) (rowOf get x) := by
  simp only [step, h, sAppend, TK.isSlice, TI.elem, he, ho, Bool.not_false, Bool.and_self, Bool.true_and, decide_eq_true hb, if_true]
  cases rowOf get x with
  | none => cases get id with
    | none => rfl
    | some o => cases o with
      | flat b cs => cases b <;> rfl
      | _ => rfl
  | some p =>
    cases get id with
    | none => rfl
    | some o => cases o with
      | flat b cs =>
        cases b
        · show (if p.2.length = p.1 * 1 ∧ 0 + k * 1 ≤ cs.length ∧ (k + p.1) * by' ≤ 140737488355328 then _ else _) = (if 0 + k * 1 ≤ cs.length ∧ p.2.length = p.1 * 1 ∧ (k + p.1) * by' ≤ 140737488355328 then _ else _)
          by_cases hc : p.2.length = p.1 * 1 ∧ 0 + k * 1 ≤ cs.length ∧ (k + p.1) * by' ≤ 140737488355328
          · rw [if_pos hc, if_pos ⟨hc.2.1, hc.1, hc.2.2⟩]
          · rw [if_neg hc, if_neg (fun h => hc ⟨h.2.1, h.1, h.2.2⟩)]
        · rfl
      | _ => rfl
/-- What a call hands back that took no object. -/
def cI (nx : Nat) : Option (V × List Ob) → Out
  | some (r, os) => some (renV (back [] nx) r, os.map fun o => .push (renO (back [] nx) o))
  | none => none
theorem cI_some {r : V} {os : List Ob} : cI nx (some (r, os)) = some (renV (back [] nx) r, os.map fun o => .push (renO (back [] nx) o)) := rfl
theorem p_callRt {b : Bool} {r : Option (V × List Ob)} {o : Out} : callR true b r o = o := by cases b <;> rfl
theorem p_callFI3 {f : FuncId} {x y z : T} (hi : imp f = true) : callF imp orc get nx f [.c (.t x), .c (.t y), .c (.t z)] = cI nx (orc f [.c (.t x), .c (.t y), .c (.t z)] []) := by
  unfold callF
  rw [hi]
  show (match orc f [.c (.t x), .c (.t y), .c (.t z)] [] with | none => none | some (r, os') => if 0 ≤ os'.length then some (renV (back [] nx) r, sets (back [] nx) [] os') else none) = _
  cases orc f [.c (.t x), .c (.t y), .c (.t z)] [] with
  | none => rfl
  | some p => rfl
theorem b_osl {j off len sz : Nat} : renV (back [] nx) (.c (.osl j off len sz)) = .c (.osl (nx + j) off len sz) := by simp [renV, renV1, renC, back]
theorem b_flat {f : Nat → Option Nat} {b : Bool} {cs : List T} : renO f (.flat b cs) = .flat b cs := rfl
end
end Go.AM
