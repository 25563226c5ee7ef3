/- More rules: one object of integers. -/
import Derived.Test.YtmomipeoigffgaaAmSym
set_option linter.unusedSimpArgs false
set_option linter.unusedVariables false
namespace Go.AM
theorem take_all (f : Int → T) (zs : List Int) : List.take zs.length (zs.map f) = zs.map f := List.take_of_length_le (by simp)
abbrev ints (zs : List Int) : List T := zs.map (.int .i64)
abbrev objI (zs : List Int) : Ob := .flat false (zs.map (.int .i64))

section
variable {R : Type} {E : Env} {n : Nat} {k : Ex → St → Option R} {fr : List V} {H : List Ob} {L0 : Nat}
/-- A loop of at most N rounds. -/
theorem loop_upo {m : Nat} {kl : List Nat} {ns : List (Nat × Nat)} {body : St → (Ex → St → Option R) → Option R} {r : R} (N : Nat) (Inv : Nat → List V → List Ob → Prop)
    (hs : ∀ i fr H n, i ≤ N → Inv i fr H → (∀ s', i + 1 ≤ N → (∃ fr' H', norm m kl ns s' = ⟨fr', H'⟩ ∧ Inv (i + 1) fr' H') → loopN m kl ns body k n s' = some r) →
      body ⟨fr, H⟩ (kloop m kl ns body k n) = some r) (hn : N < n) (h0 : ∃ fr' H', norm m kl ns ⟨fr, H⟩ = ⟨fr', H'⟩ ∧ Inv 0 fr' H') :
    loopN m kl ns body k n ⟨fr, H⟩ = some r := by
  have key : ∀ (n i : Nat) (s' : St), i ≤ N → N < i + n → (∃ fr' H', norm m kl ns s' = ⟨fr', H'⟩ ∧ Inv i fr' H') → loopN m kl ns body k n s' = some r := by
    intro n
    induction n with
    | zero => intro i s' h1 h2; omega
    | succ n ih =>
      rintro i s' h1 h2 ⟨fr', H', h3, h4⟩
      simp only [loopN]
      rw [h3]
      exact hs i fr' H' n h1 h4 fun s' h5 h6 => ih (i + 1) s' h5 (by omega) h6
  exact key n 0 _ (Nat.zero_le _) (by omega) h0

/-- Slots that lead to the object j alone. -/
def plainJ (j : Nat) : List V → Bool
  | [] => true
  | .c (.t _) :: l | .any :: l | .tup [] :: l => plainJ j l
  | .c (.osl i _ _ _) :: l => i == j && plainJ j l
  | .c (.ref i _) :: l => i == j && plainJ j l
  | _ => false
def hasJ : List V → Bool
  | [] => false
  | .c (.osl _ _ _ _) :: _ => true
  | .c (.ref _ _) :: _ => true
  | _ :: l => hasJ l
theorem plainJ_ids {j : Nat} : ∀ {l : List V}, plainJ j l = true → ∀ x ∈ l.flatMap idsV, x = j
  | [], _ => by simp
  | .c (.t _) :: l, h | .any :: l, h | .tup [] :: l, h => by
    have := plainJ_ids (j := j) (l := l) h
    simpa [idsV, idsV1, idsC] using this
  | .c (.osl i _ _ _) :: l, h | .c (.ref i _) :: l, h => by
    simp only [plainJ, Bool.and_eq_true, beq_iff_eq] at h
    have := plainJ_ids (j := j) (l := l) h.2
    intro x hx
    simp only [List.flatMap_cons, idsV, idsV1, idsC, List.cons_append, List.nil_append, List.mem_cons] at hx
    rcases hx with rfl | hx
    · exact h.1
    · exact this x hx
theorem hasJ_ids {j : Nat} : ∀ {l : List V}, plainJ j l = true → hasJ l = true → l.flatMap idsV ≠ []
  | [], _, h => by simp [hasJ] at h
  | .c (.t _) :: l, h, h2 | .any :: l, h, h2 | .tup [] :: l, h, h2 => by
    have := hasJ_ids (j := j) (l := l) h h2
    simpa [idsV, idsV1, idsC] using this
  | .c (.osl i _ _ _) :: l, h, h2 | .c (.ref i _) :: l, h, h2 => by simp [idsV, idsV1, idsC]
theorem reach_j {get : Nat → Option Ob} {j : Nat} : ∀ (n : Nat) (todo : List Nat), (∀ x ∈ todo, x = j) → reach get n todo [j] = [j]
  | 0, _, _ => by simp [reach]
  | n + 1, [], _ => by simp [reach]
  | n + 1, i :: todo, h => by
    have hi := h i (by simp)
    subst hi
    simp only [reach, pos, if_true]
    exact reach_j n todo fun x hx => h x (by simp [hx])
theorem norm_obj {kl : List Nat} {j : Nat} {cs : List T} {b : Bool} (hj : H[j]? = some (.flat b cs)) (h : (plainJ j (killed kl fr) && hasJ (killed kl fr)) = true) :
    norm 0 kl [] ⟨fr, H⟩ = ⟨(killed kl fr).map (renV (pos [j])), [.flat b cs]⟩ := by
  rw [Bool.and_eq_true] at h
  have h1 := plainJ_ids h.1
  have h2 := hasJ_ids h.1 h.2
  simp only [norm, pack, List.foldl_nil, List.range_zero, List.flatMap_nil, List.nil_append]
  cases hl : (killed kl fr).flatMap idsV with
  | nil => exact (h2 hl).elim
  | cons i todo =>
    have hi := h1 i (by simp [hl])
    subst hi
    have : reach (fun x => H[x]?) depth (i :: todo) [] = [i] := by
      show reach _ (199 + 1) (i :: todo) [] = _
      simp only [reach, pos, hj, idsO, List.append_nil, List.nil_append]
      exact reach_j 199 todo fun x hx => h1 x (by rw [hl]; simp [hx])
    rw [this]
    simp [hj, renO]
theorem norm_nil1 {kl : List Nat} {p z : Nat} (hp : (killed kl fr).getD p .any = .c (.t .nils)) : norm 0 kl [(p, z)] ⟨fr, H⟩ = norm 0 [] [] ⟨(killed kl fr).set p (.c (.osl H.length 0 0 z)), H ++ [.flat false []]⟩ := by
  simp only [norm, List.foldl_cons, List.foldl_nil, hp]
  rfl
theorem norm_no1 {kl : List Nat} {p z : Nat} (hp : ∀ x, (killed kl fr).getD p .any ≠ .c (.t x)) : norm 0 kl [(p, z)] ⟨fr, H⟩ = norm 0 kl [] ⟨fr, H⟩ := by
  simp only [norm, List.foldl_cons, List.foldl_nil]
  split
  · rename_i h; exact (hp _ h).elim
  · rfl
def isO : V → Bool | .c (.t _) => false | _ => true
theorem norm_objn {kl : List Nat} {p z j : Nat} {cs : List T} {b : Bool} (hj : H[j]? = some (.flat b cs)) (h : (isO ((killed kl fr).getD p .any) && (plainJ j (killed kl fr) && hasJ (killed kl fr))) = true) :
    norm 0 kl [(p, z)] ⟨fr, H⟩ = ⟨(killed kl fr).map (renV (pos [j])), [.flat b cs]⟩ := by
  rw [Bool.and_eq_true] at h
  rw [norm_no1 (fun x hx => by rw [hx] at h; simp [isO] at h), norm_obj hj h.2]
theorem n_t {f : Nat → Option Nat} {x : T} : renV f (.c (.t x)) = .c (.t x) := rfl
theorem n_any {f : Nat → Option Nat} : renV f .any = .any := rfl
theorem n_tup {f : Nat → Option Nat} : renV f (.tup []) = .tup [] := rfl
theorem n_osl {j off len sz : Nat} : renV (pos [j]) (.c (.osl j off len sz)) = .c (.osl 0 off len sz) := by simp [renV, renV1, renC, pos]
theorem n_ref {j off : Nat} : renV (pos [j]) (.c (.ref j off)) = .c (.ref 0 off) := by simp [renV, renV1, renC, pos]

theorem ap_nil {m : Md} : applyE m L0 [] H = some H := by cases m <;> rfl
theorem ap_push {o : Ob} {es : List Eff} : applyE .sync L0 (.push o :: es) H = applyE .sync L0 es (H ++ [o]) := rfl
theorem ap_pusha {o : Ob} {es : List Eff} : applyE .al L0 (.push o :: es) H = applyE .al L0 es (H ++ [o]) := rfl
theorem ap_set {o : Ob} {id : Nat} {es : List Eff} : applyE .sync L0 (.set id o :: es) H = applyE .sync L0 es (H.set id o) := rfl
end
section
variable {tb : Tab} {imp : FuncId → Bool} {orc : Orc} {own : Bool} {get : Nat → Option Ob} {nx L0 : Nat} {H : List Ob}
theorem t_make {t e : TypeId} {a b : Nat} {c : List CK} {l : Int} (h : tb.at t = ⟨.slice e, a, b, c⟩) (he : tb.at e = ⟨.int .i64, 1, 8, [.int .i64]⟩) (h1 : 0 ≤ l) (h2 : l ≤ 1000000) :
    step tb imp orc own get nx (.make t) [.c (.t (.int .i64 l)), .c (.t (.int .i64 l))] = some (.c (.osl nx 0 l.toNat 1), [.push (.flat false ((List.replicate l.toNat (0 : Int)).map (.int .i64)))]) := by
  simp only [step, h, sMake, TK.isSlice, TI.elem, he, isOther, Bool.not_false, Bool.and_self, if_true]
  rw [if_pos (by omega)]
  simp [zeroRow, TI.zeros, CK.zero]
theorem t_leno {t e : TypeId} {a b : Nat} {c : List CK} {id off len sz : Nat} (h : tb.at t = ⟨.slice e, a, b, c⟩) : step tb imp orc own get nx (.len t) [.c (.osl id off len sz)] = some (.c (.t (.int .i64 len)), []) := by
  simp [step, h, sLen]
theorem t_idxo {t e : TypeId} {a b : Nat} {c : List CK} {id off len : Nat} {k : IntKind} {i : Int} (h : tb.at t = ⟨.slice e, a, b, c⟩) (h2 : tb.ok e = true) (h5 : (tb.at e).size = 1) (h3 : 0 ≤ i) (h4 : i < len) :
    step tb imp orc own get nx (.iaddr t) [.c (.osl id off len 1), .c (.t (.int k i))] = some (.c (.ref id (off + i.toNat)), []) := by
  simp [step, h, sIaddr, h2, h3, h4, h5]
theorem put_ints : ∀ (zs : List Int) (j : Nat) (v : Int), putCells (zs.map (.int .i64)) j [T.int .i64 v] = (zs.set j v).map (.int .i64) := by
  intro zs j v
  simp [putCells, List.map_set]
theorem g_s0 {o : Ob} {l : List Ob} : getM .sync L0 (o :: l) 0 = some o := rfl
theorem g_a0 {o : Ob} {l : List Ob} : getM .al L0 (o :: l) 0 = some o := rfl
def stI (g : Option Ob) (id j : Nat) (v : Int) : Out :=
  match g with
  | some (.flat false cs) => some (.tup [], [.set id (.flat false (putCells cs j [T.int .i64 v]))])
  | _ => none
theorem t_storeo {t : TypeId} {zs : List Int} {m : Md} {j : Nat} {v : Int} {id : Nat} (h : tb.at t = ⟨.int .i64, 1, 8, [.int .i64]⟩) (hg : getM m L0 H id = some (objI zs)) (hj : j < zs.length) :
    step tb imp orc own (getM m L0 H) nx (.store t) [.c (.ref id j), .c (.t (.int .i64 v))] = some (.tup [], [.set id (objI (zs.set j v))]) := by
  simp only [step, h, sStore, isOther, hg, cellsT, frzC, Option.map_some, noSet]
  simp only [Bool.false_eq_true, if_false]
  rw [if_pos ⟨trivial, ⟨rfl, by simp⟩, by simp; omega⟩, put_ints]
  rfl
def callE (r : Option (V × List Ob)) (es : List Eff) : Out :=
  match r with
  | some (r, []) => some (r, es)
  | _ => none
theorem p_callE {r : V} {es : List Eff} : callE (some (r, [])) es = some (r, es) := rfl
theorem t_call1o {f : FuncId} {zs : List Int} {m : Md} {id len : Nat} (hi : imp f = false) (hg : getM m L0 H id = some (objI zs)) (hl : len = zs.length) :
    step tb imp orc own (getM m L0 H) nx (.call f) [.c (.osl id 0 len 1)] = callE (orc f [nums zs] []) [.set id (.flat true (zs.map (.int .i64)))] := by
  subst hl
  simp only [step, callF, hi, frzVs, frzV, frzC, hg, sub, Option.map_some]
  simp only [Bool.false_eq_true, if_false, List.drop_zero, Nat.mul_one, take_all, List.append_nil]
  rfl
theorem t_stores {t : TypeId} {zs : List Int} {l : List Ob} {j : Nat} {v : Int} (h : tb.at t = ⟨.int .i64, 1, 8, [.int .i64]⟩) (hj : j < zs.length) :
    step tb imp orc own (getM .sync L0 (.flat false (zs.map (.int .i64)) :: l)) nx (.store t) [.c (.ref 0 j), .c (.t (.int .i64 v))] = some (.tup [], [.set 0 (.flat false ((zs.set j v).map (.int .i64)))]) := t_storeo h rfl hj
theorem t_storea {t : TypeId} {zs : List Int} {l : List Ob} {j : Nat} {v : Int} (h : tb.at t = ⟨.int .i64, 1, 8, [.int .i64]⟩) (hj : j < zs.length) :
    step tb imp orc own (getM .al L0 (.flat false (zs.map (.int .i64)) :: l)) nx (.store t) [.c (.ref 0 j), .c (.t (.int .i64 v))] = some (.tup [], [.set 0 (.flat false ((zs.set j v).map (.int .i64)))]) := t_storeo h rfl hj
theorem t_call1s {f : FuncId} {zs : List Int} {l : List Ob} {len : Nat} (hi : imp f = false) (hl : len = zs.length) :
    step tb imp orc own (getM .sync L0 (.flat false (zs.map (.int .i64)) :: l)) nx (.call f) [.c (.osl 0 0 len 1)] = callE (orc f [nums zs] []) [.set 0 (.flat true (zs.map (.int .i64)))] := t_call1o hi rfl hl
theorem t_mk2 {t e e2 : TypeId} {a b : Nat} {c : List CK} {xs ys : List Int} (h : tb.at t = ⟨.slice e, a, b, c⟩) (he : tb.at e = ⟨.slice e2, 1, 24, [.sl 1]⟩) :
    step tb imp orc true get nx (.mkslice t 2 [0, 1]) [nums xs, nums ys] = some (.c (.osl nx 0 2 1), [.push (.flat false [rowT xs, rowT ys])]) := by
  simp only [step, h, sMkslice, TK.isSlice, TI.elem, he, isOther]
  rfl
theorem t_mk3 {t e e2 : TypeId} {a b : Nat} {c : List CK} {xs ys zs : List Int} (h : tb.at t = ⟨.slice e, a, b, c⟩) (he : tb.at e = ⟨.slice e2, 1, 24, [.sl 1]⟩) :
    step tb imp orc true get nx (.mkslice t 3 [0, 1, 2]) [nums xs, nums ys, nums zs] = some (.c (.osl nx 0 3 1), [.push (.flat false [rowT xs, rowT ys, rowT zs])]) := by
  simp only [step, h, sMkslice, TK.isSlice, TI.elem, he, isOther]
  rfl
theorem t_calls {f : FuncId} {ts : List T} {l : List Ob} {len : Nat} (hi : imp f = false) (hl : len = ts.length) :
    step tb imp orc own (getM .sync L0 (.flat false ts :: l)) nx (.call f) [.c (.osl 0 0 len 1)] = callE (orc f [.c (.t (.sl len ts))] []) [.set 0 (.flat true ts)] := by
  subst hl
  simp only [step, callF, hi, frzVs, frzV, frzC, g_s0, sub, Option.map_some]
  simp only [Bool.false_eq_true, if_false, List.drop_zero, Nat.mul_one, List.take_length, List.append_nil]
  rfl
theorem t_calls2 {f : FuncId} {ts : List T} {o : Ob} {l : List Ob} {len : Nat} {x : T} (hi : imp f = false) (hl : len = ts.length) :
    step tb imp orc own (getM .sync L0 (o :: .flat false ts :: l)) nx (.call f) [.c (.osl 1 0 len 1), .c (.t x)] = callE (orc f [.c (.t (.sl len ts)), .c (.t x)] []) [.set 1 (.flat true ts)] := by
  subst hl
  have hg : getM .sync L0 (o :: .flat false ts :: l) 1 = some (.flat false ts) := rfl
  simp only [step, callF, hi, frzVs, frzV, frzC, hg, sub, Option.map_some]
  simp only [Bool.false_eq_true, if_false, List.drop_zero, Nat.mul_one, List.take_length, List.append_nil]
  rfl
theorem t_c0 {f : FuncId} : step tb imp orc own get nx (.call f) [] = callR (imp f) true (orc f [] []) (callF imp orc get nx f []) := t_call
theorem t_c1 {f : FuncId} {x : T} : step tb imp orc own get nx (.call f) [.c (.t x)] = callR (imp f) true (orc f [.c (.t x)] []) (callF imp orc get nx f [.c (.t x)]) := t_call
theorem t_c2 {f : FuncId} {x y : T} : step tb imp orc own get nx (.call f) [.c (.t x), .c (.t y)] = callR (imp f) true (orc f [.c (.t x), .c (.t y)] []) (callF imp orc get nx f [.c (.t x), .c (.t y)]) := t_call
theorem t_c3 {f : FuncId} {x y z : T} : step tb imp orc own get nx (.call f) [.c (.t x), .c (.t y), .c (.t z)] = callR (imp f) true (orc f [.c (.t x), .c (.t y), .c (.t z)] []) (callF imp orc get nx f [.c (.t x), .c (.t y), .c (.t z)]) := t_call
theorem v_func {fr : List V} {f : FuncId} : ev fr (.func f) = .c (.t (.fn f)) := rfl
theorem m_own : Md.own .sync = true := rfl
theorem t_mkone {t e : TypeId} {a b : Nat} {c : List CK} {x : Int} (h : tb.at t = ⟨.slice e, a, b, c⟩) (he : tb.at e = ⟨.int .i64, 1, 8, [.int .i64]⟩) :
    step tb imp orc true get nx (.mkslice t 1 [0]) [.c (.t (.int .i64 x))] = some (.c (.osl nx 0 1 1), [.push (.flat false [T.int .i64 x])]) := by
  simp only [step, h, sMkslice, TK.isSlice, TI.elem, he, isOther]
  rfl
theorem t_app1 {t e : TypeId} {a b : Nat} {c : List CK} {x : Int} {zs : List Int} {k : Nat} (h : tb.at t = ⟨.slice e, a, b, c⟩) (he : tb.at e = ⟨.int .i64, 1, 8, [.int .i64]⟩) (hk : k = zs.length) (hk2 : k ≤ 1000000) :
    step tb imp orc own (getM .sync L0 [.flat false (zs.map (.int .i64)), .flat false [T.int .i64 x]]) nx (.append t) [.c (.osl 0 0 k 1), .c (.osl 1 0 1 1)] = some (.c (.osl nx 0 (k + 1) 1), [.set 0 .gone, .push (.flat false ((zs ++ [x]).map (.int .i64)))]) := by
  subst hk
  simp only [step, h, sAppend, TK.isSlice, TI.elem, he, isOther]
  simp [rowOf, getM, slot?, sub, take_all]
  omega
theorem m_s {n : Nat} : Md.nx .sync n = n := rfl
theorem m_a {n : Nat} : Md.nx .al n = n := rfl
theorem t_callv {f : FuncId} {vs : List V} : step tb imp orc own get nx .callv (.c (.t (.fn f)) :: vs) = step tb imp orc own get nx (.call f) vs := rfl
theorem t_mkfn {f : FuncId} : step tb imp orc own get nx (.mkfn f) [] = some (.c (.fn f []), []) := rfl
end
/-- A list that is being filled. -/
def bld (g : Nat → Int) (n i : Nat) : List Int := (List.range n).map fun j => if j < i then g j else 0
theorem bld_len {g : Nat → Int} {n i : Nat} : (bld g n i).length = n := by simp [bld]
theorem bld_zero {g : Nat → Int} {n : Nat} : bld g n 0 = List.replicate n 0 := by
  apply List.ext_getElem <;> simp [bld]
theorem bld_all {g : Nat → Int} {n i : Nat} (h : n ≤ i) : bld g n i = (List.range n).map g := by
  unfold bld
  apply List.map_congr_left
  intro j hj
  rw [if_pos (by have := List.mem_range.1 hj; omega)]
theorem bld_set {g : Nat → Int} {n i : Nat} : (bld g n i).set i (g i) = bld g n (i + 1) := by
  apply List.ext_getElem?
  intro j
  rw [List.getElem?_set]
  simp only [bld_len]
  by_cases hj : j < n
  · have e : ∀ i, (bld g n i)[j]? = some (if j < i then g j else 0) := fun i => by simp [bld, hj]
    rw [e, e]
    by_cases hij : i = j
    · subst hij; simp [hj]
    · rw [if_neg hij]
      congr 1
      by_cases h2 : j < i
      · rw [if_pos h2, if_pos (by omega)]
      · rw [if_neg h2, if_neg (by omega)]
  · have e : ∀ i, (bld g n i)[j]? = none := fun i => List.getElem?_eq_none (by simp [bld]; omega)
    rw [e, e]
    split
    · rename_i h; subst h; rw [if_neg hj]
    · rfl
theorem z_o2 {zs : List Int} {b : Bool} {y : T} {len : Nat} (hl : len = zs.length) : frzR (fun x => [Ob.flat b (zs.map (.int .i64))][x]?) (.tup [.c (.osl 0 0 len 1), .c (.t y)]) = some (.tup [nums zs, .c (.t y)]) := by
  subst hl
  cases b <;> simp [frzR, frzVs, frzV, frzC, sub, take_all]
theorem z_o1 {zs : List Int} {b : Bool} {len : Nat} (hl : len = zs.length) : frzR (fun x => [Ob.flat b (zs.map (.int .i64))][x]?) (.c (.osl 0 0 len 1)) = some (nums zs) := by
  subst hl
  cases b <;> simp [frzR, frzVs, frzV, frzC, sub, take_all]
end Go.AM
