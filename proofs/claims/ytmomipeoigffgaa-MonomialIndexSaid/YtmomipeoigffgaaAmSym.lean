/- Rules by which `simp` runs the abstract machine on states that are written out. -/
import Derived.Test.YtmomipeoigffgaaAmBase
set_option linter.unusedSimpArgs false
namespace Go.AM

abbrev num (n : Int) : V := .c (.t (.int .i64 n))
abbrev nums (l : List Int) : V := .c (.t (.sl l.length (l.map (.int .i64))))
abbrev tru : V := .c (.t (.bool true))
abbrev boo (b : Bool) : V := .c (.t (.bool b))

section
variable {R : Type} {E : Env} {n : Nat} {k : Ex → St → Option R} {fr : List V} {H : List Ob} {L0 : Nat}

theorem x_skip : exec E n .skip ⟨fr, H⟩ k = k .norm ⟨fr, H⟩ := rfl
theorem x_reg {d : Bool} {is : List Ins} : exec E n (.reg d is) ⟨fr, H⟩ k = (runIs E H.length is ⟨fr, H⟩).bind (k .norm) := rfl
def kseq (E : Env) (n : Nat) (b : Cd) (k : Ex → St → Option R) : Ex → St → Option R := fun e s' => match e with | .norm => exec E n b s' k | e => k e s'
def kblk (id : Nat) (k : Ex → St → Option R) : Ex → St → Option R := fun e s' => match e with | .exit j => if j = id then k .norm s' else k (.exit j) s' | e => k e s'
def kloop (m : Nat) (kl : List Nat) (ns : List (Nat × Nat)) (body : St → (Ex → St → Option R) → Option R) (k : Ex → St → Option R) (n : Nat) : Ex → St → Option R := fun e s' => match e with | .norm => loopN m kl ns body k n s' | e => k e s'
def kfin (imp : Bool) (m : Nat) (rs : List Nat) (F : Bool → Nat → List Nat → St → Option R) : Ex → St → Option R := fun e s => match e with | .norm | .ret => F imp m rs s | _ => none
theorem x_seq {a b : Cd} : exec E n (.seq a b) ⟨fr, H⟩ k = exec E n a ⟨fr, H⟩ (kseq E n b k) := rfl
theorem k_seqn {b : Cd} : kseq E n b k .norm ⟨fr, H⟩ = exec E n b ⟨fr, H⟩ k := rfl
theorem k_seqr {b : Cd} : kseq E n b k .ret ⟨fr, H⟩ = k .ret ⟨fr, H⟩ := rfl
theorem k_seqx {b : Cd} {id : Nat} : kseq E n b k (.exit id) ⟨fr, H⟩ = k (.exit id) ⟨fr, H⟩ := rfl
theorem k_blkn {id : Nat} : kblk id k .norm ⟨fr, H⟩ = k .norm ⟨fr, H⟩ := rfl
theorem k_blkr {id : Nat} : kblk id k .ret ⟨fr, H⟩ = k .ret ⟨fr, H⟩ := rfl
theorem k_blkx {id j : Nat} : kblk id k (.exit j) ⟨fr, H⟩ = if j = id then k .norm ⟨fr, H⟩ else k (.exit j) ⟨fr, H⟩ := rfl
theorem k_loopn {m : Nat} {kl : List Nat} {ns : List (Nat × Nat)} {body : St → (Ex → St → Option R) → Option R} : kloop m kl ns body k n .norm ⟨fr, H⟩ = loopN m kl ns body k n ⟨fr, H⟩ := rfl
theorem k_loopr {m : Nat} {kl : List Nat} {ns : List (Nat × Nat)} {body : St → (Ex → St → Option R) → Option R} : kloop m kl ns body k n .ret ⟨fr, H⟩ = k .ret ⟨fr, H⟩ := rfl
theorem k_loopx {m : Nat} {kl : List Nat} {ns : List (Nat × Nat)} {body : St → (Ex → St → Option R) → Option R} {id : Nat} : kloop m kl ns body k n (.exit id) ⟨fr, H⟩ = k (.exit id) ⟨fr, H⟩ := rfl
theorem k_finn {imp : Bool} {m : Nat} {rs : List Nat} {F : Bool → Nat → List Nat → St → Option R} : kfin imp m rs F .norm ⟨fr, H⟩ = F imp m rs ⟨fr, H⟩ := rfl
theorem k_finr {imp : Bool} {m : Nat} {rs : List Nat} {F : Bool → Nat → List Nat → St → Option R} : kfin imp m rs F .ret ⟨fr, H⟩ = F imp m rs ⟨fr, H⟩ := rfl
theorem x_block {id : Nat} {a : Cd} : exec E n (.block id a) ⟨fr, H⟩ k = exec E n a ⟨fr, H⟩ (kblk id k) := rfl
theorem x_exit {id : Nat} : exec E n (.exit id) ⟨fr, H⟩ k = k (.exit id) ⟨fr, H⟩ := rfl
theorem x_ret : exec E n .ret ⟨fr, H⟩ k = k .ret ⟨fr, H⟩ := rfl
theorem x_loop {kl : List Nat} {ns : List (Nat × Nat)} {a : Cd} : exec E n (.loop kl ns a) ⟨fr, H⟩ k = loopN E.m kl ns (exec E n a) k n ⟨fr, H⟩ := rfl
def cnd (v : V) (E : Env) (n : Nat) (a b : Cd) (s : St) (k : Ex → St → Option R) : Option R :=
  match v with
  | .c (.t (.bool t)) => if t then exec E n a s k else exec E n b s k
  | _ => none
theorem x_cond {c : Operand} {a b : Cd} : exec E n (.cond c a b) ⟨fr, H⟩ k = cnd (ev fr c) E n a b ⟨fr, H⟩ k := rfl
theorem c_true {a b : Cd} : cnd (.c (.t (.bool true))) E n a b ⟨fr, H⟩ k = exec E n a ⟨fr, H⟩ k := rfl
theorem c_false {a b : Cd} : cnd (.c (.t (.bool false))) E n a b ⟨fr, H⟩ k = exec E n b ⟨fr, H⟩ k := rfl
theorem c_if {a b : Cd} {t : Bool} {r : R} (ha : t = true → exec E n a ⟨fr, H⟩ k = some r) (hb : t = false → exec E n b ⟨fr, H⟩ k = some r) : cnd (.c (.t (.bool t))) E n a b ⟨fr, H⟩ k = some r := by
  cases t
  · exact hb rfl
  · exact ha rfl
/-- A loop of at most N rounds over a frame without objects. -/
theorem loop_up {m : Nat} {kl : List Nat} {ns : List (Nat × Nat)} {body : St → (Ex → St → Option R) → Option R} {r : R} (N : Nat) (Inv : Nat → List V → Prop)
    (hs : ∀ i fr n, i ≤ N → Inv i fr → (∀ s', i + 1 ≤ N → (∃ fr', norm m kl ns s' = ⟨fr', []⟩ ∧ Inv (i + 1) fr') → loopN m kl ns body k n s' = some r) →
      body ⟨fr, []⟩ (kloop m kl ns body k n) = some r) (hn : N < n) (h0 : ∃ fr', norm m kl ns ⟨fr, H⟩ = ⟨fr', []⟩ ∧ Inv 0 fr') :
    loopN m kl ns body k n ⟨fr, H⟩ = some r := by
  have key : ∀ (n i : Nat) (s' : St), i ≤ N → N < i + n → (∃ fr', norm m kl ns s' = ⟨fr', []⟩ ∧ Inv i fr') → loopN m kl ns body k n s' = some r := by
    intro n
    induction n with
    | zero => intro i s' h1 h2; omega
    | succ n ih =>
      rintro i s' h1 h2 ⟨fr', h3, h4⟩
      simp only [loopN]
      rw [h3]
      exact hs i fr' n h1 h4 fun s' h5 h6 => ih (i + 1) s' h5 (by omega) h6
  exact key n 0 _ (Nat.zero_le _) (by omega) h0
def plainF : List V → Bool
  | [] => true
  | .c (.t _) :: l | .any :: l | .tup [] :: l => plainF l
  | _ => false
theorem plain_ids : ∀ {l : List V}, plainF l = true → l.flatMap idsV = [] ∧ ∀ f, l.map (renV f) = l
  | [], _ => ⟨rfl, fun _ => rfl⟩
  | .c (.t x) :: l, h => by
    have := plain_ids (l := l) h
    exact ⟨by simp [idsV, idsV1, idsC, this.1], fun f => by simp [renV, renV1, renC, this.2]⟩
  | .any :: l, h => by
    have := plain_ids (l := l) h
    exact ⟨by simp [idsV, idsV1, idsC, this.1], fun f => by simp [renV, renV1, renC, this.2]⟩
  | .tup [] :: l, h => by
    have := plain_ids (l := l) h
    exact ⟨by simp [idsV, idsV1, idsC, this.1], fun f => by simp [renV, renV1, renC, this.2]⟩
theorem norm_plain {kl : List Nat} {fr' : List V} (h1 : killed kl fr = fr') (h : plainF fr' = true) : norm 0 kl [] ⟨fr, []⟩ = ⟨fr', []⟩ := by
  subst h1
  have := plain_ids h
  simp [norm, pack, this.1, this.2, depth, reach]
theorem norm_plain2 {kl : List Nat} (h : plainF (killed kl fr) = true) : norm 0 kl [] ⟨fr, []⟩ = ⟨killed kl fr, []⟩ := norm_plain rfl h
theorem kl_nil : killed [] fr = fr := rfl
theorem kl_cons {t : Nat} {l : List Nat} : killed (t :: l) fr = killed l (fr.set t .any) := rfl
def plainT : List V → Bool
  | [] => true
  | .c (.t _) :: l => plainT l
  | _ => false
/-- A call's end. -/
def fin (imp : Bool) (m : Nat) (rs : List Nat) (s : St) : Option (V × List Ob) :=
  let r := result rs s.fr
  if imp then
    let live := reach (s.H[·]?) depth ((List.range m).flatMap (fun i => idsO s.H[i]?) ++ idsV r) (List.range m)
    some (renV (pos live) r, live.map fun i => renO (pos live) ((s.H[i]?).getD .gone))
  else (frzR (s.H[·]?) r).map fun v => (v, [])
theorem f_one {m t : Nat} : fin false m [t] ⟨fr, H⟩ = (frzR (H[·]?) (fr.getD t .any)).map fun v => (v, []) := rfl
theorem f_two {m t u : Nat} : fin false m [t, u] ⟨fr, H⟩ = (frzR (H[·]?) (.tup [fr.getD t .any, fr.getD u .any])).map fun v => (v, []) := rfl
theorem z_t {get : Nat → Option Ob} {x : T} : frzR get (.c (.t x)) = some (.c (.t x)) := rfl
theorem z_tt {get : Nat → Option Ob} {x y : T} : frzR get (.tup [.c (.t x), .c (.t y)]) = some (.tup [.c (.t x), .c (.t y)]) := rfl
theorem pcall_at {G : Pg} {f : FuncId} {vs : List V} {H : List Ob} {nt : Nat} {rs : List Nat} {b : Cd} (h : G.fn f = some ⟨nt, rs, b⟩) : pcall G (n + 1) f vs H = exec ⟨G.tb, G.imp, pcall G n, H.length⟩ n b ⟨vs ++ List.replicate (nt - vs.length) (.tup []), H⟩ (kfin (G.imp f) H.length rs fin) := by
  simp only [pcall, h]; rfl
theorem r_nil : runIs E L0 [] ⟨fr, H⟩ = some ⟨fr, H⟩ := rfl
theorem r_cons {i : Ins} {is : List Ins} : runIs E L0 (i :: is) ⟨fr, H⟩ = (stepIns E L0 i ⟨fr, H⟩).bind (runIs E L0 is) := rfl

def aft (m : Md) (L0 : Nat) (d : Option Nat) (fr : List V) (H : List Ob) : Out → Option St
  | none => none
  | some (v, es) => (applyE m L0 es H).map fun H => ⟨put fr d v, H⟩
theorem s_do {d : Option Nat} {o : K} {xs : List Operand} {m : Md} : stepIns E L0 ⟨d, o, xs, none, m⟩ ⟨fr, H⟩ = aft m L0 d fr H (step E.tb E.imp E.orc m.own (getM m L0 H) (m.nx H.length) o (xs.map (ev fr))) := by
  simp only [stepIns, doIns, aft]
  split <;> simp [*]
  rename_i v es h
  cases applyE m L0 es H <;> rfl
theorem s_g {d : Option Nat} {o : K} {xs : List Operand} {m : Md} {g : Nat} {w : Bool} : stepIns E L0 ⟨d, o, xs, some (g, w), m⟩ ⟨fr, H⟩ =
    match fr.getD g .any with
    | .c (.t (.bool b)) => if b = w then stepIns E L0 ⟨d, o, xs, none, m⟩ ⟨fr, H⟩ else some ⟨put fr d (.tup []), H⟩
    | .tup [] => some ⟨put fr d (.tup []), H⟩
    | _ => none := rfl
theorem a_none {m : Md} {d : Option Nat} : aft m L0 d fr H none = none := rfl
theorem a_pure {m : Md} {d : Option Nat} {v : V} : aft m L0 d fr H (some (v, [])) = some ⟨put fr d v, H⟩ := rfl
theorem a_eff {m : Md} {d : Option Nat} {v : V} {e : Eff} {es : List Eff} : aft m L0 d fr H (some (v, e :: es)) = (applyE m L0 (e :: es) H).map fun H => ⟨put fr d v, H⟩ := rfl
theorem a_ite {m : Md} {d : Option Nat} {c : Prop} [Decidable c] {x y : Out} : aft m L0 d fr H (if c then x else y) = if c then aft m L0 d fr H x else aft m L0 d fr H y := by split <;> rfl
theorem p_some {d : Nat} {v : V} : put fr (some d) v = fr.set d v := rfl
theorem p_none {v : V} : put fr none v = fr := rfl
theorem v_tmp {t : Nat} : ev fr (.tmp t) = fr.getD t .any := rfl
theorem v_int {k : IntKind} {x : Int} : ev fr (.const (.int k x)) = .c (.t (.int k x)) := rfl
theorem v_bool {b : Bool} : ev fr (.const (.bool b)) = .c (.t (.bool b)) := rfl
theorem v_nils : ev fr (.const (.slice none 0 0)) = .c (.t .nils) := rfl
end
section
variable {tb : Tab} {imp : FuncId → Bool} {orc : Orc} {own : Bool} {get : Nat → Option Ob} {nx : Nat}
theorem t_mv {v : V} : step tb imp orc own get nx .mv [v] = some (v, []) := rfl
theorem t_pick {b : Bool} {x y : V} : step tb imp orc own get nx .pick [.c (.t (.bool b)), x, y] = some (if b then x else y, []) := rfl
theorem t_not {b : Bool} : step tb imp orc own get nx (.un .not) [.c (.t (.bool b))] = some (.c (.t (.bool (!b))), []) := rfl
theorem t_neg {k : IntKind} {x : Int} : step tb imp orc own get nx (.un .neg) [.c (.t (.int k x))] = some (.c (.t (.int k (k.wrap (0 - x)))), []) := rfl
def o1 : Option T → Out | some r => some (.c (.t r), []) | none => none
theorem o1_some {r : T} : o1 (some r) = some (.c (.t r), []) := rfl
theorem t_bin {op : BinOp} {t : TypeId} {x y : Int} {k : IntKind} : step tb imp orc own get nx (.bin op t) [.c (.t (.int k x)), .c (.t (.int k y))] = o1 (if BinOp.shifts op then binS op k x y else binI op k x y) := by
  simp only [step, sBin, bin, if_true]
  rfl
theorem b_add {k : IntKind} {x y : Int} : o1 (if BinOp.shifts .add then binS .add k x y else binI .add k x y) = some (.c (.t (.int k (k.wrap (x + y)))), []) := rfl
theorem b_sub {k : IntKind} {x y : Int} : o1 (if BinOp.shifts .sub then binS .sub k x y else binI .sub k x y) = some (.c (.t (.int k (k.wrap (x - y)))), []) := rfl
theorem b_mul {k : IntKind} {x y : Int} : o1 (if BinOp.shifts .mul then binS .mul k x y else binI .mul k x y) = some (.c (.t (.int k (k.wrap (x * y)))), []) := rfl
theorem b_quo {k : IntKind} {x y : Int} (h : y ≠ 0) : o1 (if BinOp.shifts .quo then binS .quo k x y else binI .quo k x y) = some (.c (.t (.int k (k.wrap (x.tdiv y)))), []) := by
  simp [BinOp.shifts, binI, h, o1]
theorem b_rem {k : IntKind} {x y : Int} (h : y ≠ 0) : o1 (if BinOp.shifts .rem then binS .rem k x y else binI .rem k x y) = some (.c (.t (.int k (x.tmod y))), []) := by
  simp [BinOp.shifts, binI, h, o1]
theorem w64_eq (x : Int) : IntKind.i64.wrap x = if 9223372036854775808 ≤ x % 18446744073709551616 then x % 18446744073709551616 - 18446744073709551616 else x % 18446744073709551616 := by
  show (if (true && decide (x % 18446744073709551616 ≥ 9223372036854775808)) = true then _ else _) = _
  simp only [Bool.true_and, decide_eq_true_eq, ge_iff_le]
  rfl
theorem w64 {x : Int} (h : -9223372036854775808 ≤ x) (h2 : x ≤ 9223372036854775807) : IntKind.i64.wrap x = x := by
  rw [w64_eq]
  split <;> omega
theorem b_and {k : IntKind} {x y : Int} : o1 (if BinOp.shifts .and then binS .and k x y else binI .and k x y) = some (.c (.t (.int k (bits k (· &&& ·) x y))), []) := rfl
theorem b_eql {k : IntKind} {x y : Int} : o1 (if BinOp.shifts .eql then binS .eql k x y else binI .eql k x y) = some (.c (.t (.bool (decide (x = y)))), []) := rfl
theorem b_neq {k : IntKind} {x y : Int} : o1 (if BinOp.shifts .neq then binS .neq k x y else binI .neq k x y) = some (.c (.t (.bool (!decide (x = y)))), []) := rfl
theorem b_lss {k : IntKind} {x y : Int} : o1 (if BinOp.shifts .lss then binS .lss k x y else binI .lss k x y) = some (.c (.t (.bool (decide (x < y)))), []) := rfl
theorem b_leq {k : IntKind} {x y : Int} : o1 (if BinOp.shifts .leq then binS .leq k x y else binI .leq k x y) = some (.c (.t (.bool (decide (x ≤ y)))), []) := rfl
theorem b_gtr {k : IntKind} {x y : Int} : o1 (if BinOp.shifts .gtr then binS .gtr k x y else binI .gtr k x y) = some (.c (.t (.bool (decide (y < x)))), []) := rfl
theorem b_geq {k : IntKind} {x y : Int} : o1 (if BinOp.shifts .geq then binS .geq k x y else binI .geq k x y) = some (.c (.t (.bool (decide (y ≤ x)))), []) := rfl
def callP : Option (V × List Ob) → Out
  | some (r, []) => some (r, [])
  | _ => none
def callR : Bool → Bool → Option (V × List Ob) → Out → Out
  | false, true, r, _ => callP r
  | _, _, _, o => o
theorem t_call {f : FuncId} {vs : List V} : step tb imp orc own get nx (.call f) vs = callR (imp f) (plainT vs) (orc f vs []) (callF imp orc get nx f vs) := by
  have : ∀ vs : List V, plainT vs = true → frzVs get vs = some (vs, []) := by
    intro vs
    induction vs with
    | nil => intro _; rfl
    | cons v vs ih =>
      intro h
      match v, h with
      | .c (.t x), h => simp [frzVs, frzV, frzC, ih h]
  simp only [step]
  cases hi : imp f
  · cases hp : plainT vs
    · rfl
    · simp only [callF, hi, this vs hp]
      simp only [Bool.false_eq_true, if_false]
      rfl
  · rfl
theorem p_callR {r : Option (V × List Ob)} {o : Out} : callR false true r o = callP r := rfl
theorem p_callP {r : V} : callP (some (r, [])) = some (r, []) := rfl
theorem e_0 {v : V} {vs : List V} : step tb imp orc own get nx (.ext 0) [.tup (v :: vs)] = some (v, []) := rfl
theorem e_1 {v w : V} {vs : List V} : step tb imp orc own get nx (.ext 1) [.tup (v :: w :: vs)] = some (w, []) := rfl
theorem t_beq {t : TypeId} {a b : Nat} {c : List CK} {x y : Bool} (h : tb.at t = ⟨.bool, a, b, c⟩) : step tb imp orc own get nx (.bin .eql t) [.c (.t (.bool x)), .c (.t (.bool y))] = some (.c (.t (.bool (x == y))), []) := by
  simp [step, sBin, bin, h]
theorem t_bne {t : TypeId} {a b : Nat} {c : List CK} {x y : Bool} (h : tb.at t = ⟨.bool, a, b, c⟩) : step tb imp orc own get nx (.bin .neq t) [.c (.t (.bool x)), .c (.t (.bool y))] = some (.c (.t (.bool (!(x == y)))), []) := by
  simp [step, sBin, bin, h]
theorem t_max {k : IntKind} {x y : Int} : step tb imp orc own get nx .max [.c (.t (.int k x)), .c (.t (.int k y))] = some (.c (.t (.int k (if y > x then y else x))), []) := rfl
theorem t_len {t : TypeId} {e : TypeId} {a b : Nat} {c : List CK} {m : Nat} {cs : List T} (h : tb.at t = ⟨.slice e, a, b, c⟩) : step tb imp orc own get nx (.len t) [.c (.t (.sl m cs))] = some (.c (.t (.int .i64 m)), []) := by
  simp [step, h, sLen]
theorem t_lenn {t : TypeId} {e : TypeId} {a b : Nat} {c : List CK} (h : tb.at t = ⟨.slice e, a, b, c⟩) : step tb imp orc own get nx (.len t) [.c (.t .nils)] = some (.c (.t (.int .i64 0)), []) := by
  simp [step, h, sLen]
theorem t_ext {i : Nat} {vs : List V} {v : V} (h : vs[i]? = some v) : step tb imp orc own get nx (.ext i) [.tup vs] = some (v, []) := by
  simp [step, sExt, h]
theorem t_idx {t : TypeId} {e : TypeId} {a b : Nat} {c : List CK} {m : Nat} {cs : List T} {k : IntKind} {i : Int} (h : tb.at t = ⟨.slice e, a, b, c⟩) (h2 : tb.ok e = true) (h5 : (tb.at e).size = 1) (h3 : 0 ≤ i) (h4 : i < m) :
    step tb imp orc own get nx (.iaddr t) [.c (.t (.sl m cs)), .c (.t (.int k i))] = some (.c (.t (.box cs i.toNat)), []) := by
  simp [step, h, sIaddr, h2, h3, h4, h5]
theorem isI_nums {xs : List Int} {j : Nat} : isI .i64 (xs.map (.int .i64)) j = decide (j < xs.length) := by
  unfold isI
  rw [List.getElem?_map]
  by_cases h : j < xs.length
  · rw [List.getElem?_eq_getElem h]; simp [h]
  · rw [List.getElem?_eq_none (by omega)]; simp [h]
theorem gI_nums {xs : List Int} {j : Nat} : gI (xs.map (.int .i64)) j = xs.getD j 0 := by
  unfold gI
  rw [List.getElem?_map, List.getD_eq_getElem?_getD]
  cases xs[j]? <;> rfl
theorem t_loadi {t : TypeId} {a b : Nat} {xs : List Int} {j : Nat} (h : tb.at t = ⟨.int .i64, a, b, [.int .i64]⟩) (hj : j < xs.length) :
    step tb imp orc own get nx (.load t) [.c (.t (.box (xs.map (.int .i64)) j))] = some (.c (.t (.int .i64 (xs.getD j 0))), []) := by
  have h1 : isI .i64 (xs.map (.int .i64)) j = true := by rw [isI_nums]; simpa using hj
  simp only [step, h, sLoad, isOther, T.isBox, T.bCs, T.bJ, loadT, isAll, CK.is, TI.isAgg, CK.get, h1, gI_nums]
  simp
/-- A row of rows. -/
abbrev rowT (l : List Int) : T := .sl l.length (l.map (.int .i64))
theorem t_loadl {t : TypeId} {e : TypeId} {a b : Nat} {ls : List (List Int)} {j : Nat} (h : tb.at t = ⟨.slice e, a, b, [.sl 1]⟩) (hj : j < ls.length) :
    step tb imp orc own get nx (.load t) [.c (.t (.box (ls.map rowT) j))] = some (.c (.t (.sl (ls.getD j []).length ((ls.getD j []).map (.int .i64)))), []) := by
  have h0 : (ls.map rowT)[j]? = some (rowT (ls.getD j [])) := by
    rw [List.getElem?_map, List.getD_eq_getElem?_getD, List.getElem?_eq_getElem hj]; rfl
  have h1 : isL (ls.map rowT) j = true := by unfold isL; rw [h0]
  have h2 : gN (ls.map rowT) j = (ls.getD j []).length := by unfold gN; rw [h0]
  have h3 : gL (ls.map rowT) j = (ls.getD j []).map (.int .i64) := by unfold gL; rw [h0]
  simp only [step, h, sLoad, isOther, T.isBox, T.bCs, T.bJ, loadT, isAll, CK.is, TI.isAgg, CK.get, h1, h2, h3]
  simp
end
end Go.AM
