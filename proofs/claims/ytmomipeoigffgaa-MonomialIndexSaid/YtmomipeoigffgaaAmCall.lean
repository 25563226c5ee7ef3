/- Calls. -/
import Derived.Test.YtmomipeoigffgaaAmStep3
set_option linter.unusedVariables false
set_option linter.unusedSimpArgs false
namespace Go.AM

def FnOk (P : Program) (f : FuncId) : Prop := ∃ fn : Func, P.funcs[f]? = some fn ∧ fn.body.isSome = true ∧ (fn.name == "runtime.NumGoroutine") = false

/-- What a call comes to. -/
def CallOk (P : Program) (f : FuncId) (vs : List V) (H : List Ob) (r : V) (H' : List Ob) : Prop :=
  ∀ (I : Nat → Prop) (ρ : Rho) (w : World) (us : List Value), Ctx I ρ H w → A2 (RV w I ρ H) vs us → Calls P f us.toArray w fun e w' =>
    ∃ v' I' ρ', e = .returned v' ∧ Ctx I' ρ' H' w' ∧ RV w' I' ρ' H' r v' ∧ Ext w I (ownd ρ H) w' I' (ownd ρ' H') ∧ (H.length ≤ H'.length → ∀ id, id < H.length → ρ' id = ρ id ∧ (GN H id → GN H' id))
def OrcOk (P : Program) (orc : Orc) : Prop := ∀ f vs H r H', orc f vs H = some (r, H') → FnOk P f ∧ CallOk P f vs H r H'

section
variable {P : Program} {I I' : Nat → Prop} {ρ ρ' : Rho} {H H' H0 H1 : List Ob} {w w' : World} {tb : Tab}
variable {o : Oper} {a : Act} {fr : List V} {m : Md} {L0 : Nat} {v : V} {es : List Eff} {orc : Orc}

theorem call_run {c : Call} {x : Operand} {f : FuncId} {caps : Array Value} (hcal : c.callee = .value x) (hx : a.eval x = .func (.func f) #[] caps) (ho : o.op = .call c) (hf : FnOk P f) :
    (execOp a.eval o).run P w = .ok (.enter f (c.args.map a.eval ++ caps)) w := by
  obtain ⟨fn, h1, h2, h3⟩ := hf
  have h2' : ¬ fn.body = none := by intro hb; simp [hb] at h2
  have h3' : ¬ fn.name = "runtime.NumGoroutine" := by simpa using h3
  simp [execOp, ho, resolve, hcal, hx, Deferred.ofValue, invoke, callFunc, h1]
  rw [if_neg h3', if_neg h2']

theorem RV_of_RV1 {w : World} {I : Nat → Prop} {ρ : Rho} {H : List Ob} {x : V} {u : Value} (hp : plainV x = true) (h : RV1 w I ρ H x u) : RV w I ρ H x u := by
  cases x with
  | tup vs => simp [plainV] at hp
  | c _ => exact h
  | agg _ => exact h
  | any => exact h

/-- Without objects of its own a value has none. -/
theorem RC_alone (hd : ∀ id p, ρ id = some p → id < ([] : List Ob).length) {x : C} {u : Value} (h : RC w I ρ [] x u) : ∀ ρ2 H2, RC w I ρ2 H2 x u := by
  intro ρ2 H2
  have hp : ∀ {id off : Nat} {u : Value}, RP ρ [] id off u → False := by
    rintro id off u (⟨h, _⟩ | ⟨b, o, h, _⟩)
    · simp [GN] at h
    · have := hd _ _ h; simp at this
  cases x with
  | t x => exact h
  | ref id off => exact (hp h).elim
  | osl id off len sz =>
    rcases h with ⟨h, _⟩ | ⟨h, _⟩ | ⟨b, o, c, h, _⟩
    · simp [GN] at h
    · simp at h
    · have := hd _ _ h; simp at this
  | fn f caps =>
    obtain ⟨us, rfl, hA⟩ := h
    cases hA with
    | nil => exact ⟨[], rfl, .nil⟩
    | cons h _ => exact (hp h).elim
  | any => exact h
theorem RV1_alone (hd : ∀ id p, ρ id = some p → id < ([] : List Ob).length) {x : V} {u : Value} (h : RV1 w I ρ [] x u) : ∀ ρ2 H2, RV1 w I ρ2 H2 x u := by
  intro ρ2 H2
  cases x with
  | c x => exact RC_alone hd h ρ2 H2
  | agg cs => obtain ⟨us, rfl, hA⟩ := h; exact ⟨us, rfl, hA.imp fun _ _ h => RC_alone hd h ρ2 H2⟩
  | tup vs => cases vs <;> exact h
  | any => trivial
theorem RV_alone (hd : ∀ id p, ρ id = some p → id < ([] : List Ob).length) {x : V} {u : Value} (h : RV w I ρ [] x u) : ∀ ρ2 H2, RV w I ρ2 H2 x u := by
  intro ρ2 H2
  cases x with
  | c x => exact RC_alone hd h ρ2 H2
  | agg cs => exact RV1_alone (x := .agg cs) hd h ρ2 H2
  | tup vs => obtain ⟨us, rfl, hA⟩ := h; exact ⟨us, rfl, hA.imp fun _ _ h => RV1_alone hd h ρ2 H2⟩
  | any => trivial

theorem block_lt (hC : Ctx I ρ H w) {id : Nat} {ob : Ob} (h : H[id]? = some ob) (hg : ob ≠ .gone) {b off : Nat} (hr : ρ id = some (b, off)) : b < w.heap.size ∧ (I b ∨ mine H id) := by
  have hro := hC.obj id ob h
  cases ob with
  | gone => exact absurd rfl hg
  | flat fr cs =>
    rcases hro with ⟨h', _⟩ | ⟨b', o', h1, _, h3⟩
    · rw [h'] at hr; cases hr
    · rw [h1] at hr; cases hr
      cases fr with
      | true => exact ⟨hC.lt _ h3, .inl h3⟩
      | false => obtain ⟨_, _, _, h4⟩ := h3; exact ⟨lt_heap h4, .inr ⟨_, h, rfl⟩⟩
  | mix fr cs =>
    obtain ⟨b', o', h1, _, h3⟩ := hro
    rw [h1] at hr; cases hr
    cases fr with
    | true => exact ⟨hC.lt _ h3, .inl h3⟩
    | false => obtain ⟨_, _, _, h4⟩ := h3; exact ⟨lt_heap h4, .inr ⟨_, h, rfl⟩⟩

/-- A call that is handed no objects. -/
theorem pure_call (hO : OrcOk P orc) (hC : Ctx I ρ H w) {f : FuncId} {vs us' : List V} {us : List Value} (hA : A2 (RV w I ρ H) vs us) (hf : frzVs (getM m L0 H) vs = some (us', es)) (horc : orc f us' [] = some (v, [])) (he : applyE m L0 es H = some H') :
    FnOk P f ∧ Calls P f us.toArray w fun e w' => ∃ v', e = .returned v' ∧ Post I ρ H w v H' v' w' := by
  have he' : applyE m L0 (es ++ []) H = some H' := by simpa using he
  obtain ⟨I2, H2, hC2, hs2, _, hA2, hp, he2⟩ := frzVs_ok hC (Frz.refl H) hA hf he'
  cases applyE_nil he2
  obtain ⟨hfn, hcall⟩ := hO f us' [] v [] horc
  refine ⟨hfn, (hcall I2 (fun _ => none) w us ⟨by simp, hC2.lt, by simp, by simp⟩ ?_).mono ?_⟩
  · exact (hA2 (fun _ => none) []).imp_mem fun x u hx h => RV_of_RV1 (hp x hx) h
  · rintro e w' ⟨v', I', ρ', rfl, hC', hr, hext, _⟩
    refine ⟨v', rfl, I', ρ, ?_, hs2.trans ?_, RV_alone hC'.dom hr ρ H'⟩
    all_goals
      have hno : ∀ b, ¬ ownd (fun _ => none) [] b := by rintro b ⟨id, o, _, h⟩; cases h
      have hs : Stp I2 ρ H' w I' ρ H' w' := by
        refine ⟨Nat.le_refl _, fun _ _ => rfl, fun _ h => h, fun b hb => ⟨hext.imm b hb, hext.same b (hC2.lt b hb) (hno b)⟩, hext.os, hext.tape, hext.output, hext.size, fun b hb _ => hext.same b hb (hno b), hext.cap, hext.imm, fun b hb => ?_, fun b hb => .inl hb⟩
        rcases hext.new b hb with h | h | h
        · exact .inl h
        · exact (hno b h).elim
        · exact .inr (.inr h)
    · refine ⟨fun id ob hob => RO_keep hC2 hs (hC2.obj id ob hob) (List.getElem?_eq_some_iff.1 hob).1 fun b off hg hr' => ?_, hC'.lt, hC2.dom, hC2.inj⟩
      obtain ⟨hlt, _⟩ := block_lt hC2 hob hg hr'
      refine ⟨hext.same b hlt (hno b), fun hn hi => ?_⟩
      rcases hext.new b hi with h | h | h
      · exact hn h
      · exact hno b h
      · omega
    · exact hs

/-! ### objects handed over -/
theorem pos_get : ∀ {l : List Nat} {x j : Nat}, pos l x = some j → l[j]? = some x
  | [], _, _, h => by simp [pos] at h
  | i :: is, x, j, h => by
    simp only [pos] at h
    split at h
    · rename_i hi; simp at h; subst h; simp [hi]
    · simp only [Option.map_eq_some_iff] at h
      obtain ⟨k, hk, rfl⟩ := h
      simpa using pos_get hk
theorem pos_none : ∀ {l : List Nat} {x : Nat}, pos l x = none → x ∉ l
  | [], _, _ => by simp
  | i :: is, x, h => by
    simp only [pos] at h
    split at h
    · cases h
    · rename_i hi
      simp only [Option.map_eq_none_iff] at h
      have := pos_none h
      simp only [List.mem_cons, not_or]
      exact ⟨fun e => hi e.symm, this⟩
theorem pos_of_get {l : List Nat} (hn : l.Nodup) {x j : Nat} (h : l[j]? = some x) : pos l x = some j := by
  cases hp : pos l x with
  | none => exact (pos_none hp (List.mem_of_getElem? h)).elim
  | some k =>
    have hk := pos_get hp
    have h1 := (List.getElem?_eq_some_iff.1 h).1
    have h2 := (List.getElem?_eq_some_iff.1 hk).1
    have : j = k := (List.getElem?_inj h1 hn).1 (h.trans hk.symm)
    rw [this]

theorem reach_nodup (get : Nat → Option Ob) : ∀ (n : Nat) (todo acc : List Nat), acc.Nodup → (reach get n todo acc).Nodup
  | 0, _, acc, h => h
  | n + 1, [], acc, h => h
  | n + 1, i :: todo, acc, h => by
    simp only [reach]
    split
    · exact reach_nodup get n todo acc h
    · rename_i hp
      refine reach_nodup get n _ _ ?_
      rw [List.nodup_append]
      refine ⟨h, by simp, fun x hx y hy => ?_⟩
      simp only [List.mem_singleton] at hy
      subst hy
      rintro rfl
      exact pos_none hp hx

/-- Values with their objects renumbered. -/
structure Ren (ρ : Rho) (H : List Ob) (f : Nat → Option Nat) (ρ2 : Rho) (H2 : List Ob) : Prop where
  rho : ∀ id j, f id = some j → id < H.length → ρ2 j = ρ id
  gone : ∀ id j, f id = some j → GN H id → GN H2 j
  lt : ∀ id j, f id = some j → id < H.length → j < H2.length

theorem RP_ren {f : Nat → Option Nat} {ρ2 : Rho} {H2 : List Ob} (hR : Ren ρ H f ρ2 H2) (hd : ∀ id p, ρ id = some p → id < H.length) {id off j : Nat} {u : Value} (hj : f id = some j) (h : RP ρ H id off u) : RP ρ2 H2 j off u := by
  rcases h with ⟨h, h'⟩ | ⟨b, o, h1, h2⟩
  · exact .inl ⟨hR.gone id j hj h, h'⟩
  · exact .inr ⟨b, o, by rw [hR.rho id j hj (hd _ _ h1)]; exact h1, h2⟩
theorem RC_ren {f : Nat → Option Nat} {ρ2 : Rho} {H2 : List Ob} (hR : Ren ρ H f ρ2 H2) (hd : ∀ id p, ρ id = some p → id < H.length) {x : C} {u : Value} (h : RC w I ρ H x u) : RC w I ρ2 H2 (renC f x) u := by
  have h1 := RC_one h
  cases x with
  | t x => exact h
  | ref id off =>
    simp only [renC]
    split
    · rename_i j hj; exact RP_ren hR hd hj h
    · exact h1
  | osl id off len sz =>
    simp only [renC]
    split
    · rename_i j hj
      rcases h with ⟨h, h'⟩ | ⟨h1, h2, h3⟩ | ⟨b, o, c, h1, h2, h3, h4⟩
      · exact .inl ⟨hR.gone id j hj h, h'⟩
      · exact .inr (.inl ⟨hR.lt id j hj h1, by rw [hR.rho id j hj h1]; exact h2, h3⟩)
      · exact .inr (.inr ⟨b, o, c, by rw [hR.rho id j hj (hd _ _ h1)]; exact h1, h2, h3, h4⟩)
    · exact h1
  | fn g caps =>
    simp only [renC]
    split
    · rename_i l hl
      obtain ⟨us, rfl, hA⟩ := h
      refine ⟨us, rfl, ?_⟩
      clear h1
      induction hA generalizing l with
      | nil => simp [renP] at hl; subst hl; exact .nil
      | cons hp ht ih =>
        rename_i p u ps us
        obtain ⟨id, off⟩ := p
        simp only [renP] at hl
        split at hl
        · rename_i j l' hj hl'
          simp only [Option.some.injEq] at hl
          subst hl
          exact .cons (RP_ren hR hd hj hp) (ih _ hl')
        · cases hl
    · exact h1
  | any => exact h
theorem RV1_ren {f : Nat → Option Nat} {ρ2 : Rho} {H2 : List Ob} (hR : Ren ρ H f ρ2 H2) (hd : ∀ id p, ρ id = some p → id < H.length) {x : V} {u : Value} (h : RV1 w I ρ H x u) : RV1 w I ρ2 H2 (renV1 f x) u := by
  cases x with
  | c x => exact RC_ren hR hd h
  | agg cs => obtain ⟨us, rfl, hA⟩ := h; exact ⟨us, rfl, A2.map_left (hA.imp fun _ _ h => RC_ren hR hd h)⟩
  | tup vs => cases vs with
    | nil => exact h
    | cons _ _ => exact h.elim
  | any => trivial
theorem RV_ren {f : Nat → Option Nat} {ρ2 : Rho} {H2 : List Ob} (hR : Ren ρ H f ρ2 H2) (hd : ∀ id p, ρ id = some p → id < H.length) {x : V} {u : Value} (h : RV w I ρ H x u) : RV w I ρ2 H2 (renV f x) u := by
  cases x with
  | c x => exact RC_ren hR hd h
  | agg cs => exact RV1_ren (x := .agg cs) hR hd h
  | tup vs => obtain ⟨us, rfl, hA⟩ := h; exact ⟨us, rfl, A2.map_left (hA.imp fun _ _ h => RV1_ren hR hd h)⟩
  | any => trivial
theorem RO_ren {f : Nat → Option Nat} {ρ2 : Rho} {H2 : List Ob} (hR : Ren ρ H f ρ2 H2) (hd : ∀ id p, ρ id = some p → id < H.length) {id j : Nat} (hj : ρ2 j = ρ id) {ob : Ob} (h : RO w I ρ H id ob) : RO w I ρ2 H2 j (renO f ob) := by
  cases ob with
  | gone => trivial
  | flat fr cs =>
    rcases h with ⟨h1, h2⟩ | ⟨b, o, h1, h2, h3⟩
    · exact .inl ⟨hj.trans h1, h2⟩
    · exact .inr ⟨b, o, hj.trans h1, h2, h3⟩
  | mix fr cs =>
    obtain ⟨b, o, h1, h2, h3⟩ := h
    refine ⟨b, o, hj.trans h1, fun i c hc => ?_, h3⟩
    rw [List.getElem?_map] at hc
    cases hx : cs[i]? with
    | none => rw [hx] at hc; cases hc
    | some x =>
      rw [hx] at hc
      simp only [Option.map_some, Option.some.injEq] at hc
      subst hc
      obtain ⟨u, hu, hr⟩ := h2 i x hx
      exact ⟨u, hu, RC_ren hR hd hr⟩
theorem mine_ren {f : Nat → Option Nat} {ob : Ob} : (renO f ob).mine ↔ ob.mine := by cases ob <;> rfl
theorem gone_ren {f : Nat → Option Nat} {ob : Ob} : renO f ob = .gone ↔ ob = .gone := by cases ob <;> simp [renO]

theorem getAllO_ok {get : Nat → Option Ob} : ∀ {l : List Nat} {os : List Ob}, getAllO get l = some os → os.length = l.length ∧ ∀ (j i : Nat), l[j]? = some i → ∃ ob, os[j]? = some ob ∧ get i = some ob
  | [], os, h => by simp [getAllO] at h; subst h; simp
  | i :: is, os, h => by
    simp only [getAllO] at h
    split at h
    · rename_i ob l hg hl
      simp only [Option.some.injEq] at h
      subst h
      obtain ⟨h1, h2⟩ := getAllO_ok hl
      refine ⟨by simp [h1], fun j k hj => ?_⟩
      cases j with
      | zero => simp at hj; subst hj; exact ⟨ob, rfl, hg⟩
      | succ j => simpa using h2 j k (by simpa using hj)
    · cases h

/-- The objects as a callee sees them. -/
theorem handed (hC : Ctx I ρ H w) {live : List Nat} (hn : live.Nodup) {os : List Ob} (hl : os.length = live.length) (hos : ∀ (j i : Nat), live[j]? = some i → ∃ ob, os[j]? = some ob ∧ H[i]? = some ob) :
    Ctx I (fun j => (live[j]?).bind ρ) (os.map (renO (pos live))) w ∧ Ren ρ H (pos live) (fun j => (live[j]?).bind ρ) (os.map (renO (pos live))) := by
  have hR : Ren ρ H (pos live) (fun j => (live[j]?).bind ρ) (os.map (renO (pos live))) := by
    refine ⟨fun id j hj _ => by simp [pos_get hj], fun id j hj hg => ?_, fun id j hj _ => ?_⟩
    · obtain ⟨ob, h1, h2⟩ := hos j id (pos_get hj)
      unfold GN at hg ⊢
      rw [hg] at h2
      cases h2
      rw [List.getElem?_map, h1]
      rfl
    · have := (List.getElem?_eq_some_iff.1 (pos_get hj)).1
      simp [hl]; exact this
  have hget : ∀ (j : Nat) (ob : Ob), (os.map (renO (pos live)))[j]? = some ob → ∃ (id : Nat) (ob' : Ob), live[j]? = some id ∧ H[id]? = some ob' ∧ ob = renO (pos live) ob' := by
    intro j ob h
    rw [List.getElem?_map] at h
    cases hx : os[j]? with
    | none => rw [hx] at h; cases h
    | some x =>
      rw [hx] at h
      simp only [Option.map_some, Option.some.injEq] at h
      have hlt : j < live.length := by rw [← hl]; exact (List.getElem?_eq_some_iff.1 hx).1
      obtain ⟨ob', h1, h2⟩ := hos j _ (List.getElem?_eq_getElem hlt)
      rw [hx] at h1
      cases h1
      exact ⟨_, _, List.getElem?_eq_getElem hlt, h2, h.symm⟩
  refine ⟨⟨fun j ob h => ?_, hC.lt, fun j p h => ?_, fun j j' b o o' h1 h2 h3 h4 => ?_⟩, hR⟩
  · obtain ⟨id, ob', h1, h2, rfl⟩ := hget j ob h
    exact RO_ren hR hC.dom (by simp [h1]) (hC.obj id ob' h2)
  · cases hj : live[j]? with
    | none => rw [hj] at h; cases h
    | some i => simp [hl]; exact (List.getElem?_eq_some_iff.1 hj).1
  · obtain ⟨ob, h5, h6⟩ := h1
    obtain ⟨ob', h7, h8⟩ := h2
    obtain ⟨id, q, a1, a2, rfl⟩ := hget _ _ h5
    obtain ⟨id', q', b1, b2, rfl⟩ := hget _ _ h7
    rw [a1] at h3
    rw [b1] at h4
    have : id = id' := hC.inj id id' b o o' ⟨q, a2, mine_ren.1 h6⟩ ⟨q', b2, mine_ren.1 h8⟩ h3 h4
    subst this
    exact (List.getElem?_inj (List.getElem?_eq_some_iff.1 a1).1 hn).1 (a1.trans b1.symm)


theorem applyE_sets {m : Md} {L0 : Nat} {f : Nat → Option Nat} : ∀ {live : List Nat} {os : List Ob} {H H' : List Ob}, live.Nodup → (∀ i ∈ live, i < H.length) → live.length ≤ os.length → applyE m L0 (sets f live os) H = some H' →
    H'.length = H.length + (os.length - live.length) ∧
    (∀ (j i : Nat), live[j]? = some i → ∃ ob, os[j]? = some ob ∧ H'[i]? = some (renO f ob)) ∧
    (∀ i, i < H.length → i ∉ live → H'[i]? = H[i]?) ∧
    (∀ k, H'[H.length + k]? = (os[live.length + k]?).map (renO f)) ∧ (live.length < os.length → m.own = true)
  | [], os, H, H', _, _, _, h => by
    induction os generalizing H with
    | nil =>
      have : H' = H := applyE_nil (by simpa [sets] using h)
      subst this
      refine ⟨by simp, by simp, fun _ _ _ => rfl, fun k => ?_, by simp⟩
      simp
    | cons ob os ih =>
      have h' : applyE m L0 (.push (renO f ob) :: sets f [] os) H = some H' := by simpa [sets] using h
      have hown := own_of_push h'
      obtain ⟨h1, _, h3, h4, _⟩ := ih (H := H ++ [renO f ob]) (by simp) (by simp) (applyE_push h')
      simp only [List.length_append, List.length_singleton, List.length_nil, Nat.sub_zero, Nat.zero_add] at h1 h4
      refine ⟨by simp; omega, by simp, fun i hi _ => ?_, fun k => ?_, fun _ => hown⟩
      · rw [h3 i (by simp; omega) (by simp), List.getElem?_append_left hi]
      · simp only [List.length_nil, Nat.zero_add]
        cases k with
        | zero =>
          rw [Nat.add_zero, h3 H.length (by simp) (by simp)]
          simp
        | succ k =>
          have := h4 k
          rw [show H.length + (k + 1) = H.length + 1 + k by omega, this]
          simp
  | i :: live, os, H, H', hn, hlt, hl, h => by
    cases os with
    | nil => simp at hl
    | cons ob os =>
      have h' : applyE m L0 (.set i (renO f ob) :: sets f live os) H = some H' := by simpa [sets] using h
      rw [List.nodup_cons] at hn
      obtain ⟨h1, h2, h3, h4, h5⟩ := applyE_sets (H := H.set i (renO f ob)) hn.2 (fun j hj => by simp; exact hlt j (by simp [hj])) (by simpa using hl) (applyE_set h')
      have hil : i < H.length := hlt i (by simp)
      simp only [List.length_set] at h1 h3 h4
      refine ⟨by simp at h1 ⊢; omega, fun j k hj => ?_, fun k hk hkn => ?_, fun k => ?_, fun hlt => h5 (by simpa using hlt)⟩
      · cases j with
        | zero =>
          simp at hj
          subst hj
          exact ⟨ob, rfl, by rw [h3 i hil hn.1, List.getElem?_set]; simp [hil]⟩
        | succ j =>
          obtain ⟨ob', h6, h7⟩ := h2 j k (by simpa using hj)
          exact ⟨ob', by simpa using h6, h7⟩
      · simp only [List.mem_cons, not_or] at hkn
        rw [h3 k hk hkn.2, List.getElem?_set_ne (fun e => hkn.1 e.symm)]
      · rw [h4 k]
        simp only [List.length_cons]
        rw [show live.length + 1 + k = live.length + k + 1 by omega]
        simp

/-- A call that is handed objects. -/
theorem given_call (hO : OrcOk P orc) (hC : Ctx I ρ H w) {f : FuncId} {vs : List V} {us : List Value} (hA : A2 (RV w I ρ H) vs us) {live : List Nat} (hn : live.Nodup) {os os' : List Ob} (hos : getAllO (getM m L0 H) live = some os) {r : V}
    (horc : orc f (vs.map (renV (pos live))) (os.map (renO (pos live))) = some (r, os')) (hle : live.length ≤ os'.length) (he : applyE m L0 (sets (back live (m.nx H.length)) live os') H = some H') :
    FnOk P f ∧ Calls P f us.toArray w fun e w' => ∃ v', e = .returned v' ∧ Post I ρ H w (renV (back live (m.nx H.length)) r) H' v' w' := by
  obtain ⟨hol, hog⟩ := getAllO_ok hos
  have hog' : ∀ (j i : Nat), live[j]? = some i → ∃ ob, os[j]? = some ob ∧ H[i]? = some ob := fun j i hj => by
    obtain ⟨ob, h1, h2⟩ := hog j i hj
    exact ⟨ob, h1, getM_some h2⟩
  have hlt : ∀ i ∈ live, i < H.length := fun i hi => by
    obtain ⟨j, hj⟩ := List.getElem?_of_mem hi
    obtain ⟨ob, _, h2⟩ := hog' j i hj
    exact (List.getElem?_eq_some_iff.1 h2).1
  obtain ⟨hC1, hR1⟩ := handed hC hn hol hog'
  obtain ⟨hfn, hcall⟩ := hO f _ _ _ _ horc
  refine ⟨hfn, (hcall I _ w us hC1 (A2.map_left (hA.imp fun _ _ h => RV_ren hR1 hC.dom h))).mono ?_⟩
  rintro e w' ⟨v', I', ρ', rfl, hC', hr, hext, hkeep⟩
  have hkeep' := hkeep (by simpa [hol] using hle)
  simp only [List.length_map, hol] at hkeep'
  obtain ⟨e1, e2, e3, e4, e5⟩ := applyE_sets hn hlt hle he
  -- the callee's blocks are the caller's
  have hown1 : ∀ b, ownd (fun j => (live[j]?).bind ρ) (os.map (renO (pos live))) b → ∃ (j id off : Nat), live[j]? = some id ∧ mine H id ∧ ρ id = some (b, off) := by
    rintro b ⟨j, off, ⟨ob, h1, h2⟩, h3⟩
    rw [List.getElem?_map] at h1
    cases hx : os[j]? with
    | none => rw [hx] at h1; cases h1
    | some x =>
      rw [hx] at h1
      simp only [Option.map_some, Option.some.injEq] at h1
      subst h1
      have hjl : j < live.length := by rw [← hol]; exact (List.getElem?_eq_some_iff.1 hx).1
      have hj := List.getElem?_eq_getElem hjl
      obtain ⟨ob', h4, h5⟩ := hog' j _ hj
      rw [hx] at h4
      cases h4
      simp only [hj, Option.bind_some] at h3
      exact ⟨j, _, off, hj, ⟨x, h5, mine_ren.1 h2⟩, h3⟩
  have hsub : ∀ b, ownd (fun j => (live[j]?).bind ρ) (os.map (renO (pos live))) b → ownd ρ H b := fun b hb => by
    obtain ⟨j, id, off, _, h2, h3⟩ := hown1 b hb
    exact ⟨id, off, h2, h3⟩
  have hnotI : ∀ b, I b → ¬ ownd (fun j => (live[j]?).bind ρ) (os.map (renO (pos live))) b := fun b hb ho => ownd_notI hC (hsub b ho) hb
  -- the new numbering
  let ρ2 : Rho := fun id => if id < H.length then ρ id else ρ' (live.length + (id - H.length))
  have hρ2 : ∀ j i, live[j]? = some i → ρ2 i = ρ' j := fun j i hj => by
    have hjl := (List.getElem?_eq_some_iff.1 hj).1
    have hil := hlt i (List.mem_of_getElem? hj)
    show (if i < H.length then ρ i else _) = _
    rw [if_pos hil, (hkeep' j hjl).1, hj]
    rfl
  have hback : ∀ id j, back live (m.nx H.length) id = some j → id < os'.length → (∃ i, live[id]? = some i ∧ j = i) ∨ (live.length ≤ id ∧ j = H.length + (id - live.length)) := by
    intro id j h hid
    unfold back at h
    split at h
    · exact .inl ⟨j, h, rfl⟩
    · rename_i hge
      simp only [Option.some.injEq] at h
      rw [nx_own (e5 (by omega))] at h
      exact .inr ⟨by omega, h.symm⟩
  have hR2 : Ren ρ' os' (back live (m.nx H.length)) ρ2 H' := by
    refine ⟨fun id j h hid => ?_, fun id j h hg => ?_, fun id j h hid => ?_⟩
    · rcases hback id j h hid with ⟨i, hi, rfl⟩ | ⟨h1, rfl⟩
      · exact hρ2 id j hi
      · show (if H.length + (id - live.length) < H.length then _ else ρ' (live.length + (H.length + (id - live.length) - H.length))) = _
        rw [if_neg (by omega)]
        congr 1
        omega
    · have hid : id < os'.length := (List.getElem?_eq_some_iff.1 hg).1
      unfold GN at hg ⊢
      rcases hback id j h hid with ⟨i, hi, rfl⟩ | ⟨h1, rfl⟩
      · obtain ⟨ob, h2, h3⟩ := e2 id j hi
        rw [hg] at h2
        cases h2
        exact h3
      · rw [e4, show live.length + (id - live.length) = id by omega, hg]
        rfl
    · rcases hback id j h hid with ⟨i, hi, rfl⟩ | ⟨h1, rfl⟩
      · have := hlt j (List.mem_of_getElem? hi); omega
      · omega
  -- where each of the objects comes from
  have hfrom : ∀ (id : Nat) (ob : Ob), H'[id]? = some ob → (∃ (j : Nat) (ob' : Ob), live[j]? = some id ∧ os'[j]? = some ob' ∧ ob = renO (back live (m.nx H.length)) ob') ∨ (id < H.length ∧ id ∉ live ∧ H[id]? = some ob) ∨
      (∃ (j : Nat) (ob' : Ob), H.length ≤ id ∧ j = live.length + (id - H.length) ∧ os'[j]? = some ob' ∧ ob = renO (back live (m.nx H.length)) ob') := by
    intro id ob h
    by_cases h1 : id < H.length
    · by_cases h2 : id ∈ live
      · obtain ⟨j, hj⟩ := List.getElem?_of_mem h2
        obtain ⟨ob', h3, h4⟩ := e2 j id hj
        rw [h] at h4
        cases h4
        exact .inl ⟨j, ob', hj, h3, rfl⟩
      · rw [e3 id h1 h2] at h
        exact .inr (.inl ⟨h1, h2, h⟩)
    · have h5 := e4 (id - H.length)
      rw [show H.length + (id - H.length) = id by omega, h] at h5
      cases hx : os'[live.length + (id - H.length)]? with
      | none => rw [hx] at h5; cases h5
      | some x =>
        rw [hx] at h5
        simp only [Option.map_some, Option.some.injEq] at h5
        exact .inr (.inr ⟨_, x, by omega, rfl, hx, h5⟩)
  have hmine : ∀ (id b off : Nat), mine H' id → ρ2 id = some (b, off) → (∃ (j : Nat), mine os' j ∧ ρ' j = some (b, off) ∧ (live[j]? = some id ∨ (H.length ≤ id ∧ j = live.length + (id - H.length)))) ∨ (id ∉ live ∧ mine H id ∧ ρ id = some (b, off)) := by
    rintro id b off ⟨ob, h1, h2⟩ h3
    rcases hfrom id ob h1 with ⟨j, ob', h4, h5, rfl⟩ | ⟨h4, h5, h6⟩ | ⟨j, ob', h4, h5, h6, rfl⟩
    · rw [hρ2 j id h4] at h3
      exact .inl ⟨j, ⟨ob', h5, mine_ren.1 h2⟩, h3, .inl h4⟩
    · have : ρ2 id = ρ id := if_pos h4
      rw [this] at h3
      exact .inr ⟨h5, ⟨ob, h6, h2⟩, h3⟩
    · have : ρ2 id = ρ' (live.length + (id - H.length)) := if_neg (by omega)
      rw [this, ← h5] at h3
      exact .inl ⟨j, ⟨ob', h6, mine_ren.1 h2⟩, h3, .inr ⟨h4, h5⟩⟩
  have hother : ∀ id b off, id ∉ live → mine H id → ρ id = some (b, off) → ¬ ownd (fun j => (live[j]?).bind ρ) (os.map (renO (pos live))) b := by
    intro id b off h1 h2 h3 h4
    obtain ⟨j, id', off', h5, h6, h7⟩ := hown1 b h4
    have := hC.inj id id' b off off' h2 h6 h3 h7
    subst this
    exact h1 (List.mem_of_getElem? h5)
  have hs : Stp I ρ H w I' ρ2 H' w' := by
    refine ⟨by omega, fun id hid => if_pos hid, fun id hg => ?_, fun b hb => ⟨hext.imm b hb, hext.same b (hC.lt b hb) (hnotI b hb)⟩, hext.os, hext.tape, hext.output, hext.size, fun b hb hno => hext.same b hb (fun h => hno (hsub b h)), hext.cap, hext.imm, fun b hb => ?_, fun b hb => ?_⟩
    · have hid : id < H.length := (List.getElem?_eq_some_iff.1 hg).1
      by_cases h2 : id ∈ live
      · obtain ⟨j, hj⟩ := List.getElem?_of_mem h2
        have hjl := (List.getElem?_eq_some_iff.1 hj).1
        have hg1 : GN (os.map (renO (pos live))) j := hR1.gone id j (pos_of_get hn hj) hg
        have hg2 := (hkeep' j hjl).2 hg1
        obtain ⟨ob', h3, h4⟩ := e2 j id hj
        unfold GN at hg2 ⊢
        rw [hg2] at h3
        cases h3
        exact h4
      · unfold GN at hg ⊢
        rw [e3 id hid h2]; exact hg
    · rcases hext.new b hb with h | h | h
      · exact .inl h
      · exact .inr (.inl (hsub b h))
      · exact .inr (.inr h)
    · obtain ⟨id, off, h1, h2⟩ := hb
      rcases hmine id b off h1 h2 with ⟨j, h3, h4, _⟩ | ⟨_, h3, h4⟩
      · rcases hext.own b ⟨j, off, h3, h4⟩ with h | h
        · exact .inl (hsub b h)
        · exact .inr h
      · exact .inl ⟨id, off, h3, h4⟩
  refine ⟨v', rfl, I', ρ2, ⟨fun id ob hob => ?_, hC'.lt, fun id p hp => ?_, fun id id' b o o' h1 h2 h3 h4 => ?_⟩, hs, RV_ren hR2 hC'.dom hr⟩
  · rcases hfrom id ob hob with ⟨j, ob', h4, h5, rfl⟩ | ⟨h4, h5, h6⟩ | ⟨j, ob', h4, h5, h6, rfl⟩
    · exact RO_ren hR2 hC'.dom (hρ2 j id h4) (hC'.obj j ob' h5)
    · refine RO_keep hC hs (hC.obj id ob h6) h4 fun b off hg hr' => ?_
      obtain ⟨hbl, hbI⟩ := block_lt hC h6 hg hr'
      have hno : ¬ ownd (fun j => (live[j]?).bind ρ) (os.map (renO (pos live))) b := by
        rcases hbI with h | h
        · exact hnotI b h
        · exact hother id b off h5 h hr'
      refine ⟨hext.same b hbl hno, fun hni hi => ?_⟩
      rcases hext.new b hi with h | h | h
      · exact hni h
      · exact hno h
      · omega
    · have : ρ2 id = ρ' j := by rw [h5]; exact if_neg (by omega)
      exact RO_ren hR2 hC'.dom this (hC'.obj j ob' h6)
  · by_cases h1 : id < H.length
    · omega
    · have : ρ2 id = ρ' (live.length + (id - H.length)) := if_neg h1
      rw [this] at hp
      have := hC'.dom _ _ hp
      omega
  · rcases hmine id b o h1 h3 with ⟨j, a1, a2, a3⟩ | ⟨a1, a2, a3⟩ <;> rcases hmine id' b o' h2 h4 with ⟨j', b1, b2, b3⟩ | ⟨b1, b2, b3⟩
    · have hjj := hC'.inj j j' b o o' a1 b1 a2 b2
      subst hjj
      rcases a3 with a3 | ⟨a3, a4⟩ <;> rcases b3 with b3 | ⟨b3, b4⟩
      · rw [a3] at b3; cases b3; rfl
      · have := (List.getElem?_eq_some_iff.1 a3).1; omega
      · have := (List.getElem?_eq_some_iff.1 b3).1; omega
      · omega
    · exfalso
      rcases hext.own b ⟨j, o, a1, a2⟩ with h | h
      · exact hother id' b o' b1 b2 b3 h
      · obtain ⟨ob, hob, hobm⟩ := b2
        have := (block_lt hC hob (by rintro rfl; exact hobm) b3).1
        omega
    · exfalso
      rcases hext.own b ⟨j', o', b1, b2⟩ with h | h
      · exact hother id b o a1 a2 a3 h
      · obtain ⟨ob, hob, hobm⟩ := a2
        have := (block_lt hC hob (by rintro rfl; exact hobm) a3).1
        omega
    · exact hC.inj id id' b o o' a2 b2 a3 b3

theorem callF_ok (hO : OrcOk P orc) {imp : FuncId → Bool} (hC : Ctx I ρ H w) {f : FuncId} {vs : List V} {us : List Value} (hA : A2 (RV w I ρ H) vs us) (h : callF imp orc (getM m L0 H) (m.nx H.length) f vs = some (v, es)) (he : applyE m L0 es H = some H') :
    FnOk P f ∧ Calls P f us.toArray w fun e w' => ∃ v', e = .returned v' ∧ Post I ρ H w v H' v' w' := by
  unfold callF at h
  split at h
  · simp only at h
    split at h
    · cases h
    · rename_i os hos
      split at h
      · cases h
      · rename_i r os' horc
        split at h
        · rename_i hle
          simp only [Option.some.injEq, Prod.mk.injEq] at h
          obtain ⟨rfl, rfl⟩ := h
          exact given_call hO hC hA (reach_nodup _ _ _ _ (by simp)) hos horc hle he
        · cases h
  · split at h
    · cases h
    · rename_i us' es' hf
      split at h
      · rename_i r horc
        simp only [Option.some.injEq, Prod.mk.injEq] at h
        obtain ⟨rfl, rfl⟩ := h
        exact pure_call hO hC hA hf horc he
      · cases h

theorem st_call (hO : OrcOk P orc) {imp : FuncId → Bool} (hC : Ctx I ρ H w) (hF : RF w I ρ H fr a.tmps) {f : FuncId} {c : Call} (hcal : c.callee = .value (.func f)) (ho : o.op = .call c) (h : callF imp orc (getM m L0 H) (m.nx H.length) f (c.args.toList.map (ev fr)) = some (v, es)) (he : applyE m L0 es H = some H') : Goal P I ρ H w o a v H' := by
  obtain ⟨hfn, hcall⟩ := callF_ok hO hC (A2.map_ev hF c.args.toList) h he
  refine Res.enter (f := f) (args := c.args.map a.eval ++ #[]) (w' := w) (call_run hcal (by simp [Act.eval]) ho hfn) ?_
  have : c.args.map a.eval ++ #[] = (c.args.toList.map a.eval).toArray := by apply Array.ext'; simp
  rw [this]
  exact hcall

theorem st_callv (hO : OrcOk P orc) {imp : FuncId → Bool} (hC : Ctx I ρ H w) (hF : RF w I ρ H fr a.tmps) {x : Operand} {c : Call} (hcal : c.callee = .value x) (ho : o.op = .call c) (h : sCallv imp orc (getM m L0 H) (m.nx H.length) (ev fr x :: c.args.toList.map (ev fr)) = some (v, es)) (he : applyE m L0 es H = some H') : Goal P I ρ H w o a v H' := by
  obtain ⟨y, ys, h1, hc⟩ := inv_callv h
  simp only [List.cons.injEq] at h1
  obtain ⟨rfl, rfl⟩ := h1
  have hx := RV_ev hF x
  rcases hc with ⟨f, hxe, hcf⟩ | ⟨f, caps, hxe, hcf⟩
  · rw [hxe] at hx
    have hxv : a.eval x = .func (.func f) #[] #[] := hx
    obtain ⟨hfn, hcall⟩ := callF_ok hO hC (A2.map_ev hF c.args.toList) hcf he
    refine Res.enter (f := f) (args := c.args.map a.eval ++ #[]) (w' := w) (call_run hcal hxv ho hfn) ?_
    have : c.args.map a.eval ++ #[] = (c.args.toList.map a.eval).toArray := by apply Array.ext'; simp
    rw [this]
    exact hcall
  · rw [hxe] at hx
    obtain ⟨us, hxv, hA⟩ := hx
    have hA2 : A2 (RV w I ρ H) (caps.map fun p => V.c (.ref p.1 p.2)) us := A2.map_left hA
    obtain ⟨hfn, hcall⟩ := callF_ok hO hC ((A2.map_ev hF c.args.toList).append hA2) hcf he
    refine Res.enter (f := f) (args := c.args.map a.eval ++ us.toArray) (w' := w) (call_run hcal hxv ho hfn) ?_
    have : c.args.map a.eval ++ us.toArray = (c.args.toList.map a.eval ++ us).toArray := by apply Array.ext'; simp
    rw [this]
    exact hcall

end
end Go.AM
