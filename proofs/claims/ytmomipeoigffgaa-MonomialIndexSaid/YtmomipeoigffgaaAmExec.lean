/- Lists of operations, in any order that they leave open. -/
import Derived.Test.YtmomipeoigffgaaAmCall
import Derived.LoopN
set_option linter.unusedVariables false
set_option linter.unusedSimpArgs false
namespace Go.AM

section
variable {P : Program} {I I' : Nat → Prop} {ρ ρ' : Rho} {H H' H0 H1 : List Ob} {w w' : World}
variable {o : Oper} {a : Act} {fr : List V} {m : Md} {L0 : Nat} {v : V} {es : List Eff}

theorem step_ok {tb : Tab} {imp : FuncId → Bool} {orc : Orc} (hT : TabOk P tb) (hO : OrcOk P orc) (hC : Ctx I ρ H w) (hF : RF w I ρ H fr a.tmps) {k : K} {xs : List Operand} (hk : compOp tb o.op = some (k, xs))
    (hs : step tb imp orc m.own (getM m L0 H) (m.nx H.length) k (xs.map (ev fr)) = some (v, es)) (he : applyE m L0 es H = some H') : Goal P I ρ H w o a v H' := by
  cases ho : o.op <;> rw [ho] at hk <;> simp only [compOp, reduceCtorEq, Option.some.injEq, Prod.mk.injEq] at hk
  case move x => obtain ⟨rfl, rfl⟩ := hk; exact st_mv hC hF (.inl ho) hs he
  case assign x => obtain ⟨rfl, rfl⟩ := hk; exact st_mv hC hF (.inr ho) hs he
  case pick c x y => obtain ⟨rfl, rfl⟩ := hk; exact st_pick hC hF ho hs he
  case alloc t => obtain ⟨rfl, rfl⟩ := hk; exact st_alloc hT hC ho hs he
  case box t x => obtain ⟨rfl, rfl⟩ := hk; exact st_box hC hF ho hs he
  case buildSlice t n ps => obtain ⟨rfl, rfl⟩ := hk; exact st_mkslice hT hC hF ho hs he
  case load t x => obtain ⟨rfl, rfl⟩ := hk; exact st_load hT hC hF ho hs he
  case store t x y => obtain ⟨rfl, rfl⟩ := hk; exact st_store hT hC hF ho hs he
  case binOp op t x y t' => obtain ⟨rfl, rfl⟩ := hk; exact st_bin hT hC hF ho hs he
  case unOp op t x =>
    obtain ⟨rfl, rfl⟩ := hk
    cases op
    · exact st_neg hC hF ho hs he
    · simp [step] at hs
    · exact st_not hC hF ho hs he
    · simp [step] at hs
  case convert s d x =>
    split at hk
    · rename_i k1 k2 h1 h2
      simp only [Option.some.injEq, Prod.mk.injEq] at hk
      obtain ⟨rfl, rfl⟩ := hk
      have g1 : (tb.at s).k = .int k1 := by cases h : (tb.at s).k <;> simp [h, TK.isInt] at h1; rw [h1]
      have g2 : (tb.at d).k = .int k2 := by cases h : (tb.at d).k <;> simp [h, TK.isInt] at h2; rw [h2]
      exact st_conv hT hC hF ho g1 g2 hs he
    · cases hk
  case makeFunc fn first caps =>
    cases fn <;> simp only [compOp, reduceCtorEq] at hk
    split at hk
    · rename_i hfi
      simp only [Option.some.injEq, Prod.mk.injEq] at hk
      obtain ⟨rfl, rfl⟩ := hk
      exact st_mkfn hC hF (by simpa using hfi) ho hs he
    · cases hk
  case makeSlice t x y => obtain ⟨rfl, rfl⟩ := hk; exact st_make hT hC hF ho hs he
  case fieldAddr t x i => obtain ⟨rfl, rfl⟩ := hk; simp [step] at hs
  case indexAddr t x y => obtain ⟨rfl, rfl⟩ := hk; exact st_iaddr hT hC hF ho hs he
  case extract x i => obtain ⟨rfl, rfl⟩ := hk; exact st_ext hC hF ho hs he
  case call c =>
    unfold compCall at hk
    split at hk
    · rename_i f hcal
      simp only [Option.some.injEq, Prod.mk.injEq] at hk
      obtain ⟨rfl, rfl⟩ := hk
      exact st_call hO hC hF hcal ho hs he
    · rename_i x _ hcal
      simp only [Option.some.injEq, Prod.mk.injEq] at hk
      obtain ⟨rfl, rfl⟩ := hk
      exact st_callv hO hC hF hcal ho hs he
    · rename_i hcal
      split at hk
      · rename_i t x h1 h2
        simp only [Option.some.injEq, Prod.mk.injEq] at hk
        obtain ⟨rfl, rfl⟩ := hk
        exact st_len hT hC hF hcal h1 h2 ho hs he
      · cases hk
    · rename_i hcal
      split at hk
      · rename_i x y h2
        simp only [Option.some.injEq, Prod.mk.injEq] at hk
        obtain ⟨rfl, rfl⟩ := hk
        exact st_max hC hF hcal h2 ho hs he
      · cases hk
    · rename_i hcal
      split at hk
      · rename_i x y h2
        simp only [Option.some.injEq, Prod.mk.injEq] at hk
        obtain ⟨rfl, rfl⟩ := hk
        exact st_min hC hF hcal h2 ho hs he
      · cases hk
    · rename_i hcal
      split at hk
      · rename_i t u x y h1 h2
        split at hk
        · rename_i hsl
          simp only [Bool.and_eq_true] at hsl
          simp only [Option.some.injEq, Prod.mk.injEq] at hk
          obtain ⟨rfl, rfl⟩ := hk
          exact st_append hT hC hF hcal h1 h2 hsl.2 ho hs he
        · cases hk
      · cases hk
    · cases hk

/-- The state, and the moment from which changes are told. -/
def SR (w0 : World) (I0 : Nat → Prop) (ρ0 : Rho) (H0 : List Ob) (mm : Nat) (s : St) (a : Act) (w : World) : Prop :=
  ∃ I ρ, Ctx I ρ s.H w ∧ RF w I ρ s.H s.fr a.tmps ∧ a.defers = [] ∧ Ext w0 I0 (ownd ρ0 H0) w I (ownd ρ s.H) ∧ mm ≤ s.H.length ∧ ∀ id, id < mm → ρ id = ρ0 id ∧ (GN H0 id → GN s.H id)

variable {w0 : World} {I0 : Nat → Prop} {ρ0 : Rho} {mm : Nat}

theorem RF_put {tmps : Array Value} (h : RF w I ρ H fr tmps) {d : Nat} {u : Value} (hr : RV w I ρ H v u) : RF w I ρ H (fr.set d v) (tmps.setIfInBounds d u) := by
  intro t x hx
  rw [List.getElem?_set] at hx
  split at hx
  · rename_i hd
    subst hd
    split at hx
    · rename_i hl
      cases hx
      obtain ⟨u', hu', _⟩ := h _ _ (List.getElem?_eq_getElem hl)
      have := (Array.getElem?_eq_some_iff.1 hu').1
      exact ⟨u, by simp [Array.getElem?_setIfInBounds, this], hr⟩
    · cases hx
  · rename_i hd
    obtain ⟨u', hu', hr'⟩ := h t x hx
    exact ⟨u', by rw [Array.getElem?_setIfInBounds_ne hd]; exact hu', hr'⟩
theorem RF_put' (h : RF w I ρ H fr a.tmps) {d : Option Nat} {u : Value} (hr : RV w I ρ H v u) : RF w I ρ H (put fr d v) (a.put d u).tmps := by
  cases d with
  | none => exact h
  | some d => exact RF_put h hr
theorem put_defers (a : Act) (d : Option Nat) (u : Value) : (a.put d u).defers = a.defers := by cases d <;> rfl
theorem RF_stp {tmps : Array Value} (hC : Ctx I ρ H w) (hs : Stp I ρ H w I' ρ' H' w') (h : RF w I ρ H fr tmps) : RF w' I' ρ' H' fr tmps := fun t x hx => by
  obtain ⟨u, hu, hr⟩ := h t x hx
  exact ⟨u, hu, RV_stp hC hs hr⟩

/-- One instruction, at its place. -/
theorem ins_ok {E : Env} {ops : Array Oper} {Q : Exit → Act → World → Prop} (hT : TabOk P E.tb) (hO : OrcOk P E.orc) {i : Nat} {o : Oper} (ho : ops[i]? = some o) {x : Ins} (hx : compIns E.tb ops o = some x) {md : Md} {L0 : Nat} {s s' : St}
    (hs : stepIns E L0 { x with m := md } s = some s') {a : Act} {w : World} (hS : SR w0 I0 ρ0 H0 mm s a w) {K : Act → World → Prop} (hK : ∀ a' w', SR w0 I0 ρ0 H0 mm s' a' w' → K a' w') : wpOp P ops Q i K a w := by
  obtain ⟨I, ρ, hC, hF, hd, hE, hm, hkeep⟩ := hS
  unfold wpOp
  rw [ho]
  simp only
  -- what the instruction is
  obtain ⟨k, xs, hk, hxk, hxx, hxd⟩ : ∃ k xs, compOp E.tb o.op = some (k, xs) ∧ x.k = k ∧ x.xs = xs ∧ x.dst = o.dst := by
    unfold compIns at hx
    split at hx
    · cases hx
    · rename_i k xs hk
      split at hx
      · cases hx; exact ⟨k, xs, hk, rfl, rfl, rfl⟩
      · split at hx
        · cases hx; exact ⟨k, xs, hk, rfl, rfl, rfl⟩
        · cases hx
  have hdo : doIns E L0 { x with m := md } s = some s' → o.wp P a w K Q ∨ (o.asks P a w ∧ LetsOut Q) := by
    intro h
    unfold doIns at h
    simp only [hxk, hxx, hxd] at h
    split at h
    · cases h
    · rename_i v es hstep
      split at h
      · cases h
      · rename_i H' happ
        simp only [Option.some.injEq] at h
        subst h
        left
        refine step_ok hT hO hC hF hk hstep happ K Q ?_
        rintro v' w' ⟨I', ρ', hC', hs', hr⟩
        refine hK _ _ ⟨I', ρ', hC', RF_put' (RF_stp hC hs' hF) hr, by rw [put_defers]; exact hd, hE.trans hs'.ext, Nat.le_trans hm hs'.len, fun id hid => ?_⟩
        obtain ⟨h1, h2⟩ := hkeep id hid
        exact ⟨(hs'.rho id (Nat.lt_of_lt_of_le hid hm)).trans h1, fun hg => hs'.gone id (h2 hg)⟩
  have hskip : skipIns { x with m := md } s = some s' → K (a.put o.dst undef) w := by
    intro h
    unfold skipIns at h
    simp only [hxd, Option.some.injEq] at h
    subst h
    exact hK _ _ ⟨I, ρ, hC, RF_put' hF tup_nil, by rw [put_defers]; exact hd, hE, hm, hkeep⟩
  -- its guard
  unfold compIns at hx
  rw [hk] at hx
  simp only at hx
  unfold stepIns at hs
  cases hg : o.guard with
  | none =>
    rw [hg] at hx
    cases hx
    have hw : Region.wanted o (yielded ops a.tmps) = true := by simp [Region.wanted, hg]
    rw [if_pos hw]
    exact hdo hs
  | some gw =>
    obtain ⟨j, want⟩ := gw
    rw [hg] at hx
    simp only at hx
    cases hj : (ops[j]?).bind (·.dst) with
    | none => rw [hj] at hx; cases hx
    | some d =>
      rw [hj] at hx
      cases hx
      simp only at hs
      rw [List.getD_eq_getElem?_getD] at hs
      cases hfr : s.fr[d]? with
      | none => rw [hfr] at hs; cases hs
      | some vv =>
        rw [hfr] at hs
        simp only [Option.getD_some] at hs
        obtain ⟨u, hu, hr⟩ := hF d vv hfr
        have hcase : (∃ b, vv = .c (.t (.bool b))) ∨ vv = .tup [] := by
          split at hs
          · exact .inl ⟨_, rfl⟩
          · exact .inr rfl
          · cases hs
        rcases hcase with ⟨b, rfl⟩ | rfl
        · simp only at hs
          have hub : u = .bool b := hr
          have hy : yielded ops a.tmps j = some b := by simp [yielded, hj, hu, hub]
          have hw : Region.wanted o (yielded ops a.tmps) = (some b == some want) := by simp [Region.wanted, hg, hy]
          rw [hw]
          split at hs
          · rename_i hbw
            subst hbw
            simp only [beq_self_eq_true, if_true]
            exact hdo hs
          · rename_i hbw
            have : (some b == some want) = false := by simpa using hbw
            rw [this]
            simp only [Bool.false_eq_true, if_false]
            exact hskip hs
        · simp only at hs
          have hub : u = .tuple #[] := by obtain ⟨us, h1, h2⟩ := hr; cases h2; exact h1
          have hy : yielded ops a.tmps j = none := by simp [yielded, hj, hu, hub]
          have hw : Region.wanted o (yielded ops a.tmps) = false := by simp [Region.wanted, hg, hy]
          rw [hw]
          simp only [Bool.false_eq_true, if_false]
          exact hskip hs

theorem applyE_len {m : Md} {L0 : Nat} : ∀ {es : List Eff} {H H' : List Ob}, applyE m L0 es H = some H' → H.length ≤ H'.length
  | [], H, H', h => by rw [applyE_nil h]; exact Nat.le_refl _
  | .push o :: es, H, H', h => by
    have := applyE_len (applyE_push h)
    simp at this
    omega
  | .set id o :: es, H, H', h => by
    have := applyE_len (applyE_set h)
    simpa using this

theorem stepIns_len {E : Env} {L0 : Nat} {x : Ins} {s s' : St} (h : stepIns E L0 x s = some s') : s.H.length ≤ s'.H.length := by
  have hdo : doIns E L0 x s = some s' → s.H.length ≤ s'.H.length := by
    intro h
    unfold doIns at h
    split at h
    · cases h
    · split at h
      · cases h
      · rename_i H' happ
        cases h
        exact applyE_len happ
  have hskip : skipIns x s = some s' → s.H.length ≤ s'.H.length := by
    intro h
    cases h
    exact Nat.le_refl _
  unfold stepIns at h
  split at h
  · exact hdo h
  · split at h
    · split at h
      · exact hdo h
      · exact hskip h
    · exact hskip h
    · cases h

/-- In the order of the text. -/
theorem wpOps_ok {E : Env} {ops : Array Oper} {Q : Exit → Act → World → Prop} (hT : TabOk P E.tb) (hO : OrcOk P E.orc) {L0 : Nat} : ∀ (l : List Oper) (k : Nat), (∀ j, l[j]? = ops[k + j]?) → ∀ {is : List Ins}, compAll E.tb ops l = some is → ∀ {s s' : St}, runIs E L0 is s = some s' →
    ∀ {a : Act} {w : World}, SR w0 I0 ρ0 H0 mm s a w → (∀ a' w', SR w0 I0 ρ0 H0 mm s' a' w' → Q .normal a' w') → wpOps P ops Q (List.range' k l.length) a w
  | [], k, _, is, hc, s, s', hr, a, w, hS, hQ => by
    simp only [compAll, Option.some.injEq] at hc
    subst hc
    simp only [runIs, Option.some.injEq] at hr
    subst hr
    simpa [wpOps] using hQ a w hS
  | o :: l, k, hl, is, hc, s, s', hr, a, w, hS, hQ => by
    simp only [compAll] at hc
    split at hc
    · rename_i x xs hx hxs
      simp only [Option.some.injEq] at hc
      subst hc
      simp only [runIs, Option.bind_eq_some_iff] at hr
      obtain ⟨s1, h1, h2⟩ := hr
      rw [List.length_cons, List.range'_succ, wpOps_cons]
      have h0 : ops[k]? = some o := by simpa using (hl 0).symm
      refine ins_ok hT hO h0 hx (md := x.m) h1 hS fun a' w' hS' => ?_
      exact wpOps_ok hT hO l (k + 1) (fun j => by have := hl (j + 1); simpa [Nat.add_assoc, Nat.add_comm 1 j] using this) hxs h2 hS' hQ
    · cases hc

end
end Go.AM
