/- Objects frozen on the way. -/
import Derived.Test.YtmomipeoigffgaaAmAppend
set_option linter.unusedVariables false
set_option linter.unusedSimpArgs false
namespace Go.AM

section
variable {P : Program} {I I' : Nat → Prop} {ρ ρ' : Rho} {H H' H0 H1 : List Ob} {w w' : World} {tb : Tab}

/-- H1 is H0 with some objects frozen. -/
structure Frz (H0 H1 : List Ob) : Prop where
  len : H1.length = H0.length
  get : ∀ (id : Nat) (o : Ob), H0[id]? = some o → H1[id]? = some o ∨ H1[id]? = some o.frozen
theorem Frz.refl (H : List Ob) : Frz H H := ⟨rfl, fun _ _ h => .inl h⟩
theorem frozen_frozen (o : Ob) : o.frozen.frozen = o.frozen := by cases o <;> rfl

theorem getM_some {m : Md} {L0 id : Nat} {o : Ob} (h : getM m L0 H id = some o) : H[id]? = some o := by
  cases m <;> simp only [getM] at h
  · exact h
  · exact h
  · split at h
    · exact h
    · cases h
  · cases h

theorem applyE_set {m : Md} {L0 id : Nat} {o : Ob} {es : List Eff} (h : applyE m L0 (.set id o :: es) H1 = some H') : applyE m L0 es (H1.set id o) = some H' := by
  cases m <;> simp only [applyE] at h
  · exact h
  · split at h
    · exact h
    · cases h
  · cases h
  · cases h
theorem applyE_push {m : Md} {L0 : Nat} {o : Ob} {es : List Eff} (h : applyE m L0 (.push o :: es) H1 = some H') : applyE m L0 es (H1 ++ [o]) = some H' := by
  simp only [applyE] at h
  split at h
  · exact h
  · cases h

theorem set_self {id : Nat} {o : Ob} (h : H[id]? = some o) : H.set id o = H := by
  apply List.ext_getElem?
  intro i
  rw [List.getElem?_set]
  split
  · rename_i hi
    subst hi
    rw [h]
    simp [(List.getElem?_eq_some_iff.1 h).1]
  · rfl

/-- One object frozen, or frozen already. -/
theorem frz_one (hC : Ctx I ρ H1 w) (hf : Frz H0 H1) {id : Nat} {o : Ob} (ho : H0[id]? = some o) (hng : o ≠ .gone) :
    ∃ I2, Ctx I2 ρ (H1.set id o.frozen) w ∧ Stp I ρ H1 w I2 ρ (H1.set id o.frozen) w ∧ Frz H0 (H1.set id o.frozen) ∧ ∀ b off, ρ id = some (b, off) → I2 b := by
  have hfz : Frz H0 (H1.set id o.frozen) := by
    refine ⟨by simp [hf.len], ?_⟩
    intro i p hp
    by_cases hi : i = id
    · subst hi
      rw [ho] at hp
      cases hp
      have : i < H1.length := by rcases hf.get i o ho with h | h <;> exact (List.getElem?_eq_some_iff.1 h).1
      right
      rw [List.getElem?_set]
      simp [this]
    · rw [List.getElem?_set_ne (by omega)]
      exact hf.get i p hp
  by_cases hm : ∃ q, H1[id]? = some q ∧ q.mine
  · obtain ⟨q, hq, hqm⟩ := hm
    have hqo : q.frozen = o.frozen := by
      rcases hf.get id o ho with h | h
      · rw [hq] at h; cases h; rfl
      · rw [hq] at h; cases h; exact frozen_frozen o
    have := freeze_ok hC hq hqm
    rw [hqo] at this
    exact ⟨_, this.1, this.2, hfz, fun b off hr => .inr ⟨off, hr⟩⟩
  · have hq : H1[id]? = some o.frozen := by
      rcases hf.get id o ho with h | h
      · have hnm : ¬ o.mine := fun hmm => hm ⟨o, h, hmm⟩
        have : o.frozen = o := by
          cases o with
          | gone => rfl
          | flat fr cs => cases fr with
            | true => rfl
            | false => exact (hnm rfl).elim
          | mix fr cs => cases fr with
            | true => rfl
            | false => exact (hnm rfl).elim
        rw [this]; exact h
      · exact h
    rw [set_self hq]
    refine ⟨I, hC, Stp.refl _ _ _ _, ?_, fun b off hr => ?_⟩
    · rw [set_self hq] at hfz; exact hfz
    · have hro := hC.obj _ _ hq
      cases o with
      | gone => exact (hng rfl).elim
      | flat fr cs =>
        rcases hro with ⟨h, _⟩ | ⟨b', o', h1, _, h3⟩
        · rw [h] at hr; cases hr
        · rw [h1] at hr; cases hr; exact h3
      | mix fr cs =>
        obtain ⟨b', o', h1, _, h3⟩ := hro
        rw [h1] at hr; cases hr; exact h3

theorem allT_get : ∀ {cs : List C} {ts : List T}, allT cs = some ts → cs = ts.map .t
  | [], ts, h => by simp [allT] at h; subst h; rfl
  | c :: cs, ts, h => by
    cases c <;> simp [allT] at h
    obtain ⟨ts', h1, rfl⟩ := h
    simp [← allT_get h1]

/-- The cells of a frozen object, in memory. -/
theorem frozen_flat (hC : Ctx I ρ H w) {id b o : Nat} {fr : Bool} {cs : List T} (h : H[id]? = some (.flat fr cs)) (hr : ρ id = some (b, o)) (hI : I b) {off n : Nat} : RTs w I (sub cs off n) ⟨b, o + off, none⟩ 0 ∧ RTs w I cs ⟨b, o, none⟩ 0 := by
  have hro := hC.obj _ _ h
  rcases hro with ⟨h, _⟩ | ⟨b', o', h1, h2, _⟩
  · rw [h] at hr; cases hr
  · rw [h1] at hr
    cases hr
    constructor
    · refine RTs_mk fun j c hc => ⟨hI, ?_⟩
      unfold sub at hc
      rw [List.getElem?_take] at hc
      split at hc
      · rw [List.getElem?_drop] at hc
        obtain ⟨u, hu, hru⟩ := h2 _ c hc
        refine ⟨u, ?_, hru⟩
        rw [Nat.zero_add, add_plain, show o + off + j = o + (off + j) by omega]
        exact hu
      · simp at hc
    · refine RTs_mk fun j c hc => ⟨hI, ?_⟩
      obtain ⟨u, hu, hru⟩ := h2 _ c hc
      exact ⟨u, by rw [Nat.zero_add, add_plain]; exact hu, hru⟩

/-- A cell made immutable: its effects. -/
theorem frzC_ok (hC : Ctx I ρ H1 w) {m : Md} {L0 : Nat} (hf : Frz H0 H1) {c : C} {u : Value} (hr : RC w I ρ H1 c u) {x : T} {es rest : List Eff} (h : frzC (getM m L0 H0) c = some (x, es))
    (ha : applyE m L0 (es ++ rest) H1 = some H') : ∃ I2 H2, Ctx I2 ρ H2 w ∧ Stp I ρ H1 w I2 ρ H2 w ∧ Frz H0 H2 ∧ RT w I2 x u ∧ applyE m L0 rest H2 = some H' := by
  have now : ∀ {id : Nat} {o : Ob}, getM m L0 H0 id = some o → o ≠ .gone → ¬ GN H1 id := by
    intro id o hg hng hgn
    rcases hf.get id o (getM_some hg) with h | h
    · unfold GN at hgn; rw [h] at hgn; cases hgn; exact hng rfl
    · unfold GN at hgn; rw [h] at hgn; cases o <;> simp [Ob.frozen] at hgn; exact hng rfl
  have osl : ∀ {id off len sz : Nat} {fr : Bool} {cs : List T}, getM m L0 H0 id = some (.flat fr cs) → RC w I ρ H1 (.osl id off len sz) u →
      ∃ I2, Ctx I2 ρ (H1.set id (.flat true cs)) w ∧ Stp I ρ H1 w I2 ρ (H1.set id (.flat true cs)) w ∧ Frz H0 (H1.set id (.flat true cs)) ∧ RT w I2 (.sl len (sub cs off (len * sz))) u := by
    intro id off len sz fr cs hg hr
    obtain ⟨I2, h1, h2, h3, h4⟩ := frz_one hC hf (getM_some hg) (by simp)
    simp only [Ob.frozen] at h1 h2 h3
    refine ⟨I2, h1, h2, h3, ?_⟩
    rcases hr with ⟨h, _⟩ | ⟨_, h5, rfl, rfl⟩ | ⟨b, o, c, h5, rfl, h6, _⟩
    · exact (now hg (by simp) h).elim
    · simp only [RT]
      refine ⟨none, 0, rfl, Nat.le_refl _, ?_⟩
      simp [sub]
    · simp only [RT]
      have hid : (H1.set id (Ob.flat true cs))[id]? = some (.flat true cs) := by
        have : id < H1.length := by rcases hf.get _ _ (getM_some hg) with h | h <;> exact (List.getElem?_eq_some_iff.1 h).1
        rw [List.getElem?_set]; simp [this]
      exact ⟨_, c, rfl, h6, .inr ⟨_, rfl, (frozen_flat h1 hid h5 (h4 b o h5)).1⟩⟩
  have refF : ∀ {id off : Nat} {fr : Bool} {cs : List T}, getM m L0 H0 id = some (.flat fr cs) → RP ρ H1 id off u →
      ∃ I2, Ctx I2 ρ (H1.set id (.flat true cs)) w ∧ Stp I ρ H1 w I2 ρ (H1.set id (.flat true cs)) w ∧ Frz H0 (H1.set id (.flat true cs)) ∧ RT w I2 (.box cs off) u := by
    intro id off fr cs hg hr
    obtain ⟨I2, h1, h2, h3, h4⟩ := frz_one hC hf (getM_some hg) (by simp)
    simp only [Ob.frozen] at h1 h2 h3
    refine ⟨I2, h1, h2, h3, ?_⟩
    rcases hr with ⟨h, _⟩ | ⟨b, o, h5, rfl⟩
    · exact (now hg (by simp) h).elim
    · simp only [RT]
      have hid : (H1.set id (Ob.flat true cs))[id]? = some (.flat true cs) := by
        have : id < H1.length := by rcases hf.get _ _ (getM_some hg) with h | h <;> exact (List.getElem?_eq_some_iff.1 h).1
        rw [List.getElem?_set]; simp [this]
      exact ⟨⟨b, o, none⟩, by rw [add_plain], (frozen_flat h1 hid h5 (h4 b o h5) (off := 0) (n := 0)).2⟩
  have refM : ∀ {id off : Nat} {fr : Bool} {cs : List C} {ts : List T}, getM m L0 H0 id = some (.mix fr cs) → allT cs = some ts → RP ρ H1 id off u →
      ∃ I2, Ctx I2 ρ (H1.set id (.mix true cs)) w ∧ Stp I ρ H1 w I2 ρ (H1.set id (.mix true cs)) w ∧ Frz H0 (H1.set id (.mix true cs)) ∧ RT w I2 (.box ts off) u := by
    intro id off fr cs ts hg hts hr
    obtain ⟨I2, h1, h2, h3, h4⟩ := frz_one hC hf (getM_some hg) (by simp)
    simp only [Ob.frozen] at h1 h2 h3
    refine ⟨I2, h1, h2, h3, ?_⟩
    rcases hr with ⟨h, _⟩ | ⟨b, o, h5, rfl⟩
    · exact (now hg (by simp) h).elim
    · simp only [RT]
      have hid : (H1.set id (Ob.mix true cs))[id]? = some (.mix true cs) := by
        have : id < H1.length := by rcases hf.get _ _ (getM_some hg) with h | h <;> exact (List.getElem?_eq_some_iff.1 h).1
        rw [List.getElem?_set]; simp [this]
      refine ⟨⟨b, o, none⟩, by rw [add_plain], RTs_mk fun j t ht => ⟨h4 b o h5, ?_⟩⟩
      obtain ⟨b', o', h5', h6, _⟩ := h1.obj _ _ hid
      rw [h5] at h5'; cases h5'
      have := allT_get hts
      subst this
      obtain ⟨v, hv, hrv⟩ := h6 j (.t t) (by simp [ht])
      exact ⟨v, by rw [Nat.zero_add, add_plain]; exact hv, hrv⟩
  have same : ∀ {id : Nat} {o : Ob}, getM m L0 H0 id = some o → o.frozen = o → H1.set id o = H1 := by
    intro id o hg ho
    refine set_self ?_
    rcases hf.get _ _ (getM_some hg) with h | h
    · exact h
    · rw [ho] at h; exact h
  cases c with
  | t y =>
    simp only [frzC, Option.some.injEq, Prod.mk.injEq] at h
    obtain ⟨rfl, rfl⟩ := h
    exact ⟨I, H1, hC, Stp.refl _ _ _ _, hf, hr, ha⟩
  | osl id off len sz =>
    simp only [frzC] at h
    split at h
    · rename_i cs hg
      simp only [Option.some.injEq, Prod.mk.injEq] at h
      obtain ⟨rfl, rfl⟩ := h
      obtain ⟨I2, h1, h2, h3, h4⟩ := osl hg hr
      rw [same hg rfl] at h1 h2 h3
      exact ⟨I2, H1, h1, h2, h3, h4, ha⟩
    · rename_i cs hg
      simp only [Option.some.injEq, Prod.mk.injEq] at h
      obtain ⟨rfl, rfl⟩ := h
      obtain ⟨I2, h1, h2, h3, h4⟩ := osl hg hr
      exact ⟨I2, _, h1, h2, h3, h4, applyE_set ha⟩
    · simp at h
  | ref id off =>
    simp only [frzC] at h
    split at h
    · rename_i cs hg
      simp only [Option.some.injEq, Prod.mk.injEq] at h
      obtain ⟨rfl, rfl⟩ := h
      obtain ⟨I2, h1, h2, h3, h4⟩ := refF hg hr
      rw [same hg rfl] at h1 h2 h3
      exact ⟨I2, H1, h1, h2, h3, h4, ha⟩
    · rename_i cs hg
      simp only [Option.some.injEq, Prod.mk.injEq] at h
      obtain ⟨rfl, rfl⟩ := h
      obtain ⟨I2, h1, h2, h3, h4⟩ := refF hg hr
      exact ⟨I2, _, h1, h2, h3, h4, applyE_set ha⟩
    · rename_i cs hg
      simp only [Option.map_eq_some_iff, Prod.mk.injEq] at h
      obtain ⟨ts, hts, rfl, rfl⟩ := h
      obtain ⟨I2, h1, h2, h3, h4⟩ := refM hg hts hr
      rw [same hg rfl] at h1 h2 h3
      exact ⟨I2, H1, h1, h2, h3, h4, ha⟩
    · rename_i cs hg
      simp only [Option.map_eq_some_iff, Prod.mk.injEq] at h
      obtain ⟨ts, hts, rfl, rfl⟩ := h
      obtain ⟨I2, h1, h2, h3, h4⟩ := refM hg hts hr
      exact ⟨I2, _, h1, h2, h3, h4, applyE_set ha⟩
    · simp at h
  | fn f caps =>
    cases caps with
    | nil =>
      simp only [frzC, Option.some.injEq, Prod.mk.injEq] at h
      obtain ⟨rfl, rfl⟩ := h
      obtain ⟨us, rfl, hu⟩ := hr
      cases hu
      exact ⟨I, H1, hC, Stp.refl _ _ _ _, hf, by simp [RT], ha⟩
    | cons _ _ => simp [frzC] at h
  | any => simp [frzC] at h

theorem frzCs_ok {m : Md} {L0 : Nat} : ∀ {cs : List C} {us : List Value} {I : Nat → Prop} {H1 : List Ob} (_ : Ctx I ρ H1 w) (_ : Frz H0 H1) (_ : A2 (RC w I ρ H1) cs us) {xs : List T} {es rest : List Eff} (_ : frzCs (getM m L0 H0) cs = some (xs, es))
    (_ : applyE m L0 (es ++ rest) H1 = some H'), ∃ I2 H2, Ctx I2 ρ H2 w ∧ Stp I ρ H1 w I2 ρ H2 w ∧ Frz H0 H2 ∧ A2 (RT w I2) xs us ∧ applyE m L0 rest H2 = some H'
  | [], us, I, H1, hC, hf, hr, xs, es, rest, h, ha => by
    simp only [frzCs, Option.some.injEq, Prod.mk.injEq] at h
    obtain ⟨rfl, rfl⟩ := h
    cases hr
    exact ⟨I, H1, hC, Stp.refl _ _ _ _, hf, .nil, ha⟩
  | c :: cs, us, I, H1, hC, hf, hr, xs, es, rest, h, ha => by
    cases hr with
    | cons hr1 hr2 =>
      simp only [frzCs] at h
      split at h
      · simp at h
      · rename_i x es1 h1
        split at h
        · simp at h
        · rename_i xs2 es2 h2
          simp only [Option.some.injEq, Prod.mk.injEq] at h
          obtain ⟨rfl, rfl⟩ := h
          rw [List.append_assoc] at ha
          obtain ⟨I2, H2, hC2, hs2, hf2, hx, ha2⟩ := frzC_ok hC hf hr1 h1 ha
          obtain ⟨I3, H3, hC3, hs3, hf3, hxs, ha3⟩ := frzCs_ok hC2 hf2 (hr2.imp fun a b hab => RC_stp hC hs2 hab) h2 ha2
          exact ⟨I3, H3, hC3, hs2.trans hs3, hf3, .cons (RT_fix hs3.fix _ _ hx) hxs, ha3⟩

/-- The cells of a value. -/
theorem cellsT_ok {m : Md} {L0 : Nat} (hC : Ctx I ρ H1 w) (hf : Frz H0 H1) {v : V} {u : Value} (hr : RV w I ρ H1 v u) {xs : List T} {es rest : List Eff} (h : cellsT (getM m L0 H0) v = some (xs, es))
    (ha : applyE m L0 (es ++ rest) H1 = some H') : ∃ I2 H2, Ctx I2 ρ H2 w ∧ Stp I ρ H1 w I2 ρ H2 w ∧ Frz H0 H2 ∧ A2 (RT w I2) xs u.cells.toList ∧ (∀ x ∈ u.cells.toList, x.oneCell' = true) ∧ applyE m L0 rest H2 = some H' := by
  have hone : ∀ {I2 : Nat → Prop} {xs : List T} {us : List Value}, A2 (RT w I2) xs us → ∀ x ∈ us, x.oneCell' = true := by
    intro I2 xs us h x hx
    obtain ⟨j, hj⟩ := List.getElem?_of_mem hx
    obtain ⟨a, _, hr⟩ := h.get' hj
    exact RT_one hr
  cases v with
  | c x =>
    simp only [cellsT, Option.map_eq_some_iff] at h
    obtain ⟨⟨y, es'⟩, hy, he⟩ := h
    simp only [Prod.mk.injEq] at he
    obtain ⟨rfl, rfl⟩ := he
    obtain ⟨I2, H2, h1, h2, h3, h4, h5⟩ := frzC_ok hC hf hr hy ha
    have hcell : u.cells.toList = [u] := by
      have := RC_one hr
      cases u <;> simp [Value.oneCell'] at this <;> rfl
    refine ⟨I2, H2, h1, h2, h3, ?_, ?_, h5⟩
    · rw [hcell]; exact .cons h4 .nil
    · rw [hcell]; intro x hx; simp at hx; subst hx; exact RT_one h4
  | agg cs =>
    simp only [cellsT] at h
    obtain ⟨us, rfl, hrs⟩ := hr
    obtain ⟨I2, H2, h1, h2, h3, h4, h5⟩ := frzCs_ok hC hf hrs h ha
    exact ⟨I2, H2, h1, h2, h3, by simpa [Value.cells] using h4, by simpa [Value.cells] using hone h4, h5⟩
  | tup vs => simp [cellsT] at h
  | any => simp [cellsT] at h

theorem frzV_ok {m : Md} {L0 : Nat} (hC : Ctx I ρ H1 w) (hf : Frz H0 H1) {v x : V} {u : Value} (hr : RV w I ρ H1 v u) {es rest : List Eff} (h : frzV (getM m L0 H0) v = some (x, es))
    (ha : applyE m L0 (es ++ rest) H1 = some H') : ∃ I2 H2, Ctx I2 ρ H2 w ∧ Stp I ρ H1 w I2 ρ H2 w ∧ Frz H0 H2 ∧ (∀ ρ3 H3, RV1 w I2 ρ3 H3 x u) ∧ (∀ vs, x ≠ .tup vs) ∧ applyE m L0 rest H2 = some H' := by
  cases v with
  | c x' =>
    simp only [frzV, Option.map_eq_some_iff] at h
    obtain ⟨⟨y, es'⟩, hy, he⟩ := h
    simp only [Prod.mk.injEq] at he
    obtain ⟨rfl, rfl⟩ := he
    obtain ⟨I2, H2, h1, h2, h3, h4, h5⟩ := frzC_ok hC hf hr hy ha
    exact ⟨I2, H2, h1, h2, h3, fun _ _ => h4, by simp, h5⟩
  | agg cs =>
    simp only [frzV, Option.map_eq_some_iff] at h
    obtain ⟨⟨y, es'⟩, hy, he⟩ := h
    simp only [Prod.mk.injEq] at he
    obtain ⟨rfl, rfl⟩ := he
    obtain ⟨us, rfl, hrs⟩ := hr
    obtain ⟨I2, H2, h1, h2, h3, h4, h5⟩ := frzCs_ok hC hf hrs hy ha
    exact ⟨I2, H2, h1, h2, h3, fun ρ3 H3 => ⟨us, rfl, A2.map_left (R := RC w I2 ρ3 H3) (f := C.t) h4⟩, by simp, h5⟩
  | tup vs => simp [frzV] at h
  | any =>
    simp only [frzV, Option.some.injEq, Prod.mk.injEq] at h
    obtain ⟨rfl, rfl⟩ := h
    exact ⟨I, H1, hC, Stp.refl _ _ _ _, hf, fun _ _ => trivial, by simp, ha⟩

/-- A value without objects. -/
def plainC : C → Bool | .t _ => true | _ => false
def plainV : V → Bool | .c x => plainC x | .agg cs => cs.all plainC | .any => true | .tup _ => false
theorem plainC_fix {w' : World} {I I' : Nat → Prop} (hf : Fix w I w' I') {ρ ρ' : Rho} {H H' : List Ob} {x : C} {u : Value} (hp : plainC x = true) (h : RC w I ρ H x u) : RC w' I' ρ' H' x u := by
  cases x <;> simp [plainC] at hp
  exact RT_fix hf _ _ h
theorem plainV_fix {w' : World} {I I' : Nat → Prop} (hf : Fix w I w' I') {ρ ρ' : Rho} {H H' : List Ob} {x : V} {u : Value} (hp : plainV x = true) (h : RV1 w I ρ H x u) : RV1 w' I' ρ' H' x u := by
  cases x with
  | c x => exact plainC_fix hf hp h
  | agg cs =>
    obtain ⟨us, rfl, hr⟩ := h
    refine ⟨us, rfl, hr.imp_mem fun a b ha hab => plainC_fix hf ?_ hab⟩
    exact List.all_eq_true.1 hp a ha
  | tup vs => simp [plainV] at hp
  | any => trivial
theorem frzV_plain {get : Nat → Option Ob} {v x : V} {es : List Eff} (h : frzV get v = some (x, es)) : plainV x = true := by
  cases v with
  | c x' =>
    simp only [frzV, Option.map_eq_some_iff] at h
    obtain ⟨⟨y, es'⟩, hy, he⟩ := h
    simp only [Prod.mk.injEq] at he
    obtain ⟨rfl, rfl⟩ := he
    rfl
  | agg cs =>
    simp only [frzV, Option.map_eq_some_iff] at h
    obtain ⟨⟨y, es'⟩, hy, he⟩ := h
    simp only [Prod.mk.injEq] at he
    obtain ⟨rfl, rfl⟩ := he
    simp [plainV, plainC]
  | tup vs => simp [frzV] at h
  | any =>
    simp only [frzV, Option.some.injEq, Prod.mk.injEq] at h
    obtain ⟨rfl, rfl⟩ := h
    rfl

theorem frzVs_ok {m : Md} {L0 : Nat} : ∀ {vs : List V} {us : List Value} {I : Nat → Prop} {H1 : List Ob} (_ : Ctx I ρ H1 w) (_ : Frz H0 H1) (_ : A2 (RV w I ρ H1) vs us) {xs : List V} {es rest : List Eff} (_ : frzVs (getM m L0 H0) vs = some (xs, es))
    (_ : applyE m L0 (es ++ rest) H1 = some H'), ∃ I2 H2, Ctx I2 ρ H2 w ∧ Stp I ρ H1 w I2 ρ H2 w ∧ Frz H0 H2 ∧ (∀ ρ3 H3, A2 (RV1 w I2 ρ3 H3) xs us) ∧ (∀ x ∈ xs, plainV x = true) ∧ applyE m L0 rest H2 = some H'
  | [], us, I, H1, hC, hf, hr, xs, es, rest, h, ha => by
    simp only [frzVs, Option.some.injEq, Prod.mk.injEq] at h
    obtain ⟨rfl, rfl⟩ := h
    cases hr
    exact ⟨I, H1, hC, Stp.refl _ _ _ _, hf, fun _ _ => .nil, by simp, ha⟩
  | c :: cs, us, I, H1, hC, hf, hr, xs, es, rest, h, ha => by
    cases hr with
    | cons hr1 hr2 =>
      simp only [frzVs] at h
      split at h
      · simp at h
      · rename_i x es1 h1
        split at h
        · simp at h
        · rename_i xs2 es2 h2
          simp only [Option.some.injEq, Prod.mk.injEq] at h
          obtain ⟨rfl, rfl⟩ := h
          rw [List.append_assoc] at ha
          obtain ⟨I2, H2, hC2, hs2, hf2, hx, _, ha2⟩ := frzV_ok hC hf hr1 h1 ha
          obtain ⟨I3, H3, hC3, hs3, hf3, hxs, hp, ha3⟩ := frzVs_ok hC2 hf2 (hr2.imp fun a b hab => RV_stp hC hs2 hab) h2 ha2
          refine ⟨I3, H3, hC3, hs2.trans hs3, hf3, fun ρ3 H3 => .cons (plainV_fix hs3.fix (frzV_plain h1) (hx ρ3 H3)) (hxs ρ3 H3), ?_, ha3⟩
          intro y hy
          rcases List.mem_cons.1 hy with rfl | hy
          · exact frzV_plain h1
          · exact hp y hy

end
end Go.AM
