/- One operation: what the abstract machine says of it holds of the model's. -/
import Derived.Test.YtmomipeoigffgaaAmTab
import Derived.WalkKit
import Derived.Laws.Small
set_option linter.unusedVariables false
set_option linter.unusedSimpArgs false
namespace Go.AM

/-- An operation comes to results with G. -/
def Res (P : Program) (o : Oper) (a : Act) (w : World) (G : Value → World → Prop) : Prop :=
  ∀ (K : Act → World → Prop) (Q : Exit → Act → World → Prop), (∀ v' w', G v' w' → K (a.put o.dst v') w') → o.wp P a w K Q

section
variable {P : Program} {o : Oper} {a : Act} {w w' : World} {G : Value → World → Prop}
theorem Res.value {v : Value} (h : (execOp a.eval o).run P w = .ok (.value v) w') (hG : G v w') : Res P o a w G := fun K Q hK => by
  unfold Oper.wp; rw [h]; exact hK _ _ hG
theorem Res.skip (h : (execOp a.eval o).run P w = .ok .skip w') (hG : G (.tuple #[]) w') : Res P o a w G := fun K Q hK => by
  unfold Oper.wp; rw [h]; exact hK _ _ hG
theorem Res.enter {f : FuncId} {args : Array Value} (h : (execOp a.eval o).run P w = .ok (.enter f args) w') (hG : Calls P f args w' fun e w'' => ∃ v, e = .returned v ∧ G v w'') : Res P o a w G := fun K Q hK => by
  unfold Oper.wp; rw [h]
  show Calls P f args w' _
  refine hG.mono ?_
  rintro e w'' ⟨v, rfl, hv⟩
  exact hK _ _ hv
end

theorem RV_ev {w : World} {I : Nat → Prop} {ρ : Rho} {H : List Ob} {fr : List V} {a : Act} (h : RF w I ρ H fr a.tmps) (x : Operand) : RV w I ρ H (ev fr x) (a.eval x) := by
  cases x with
  | tmp t =>
    simp only [ev, Act.eval, List.getD_eq_getElem?_getD]
    cases hf : fr[t]? with
    | none => simp [RV, RV1]
    | some v =>
      obtain ⟨u, hu, hr⟩ := h t v hf
      simp only [Option.getD_some, Array.getD_eq_getD_getElem?, hu]
      exact hr
  | const v =>
    have hC : ∀ v, cstOk v = true → RC w I ρ H (cstC v) v := by
      intro v hv
      unfold cstOk at hv
      split at hv <;> simp_all [cstC, RC, RT]
    simp only [ev, Act.eval, cst]
    split
    · rename_i hv; exact hC v hv
    · split
      · exact ⟨[], rfl, .nil⟩
      · rename_i us _
        split
        · rename_i hall
          refine ⟨us.toList, by simp, ?_⟩
          refine A2.of_get (by simp) fun j x y hx hy => ?_
          rw [List.getElem?_map, hy] at hx
          simp only [Option.map_some, Option.some.injEq] at hx
          subst hx
          exact hC y (List.all_eq_true.1 hall y (List.mem_of_getElem? hy))
        · trivial
      · trivial
  | global g => trivial
  | func f => simp [ev, Act.eval, RV, RV1, RC, RT]

/-- What holds behind an operation. -/
def Post (I : Nat → Prop) (ρ : Rho) (H : List Ob) (w : World) (v : V) (H' : List Ob) (v' : Value) (w' : World) : Prop :=
  ∃ I' ρ', Ctx I' ρ' H' w' ∧ Stp I ρ H w I' ρ' H' w' ∧ RV w' I' ρ' H' v v'

theorem Post.same {I : Nat → Prop} {ρ : Rho} {H : List Ob} {w : World} {v : V} {u : Value} (hC : Ctx I ρ H w) (h : RV w I ρ H v u) : Post I ρ H w v H u w :=
  ⟨I, ρ, hC, Stp.refl _ _ _ _, h⟩

section
variable {P : Program} {I : Nat → Prop} {ρ : Rho} {H : List Ob} {w : World} {tb : Tab}

theorem RT_valT {x : T} (h : scalT x = true) : RT w I x (valT x) := by
  cases x <;> simp [scalT] at h <;> simp [RT, valT]

theorem cmp_ok {op : BinOp} {a b : Int} {r : Bool} (h : cmp op a b = some r) : (Op.intCmp op a b).run P w = .ok (.bool r) w := by
  cases op <;> simp [cmp] at h <;> subst h <;> simp [Op.intCmp]

theorem bin_ok {k : TK} {t : TypeId} (hT : TabOk P tb) (hk : (tb.at t).k = k) {op : BinOp} {x y r : T} {u v : Value} (hx : RT w I x u) (hy : RT w I y v) (h : bin k op x y = some r) {xo yo : Operand} :
    ((do eqGuard op t xo yo u v; binOp op t u v : Sem Value)).run P w = .ok (valT r) w ∧ scalT r = true := by
  unfold bin at h
  split at h
  · rename_i k1 a k2 b
    simp only [RT] at hx hy
    subst hx hy
    have hg : (eqGuard op t xo yo (.int k1 a) (.int k2 b)).run P w = .ok () w := by unfold eqGuard; split <;> simp
    split at h
    · rename_i hs
      unfold binS at h
      split at h
      · simp at h
      · rename_i hb
        cases op <;> simp [BinOp.shifts] at hs <;> simp only [Option.some.injEq] at h <;> subst h <;>
          exact ⟨by simp [hg, binOp, Op.shift, hb, valT], rfl⟩
    · rename_i hs
      split at h
      · rename_i hkk
        subst hkk
        cases op <;> simp [BinOp.shifts] at hs <;> simp [binI] at h
        all_goals first
          | (subst h; refine ⟨?_, rfl⟩; simp [hg, binOp, Op.intArith, valT]; done)
          | (subst h; refine ⟨?_, rfl⟩; simp [hg, binOp, Op.intBits, bits, valT]; done)
          | (obtain ⟨h1, h2⟩ := h; subst h2; refine ⟨?_, rfl⟩; simp [hg, binOp, Op.intDiv, h1, valT]; done)
          | (rcases h with ⟨hq, rfl⟩ | ⟨hq, rfl⟩ <;> (refine ⟨?_, rfl⟩; simp [hg, binOp, cmp_ok hq, valT]; done))
      · simp at h
  · rename_i a b
    simp only [RT] at hx hy
    subst hx hy
    have hg : (eqGuard op t xo yo (.bool a) (.bool b)).run P w = .ok () w := by unfold eqGuard; split <;> simp
    split at h <;> simp only [Option.some.injEq, reduceCtorEq] at h
    · subst h
      exact ⟨by simp [hg, run_eql_bool w t a b (hT.bool hk), valT], rfl⟩
    · subst h
      exact ⟨by simp [hg, run_neq_bool w t a b (hT.bool hk), valT], rfl⟩
  · rename_i a b
    simp only [RT] at hx hy
    subst hx hy
    have hg : (eqGuard op t xo yo (.string a) (.string b)).run P w = .ok () w := by unfold eqGuard; split <;> simp
    split at h
    · simp only [Option.some.injEq] at h; subst h
      exact ⟨by simp [hg, binOp, Op.stringOp, valT], rfl⟩
    · simp only [Option.some.injEq] at h; subst h
      exact ⟨by simp [hg, binOp, Op.stringOp, valT], rfl⟩
    · split at h
      · rename_i hs
        simp only [Option.some.injEq] at h; subst h
        have hs' : ¬ (((a.size + b.size : Nat) : Int) > IntKind.i64.max) := by
          have : IntKind.i64.max = 9223372036854775807 := by decide
          omega
        exact ⟨by simp only [Sem.run_bind, hg, Result.andThen, binOp, Op.stringOp]; rw [if_neg hs']; rfl, rfl⟩
      · simp at h
    · simp at h
  · simp only [RT] at hy
    subst hy
    have hp : x.isPtr = true ∧ (op = .eql ∧ r = .bool x.isNil ∨ op = .neq ∧ r = .bool (!x.isNil)) ∧ ∃ e, k = .ptr e := by
      cases k <;> cases op <;> simp at h
      · exact ⟨h.1, .inl ⟨rfl, h.2.symm⟩, _, rfl⟩
      · exact ⟨h.1, .inr ⟨rfl, h.2.symm⟩, _, rfl⟩
    obtain ⟨hp1, hp2, e, rfl⟩ := hp
    have hu := hT.ptr hk
    have hpt : ∃ A, u = .pointer A ∧ A.isNone = x.isNil := by
      cases x <;> simp [T.isPtr] at hp1
      · simp only [RT] at hx; exact ⟨_, hx, rfl⟩
      · simp only [RT] at hx; obtain ⟨ad, rfl, _⟩ := hx; exact ⟨_, rfl, rfl⟩
    obtain ⟨A, rfl, hA⟩ := hpt
    have hE : (Op.equal t (.pointer A) (.pointer none)).run P w = .ok x.isNil w := by
      show (Op.equalIn (9999 + 1) t (.pointer A) (.pointer none)).run P w = _
      generalize 9999 = d
      cases A <;> simp at hA <;> simp [Op.equalIn, underlying, hu, ← hA]
    have hg : (eqGuard op t xo yo (.pointer A) (.pointer none)).run P w = .ok () w := by unfold eqGuard; split <;> simp
    rcases hp2 with ⟨rfl, rfl⟩ | ⟨rfl, rfl⟩
    · exact ⟨by cases A <;> simp [hg, binOp, hE, valT], rfl⟩
    · exact ⟨by cases A <;> simp [hg, binOp, hE, valT], rfl⟩
  · simp at h

end
end Go.AM
