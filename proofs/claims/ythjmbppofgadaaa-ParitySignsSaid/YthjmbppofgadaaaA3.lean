import Derived.Test.YthjmbppofgadaaaA2
import Derived.Laws.CopyRow
import Derived.Laws.BytesString
import Derived.LoopN
set_option linter.unusedVariables false
set_option linter.unusedSimpArgs false
set_option linter.defProp false
namespace Go.AM
theorem TabOk.struct {P : Program} {tb : Tab} (h : TabOk P tb) {t : TypeId} {fs : List (Nat × TypeId)} (hk : (tb.at t).k = .struct fs) : ∃ gs : Array Field, P.underlying t = some (.struct gs) ∧ gs.toList.map (fun g => (g.offset, g.type)) = fs := by
  rcases h t with h | h
  · simp [hk, isOther] at h
  · obtain ⟨d, hd, ho⟩ := h.desc
    rw [hk] at ho
    unfold dOk at ho
    split at ho <;> simp_all
section
variable {P : Program} {I I' : Nat → Prop} {ρ ρ' : Rho} {H H' H0 H1 : List Ob} {w w' : World} {tb : Tab}
variable {o : Oper} {a : Act} {fr : List V} {m : Md} {L0 : Nat} {v : V} {es : List Eff}
theorem field_at {gs : Array Field} {fs : List (Nat × TypeId)} (h : gs.toList.map (fun g => (g.offset, g.type)) = fs) {i off : Nat} {t : TypeId} (hi : fs[i]? = some (off, t)) : ∃ g : Field, gs[i]? = some g ∧ g.offset = off ∧ g.type = t := by
  subst h
  rw [List.getElem?_map] at hi
  cases hg : gs.toList[i]? with
  | none => rw [hg] at hi; cases hi
  | some g =>
    rw [hg] at hi
    simp only [Option.map_some, Option.some.injEq, Prod.mk.injEq] at hi
    exact ⟨g, by simpa using hg, hi.1, hi.2⟩
theorem part_ok (hT : TabOk P tb) {t : TypeId} {cs : List C} {us : List Value} (hA : A2 (RC w I ρ H) cs us) {off : Nat} (h : partC tb t cs off = some (v, es)) : es = [] ∧ ∃ u, (part t us.toArray off).run P w = .ok u w ∧ RV w I ρ H v u := by
  unfold partC at h
  split at h
  · rename_i ho
    split at h
    · rename_i v' hl
      simp only [Option.some.injEq, Prod.mk.injEq] at h
      obtain ⟨rfl, rfl⟩ := h
      refine ⟨rfl, ?_⟩
      unfold loadC at hl
      split at hl
      · rename_i hagg
        split at hl
        · rename_i hlen
          simp only [Option.some.injEq] at hl
          subst hl
          refine ⟨.agg (us.toArray.extract off (off + (tb.at t).size)), by simp [part, isAgg_run hT ho, hagg, sizeOf_run hT ho], ((us.drop off).take (tb.at t).size), ?_, (hA.drop off).take _⟩
          congr 1
          apply Array.ext'
          simp [List.extract_eq_take_drop]
        · cases hl
      · rename_i hagg
        split at hl
        · rename_i c hc
          simp only [Option.some.injEq] at hl
          subst hl
          obtain ⟨u, hu, hr⟩ := hA.get hc
          exact ⟨u, by simp [part, isAgg_run hT ho, hagg, hu], hr⟩
        · cases hl
    · cases h
  · cases h
theorem st_field (hT : TabOk P tb) (hC : Ctx I ρ H w) (hF : RF w I ρ H fr a.tmps) {t : TypeId} {x : Operand} {i : Nat} (ho : o.op = .field t x i) (h : sField tb (tb.at t).k i [ev fr x] = some (v, es)) (he : applyE m L0 es H = some H') : Goal P I ρ H w o a v H' := by
  have hx := RV_ev hF x
  unfold sField at h
  split at h
  · rename_i cs heq
    simp only [List.cons.injEq, and_true] at heq
    rw [heq] at hx
    obtain ⟨us, hv, hA⟩ := hx
    split at h
    · rename_i fs hk
      obtain ⟨gs, hu, hgs⟩ := hT.struct hk
      split at h
      · rename_i off t' hi
        obtain ⟨g, hg, h1, h2⟩ := field_at hgs hi
        obtain ⟨rfl, u, hp, hr⟩ := part_ok (v := v) (es := es) hT hA h
        cases applyE_nil he
        refine go_value (u := u) (w' := w) ?_ (Post.same hC hr)
        simp [execOp, ho, Instr.field, run_underlying hu, hg, h1, h2, hv, asAgg, hp]
      · cases h
    · cases h
  · cases h
theorem st_index (hT : TabOk P tb) (hC : Ctx I ρ H w) (hF : RF w I ρ H fr a.tmps) {t : TypeId} {x y : Operand} (ho : o.op = .index t x y) (h : sIndex tb (tb.at t).k [ev fr x, ev fr y] = some (v, es)) (he : applyE m L0 es H = some H') : Goal P I ρ H w o a v H' := by
  have hx := RV_ev hF x
  have hy := RV_ev hF y
  unfold sIndex at h
  split at h
  · rename_i x' ik i heq
    simp only [List.cons.injEq, and_true] at heq
    obtain ⟨rfl, heq⟩ := heq
    rw [heq] at hy
    have hy' : a.eval y = .int ik i := hy
    split at h
    · rename_i n e cs hk hxe
      split at h
      · rename_i hi
        rw [hxe] at hx
        obtain ⟨us, hv, hA⟩ := hx
        have hoe : tb.ok e = true := by
          unfold partC at h
          split at h
          · assumption
          · cases h
        obtain ⟨rfl, u, hp, hr⟩ := part_ok (v := v) (es := es) hT hA h
        cases applyE_nil he
        refine go_value (u := u) (w' := w) ?_ (Post.same hC hr)
        simp [execOp, ho, Instr.index, hy', asIntOf, run_underlying (hT.array hk), hv, hi, sizeOf_run hT hoe, hp]
      · cases h
    · rename_i s hk hxe
      split at h
      · rename_i hi
        split at h
        · rename_i b hb
          simp only [Option.some.injEq, Prod.mk.injEq] at h
          obtain ⟨rfl, rfl⟩ := h
          cases applyE_nil he
          rw [hxe] at hx
          have hv : a.eval x = .string s := hx
          refine go_value (u := .int .u8 b.toNat) (w' := w) ?_ (Post.same hC (show RT w I (.int .u8 b.toNat) _ by simp [RT]))
          simp [execOp, ho, Instr.index, hy', asIntOf, run_underlying (hT.str hk), hv, hi, hb]
        · cases h
      · cases h
    · cases h
  · cases h
theorem st_faddr (hT : TabOk P tb) (hC : Ctx I ρ H w) (hF : RF w I ρ H fr a.tmps) {t : TypeId} {x : Operand} {i : Nat} (ho : o.op = .fieldAddr t x i) (h : sFaddr tb (tb.at t).k i [ev fr x] = some (v, es)) (he : applyE m L0 es H = some H') : Goal P I ρ H w o a v H' := by
  have hx := RV_ev hF x
  simp only [sFaddr] at h
  · split at h
    · rename_i fs hk
      obtain ⟨gs, hu, hgs⟩ := hT.struct hk
      split at h
      · rename_i off t' hi
        obtain ⟨g, hg, h1, h2⟩ := field_at hgs hi
        split at h
        · rename_i hok
          simp only [Bool.and_eq_true, decide_eq_true_eq] at hok
          have key : ∀ ad : Addr, a.eval x = .pointer (some ad) → (execOp a.eval o).run P w = .ok (.value (.pointer (some (ad.add off)))) w := by
            intro ad hv
            simp [execOp, ho, Instr.fieldAt, run_underlying hu, hg, hv, Instr.sureAddr, fieldPlace, h1, h2, sizeOf_run hT hok.1, hok.2]
          split at h
          · rename_i cs j hxe
            simp only [Option.some.injEq, Prod.mk.injEq] at h
            obtain ⟨rfl, rfl⟩ := h
            cases applyE_nil he
            rw [hxe] at hx
            simp only [RV, RV1, RC, RT] at hx
            obtain ⟨ad, hv, hs⟩ := hx
            refine go_value (key _ hv) (Post.same hC ?_)
            simp only [RV, RV1, RC, RT]
            exact ⟨ad, by rw [Addr.add_add], hs⟩
          · rename_i id oo hxe
            simp only [Option.some.injEq, Prod.mk.injEq] at h
            obtain ⟨rfl, rfl⟩ := h
            cases applyE_nil he
            rw [hxe] at hx
            rcases hx with ⟨hgn, ad, hv⟩ | ⟨b, o', hr, hv⟩
            · exact go_value (key _ hv) (Post.same hC (.inl ⟨hgn, _, rfl⟩))
            · refine go_value (key _ hv) (Post.same hC (.inr ⟨b, o', hr, ?_⟩))
              rw [add_plain, Nat.add_assoc]
          · cases h
        · cases h
      · cases h
    · cases h
theorem st_nilck (hC : Ctx I ρ H w) (hF : RF w I ρ H fr a.tmps) {x : Operand} (ho : o.op = .nilCheck x) (h : sNilck [ev fr x] = some (v, es)) (he : applyE m L0 es H = some H') : Goal P I ρ H w o a v H' := by
  have hx := RV_ev hF x
  unfold sNilck at h
  split at h <;> simp only [Option.some.injEq, Prod.mk.injEq, reduceCtorEq] at h <;> obtain ⟨rfl, rfl⟩ := h <;> cases applyE_nil he <;>
    (rename_i heq; simp only [List.cons.injEq, and_true] at heq; rw [heq] at hx)
  · have hx0 := hx
    simp only [RV, RV1, RC, RT] at hx
    obtain ⟨ad, hv, hs⟩ := hx
    exact go_value (u := a.eval x) (w' := w) (by simp [execOp, ho, hv]) (Post.same hC hx0)
  · have hx0 := hx
    rcases hx with ⟨hgn, ad, hv⟩ | ⟨b, o', hr, hv⟩
    · exact go_value (u := a.eval x) (w' := w) (by simp [execOp, ho, hv]) (Post.same hC hx0)
    · exact go_value (u := a.eval x) (w' := w) (by simp [execOp, ho, hv]) (Post.same hC hx0)
  · have hv : a.eval x = .func (.func _) #[] #[] := hx
    exact go_value (u := a.eval x) (w' := w) (by simp [execOp, ho, hv]) (Post.same hC hx)
  · have hx0 := hx
    obtain ⟨us, hv, hA⟩ := hx
    exact go_value (u := a.eval x) (w' := w) (by simp [execOp, ho, hv]) (Post.same hC hx0)
theorem fill_ok {pl : Nat → Option (Nat × Nat)} : ∀ {idx : List Nat} {vs : List V} {us : List Value} {acc cs : List C} {arr : Array Value}, A2 (RV w I ρ H) vs us → A2 (RC w I ρ H) acc arr.toList → fillC pl idx vs acc = some cs →
    ∃ arr', Instr.fill pl arr (idx.zip us) = some arr' ∧ A2 (RC w I ρ H) cs arr'.toList
  | [], [], us, acc, cs, arr, hr, ha, h => by
    cases hr
    simp only [fillC, Option.some.injEq] at h
    subst h
    exact ⟨arr, by simp [Instr.fill], ha⟩
  | i :: idx, v :: vs, us, acc, cs, arr, hr, ha, h => by
    cases hr with
    | cons hr1 hr2 =>
      rename_i u us
      simp only [fillC] at h
      split at h
      · rename_i off sz xs hpl hxs
        split at h
        · rename_i hl
          obtain ⟨hx, _⟩ := cellsC_ok hr1 hxs
          have hul : u.cells.size = sz := by rw [← Array.length_toList, ← hx.length, hl.1]
          have hal : acc.length = arr.size := by rw [ha.length]; simp
          have hfold := fold_put off u.cells.toList 0 arr
          have hacc : A2 (RC w I ρ H) (putCells acc off xs) (u.cells.zipIdx.foldl (fun (cs : Array Value) (p : Value × Nat) => cs.setIfInBounds (off + p.2) p.1) arr).toList := by
            have : (u.cells.zipIdx.foldl (fun (cs : Array Value) (p : Value × Nat) => cs.setIfInBounds (off + p.2) p.1) arr).toList = putCells arr.toList off u.cells.toList := by
              rw [← Array.foldl_toList, Array.toList_zipIdx]
              simpa using hfold
            rw [this]
            exact hx.put ha _
          obtain ⟨arr', h1, h2⟩ := fill_ok hr2 hacc h
          refine ⟨arr', ?_, h2⟩
          simp only [List.zip_cons_cons, Instr.fill, hpl]
          rw [if_neg (by
            have := hl.2
            rw [hl.1, hal] at this
            simp [hul]; omega)]
          exact h1
        · cases h
      · cases h
  | [], _ :: _, _, _, _, _, _, _, h => by simp [fillC] at h
  | _ :: _, [], _, _, _, _, _, _, h => by simp [fillC] at h
theorem zip_pairs {ps : Array (Nat × Operand)} : (pairsFst ps).zip ((pairsSnd ps).map a.eval) = (ps.map fun p => (p.1, a.eval p.2)).toList := by
  apply List.ext_getElem?
  intro j
  unfold pairsFst pairsSnd
  simp only [List.map_map, List.getElem?_zip_eq_some, Array.toList_map]
  rw [List.zip_map', List.getElem?_map, List.getElem?_map]
  rfl
theorem places_run (hT : TabOk P tb) {gs : Array Field} {fs : List (Nat × TypeId)} (hgs : gs.toList.map (fun g => (g.offset, g.type)) = fs) (hok : fs.all (fun p => tb.ok p.2) = true) :
    (gs.mapM fun f => do pure (f.offset, ← sizeOf f.type) : Sem (Array (Nat × Nat))).run P w = .ok (fs.map fun p => (p.1, (tb.at p.2).size)).toArray w := by
  subst hgs
  rw [Array.mapM_eq_mapM_toList]
  have key : ∀ l : List Field, (l.map (fun g => (g.offset, g.type))).all (fun p => tb.ok p.2) = true → (l.mapM (fun f => do pure (f.offset, ← sizeOf f.type)) : Sem (List (Nat × Nat))).run P w = .ok ((l.map (fun g => (g.offset, g.type))).map fun p => (p.1, (tb.at p.2).size)) w := by
    intro l
    induction l with
    | nil => intro _; simp
    | cons g l ih =>
      intro h
      simp only [List.map_cons, List.all_cons, Bool.and_eq_true] at h
      have ih' := ih h.2
      simp only [List.mapM_cons, Sem.run_bind, sizeOf_run hT h.1, Result.andThen, ih', Sem.run_pure]
      rfl
  have hk := key gs.toList hok
  have hm : ∀ (x : Sem (List (Nat × Nat))) (r : List (Nat × Nat)), x.run P w = .ok r w → (List.toArray <$> x).run P w = .ok r.toArray w := by
    intro x r h
    rw [← bind_pure_comp, Sem.run_bind, h]
    rfl
  exact hm _ _ hk
theorem st_build (hT : TabOk P tb) (hC : Ctx I ρ H w) (hF : RF w I ρ H fr a.tmps) {t : TypeId} {ps : Array (Nat × Operand)} (ho : o.op = .build t ps) (h : sBuild tb t (pairsFst ps) ((pairsSnd ps).map (ev fr)) = some (v, es)) (he : applyE m L0 es H = some H') : Goal P I ρ H w o a v H' := by
  unfold sBuild at h
  split at h
  · rename_i hpk
    split at h
    · rename_i cs hf
      simp only [Option.some.injEq, Prod.mk.injEq] at h
      obtain ⟨rfl, rfl⟩ := h
      cases applyE_nil he
      have hot : tb.ok t = true := by
        unfold Tab.ok
        cases hk : (tb.at t).k <;> simp [hk, placesOk] at hpk <;> rfl
      obtain ⟨inf, z, hi, hz, hA⟩ := zeros_A2 (w := w) (I := I) (ρ := ρ) (H := H) hT hot
      obtain ⟨arr', hfill, hA'⟩ := fill_ok (arr := z.cells) (A2.map_ev hF (pairsSnd ps)) hA hf
      rw [zip_pairs] at hfill
      refine go_value (u := .agg arr') (w' := w) ?_ (Post.same hC ⟨arr'.toList, by simp, hA'⟩)
      have hzv : (zeroValue t).run P w = .ok z w := by simp [zeroValue, typeInfo, hi, hz]
      cases hk : (tb.at t).k with
      | struct fs =>
        obtain ⟨gs, hu, hgs⟩ := hT.struct hk
        rw [hk] at hpk hfill
        have hpl := places_run (w := w) hT hgs hpk
        have hpe : (fun i => ((fs.map fun p => (p.1, (tb.at p.2).size)).toArray)[i]?) = place tb (.struct fs) := by
          funext i
          simp only [place, List.getElem?_toArray, List.getElem?_map]
          cases fs[i]? <;> rfl
        simp only [execOp, ho, Instr.build, Sem.run_bind, hzv, Result.andThen, run_underlying hu, hpl, hpe, hfill]
        rfl
      | array n e =>
        rw [hk] at hpk hfill
        have hpe : (fun i => some (i * (tb.at e).size, (tb.at e).size)) = place tb (.array n e) := rfl
        simp only [execOp, ho, Instr.build, Sem.run_bind, hzv, Result.andThen, run_underlying (hT.array hk), sizeOf_run hT hpk, hpe, hfill]
        rfl
      | _ => rw [hk] at hpk; simp [placesOk] at hpk
    · cases h
  · cases h
end
end Go.AM

namespace Go.AM
section
variable {P : Program} {I I' : Nat → Prop} {ρ ρ' : Rho} {H H' H0 H1 : List Ob} {w w' : World} {tb : Tab}
variable {o : Oper} {a : Act} {fr : List V} {m : Md} {L0 : Nat} {v : V} {es : List Eff}
theorem bound_run {ik : IntKind} {i : Int} {y : Nat} {code : BoundsCode} (h : 0 ≤ i ∧ i ≤ y) : (Instr.sliceBound (.int ik i) y code).run P w = .ok i.toNat w := by
  simp [Instr.sliceBound, asIntOf, h]
theorem int_of {x : V} (h : ∀ ik i, x ≠ .c (.t (.int ik i))) {n : Nat} : slB true false n [x] = none ∧ slB false true n [x] = none ∧ ∀ y, slB true true n [x, y] = none ∧ slB true true n [y, x] = none := by
  refine ⟨?_, ?_, fun y => ⟨?_, ?_⟩⟩
  all_goals
    unfold slB
    split <;> first | rfl | (rename_i heq; cases heq; done) | (rename_i heq; cases heq; exact absurd rfl (h _ _))
theorem int_or (x : V) : (∃ ik i, x = .c (.t (.int ik i))) ∨ ∀ ik i, x ≠ .c (.t (.int ik i)) := by
  by_cases h : ∃ ik i, x = .c (.t (.int ik i))
  · exact .inl h
  · exact .inr fun ik i hx => h ⟨ik, i, hx⟩
theorem slB_ok (hF : RF w I ρ H fr a.tmps) {lo hi : Option Operand} {n l h cap : Nat} (hs : slB lo.isSome hi.isSome n ((lo.toList ++ hi.toList).map (ev fr)) = some (l, h)) (hc : n ≤ cap) (isSl : Bool) :
    (Instr.sliceBounds isSl n cap (lo.map a.eval) (hi.map a.eval) none).run P w = .ok (l, h, cap) w ∧ l ≤ h ∧ h ≤ n := by
  have hint : ∀ {x : Operand} {ik : IntKind} {i : Int}, ev fr x = .c (.t (.int ik i)) → a.eval x = .int ik i := fun {x ik i} he => by
    have := RV_ev hF x
    rw [he] at this
    exact this
  cases lo with
  | none =>
    cases hi with
    | none =>
      simp only [slB, Option.isSome_none, Option.toList_none, List.append_nil, List.map_nil, Option.some.injEq, Prod.mk.injEq] at hs
      obtain ⟨rfl, rfl⟩ := hs
      exact ⟨by simp [Instr.sliceBounds], Nat.zero_le _, Nat.le_refl _⟩
    | some y =>
      simp only [Option.isSome_none, Option.isSome_some, Option.toList_none, Option.toList_some, List.nil_append, List.map_cons, List.map_nil] at hs
      rcases int_or (ev fr y) with ⟨ik, i, heq⟩ | hno
      rotate_left
      · rw [(int_of hno).2.1] at hs; cases hs
      rw [heq] at hs
      simp only [slB] at hs
      split at hs
      · rename_i hb
        simp only [Option.some.injEq, Prod.mk.injEq] at hs
        obtain ⟨rfl, rfl⟩ := hs
        have hy := hint heq
        refine ⟨?_, Nat.zero_le _, by omega⟩
        have h1 := bound_run (P := P) (w := w) (ik := ik) (i := i) (y := cap) (code := if isSl then .sliceAcap else .sliceAlen) ⟨hb.1, by omega⟩
        simp [Instr.sliceBounds, hy, h1]
      · cases hs
  | some x =>
    cases hi with
    | none =>
      simp only [Option.isSome_none, Option.isSome_some, Option.toList_none, Option.toList_some, List.append_nil, List.map_cons, List.map_nil] at hs
      rcases int_or (ev fr x) with ⟨ik, i, heq⟩ | hno
      rotate_left
      · rw [(int_of hno).1] at hs; cases hs
      rw [heq] at hs
      simp only [slB] at hs
      split at hs
      · rename_i hb
        simp only [Option.some.injEq, Prod.mk.injEq] at hs
        obtain ⟨rfl, rfl⟩ := hs
        have hy := hint heq
        refine ⟨?_, by omega, Nat.le_refl _⟩
        have h1 := bound_run (P := P) (w := w) (ik := ik) (i := i) (y := n) (code := .sliceB) ⟨hb.1, by omega⟩
        simp [Instr.sliceBounds, hy, h1]
      · cases hs
    | some y =>
      simp only [Option.isSome_some, Option.toList_some, List.singleton_append, List.map_cons, List.map_nil] at hs
      rcases int_or (ev fr x) with ⟨ik, i, heq⟩ | hno
      rotate_left
      · rw [((int_of hno).2.2 _).1] at hs; cases hs
      rcases int_or (ev fr y) with ⟨ik2, i2, heq2⟩ | hno
      rotate_left
      · rw [((int_of hno).2.2 _).2] at hs; cases hs
      rw [heq, heq2] at hs
      simp only [slB] at hs
      split at hs
      · rename_i hb
        simp only [Option.some.injEq, Prod.mk.injEq] at hs
        obtain ⟨rfl, rfl⟩ := hs
        have hx := hint heq
        have hy := hint heq2
        refine ⟨?_, by omega, by omega⟩
        have h1 := bound_run (P := P) (w := w) (ik := ik2) (i := i2) (y := cap) (code := if isSl then .sliceAcap else .sliceAlen) ⟨by omega, by omega⟩
        have h2 := bound_run (P := P) (w := w) (ik := ik) (i := i) (y := i2.toNat) (code := .sliceB) ⟨by omega, by omega⟩
        simp [Instr.sliceBounds, hx, hy, h1, h2]
      · cases hs
theorem sl_sub {cs : List T} {ad : Addr} (hs : RTs w I cs ad 0) (off n : Nat) : RTs w I (sub cs off n) (ad.add off) 0 := by
  refine RTs_mk fun j c hj => ?_
  unfold sub at hj
  rw [List.getElem?_take] at hj
  split at hj
  · rw [List.getElem?_drop] at hj
    have := RTs_get hs hj
    rw [Nat.zero_add] at this ⊢
    rw [Addr.add_add, add_block]
    exact ⟨this.1, this.2⟩
  · cases hj
theorem st_slice (hT : TabOk P tb) (hC : Ctx I ρ H w) (hF : RF w I ρ H fr a.tmps) {t : TypeId} {x : Operand} {lo hi : Option Operand} (ho : o.op = .slice t x lo hi none) (hk0 : ((tb.at t).k = .str) ∨ ∃ e, (tb.at t).k = .slice e)
    (h : sSlice tb (tb.at t).k lo.isSome hi.isSome (ev fr x :: (lo.toList ++ hi.toList).map (ev fr)) = some (v, es)) (he : applyE m L0 es H = some H') : Goal P I ρ H w o a v H' := by
  have hx := RV_ev hF x
  simp only [sSlice] at h
  split at h
  · -- a string
    rename_i s hk hxe
    split at h
    · rename_i l hh hs
      simp only [Option.some.injEq, Prod.mk.injEq] at h
      obtain ⟨rfl, rfl⟩ := h
      cases applyE_nil he
      obtain ⟨hb, h1, h2⟩ := slB_ok (P := P) hF hs (Nat.le_refl _) false
      rw [hxe] at hx
      have hv : a.eval x = .string s := hx
      refine go_value (u := .string (s.extract l hh)) (w' := w) ?_ (Post.same hC (show RT w I (.str _) _ by simp [RT]))
      simp [execOp, ho, Instr.sliceAt, Instr.slice, run_underlying (hT.str hk), hv, hb]
    · cases h
  · -- nil
    rename_i e hk hxe
    split at h
    · rename_i hoe
      split at h
      · rename_i p hs
        simp only [Option.some.injEq, Prod.mk.injEq] at h
        obtain ⟨rfl, rfl⟩ := h
        cases applyE_nil he
        obtain ⟨hb, h1, h2⟩ := slB_ok (P := P) (l := p.1) (h := p.2) hF hs (Nat.le_refl _) true
        rw [hxe] at hx
        have hv : a.eval x = .slice none 0 0 := hx
        have e1 : p.1 = 0 := by omega
        have e2 : p.2 = 0 := by omega
        rw [e1, e2] at hb
        refine go_value (u := .slice none 0 0) (w' := w) ?_ (Post.same hC (show RT w I .nils _ by simp [RT]))
        simp [execOp, ho, Instr.sliceAt, Instr.slice, run_underlying (hT.slice hk), hv, hb, sizeOf_run hT hoe]
      · cases h
    · cases h
  · -- immutable
    rename_i e n cs hk hxe
    split at h
    · rename_i hoe
      split at h
      · rename_i l hh hs
        simp only [Option.some.injEq, Prod.mk.injEq] at h
        obtain ⟨rfl, rfl⟩ := h
        cases applyE_nil he
        rw [hxe] at hx
        simp only [RV, RV1, RC, RT] at hx
        obtain ⟨A, c, hv, hnc, hsx⟩ := hx
        obtain ⟨hb, h1, h2⟩ := slB_ok (P := P) hF hs hnc true
        refine go_value (u := .slice (if c = l then A else A.map (·.add (l * (tb.at e).size))) (hh - l) (c - l)) (w' := w) ?_ (Post.same hC ?_)
        · simp [execOp, ho, Instr.sliceAt, Instr.slice, run_underlying (hT.slice hk), hv, hb, sizeOf_run hT hoe]
        · simp only [RV, RV1, RC, RT]
          refine ⟨_, _, rfl, by omega, ?_⟩
          rcases Nat.eq_zero_or_pos (hh - l) with h0 | h0
          · exact .inl ⟨h0, by rw [h0]; simp [sub]⟩
          · right
            rw [if_neg (by omega)]
            rcases hsx with ⟨hn, _⟩ | ⟨ad, rfl, hsx⟩
            · omega
            · exact ⟨_, rfl, sl_sub hsx _ _⟩
      · cases h
    · cases h
  · -- an object
    rename_i e0 id off len sz hk hxe
    split at h
    · rename_i hc
      simp only [Bool.and_eq_true, decide_eq_true_eq] at hc
      obtain ⟨hoe, rfl⟩ := hc
      split at h
      · rename_i l hh hs
        rw [hxe] at hx
        have hval : ∃ A c, a.eval x = .slice A len c ∧ len ≤ c := by
          rcases hx with ⟨_, A, c, hv, hnc, _⟩ | ⟨_, _, rfl, hv⟩ | ⟨b, o', c, hr, hv, hnc, _⟩
          · exact ⟨A, c, hv, hnc⟩
          · exact ⟨none, 0, hv, Nat.le_refl _⟩
          · exact ⟨_, c, hv, hnc⟩
        obtain ⟨A, c, hv, hnc⟩ := hval
        obtain ⟨hb, h1, h2⟩ := slB_ok (P := P) hF hs hnc true
        have hrun : (execOp a.eval o).run P w = .ok (.value (.slice (if c = l then A else A.map (·.add (l * (tb.at e0).size))) (hh - l) (c - l))) w := by
          simp [execOp, ho, Instr.sliceAt, Instr.slice, run_underlying (hT.slice hk), hv, hb, sizeOf_run hT hoe]
        split at h
        · rename_i hl
          simp only [Option.some.injEq, Prod.mk.injEq] at h
          obtain ⟨rfl, rfl⟩ := h
          cases applyE_nil he
          refine go_value hrun (Post.same hC ?_)
          rcases hx with ⟨hgn, A', c', hv', hnc', hA'⟩ | ⟨h3, h4, rfl, hv'⟩ | ⟨b, o', c', hr, hv', hnc', hcap⟩
          · rw [hv] at hv'; cases hv'
            refine .inl ⟨hgn, _, _, rfl, by omega, ?_⟩
            rcases hA' with h0 | ⟨ad, rfl⟩
            · left; omega
            · right
              split
              · exact ⟨_, rfl⟩
              · exact ⟨_, rfl⟩
          · rw [hv] at hv'; cases hv'
            have e1 : l = 0 := by omega
            have e2 : hh = 0 := by omega
            subst e1 e2
            refine .inr (.inl ⟨h3, h4, rfl, ?_⟩)
            simp
          · have e := hv.symm.trans hv'
            simp only [Value.slice.injEq, true_and] at e
            obtain ⟨rfl, e2⟩ := e
            subst e2
            refine .inr (.inr ⟨b, o', c - l, hr, ?_, by omega, ?_⟩)
            · rcases Nat.eq_zero_or_pos l with h0 | h0
              · subst h0
                have : (if c = 0 then some (⟨b, o' + off, none⟩ : Addr) else (some (⟨b, o' + off, none⟩ : Addr)).map (·.add (0 * (tb.at e0).size))) = some ⟨b, o' + (off + 0 * (tb.at e0).size), none⟩ := by
                  rw [Nat.zero_mul, Nat.add_zero]
                  split
                  · rfl
                  · rw [Option.map_some, add_plain, Nat.add_zero]
                rw [this]
              · rw [if_neg (by omega), Option.map_some, add_plain]
                rw [Nat.add_assoc]
            · have e3 : (c - l) * (tb.at e0).size + l * (tb.at e0).size = c * (tb.at e0).size := by rw [← Nat.add_mul]; congr 1; omega
              rw [show o' + (off + l * (tb.at e0).size) + (c - l) * (tb.at e0).size = o' + off + c * (tb.at e0).size by omega]
              exact hcap
        · rename_i hl
          simp only [Option.some.injEq, Prod.mk.injEq] at h
          obtain ⟨rfl, rfl⟩ := h
          cases applyE_nil he
          refine go_value hrun (Post.same hC ?_)
          simp only [RV, RV1, RC, RT]
          exact ⟨_, _, by rw [show hh - l = 0 by omega], Nat.zero_le _, by simp⟩
      · cases h
    · cases h
  · cases h
end
end Go.AM

namespace Go.AM
section
variable {P : Program} {I I' : Nat → Prop} {ρ ρ' : Rho} {H H' H0 H1 : List Ob} {w w' : World} {tb : Tab}
variable {o : Oper} {a : Act} {fr : List V} {m : Md} {L0 : Nat} {v : V} {es : List Eff}
theorem run_copy {c : Call} {x y : Operand} {t u : TypeId} (hcal : c.callee = .builtin .copy) (hty : c.argTypes.toList = [t, u]) (harg : c.args.toList = [x, y]) (ho : o.op = .call c) {r : Value} {w' : World}
    (h : (Builtin.copy_ #[t, u] o.type #[a.eval x, a.eval y]).run P w = .ok r w') : (execOp a.eval o).run P w = .ok (.value r) w' := by
  have harg' : c.args = #[x, y] := by apply Array.ext'; simpa using harg
  have hty' : c.argTypes = #[t, u] := by apply Array.ext'; simpa using hty
  simp [execOp, ho, resolve, hcal, harg', hty', invoke, builtin, h]
theorem st_copy (hT : TabOk P tb) (hC : Ctx I ρ H w) (hF : RF w I ρ H fr a.tmps) {t u : TypeId} {x y : Operand} {c : Call} (hcal : c.callee = .builtin .copy) (hty : c.argTypes.toList = [t, u]) (harg : c.args.toList = [x, y])
    (hu : (tb.at u).k.isSlice = true) (ho : o.op = .call c) (h : sCopy (getM m L0 H) (tb.at t).k.isSlice (tb.at (tb.at t).elem) [ev fr x, ev fr y] = some (v, es)) (he : applyE m L0 es H = some H') : Goal P I ρ H w o a v H' := by
  have hx := RV_ev hF x
  have hy := RV_ev hF y
  simp only [sCopy] at h
  split at h
  · rename_i hc
    simp only [Bool.and_eq_true, Bool.not_eq_true'] at hc
    obtain ⟨e, hk⟩ := isSlice_elem hc.1
    have hel : (tb.at t).elem = e := by simp [TI.elem, hk]
    rw [hel] at h hc
    have hoe := ok_of hc.2
    split at h
    · cases h
    · rename_i mm new hrow
      split at h
      · rename_i hln
        obtain ⟨A, cc, us, hyv, hmc, hA, hsrc⟩ := row_ok hC (fun id ob hg => getM_some hg) hy hrow hln
        have hul : us.length = mm * (tb.at e).size := by rw [← hA.length]; exact hln
        split at h
        · -- nil
          rename_i hxe
          simp only [Option.some.injEq, Prod.mk.injEq] at h
          obtain ⟨rfl, rfl⟩ := h
          cases applyE_nil he
          rw [hxe] at hx
          have hxv : a.eval x = .slice none 0 0 := hx
          refine go_value (u := .int .i64 0) (w' := w) (run_copy hcal hty harg ho ?_) (Post.same hC (show RT w I (.int .i64 0) _ by simp [RT]))
          have hf : (Builtin.firstCells (tb.at e).size 0 (.slice A mm cc)).run P w = .ok #[] w := by
            cases A with
            | none => simp [Builtin.firstCells]
            | some ad => exact run_firstCells_some w (tb.at e).size 0 ad mm cc [] (by simp) (by simp)
          simp [Builtin.copy_, run_underlying (hT.slice hk), hxv, hyv, Builtin.lenOf, sizeOf_run hT hoe, hf, goInt]
        · rename_i id off len sz hxe
          split at h
          · rename_i cs hg
            split at h
            · rename_i hfit
              obtain ⟨rfl, hfit⟩ := hfit
              simp only [Option.some.injEq, Prod.mk.injEq] at h
              obtain ⟨rfl, rfl⟩ := h
              have hH := getM_some hg
              have he1 := applyE_nil (applyE_set he)
              subst he1
              rw [hxe] at hx
              have hmin : min mm len * (tb.at e).size ≤ us.length := by rw [hul]; exact Nat.mul_le_mul_right _ (Nat.min_le_left _ _)
              have hmin2 : min mm len * (tb.at e).size ≤ len * (tb.at e).size := Nat.mul_le_mul_right _ (Nat.min_le_right _ _)
              have hf : (Builtin.firstCells (tb.at e).size (min mm len) (.slice A mm cc)).run P w = .ok (us.take (min mm len * (tb.at e).size)).toArray w := by
                rcases hsrc with rfl | ⟨ad, rfl, hcell⟩
                · have h0 : min mm len * (tb.at e).size = 0 := by simpa using hmin
                  cases A with
                  | none => simp [Builtin.firstCells]
                  | some ad => exact run_firstCells_some w (tb.at e).size (min mm len) ad mm cc _ (by simp [h0]) (by simp)
                · refine run_firstCells_some w (tb.at e).size (min mm len) ad mm cc _ (by simp; omega) fun j v hj => ?_
                  rw [List.getElem?_take] at hj
                  split at hj
                  · exact hcell j v hj
                  · cases hj
              have hnew : A2 (RT w I) (new.take (min mm len * (tb.at e).size)) (us.take (min mm len * (tb.at e).size)) := hA.take _
              have hone : ∀ u ∈ us.take (min mm len * (tb.at e).size), u.oneCell' = true := fun u hu => A2_one hA u (List.mem_of_mem_take hu)
              have hlenu : (us.take (min mm len * (tb.at e).size)).length = min mm len * (tb.at e).size := by simp; omega
              have hlenn : (new.take (min mm len * (tb.at e).size)).length = min mm len * (tb.at e).size := by rw [hnew.length, hlenu]
              rcases hx with ⟨hgn, _⟩ | ⟨hid, hnone, rfl, hxv⟩ | ⟨b, o', cx, hr, hxv, hncx, hcap⟩
              · unfold GN at hgn; rw [hH] at hgn; cases hgn
              · -- nothing there
                have h0 : min mm 0 * (tb.at e).size = 0 := by simp
                rw [h0] at hf
                simp only [Nat.min_zero] at hf ⊢
                simp only [Nat.zero_mul, List.take_zero, putCells]
                have hset : H.set id (.flat false cs) = H := by
                  apply List.ext_getElem?
                  intro j
                  by_cases hj : id = j
                  · subst hj
                    rw [List.getElem?_set_self hid, hH]
                  · rw [List.getElem?_set_ne hj]
                rw [hset]
                refine go_value (u := .int .i64 0) (w' := w) (run_copy hcal hty harg ho ?_) (Post.same hC (show RT w I (.int .i64 (0 : Nat)) _ by simp [RT]))
                simp [Builtin.copy_, run_underlying (hT.slice hk), hxv, hyv, Builtin.lenOf, sizeOf_run hT hoe, hf, goInt]
              · obtain ⟨_, cur, ee, hb⟩ := hC.own ⟨_, hH, rfl⟩ hr
                have hro := hC.obj _ _ hH
                rcases hro with ⟨hh, _⟩ | ⟨b', o'', h1', h2', _⟩
                · rw [hh] at hr; cases hr
                rw [hr] at h1'; cases h1'
                have hfit2 : o' + off + min mm len * (tb.at e).size ≤ cur.size := by
                  obtain ⟨arr, e2, fz, h7, h8⟩ := hcap
                  rw [hb] at h7; cases h7
                  have : len * (tb.at e).size ≤ cx * (tb.at e).size := Nat.mul_le_mul_right _ hncx
                  omega
                have hst := run_storeCells_at P b (o' + off) ee (us.take (min mm len * (tb.at e).size)) 0 cur w hb (by rw [hlenu]; simpa using hfit2) hone
                simp only [Nat.add_zero] at hst
                obtain ⟨hC2, hs2⟩ := write_ok (o' := .flat false (putCells cs off (new.take (min mm len * (tb.at e).size)))) hC hH rfl hr rfl (wr_setRow hb (by rw [hlenu]; exact hfit2)) (fun j cel hj => by
                  rw [putCells_get (by rw [hlenn]; omega), hlenn] at hj
                  rw [splice_get _ _ _ (by rw [hlenu]; exact hfit2), hlenu]
                  split at hj
                  · rename_i hin
                    rw [if_pos (by omega)]
                    obtain ⟨q, hq, hrq⟩ := hnew.get hj
                    exact ⟨q, by rw [show o' + j - (o' + off) = j - off by omega]; exact hq, hrq⟩
                  · rename_i hin
                    rw [if_neg (by omega)]
                    obtain ⟨q, hq, hrq⟩ := h2' j cel hj
                    rw [cell_at hb] at hq
                    exact ⟨q, hq, hrq⟩)
                refine go_value (u := .int .i64 (min mm len : Nat)) (run_copy hcal hty harg ho ?_) ⟨I, ρ, hC2, hs2, rfl⟩
                have hmin3 : Nat.min mm len = min mm len := rfl
                simp [Builtin.copy_, run_underlying (hT.slice hk), hxv, hyv, Builtin.lenOf, sizeOf_run hT hoe, hmin3, hf, hst, goInt]
            · cases h
          · cases h
        · cases h
      · cases h
  · cases h
theorem fold_push : ∀ (ns : List Int) (s : ByteArray), ns.foldl (fun r n => r.push (UInt8.ofNat n.toNat)) s = ⟨s.data ++ (ns.map fun n => UInt8.ofNat n.toNat).toArray⟩
  | [], s => by cases s; simp
  | n :: ns, s => by
    rw [List.foldl_cons, fold_push ns]
    cases s
    simp [ByteArray.push]
theorem bytesOf_ok : ∀ {cs : List T} {l : List UInt8}, bytesOf cs = some l → ∃ ns : List Int, cs = ns.map (T.int .u8) ∧ l = ns.map fun n => UInt8.ofNat n.toNat
  | [], l, h => by simp only [bytesOf, Option.some.injEq] at h; subst h; exact ⟨[], rfl, rfl⟩
  | c :: cs, l, h => by
    unfold bytesOf at h
    split at h
    · rename_i heq; cases heq
    · rename_i n ts heq
      cases heq
      simp only [Option.map_eq_some_iff] at h
      obtain ⟨l', h1, rfl⟩ := h
      obtain ⟨ns, rfl, rfl⟩ := bytesOf_ok h1
      exact ⟨n :: ns, rfl, rfl⟩
    · cases h
theorem ints_A2 {w : World} {I : Nat → Prop} : ∀ {ns : List Int} {us : List Value}, A2 (RT w I) (ns.map (T.int .u8)) us → us = ns.map (Value.int .u8)
  | [], us, h => by cases h; rfl
  | n :: ns, us, h => by
    cases h with
    | cons h1 h2 =>
      have : _ = Value.int .u8 n := h1
      rw [this, ints_A2 h2]; rfl
theorem st_b2s (hT : TabOk P tb) (hC : Ctx I ρ H w) (hF : RF w I ρ H fr a.tmps) {s d e : TypeId} {x : Operand} (ho : o.op = .convert s d x) (hs : (tb.at s).k = .slice e) (he' : (tb.at e).k = .int .u8) (hd : (tb.at d).k = .str) (h : sB2s (getM m L0 H) [ev fr x] = some (v, es)) (he : applyE m L0 es H = some H') : Goal P I ρ H w o a v H' := by
  have hx := RV_ev hF x
  simp only [sB2s] at h
  split at h
  · rename_i mm cs hrow
    split at h
    · rename_i hl
      split at h
      · rename_i l hb
        simp only [Option.some.injEq, Prod.mk.injEq] at h
        obtain ⟨rfl, rfl⟩ := h
        cases applyE_nil he
        obtain ⟨A, c, us, hv, hmc, hA, hsrc⟩ := row_ok (sz := 1) hC (fun id ob hg => getM_some hg) hx hrow (by omega)
        obtain ⟨ns, rfl, rfl⟩ := bytesOf_ok hb
        have hus := ints_A2 hA
        have hconv := run_convert_bytes_string (P := P) w s d e A mm c (hT.slice hs) (hT.int he') (hT.str hd)
        refine go_value (u := .string ⟨(ns.map fun n => UInt8.ofNat n.toNat).toArray⟩) (w' := w) ?_ (Post.same hC (show RT w I (.str _) _ by simp [RT]))
        simp only [execOp, ho, hv, Sem.run_bind, hconv]
        have hlen : us.length = mm := by rw [← hA.length]; exact hl
        have key : (Conv.bytesToString (.slice A mm c)).run P w = .ok (.string ⟨(ns.map fun n => UInt8.ofNat n.toNat).toArray⟩) w := by
          cases A with
          | none =>
            rcases hsrc with h0 | ⟨ad, h0, _⟩
            · have : ns = [] := by rw [hus] at h0; simpa using h0
              subst this
              simp [Conv.bytesToString]
              rfl
            · cases h0
          | some ad =>
            have hld : (loadCells ad mm).run P w = .ok (ns.map (Value.int .u8)).toArray w := by
              rw [← hus, ← hlen]
              rcases hsrc with h0 | ⟨ad', h0, hc⟩
              · rw [h0]; exact run_loadCells_list (P := P) w ad [] (by simp)
              · cases h0; exact run_loadCells_list (P := P) w ad us hc
            have := run_bytesToString w ad mm c ns hld
            rw [this, fold_push]
            simp [ByteArray.empty, ByteArray.emptyWithCapacity]
            try rfl
        rw [key]
        rfl
      · cases h
    · cases h
  · cases h
end
end Go.AM

namespace Go.AM
def FnOk (P : Program) (f : FuncId) : Prop := ∃ fn : Func, P.funcs[f]? = some fn ∧ fn.body.isSome = true ∧ (fn.name == "runtime.NumGoroutine") = false
def RunOk (P : Program) (f : FuncId) (us : List Value) (w : World) (G : Value → World → Prop) : Prop :=
  (FnOk P f ∧ Calls P f us.toArray w fun e w' => ∃ v', e = .returned v' ∧ G v' w') ∨ ∃ v' w', (callFunc f us.toArray).run P w = .ok (.value v') w' ∧ G v' w'
theorem RunOk.mono {P : Program} {f : FuncId} {us : List Value} {w : World} {G G' : Value → World → Prop} (h : RunOk P f us w G) (hG : ∀ v w', G v w' → G' v w') : RunOk P f us w G' := by
  rcases h with ⟨h1, h2⟩ | ⟨v', w', h1, h2⟩
  · refine .inl ⟨h1, h2.mono ?_⟩
    rintro e w' ⟨v', rfl, h⟩
    exact ⟨v', rfl, hG _ _ h⟩
  · exact .inr ⟨v', w', h1, hG _ _ h2⟩
theorem callFunc_enter {P : Program} {f : FuncId} (hf : FnOk P f) (args : Array Value) (w : World) : (callFunc f args).run P w = .ok (.enter f args) w := by
  obtain ⟨fn, h1, h2, h3⟩ := hf
  have h2' : ¬ fn.body = none := by intro hb; simp [hb] at h2
  have h3' : ¬ fn.name = "runtime.NumGoroutine" := by simpa using h3
  simp [callFunc, h1]
  rw [if_neg h3', if_neg h2']
theorem RunOk.calls {P : Program} {f : FuncId} {us : List Value} {w : World} {G : Value → World → Prop} (h : RunOk P f us w G) (hf : FnOk P f) : Calls P f us.toArray w fun e w' => ∃ v', e = .returned v' ∧ G v' w' := by
  rcases h with ⟨_, h2⟩ | ⟨v', w', h1, _⟩
  · exact h2
  · rw [callFunc_enter hf] at h1; cases h1
def CallOk (P : Program) (f : FuncId) (vs : List V) (H : List Ob) (r : V) (H' : List Ob) : Prop :=
  ∀ (I : Nat → Prop) (ρ : Rho) (w : World) (us : List Value), Ctx I ρ H w → A2 (RV w I ρ H) vs us → RunOk P f us w fun v' w' =>
    ∃ I' ρ', Ctx I' ρ' H' w' ∧ RV w' I' ρ' H' r v' ∧ Ext w I (ownd ρ H) w' I' (ownd ρ' H') ∧ (H.length ≤ H'.length → ∀ id, id < H.length → ρ' id = ρ id ∧ (GN H id → GN H' id))
def OrcOk (P : Program) (orc : Orc) : Prop := ∀ f vs H r H', orc f vs H = some (r, H') → CallOk P f vs H r H'
section
variable {P : Program} {I I' : Nat → Prop} {ρ ρ' : Rho} {H H' H0 H1 : List Ob} {w w' : World} {tb : Tab}
variable {o : Oper} {a : Act} {fr : List V} {m : Md} {L0 : Nat} {v : V} {es : List Eff} {orc : Orc}
theorem call_run {c : Call} {x : Operand} {f : FuncId} {caps : Array Value} (hcal : c.callee = .value x) (hx : a.eval x = .func (.func f) #[] caps) (ho : o.op = .call c) :
    (execOp a.eval o).run P w = (callFunc f (c.args.map a.eval ++ caps)).run P w := by
  simp [execOp, ho, resolve, hcal, hx, Deferred.ofValue, invoke]
theorem Res.run {c : Call} {x : Operand} {f : FuncId} {caps : Array Value} {us : List Value} {G : Value → World → Prop} (hcal : c.callee = .value x) (hx : a.eval x = .func (.func f) #[] caps) (ho : o.op = .call c) (hus : c.args.map a.eval ++ caps = us.toArray)
    (h : RunOk P f us w G) : Res P o a w G := by
  rcases h with ⟨h1, h2⟩ | ⟨v', w', h1, h2⟩
  · refine Res.enter (f := f) (args := us.toArray) (w' := w) ?_ h2
    rw [call_run hcal hx ho, hus, callFunc_enter h1]
  · refine Res.value (v := v') (w' := w') ?_ h2
    rw [call_run hcal hx ho, hus, h1]
theorem RV_of_RV1 {w : World} {I : Nat → Prop} {ρ : Rho} {H : List Ob} {x : V} {u : Value} (hp : plainV x = true) (h : RV1 w I ρ H x u) : RV w I ρ H x u := by
  cases x with
  | tup vs => simp [plainV] at hp
  | c _ => exact h
  | agg _ => exact h
  | any => exact h
  | own _ => exact h
  | oref _ _ => exact h
theorem RC_alone (hd : ∀ id p, ρ id = some p → id < ([] : List Ob).length) {x : C} {u : Value} (h : RC w I ρ [] x u) : ∀ ρ2 H2, RC w I ρ2 H2 x u := by
  intro ρ2 H2
  have hp : ∀ {id off : Nat} {u : Value}, RP ρ [] id off u → False := by
    rintro id off u (⟨h, _⟩ | ⟨b, o, h, _⟩)
    · simp [GN] at h
    · have := hd _ _ h; simp at this
  cases x with
  | t x => exact h
  | ref id off => exact (hp h).elim
  | osl id off len sz =>
    rcases h with ⟨h, _⟩ | ⟨h, _⟩ | ⟨b, o, c, h, _⟩
    · simp [GN] at h
    · simp at h
    · have := hd _ _ h; simp at this
  | fn f caps =>
    obtain ⟨us, rfl, hA⟩ := h
    cases hA with
    | nil => exact ⟨[], rfl, .nil⟩
    | cons h _ => exact (hp h).elim
  | any => exact h
theorem RV1_alone (hd : ∀ id p, ρ id = some p → id < ([] : List Ob).length) {x : V} {u : Value} (h : RV1 w I ρ [] x u) : ∀ ρ2 H2, RV1 w I ρ2 H2 x u := by
  intro ρ2 H2
  cases x with
  | c x => exact RC_alone hd h ρ2 H2
  | agg cs => obtain ⟨us, rfl, hA⟩ := h; exact ⟨us, rfl, hA.imp fun _ _ h => RC_alone hd h ρ2 H2⟩
  | tup vs => cases vs <;> exact h
  | any => trivial
  | own _ => trivial
  | oref _ _ => trivial
theorem RV_alone (hd : ∀ id p, ρ id = some p → id < ([] : List Ob).length) {x : V} {u : Value} (h : RV w I ρ [] x u) : ∀ ρ2 H2, RV w I ρ2 H2 x u := by
  intro ρ2 H2
  cases x with
  | c x => exact RC_alone hd h ρ2 H2
  | agg cs => exact RV1_alone (x := .agg cs) hd h ρ2 H2
  | tup vs => obtain ⟨us, rfl, hA⟩ := h; exact ⟨us, rfl, hA.imp fun _ _ h => RV1_alone hd h ρ2 H2⟩
  | any => trivial
  | own _ => trivial
  | oref _ _ => trivial
theorem block_lt (hC : Ctx I ρ H w) {id : Nat} {ob : Ob} (h : H[id]? = some ob) (hg : ob ≠ .gone) {b off : Nat} (hr : ρ id = some (b, off)) : b < w.heap.size ∧ (I b ∨ mine H id) := by
  have hro := hC.obj id ob h
  cases ob with
  | gone => exact absurd rfl hg
  | flat fr cs =>
    rcases hro with ⟨h', _⟩ | ⟨b', o', h1, _, h3⟩
    · rw [h'] at hr; cases hr
    · rw [h1] at hr; cases hr
      cases fr with
      | true => exact ⟨hC.lt _ h3, .inl h3⟩
      | false => obtain ⟨_, _, _, h4⟩ := h3; exact ⟨lt_heap h4, .inr ⟨_, h, rfl⟩⟩
  | mix fr cs =>
    obtain ⟨b', o', h1, _, h3⟩ := hro
    rw [h1] at hr; cases hr
    cases fr with
    | true => exact ⟨hC.lt _ h3, .inl h3⟩
    | false => obtain ⟨_, _, _, h4⟩ := h3; exact ⟨lt_heap h4, .inr ⟨_, h, rfl⟩⟩
theorem pure_call (hO : OrcOk P orc) (hC : Ctx I ρ H w) {f : FuncId} {vs us' : List V} {us : List Value} (hA : A2 (RV w I ρ H) vs us) (hf : frzVs (getM m L0 H) vs = some (us', es)) (horc : orc f us' [] = some (v, [])) (he : applyE m L0 es H = some H') :
    RunOk P f us w (Post I ρ H w v H') := by
  have he' : applyE m L0 (es ++ []) H = some H' := by simpa using he
  obtain ⟨I2, H2, hC2, hs2, _, hA2, hp, he2⟩ := frzVs_ok hC (Frz.refl H) hA hf he'
  cases applyE_nil he2
  have hcall := hO f us' [] v [] horc
  refine (hcall I2 (fun _ => none) w us ⟨by simp, hC2.lt, by simp, by simp⟩ ?_).mono ?_
  · exact (hA2 (fun _ => none) []).imp_mem fun x u hx h => RV_of_RV1 (hp x hx) h
  · rintro v' w' ⟨I', ρ', hC', hr, hext, _⟩
    refine ⟨I', ρ, ?_, hs2.trans ?_, RV_alone hC'.dom hr ρ H'⟩
    all_goals
      have hno : ∀ b, ¬ ownd (fun _ => none) [] b := by rintro b ⟨id, o, _, h⟩; cases h
      have hs : Stp I2 ρ H' w I' ρ H' w' := by
        refine ⟨Nat.le_refl _, fun _ _ => rfl, fun _ h => h, fun b hb => ⟨hext.imm b hb, hext.same b (hC2.lt b hb) (hno b)⟩, hext.os, hext.tape, hext.output, hext.size, fun b hb _ => hext.same b hb (hno b), hext.cap, hext.imm, fun b hb => ?_, fun b hb => .inl hb⟩
        rcases hext.new b hb with h | h | h
        · exact .inl h
        · exact (hno b h).elim
        · exact .inr (.inr h)
    · refine ⟨fun id ob hob => RO_keep hC2 hs (hC2.obj id ob hob) (List.getElem?_eq_some_iff.1 hob).1 fun b off hg hr' => ?_, hC'.lt, hC2.dom, hC2.inj⟩
      obtain ⟨hlt, _⟩ := block_lt hC2 hob hg hr'
      refine ⟨hext.same b hlt (hno b), fun hn hi => ?_⟩
      rcases hext.new b hi with h | h | h
      · exact hn h
      · exact hno b h
      · omega
    · exact hs
theorem pos_get : ∀ {l : List Nat} {x j : Nat}, pos l x = some j → l[j]? = some x
  | [], _, _, h => by simp [pos] at h
  | i :: is, x, j, h => by
    simp only [pos] at h
    split at h
    · rename_i hi; simp at h; subst h; simp [hi]
    · simp only [Option.map_eq_some_iff] at h
      obtain ⟨k, hk, rfl⟩ := h
      simpa using pos_get hk
theorem pos_none : ∀ {l : List Nat} {x : Nat}, pos l x = none → x ∉ l
  | [], _, _ => by simp
  | i :: is, x, h => by
    simp only [pos] at h
    split at h
    · cases h
    · rename_i hi
      simp only [Option.map_eq_none_iff] at h
      have := pos_none h
      simp only [List.mem_cons, not_or]
      exact ⟨fun e => hi e.symm, this⟩
theorem pos_of_get {l : List Nat} (hn : l.Nodup) {x j : Nat} (h : l[j]? = some x) : pos l x = some j := by
  cases hp : pos l x with
  | none => exact (pos_none hp (List.mem_of_getElem? h)).elim
  | some k =>
    have hk := pos_get hp
    have h1 := (List.getElem?_eq_some_iff.1 h).1
    have h2 := (List.getElem?_eq_some_iff.1 hk).1
    have : j = k := (List.getElem?_inj h1 hn).1 (h.trans hk.symm)
    rw [this]
theorem reach_nodup (get : Nat → Option Ob) : ∀ (n : Nat) (todo acc : List Nat), acc.Nodup → (reach get n todo acc).Nodup
  | 0, _, acc, h => h
  | n + 1, [], acc, h => h
  | n + 1, i :: todo, acc, h => by
    simp only [reach]
    split
    · exact reach_nodup get n todo acc h
    · rename_i hp
      refine reach_nodup get n _ _ ?_
      rw [List.nodup_append]
      refine ⟨h, by simp, fun x hx y hy => ?_⟩
      simp only [List.mem_singleton] at hy
      subst hy
      rintro rfl
      exact pos_none hp hx
structure Ren (ρ : Rho) (H : List Ob) (f : Nat → Option Nat) (ρ2 : Rho) (H2 : List Ob) : Prop where
  rho : ∀ id j, f id = some j → id < H.length → ρ2 j = ρ id
  gone : ∀ id j, f id = some j → GN H id → GN H2 j
  lt : ∀ id j, f id = some j → id < H.length → j < H2.length
theorem RP_ren {f : Nat → Option Nat} {ρ2 : Rho} {H2 : List Ob} (hR : Ren ρ H f ρ2 H2) (hd : ∀ id p, ρ id = some p → id < H.length) {id off j : Nat} {u : Value} (hj : f id = some j) (h : RP ρ H id off u) : RP ρ2 H2 j off u := by
  rcases h with ⟨h, h'⟩ | ⟨b, o, h1, h2⟩
  · exact .inl ⟨hR.gone id j hj h, h'⟩
  · exact .inr ⟨b, o, by rw [hR.rho id j hj (hd _ _ h1)]; exact h1, h2⟩
theorem RC_ren {f : Nat → Option Nat} {ρ2 : Rho} {H2 : List Ob} (hR : Ren ρ H f ρ2 H2) (hd : ∀ id p, ρ id = some p → id < H.length) {x : C} {u : Value} (h : RC w I ρ H x u) : RC w I ρ2 H2 (renC f x) u := by
  have h1 := RC_one h
  cases x with
  | t x => exact h
  | ref id off =>
    simp only [renC]
    split
    · rename_i j hj; exact RP_ren hR hd hj h
    · exact h1
  | osl id off len sz =>
    simp only [renC]
    split
    · rename_i j hj
      rcases h with ⟨h, h'⟩ | ⟨h1, h2, h3⟩ | ⟨b, o, c, h1, h2, h3, h4⟩
      · exact .inl ⟨hR.gone id j hj h, h'⟩
      · exact .inr (.inl ⟨hR.lt id j hj h1, by rw [hR.rho id j hj h1]; exact h2, h3⟩)
      · exact .inr (.inr ⟨b, o, c, by rw [hR.rho id j hj (hd _ _ h1)]; exact h1, h2, h3, h4⟩)
    · exact h1
  | fn g caps =>
    simp only [renC]
    split
    · rename_i l hl
      obtain ⟨us, rfl, hA⟩ := h
      refine ⟨us, rfl, ?_⟩
      clear h1
      induction hA generalizing l with
      | nil => simp [renP] at hl; subst hl; exact .nil
      | cons hp ht ih =>
        rename_i p u ps us
        obtain ⟨id, off⟩ := p
        simp only [renP] at hl
        split at hl
        · rename_i j l' hj hl'
          simp only [Option.some.injEq] at hl
          subst hl
          exact .cons (RP_ren hR hd hj hp) (ih _ hl')
        · cases hl
    · exact h1
  | any => exact h
theorem RV1_ren {f : Nat → Option Nat} {ρ2 : Rho} {H2 : List Ob} (hR : Ren ρ H f ρ2 H2) (hd : ∀ id p, ρ id = some p → id < H.length) {x : V} {u : Value} (h : RV1 w I ρ H x u) : RV1 w I ρ2 H2 (renV1 f x) u := by
  cases x with
  | c x => exact RC_ren hR hd h
  | agg cs => obtain ⟨us, rfl, hA⟩ := h; exact ⟨us, rfl, A2.map_left (hA.imp fun _ _ h => RC_ren hR hd h)⟩
  | tup vs => cases vs with
    | nil => exact h
    | cons _ _ => exact h.elim
  | any => trivial
  | own _ => trivial
  | oref _ _ => trivial
theorem RV_ren {f : Nat → Option Nat} {ρ2 : Rho} {H2 : List Ob} (hR : Ren ρ H f ρ2 H2) (hd : ∀ id p, ρ id = some p → id < H.length) {x : V} {u : Value} (h : RV w I ρ H x u) : RV w I ρ2 H2 (renV f x) u := by
  cases x with
  | c x => exact RC_ren hR hd h
  | agg cs => exact RV1_ren (x := .agg cs) hR hd h
  | tup vs => obtain ⟨us, rfl, hA⟩ := h; exact ⟨us, rfl, A2.map_left (hA.imp fun _ _ h => RV1_ren hR hd h)⟩
  | any => trivial
  | own _ => trivial
  | oref _ _ => trivial
theorem RO_ren {f : Nat → Option Nat} {ρ2 : Rho} {H2 : List Ob} (hR : Ren ρ H f ρ2 H2) (hd : ∀ id p, ρ id = some p → id < H.length) {id j : Nat} (hj : ρ2 j = ρ id) {ob : Ob} (h : RO w I ρ H id ob) : RO w I ρ2 H2 j (renO f ob) := by
  cases ob with
  | gone => trivial
  | flat fr cs =>
    rcases h with ⟨h1, h2⟩ | ⟨b, o, h1, h2, h3⟩
    · exact .inl ⟨hj.trans h1, h2⟩
    · exact .inr ⟨b, o, hj.trans h1, h2, h3⟩
  | mix fr cs =>
    obtain ⟨b, o, h1, h2, h3⟩ := h
    refine ⟨b, o, hj.trans h1, fun i c hc => ?_, h3⟩
    rw [List.getElem?_map] at hc
    cases hx : cs[i]? with
    | none => rw [hx] at hc; cases hc
    | some x =>
      rw [hx] at hc
      simp only [Option.map_some, Option.some.injEq] at hc
      subst hc
      obtain ⟨u, hu, hr⟩ := h2 i x hx
      exact ⟨u, hu, RC_ren hR hd hr⟩
theorem mine_ren {f : Nat → Option Nat} {ob : Ob} : (renO f ob).mine ↔ ob.mine := by cases ob <;> rfl
theorem gone_ren {f : Nat → Option Nat} {ob : Ob} : renO f ob = .gone ↔ ob = .gone := by cases ob <;> simp [renO]
theorem getAllO_ok {get : Nat → Option Ob} : ∀ {l : List Nat} {os : List Ob}, getAllO get l = some os → os.length = l.length ∧ ∀ (j i : Nat), l[j]? = some i → ∃ ob, os[j]? = some ob ∧ get i = some ob
  | [], os, h => by simp [getAllO] at h; subst h; simp
  | i :: is, os, h => by
    simp only [getAllO] at h
    split at h
    · rename_i ob l hg hl
      simp only [Option.some.injEq] at h
      subst h
      obtain ⟨h1, h2⟩ := getAllO_ok hl
      refine ⟨by simp [h1], fun j k hj => ?_⟩
      cases j with
      | zero => simp at hj; subst hj; exact ⟨ob, rfl, hg⟩
      | succ j => simpa using h2 j k (by simpa using hj)
    · cases h
theorem handed (hC : Ctx I ρ H w) {live : List Nat} (hn : live.Nodup) {os : List Ob} (hl : os.length = live.length) (hos : ∀ (j i : Nat), live[j]? = some i → ∃ ob, os[j]? = some ob ∧ H[i]? = some ob) :
    Ctx I (fun j => (live[j]?).bind ρ) (os.map (renO (pos live))) w ∧ Ren ρ H (pos live) (fun j => (live[j]?).bind ρ) (os.map (renO (pos live))) := by
  have hR : Ren ρ H (pos live) (fun j => (live[j]?).bind ρ) (os.map (renO (pos live))) := by
    refine ⟨fun id j hj _ => by simp [pos_get hj], fun id j hj hg => ?_, fun id j hj _ => ?_⟩
    · obtain ⟨ob, h1, h2⟩ := hos j id (pos_get hj)
      unfold GN at hg ⊢
      rw [hg] at h2
      cases h2
      rw [List.getElem?_map, h1]
      rfl
    · have := (List.getElem?_eq_some_iff.1 (pos_get hj)).1
      simp [hl]; exact this
  have hget : ∀ (j : Nat) (ob : Ob), (os.map (renO (pos live)))[j]? = some ob → ∃ (id : Nat) (ob' : Ob), live[j]? = some id ∧ H[id]? = some ob' ∧ ob = renO (pos live) ob' := by
    intro j ob h
    rw [List.getElem?_map] at h
    cases hx : os[j]? with
    | none => rw [hx] at h; cases h
    | some x =>
      rw [hx] at h
      simp only [Option.map_some, Option.some.injEq] at h
      have hlt : j < live.length := by rw [← hl]; exact (List.getElem?_eq_some_iff.1 hx).1
      obtain ⟨ob', h1, h2⟩ := hos j _ (List.getElem?_eq_getElem hlt)
      rw [hx] at h1
      cases h1
      exact ⟨_, _, List.getElem?_eq_getElem hlt, h2, h.symm⟩
  refine ⟨⟨fun j ob h => ?_, hC.lt, fun j p h => ?_, fun j j' b o o' h1 h2 h3 h4 => ?_⟩, hR⟩
  · obtain ⟨id, ob', h1, h2, rfl⟩ := hget j ob h
    exact RO_ren hR hC.dom (by simp [h1]) (hC.obj id ob' h2)
  · cases hj : live[j]? with
    | none => rw [hj] at h; cases h
    | some i => simp [hl]; exact (List.getElem?_eq_some_iff.1 hj).1
  · obtain ⟨ob, h5, h6⟩ := h1
    obtain ⟨ob', h7, h8⟩ := h2
    obtain ⟨id, q, a1, a2, rfl⟩ := hget _ _ h5
    obtain ⟨id', q', b1, b2, rfl⟩ := hget _ _ h7
    rw [a1] at h3
    rw [b1] at h4
    have : id = id' := hC.inj id id' b o o' ⟨q, a2, mine_ren.1 h6⟩ ⟨q', b2, mine_ren.1 h8⟩ h3 h4
    subst this
    exact (List.getElem?_inj (List.getElem?_eq_some_iff.1 a1).1 hn).1 (a1.trans b1.symm)
theorem applyE_sets {m : Md} {L0 : Nat} {f : Nat → Option Nat} : ∀ {live : List Nat} {os : List Ob} {H H' : List Ob}, live.Nodup → (∀ i ∈ live, i < H.length) → live.length ≤ os.length → applyE m L0 (sets f live os) H = some H' →
    H'.length = H.length + (os.length - live.length) ∧
    (∀ (j i : Nat), live[j]? = some i → ∃ ob, os[j]? = some ob ∧ H'[i]? = some (renO f ob)) ∧
    (∀ i, i < H.length → i ∉ live → H'[i]? = H[i]?) ∧
    (∀ k, H'[H.length + k]? = (os[live.length + k]?).map (renO f)) ∧ (live.length < os.length → m.own = true)
  | [], os, H, H', _, _, _, h => by
    induction os generalizing H with
    | nil =>
      have : H' = H := applyE_nil (by simpa [sets] using h)
      subst this
      refine ⟨by simp, by simp, fun _ _ _ => rfl, fun k => ?_, by simp⟩
      simp
    | cons ob os ih =>
      have h' : applyE m L0 (.push (renO f ob) :: sets f [] os) H = some H' := by simpa [sets] using h
      have hown := own_of_push h'
      obtain ⟨h1, _, h3, h4, _⟩ := ih (H := H ++ [renO f ob]) (by simp) (by simp) (applyE_push h')
      simp only [List.length_append, List.length_singleton, List.length_nil, Nat.sub_zero, Nat.zero_add] at h1 h4
      refine ⟨by simp; omega, by simp, fun i hi _ => ?_, fun k => ?_, fun _ => hown⟩
      · rw [h3 i (by simp; omega) (by simp), List.getElem?_append_left hi]
      · simp only [List.length_nil, Nat.zero_add]
        cases k with
        | zero =>
          rw [Nat.add_zero, h3 H.length (by simp) (by simp)]
          simp
        | succ k =>
          have := h4 k
          rw [show H.length + (k + 1) = H.length + 1 + k by omega, this]
          simp
  | i :: live, os, H, H', hn, hlt, hl, h => by
    cases os with
    | nil => simp at hl
    | cons ob os =>
      have h' : applyE m L0 (.set i (renO f ob) :: sets f live os) H = some H' := by simpa [sets] using h
      rw [List.nodup_cons] at hn
      obtain ⟨h1, h2, h3, h4, h5⟩ := applyE_sets (H := H.set i (renO f ob)) hn.2 (fun j hj => by simp; exact hlt j (by simp [hj])) (by simpa using hl) (applyE_set h')
      have hil : i < H.length := hlt i (by simp)
      simp only [List.length_set] at h1 h3 h4
      refine ⟨by simp at h1 ⊢; omega, fun j k hj => ?_, fun k hk hkn => ?_, fun k => ?_, fun hlt => h5 (by simpa using hlt)⟩
      · cases j with
        | zero =>
          simp at hj
          subst hj
          exact ⟨ob, rfl, by rw [h3 i hil hn.1, List.getElem?_set]; simp [hil]⟩
        | succ j =>
          obtain ⟨ob', h6, h7⟩ := h2 j k (by simpa using hj)
          exact ⟨ob', by simpa using h6, h7⟩
      · simp only [List.mem_cons, not_or] at hkn
        rw [h3 k hk hkn.2, List.getElem?_set_ne (fun e => hkn.1 e.symm)]
      · rw [h4 k]
        simp only [List.length_cons]
        rw [show live.length + 1 + k = live.length + k + 1 by omega]
        simp
theorem given_call (hO : OrcOk P orc) (hC : Ctx I ρ H w) {f : FuncId} {vs : List V} {us : List Value} (hA : A2 (RV w I ρ H) vs us) {live : List Nat} (hn : live.Nodup) {os os' : List Ob} (hos : getAllO (getM m L0 H) live = some os) {r : V}
    (horc : orc f (vs.map (renV (pos live))) (os.map (renO (pos live))) = some (r, os')) (hle : live.length ≤ os'.length) (he : applyE m L0 (sets (back live (m.nx H.length)) live os') H = some H') :
    RunOk P f us w (Post I ρ H w (renV (back live (m.nx H.length)) r) H') := by
  obtain ⟨hol, hog⟩ := getAllO_ok hos
  have hog' : ∀ (j i : Nat), live[j]? = some i → ∃ ob, os[j]? = some ob ∧ H[i]? = some ob := fun j i hj => by
    obtain ⟨ob, h1, h2⟩ := hog j i hj
    exact ⟨ob, h1, getM_some h2⟩
  have hlt : ∀ i ∈ live, i < H.length := fun i hi => by
    obtain ⟨j, hj⟩ := List.getElem?_of_mem hi
    obtain ⟨ob, _, h2⟩ := hog' j i hj
    exact (List.getElem?_eq_some_iff.1 h2).1
  obtain ⟨hC1, hR1⟩ := handed hC hn hol hog'
  have hcall := hO f _ _ _ _ horc
  refine (hcall I _ w us hC1 (A2.map_left (hA.imp fun _ _ h => RV_ren hR1 hC.dom h))).mono ?_
  rintro v' w' ⟨I', ρ', hC', hr, hext, hkeep⟩
  have hkeep' := hkeep (by simpa [hol] using hle)
  simp only [List.length_map, hol] at hkeep'
  obtain ⟨e1, e2, e3, e4, e5⟩ := applyE_sets hn hlt hle he
  have hown1 : ∀ b, ownd (fun j => (live[j]?).bind ρ) (os.map (renO (pos live))) b → ∃ (j id off : Nat), live[j]? = some id ∧ mine H id ∧ ρ id = some (b, off) := by
    rintro b ⟨j, off, ⟨ob, h1, h2⟩, h3⟩
    rw [List.getElem?_map] at h1
    cases hx : os[j]? with
    | none => rw [hx] at h1; cases h1
    | some x =>
      rw [hx] at h1
      simp only [Option.map_some, Option.some.injEq] at h1
      subst h1
      have hjl : j < live.length := by rw [← hol]; exact (List.getElem?_eq_some_iff.1 hx).1
      have hj := List.getElem?_eq_getElem hjl
      obtain ⟨ob', h4, h5⟩ := hog' j _ hj
      rw [hx] at h4
      cases h4
      simp only [hj, Option.bind_some] at h3
      exact ⟨j, _, off, hj, ⟨x, h5, mine_ren.1 h2⟩, h3⟩
  have hsub : ∀ b, ownd (fun j => (live[j]?).bind ρ) (os.map (renO (pos live))) b → ownd ρ H b := fun b hb => by
    obtain ⟨j, id, off, _, h2, h3⟩ := hown1 b hb
    exact ⟨id, off, h2, h3⟩
  have hnotI : ∀ b, I b → ¬ ownd (fun j => (live[j]?).bind ρ) (os.map (renO (pos live))) b := fun b hb ho => ownd_notI hC (hsub b ho) hb
  let ρ2 : Rho := fun id => if id < H.length then ρ id else ρ' (live.length + (id - H.length))
  have hρ2 : ∀ j i, live[j]? = some i → ρ2 i = ρ' j := fun j i hj => by
    have hjl := (List.getElem?_eq_some_iff.1 hj).1
    have hil := hlt i (List.mem_of_getElem? hj)
    show (if i < H.length then ρ i else _) = _
    rw [if_pos hil, (hkeep' j hjl).1, hj]
    rfl
  have hback : ∀ id j, back live (m.nx H.length) id = some j → id < os'.length → (∃ i, live[id]? = some i ∧ j = i) ∨ (live.length ≤ id ∧ j = H.length + (id - live.length)) := by
    intro id j h hid
    unfold back at h
    split at h
    · exact .inl ⟨j, h, rfl⟩
    · rename_i hge
      simp only [Option.some.injEq] at h
      rw [nx_own (e5 (by omega))] at h
      exact .inr ⟨by omega, h.symm⟩
  have hR2 : Ren ρ' os' (back live (m.nx H.length)) ρ2 H' := by
    refine ⟨fun id j h hid => ?_, fun id j h hg => ?_, fun id j h hid => ?_⟩
    · rcases hback id j h hid with ⟨i, hi, rfl⟩ | ⟨h1, rfl⟩
      · exact hρ2 id j hi
      · show (if H.length + (id - live.length) < H.length then _ else ρ' (live.length + (H.length + (id - live.length) - H.length))) = _
        rw [if_neg (by omega)]
        congr 1
        omega
    · have hid : id < os'.length := (List.getElem?_eq_some_iff.1 hg).1
      unfold GN at hg ⊢
      rcases hback id j h hid with ⟨i, hi, rfl⟩ | ⟨h1, rfl⟩
      · obtain ⟨ob, h2, h3⟩ := e2 id j hi
        rw [hg] at h2
        cases h2
        exact h3
      · rw [e4, show live.length + (id - live.length) = id by omega, hg]
        rfl
    · rcases hback id j h hid with ⟨i, hi, rfl⟩ | ⟨h1, rfl⟩
      · have := hlt j (List.mem_of_getElem? hi); omega
      · omega
  have hfrom : ∀ (id : Nat) (ob : Ob), H'[id]? = some ob → (∃ (j : Nat) (ob' : Ob), live[j]? = some id ∧ os'[j]? = some ob' ∧ ob = renO (back live (m.nx H.length)) ob') ∨ (id < H.length ∧ id ∉ live ∧ H[id]? = some ob) ∨
      (∃ (j : Nat) (ob' : Ob), H.length ≤ id ∧ j = live.length + (id - H.length) ∧ os'[j]? = some ob' ∧ ob = renO (back live (m.nx H.length)) ob') := by
    intro id ob h
    by_cases h1 : id < H.length
    · by_cases h2 : id ∈ live
      · obtain ⟨j, hj⟩ := List.getElem?_of_mem h2
        obtain ⟨ob', h3, h4⟩ := e2 j id hj
        rw [h] at h4
        cases h4
        exact .inl ⟨j, ob', hj, h3, rfl⟩
      · rw [e3 id h1 h2] at h
        exact .inr (.inl ⟨h1, h2, h⟩)
    · have h5 := e4 (id - H.length)
      rw [show H.length + (id - H.length) = id by omega, h] at h5
      cases hx : os'[live.length + (id - H.length)]? with
      | none => rw [hx] at h5; cases h5
      | some x =>
        rw [hx] at h5
        simp only [Option.map_some, Option.some.injEq] at h5
        exact .inr (.inr ⟨_, x, by omega, rfl, hx, h5⟩)
  have hmine : ∀ (id b off : Nat), mine H' id → ρ2 id = some (b, off) → (∃ (j : Nat), mine os' j ∧ ρ' j = some (b, off) ∧ (live[j]? = some id ∨ (H.length ≤ id ∧ j = live.length + (id - H.length)))) ∨ (id ∉ live ∧ mine H id ∧ ρ id = some (b, off)) := by
    rintro id b off ⟨ob, h1, h2⟩ h3
    rcases hfrom id ob h1 with ⟨j, ob', h4, h5, rfl⟩ | ⟨h4, h5, h6⟩ | ⟨j, ob', h4, h5, h6, rfl⟩
    · rw [hρ2 j id h4] at h3
      exact .inl ⟨j, ⟨ob', h5, mine_ren.1 h2⟩, h3, .inl h4⟩
    · have : ρ2 id = ρ id := if_pos h4
      rw [this] at h3
      exact .inr ⟨h5, ⟨ob, h6, h2⟩, h3⟩
    · have : ρ2 id = ρ' (live.length + (id - H.length)) := if_neg (by omega)
      rw [this, ← h5] at h3
      exact .inl ⟨j, ⟨ob', h6, mine_ren.1 h2⟩, h3, .inr ⟨h4, h5⟩⟩
  have hother : ∀ id b off, id ∉ live → mine H id → ρ id = some (b, off) → ¬ ownd (fun j => (live[j]?).bind ρ) (os.map (renO (pos live))) b := by
    intro id b off h1 h2 h3 h4
    obtain ⟨j, id', off', h5, h6, h7⟩ := hown1 b h4
    have := hC.inj id id' b off off' h2 h6 h3 h7
    subst this
    exact h1 (List.mem_of_getElem? h5)
  have hs : Stp I ρ H w I' ρ2 H' w' := by
    refine ⟨by omega, fun id hid => if_pos hid, fun id hg => ?_, fun b hb => ⟨hext.imm b hb, hext.same b (hC.lt b hb) (hnotI b hb)⟩, hext.os, hext.tape, hext.output, hext.size, fun b hb hno => hext.same b hb (fun h => hno (hsub b h)), hext.cap, hext.imm, fun b hb => ?_, fun b hb => ?_⟩
    · have hid : id < H.length := (List.getElem?_eq_some_iff.1 hg).1
      by_cases h2 : id ∈ live
      · obtain ⟨j, hj⟩ := List.getElem?_of_mem h2
        have hjl := (List.getElem?_eq_some_iff.1 hj).1
        have hg1 : GN (os.map (renO (pos live))) j := hR1.gone id j (pos_of_get hn hj) hg
        have hg2 := (hkeep' j hjl).2 hg1
        obtain ⟨ob', h3, h4⟩ := e2 j id hj
        unfold GN at hg2 ⊢
        rw [hg2] at h3
        cases h3
        exact h4
      · unfold GN at hg ⊢
        rw [e3 id hid h2]; exact hg
    · rcases hext.new b hb with h | h | h
      · exact .inl h
      · exact .inr (.inl (hsub b h))
      · exact .inr (.inr h)
    · obtain ⟨id, off, h1, h2⟩ := hb
      rcases hmine id b off h1 h2 with ⟨j, h3, h4, _⟩ | ⟨_, h3, h4⟩
      · rcases hext.own b ⟨j, off, h3, h4⟩ with h | h
        · exact .inl (hsub b h)
        · exact .inr h
      · exact .inl ⟨id, off, h3, h4⟩
  refine ⟨I', ρ2, ⟨fun id ob hob => ?_, hC'.lt, fun id p hp => ?_, fun id id' b o o' h1 h2 h3 h4 => ?_⟩, hs, RV_ren hR2 hC'.dom hr⟩
  · rcases hfrom id ob hob with ⟨j, ob', h4, h5, rfl⟩ | ⟨h4, h5, h6⟩ | ⟨j, ob', h4, h5, h6, rfl⟩
    · exact RO_ren hR2 hC'.dom (hρ2 j id h4) (hC'.obj j ob' h5)
    · refine RO_keep hC hs (hC.obj id ob h6) h4 fun b off hg hr' => ?_
      obtain ⟨hbl, hbI⟩ := block_lt hC h6 hg hr'
      have hno : ¬ ownd (fun j => (live[j]?).bind ρ) (os.map (renO (pos live))) b := by
        rcases hbI with h | h
        · exact hnotI b h
        · exact hother id b off h5 h hr'
      refine ⟨hext.same b hbl hno, fun hni hi => ?_⟩
      rcases hext.new b hi with h | h | h
      · exact hni h
      · exact hno h
      · omega
    · have : ρ2 id = ρ' j := by rw [h5]; exact if_neg (by omega)
      exact RO_ren hR2 hC'.dom this (hC'.obj j ob' h6)
  · by_cases h1 : id < H.length
    · omega
    · have : ρ2 id = ρ' (live.length + (id - H.length)) := if_neg h1
      rw [this] at hp
      have := hC'.dom _ _ hp
      omega
  · rcases hmine id b o h1 h3 with ⟨j, a1, a2, a3⟩ | ⟨a1, a2, a3⟩ <;> rcases hmine id' b o' h2 h4 with ⟨j', b1, b2, b3⟩ | ⟨b1, b2, b3⟩
    · have hjj := hC'.inj j j' b o o' a1 b1 a2 b2
      subst hjj
      rcases a3 with a3 | ⟨a3, a4⟩ <;> rcases b3 with b3 | ⟨b3, b4⟩
      · rw [a3] at b3; cases b3; rfl
      · have := (List.getElem?_eq_some_iff.1 a3).1; omega
      · have := (List.getElem?_eq_some_iff.1 b3).1; omega
      · omega
    · exfalso
      rcases hext.own b ⟨j, o, a1, a2⟩ with h | h
      · exact hother id' b o' b1 b2 b3 h
      · obtain ⟨ob, hob, hobm⟩ := b2
        have := (block_lt hC hob (by rintro rfl; exact hobm) b3).1
        omega
    · exfalso
      rcases hext.own b ⟨j', o', b1, b2⟩ with h | h
      · exact hother id b o a1 a2 a3 h
      · obtain ⟨ob, hob, hobm⟩ := a2
        have := (block_lt hC hob (by rintro rfl; exact hobm) a3).1
        omega
    · exact hC.inj id id' b o o' a2 b2 a3 b3
theorem callF_ok (hO : OrcOk P orc) {imp : FuncId → Bool} (hC : Ctx I ρ H w) {f : FuncId} {vs : List V} {us : List Value} (hA : A2 (RV w I ρ H) vs us) (h : callF imp orc (getM m L0 H) (m.nx H.length) f vs = some (v, es)) (he : applyE m L0 es H = some H') :
    RunOk P f us w (Post I ρ H w v H') := by
  unfold callF at h
  split at h
  · cases h
  split at h
  · simp only at h
    split at h
    · cases h
    · rename_i os hos
      split at h
      · cases h
      · rename_i r os' horc
        split at h
        · rename_i hle
          simp only [Option.some.injEq, Prod.mk.injEq] at h
          obtain ⟨rfl, rfl⟩ := h
          exact given_call hO hC hA (reach_nodup _ _ _ _ (by simp)) hos horc hle he
        · cases h
  · split at h
    · cases h
    · rename_i us' es' hf
      split at h
      · rename_i r horc
        simp only [Option.some.injEq, Prod.mk.injEq] at h
        obtain ⟨rfl, rfl⟩ := h
        exact pure_call hO hC hA hf horc he
      · cases h
theorem st_call (hO : OrcOk P orc) {imp : FuncId → Bool} (hC : Ctx I ρ H w) (hF : RF w I ρ H fr a.tmps) {f : FuncId} {c : Call} (hcal : c.callee = .value (.func f)) (ho : o.op = .call c) (h : callF imp orc (getM m L0 H) (m.nx H.length) f (c.args.toList.map (ev fr)) = some (v, es)) (he : applyE m L0 es H = some H') : Goal P I ρ H w o a v H' :=
  Res.run hcal (caps := #[]) (by simp [Act.eval]) ho (us := c.args.toList.map a.eval) (by apply Array.ext'; simp) (callF_ok hO hC (A2.map_ev hF c.args.toList) h he)
theorem st_callv (hO : OrcOk P orc) {imp : FuncId → Bool} (hC : Ctx I ρ H w) (hF : RF w I ρ H fr a.tmps) {x : Operand} {c : Call} (hcal : c.callee = .value x) (ho : o.op = .call c) (h : sCallv imp orc (getM m L0 H) (m.nx H.length) (ev fr x :: c.args.toList.map (ev fr)) = some (v, es)) (he : applyE m L0 es H = some H') : Goal P I ρ H w o a v H' := by
  obtain ⟨y, ys, h1, hc⟩ := inv_callv h
  simp only [List.cons.injEq] at h1
  obtain ⟨rfl, rfl⟩ := h1
  have hx := RV_ev hF x
  rcases hc with ⟨f, hxe, hcf⟩ | ⟨f, caps, hxe, hcf⟩
  · rw [hxe] at hx
    have hxv : a.eval x = .func (.func f) #[] #[] := hx
    exact Res.run hcal hxv ho (us := c.args.toList.map a.eval) (by apply Array.ext'; simp) (callF_ok hO hC (A2.map_ev hF c.args.toList) hcf he)
  · rw [hxe] at hx
    obtain ⟨us, hxv, hA⟩ := hx
    have hA2 : A2 (RV w I ρ H) (caps.map fun p => V.c (.ref p.1 p.2)) us := A2.map_left hA
    exact Res.run hcal hxv ho (us := c.args.toList.map a.eval ++ us) (by apply Array.ext'; simp) (callF_ok hO hC ((A2.map_ev hF c.args.toList).append hA2) hcf he)
end
end Go.AM

namespace Go.AM
section
variable {P : Program} {I I' : Nat → Prop} {ρ ρ' : Rho} {H H' H0 H1 : List Ob} {w w' : World}
variable {o : Oper} {a : Act} {fr : List V} {m : Md} {L0 : Nat} {v : V} {es : List Eff}
theorem step_ok0 {tb : Tab} {imp : FuncId → Bool} {orc : Orc} (hT : TabOk P tb) (hO : OrcOk P orc) (hC : Ctx I ρ H w) (hF : RF w I ρ H fr a.tmps) {k : K} {xs : List Operand} (hk : compOp0 tb o.op = some (k, xs))
    (hs : step tb imp orc m.own (getM m L0 H) (m.nx H.length) k (xs.map (ev fr)) = some (v, es)) (he : applyE m L0 es H = some H') : Goal P I ρ H w o a v H' := by
  cases ho : o.op <;> rw [ho] at hk <;> simp only [compOp0, reduceCtorEq, Option.some.injEq, Prod.mk.injEq] at hk
  case move x => obtain ⟨rfl, rfl⟩ := hk; exact st_mv hC hF (.inl ho) hs he
  case assign x => obtain ⟨rfl, rfl⟩ := hk; exact st_mv hC hF (.inr ho) hs he
  case pick c x y => obtain ⟨rfl, rfl⟩ := hk; exact st_pick hC hF ho hs he
  case alloc t => obtain ⟨rfl, rfl⟩ := hk; exact st_alloc hT hC ho hs he
  case box t x => obtain ⟨rfl, rfl⟩ := hk; exact st_box hC hF ho hs he
  case buildSlice t n ps => obtain ⟨rfl, rfl⟩ := hk; exact st_mkslice hT hC hF ho hs he
  case load t x => obtain ⟨rfl, rfl⟩ := hk; exact st_load hT hC hF ho hs he
  case store t x y => obtain ⟨rfl, rfl⟩ := hk; exact st_store hT hC hF ho hs he
  case binOp op t x y t' => obtain ⟨rfl, rfl⟩ := hk; exact st_bin hT hC hF ho hs he
  case unOp op t x =>
    obtain ⟨rfl, rfl⟩ := hk
    cases op
    · exact st_neg hC hF ho hs he
    · simp [step] at hs
    · exact st_not hC hF ho hs he
    · simp [step] at hs
  case convert s d x =>
    split at hk
    · rename_i k1 k2 h1 h2
      simp only [Option.some.injEq, Prod.mk.injEq] at hk
      obtain ⟨rfl, rfl⟩ := hk
      exact st_conv hT hC hF ho h1 h2 hs he
    · rename_i e1 h1 h2
      split at hk
      · rename_i h3
        simp only [Option.some.injEq, Prod.mk.injEq] at hk
        obtain ⟨rfl, rfl⟩ := hk
        exact st_b2s hT hC hF ho h1 h3 h2 hs he
      · cases hk
    · cases hk
  case index t x y => obtain ⟨rfl, rfl⟩ := hk; exact st_index hT hC hF ho hs he
  case field t x i => obtain ⟨rfl, rfl⟩ := hk; exact st_field hT hC hF ho hs he
  case build t ps => obtain ⟨rfl, rfl⟩ := hk; exact st_build hT hC hF ho hs he
  case nilCheck x => obtain ⟨rfl, rfl⟩ := hk; exact st_nilck hC hF ho hs he
  case slice t x lo hi mx =>
    cases mx with
    | none =>
      simp only at hk
      split at hk
      · rename_i h1
        simp only [Option.some.injEq, Prod.mk.injEq] at hk
        obtain ⟨rfl, rfl⟩ := hk
        exact st_slice hT hC hF ho (.inl h1) hs he
      · rename_i e1 h1
        simp only [Option.some.injEq, Prod.mk.injEq] at hk
        obtain ⟨rfl, rfl⟩ := hk
        exact st_slice hT hC hF ho (.inr ⟨_, h1⟩) hs he
      · cases hk
    | some y => cases hk
  case makeFunc fn first caps =>
    cases fn <;> simp only [compOp0, reduceCtorEq] at hk
    split at hk
    · rename_i hfi
      simp only [Option.some.injEq, Prod.mk.injEq] at hk
      obtain ⟨rfl, rfl⟩ := hk
      exact st_mkfn hC hF (by simpa using hfi) ho hs he
    · cases hk
  case makeSlice t x y => obtain ⟨rfl, rfl⟩ := hk; exact st_make hT hC hF ho hs he
  case fieldAddr t x i => obtain ⟨rfl, rfl⟩ := hk; exact st_faddr hT hC hF ho hs he
  case indexAddr t x y => obtain ⟨rfl, rfl⟩ := hk; exact st_iaddr hT hC hF ho hs he
  case extract x i => obtain ⟨rfl, rfl⟩ := hk; exact st_ext hC hF ho hs he
  case call c =>
    unfold compCall at hk
    split at hk
    · rename_i f hcal
      simp only [Option.some.injEq, Prod.mk.injEq] at hk
      obtain ⟨rfl, rfl⟩ := hk
      exact st_call hO hC hF hcal ho hs he
    · rename_i x _ hcal
      simp only [Option.some.injEq, Prod.mk.injEq] at hk
      obtain ⟨rfl, rfl⟩ := hk
      exact st_callv hO hC hF hcal ho hs he
    · rename_i hcal
      split at hk
      · rename_i t x h1 h2
        simp only [Option.some.injEq, Prod.mk.injEq] at hk
        obtain ⟨rfl, rfl⟩ := hk
        exact st_len hT hC hF hcal h1 h2 ho hs he
      · cases hk
    · rename_i hcal
      split at hk
      · rename_i x y h2
        simp only [Option.some.injEq, Prod.mk.injEq] at hk
        obtain ⟨rfl, rfl⟩ := hk
        exact st_max hC hF hcal h2 ho hs he
      · cases hk
    · rename_i hcal
      split at hk
      · rename_i x y h2
        simp only [Option.some.injEq, Prod.mk.injEq] at hk
        obtain ⟨rfl, rfl⟩ := hk
        exact st_min hC hF hcal h2 ho hs he
      · cases hk
    · rename_i hcal
      split at hk
      · rename_i t u x y h1 h2
        split at hk
        · rename_i hsl
          simp only [Bool.and_eq_true] at hsl
          simp only [Option.some.injEq, Prod.mk.injEq] at hk
          obtain ⟨rfl, rfl⟩ := hk
          exact st_copy hT hC hF hcal h1 h2 hsl.2 ho hs he
        · cases hk
      · cases hk
    · rename_i hcal
      split at hk
      · rename_i t u x y h1 h2
        split at hk
        · rename_i hsl
          simp only [Bool.and_eq_true] at hsl
          simp only [Option.some.injEq, Prod.mk.injEq] at hk
          obtain ⟨rfl, rfl⟩ := hk
          exact st_append hT hC hF hcal h1 h2 hsl.2 ho hs he
        · cases hk
      · cases hk
    · cases hk
theorem step_ok {tb : Tab} {imp : FuncId → Bool} {orc : Orc} (hT : TabOk P tb) (hO : OrcOk P orc) (hC : Ctx I ρ H w) (hF : RF w I ρ H fr a.tmps) {k : K} {xs : List Operand} (hk : compOp tb o.op = some (k, xs))
    (hs : step tb imp orc m.own (getM m L0 H) (m.nx H.length) k (xs.map (ev fr)) = some (v, es)) (he : applyE m L0 es H = some H') : Goal P I ρ H w o a v H' := by
  unfold compOp at hk
  split at hk
  · rename_i r hr
    simp only [Option.some.injEq] at hk
    subst hk
    exact step_ok0 hT hO hC hF hr hs he
  · simp only [Option.some.injEq, Prod.mk.injEq] at hk
    obtain ⟨rfl, rfl⟩ := hk
    simp [step] at hs
structure OwnF (lo : Nat) (w : World) (I : Nat → Prop) (ρ : Rho) (H : List Ob) (fr : List V) (tmps : Array Value) : Prop where
  own : ∀ (t : Nat) (cs : List C), fr[t]? = some (.own cs) → ∃ b arr e, tmps[t]? = some (.pointer (some ⟨b, 0, none⟩)) ∧ w.heap[b]? = some (.cells arr e (0, 0)) ∧ A2 (RC w I ρ H) cs arr.toList ∧ lo ≤ b ∧ ¬ I b ∧ ¬ ownd ρ H b
  dis : ∀ (t t' : Nat) (cs cs' : List C), t ≠ t' → fr[t]? = some (.own cs) → fr[t']? = some (.own cs') → tmps[t]? ≠ tmps[t']?
  oref : ∀ (t s off : Nat), fr[t]? = some (.oref s off) → ∃ cs b, fr[s]? = some (.own cs) ∧ tmps[s]? = some (.pointer (some ⟨b, 0, none⟩)) ∧ tmps[t]? = some (.pointer (some ⟨b, off, none⟩))
theorem OwnF.none {lo : Nat} {tmps : Array Value} (h : ∀ (t : Nat) (x : V), fr[t]? = some x → x.isO = false) : OwnF lo w I ρ H fr tmps :=
  ⟨fun t cs ht => (by have := h t _ ht; cases this), fun t t' cs cs' _ ht => (by have := h t _ ht; cases this), fun t s off ht => (by have := h t _ ht; cases this)⟩
theorem OwnF.stp {lo : Nat} {tmps : Array Value} (hC : Ctx I ρ H w) (hs : Stp I ρ H w I' ρ' H' w') (h : OwnF lo w I ρ H fr tmps) : OwnF lo w' I' ρ' H' fr tmps := by
  refine ⟨fun t cs ht => ?_, h.dis, h.oref⟩
  obtain ⟨b, arr, e, h1, h2, h3, h4, h5, h6⟩ := h.own t cs ht
  have hlt := lt_heap h2
  refine ⟨b, arr, e, h1, (hs.ext.same b hlt h6).trans h2, h3.imp fun _ _ h => RC_stp hC hs h, h4, fun hi => ?_, fun ho => ?_⟩
  · rcases hs.ext.new b hi with h | h | h
    · exact h5 h
    · exact h6 h
    · omega
  · rcases hs.ext.own b ho with h | h
    · exact h6 h
    · omega
theorem set_none {d t : Nat} {v x : V} (hv : v.isO = false) (hx : x.isO = true) (h : (fr.set d v)[t]? = some x) : t ≠ d ∧ fr[t]? = some x := by
  rw [List.getElem?_set] at h
  split at h
  · split at h
    · cases h; rw [hv] at hx; cases hx
    · cases h
  · rename_i hd
    exact ⟨fun h' => hd h'.symm, h⟩
theorem tmps_ne {tmps : Array Value} {d t : Nat} {u : Value} (h : t ≠ d) : (tmps.setIfInBounds d u)[t]? = tmps[t]? := Array.getElem?_setIfInBounds_ne (fun h' => h h'.symm)
theorem OwnF.put {lo : Nat} {tmps : Array Value} (h : OwnF lo w I ρ H fr tmps) {d : Nat} {u : Value} (hd : (fr.getD d .any).isO = false) (hv : v.isO = false) : OwnF lo w I ρ H (fr.set d v) (tmps.setIfInBounds d u) := by
  have hne : ∀ {s : Nat} {cs : List C}, fr[s]? = some (.own cs) → s ≠ d := by
    rintro s cs hs rfl
    rw [List.getD_eq_getElem?_getD, hs] at hd
    cases hd
  refine ⟨fun t cs ht => ?_, fun t t' cs cs' hn ht ht' => ?_, fun t s off ht => ?_⟩
  · obtain ⟨h1, h2⟩ := set_none hv rfl ht
    rw [tmps_ne h1]
    exact h.own t cs h2
  · obtain ⟨h1, h2⟩ := set_none hv rfl ht
    obtain ⟨h3, h4⟩ := set_none hv rfl ht'
    rw [tmps_ne h1, tmps_ne h3]
    exact h.dis t t' cs cs' hn h2 h4
  · obtain ⟨h1, h2⟩ := set_none hv rfl ht
    obtain ⟨cs, b, h3, h4, h5⟩ := h.oref t s off h2
    have hs := hne h3
    refine ⟨cs, b, ?_, by rw [tmps_ne hs]; exact h4, by rw [tmps_ne h1]; exact h5⟩
    rw [List.getElem?_set_ne (fun h' => hs h'.symm)]
    exact h3
def SR (w0 : World) (I0 : Nat → Prop) (ρ0 : Rho) (H0 : List Ob) (mm : Nat) (s : St) (a : Act) (w : World) : Prop :=
  ∃ I ρ, Ctx I ρ s.H w ∧ (RF w I ρ s.H s.fr a.tmps ∧ OwnF w0.heap.size w I ρ s.H s.fr a.tmps) ∧ a.defers = [] ∧ Ext w0 I0 (ownd ρ0 H0) w I (ownd ρ s.H) ∧ mm ≤ s.H.length ∧ ∀ id, id < mm → ρ id = ρ0 id ∧ (GN H0 id → GN s.H id)
variable {w0 : World} {I0 : Nat → Prop} {ρ0 : Rho} {mm : Nat}
theorem RF_put {tmps : Array Value} (h : RF w I ρ H fr tmps) {d : Nat} {u : Value} (hr : RV w I ρ H v u) : RF w I ρ H (fr.set d v) (tmps.setIfInBounds d u) := by
  intro t x hx
  rw [List.getElem?_set] at hx
  split at hx
  · rename_i hd
    subst hd
    split at hx
    · rename_i hl
      cases hx
      obtain ⟨u', hu', _⟩ := h _ _ (List.getElem?_eq_getElem hl)
      have := (Array.getElem?_eq_some_iff.1 hu').1
      exact ⟨u, by simp [Array.getElem?_setIfInBounds, this], hr⟩
    · cases hx
  · rename_i hd
    obtain ⟨u', hu', hr'⟩ := h t x hx
    exact ⟨u', by rw [Array.getElem?_setIfInBounds_ne hd]; exact hu', hr'⟩
theorem RF_put' (h : RF w I ρ H fr a.tmps) {d : Option Nat} {u : Value} (hr : RV w I ρ H v u) : RF w I ρ H (put fr d v) (a.put d u).tmps := by
  cases d with
  | none => exact h
  | some d => exact RF_put h hr
theorem OwnF_put' {lo : Nat} (h : OwnF lo w I ρ H fr a.tmps) {k : K} {d : Option Nat} {u : Value} (hk : k.isOst = false) (hd : free k fr d = true) (hv : v.isO = false) : OwnF lo w I ρ H (put fr d v) (a.put d u).tmps := by
  cases d with
  | none => exact h
  | some d =>
    simp only [free, hk, Bool.false_or, Bool.not_eq_true'] at hd
    exact h.put hd hv
theorem put_defers (a : Act) (d : Option Nat) (u : Value) : (a.put d u).defers = a.defers := by cases d <;> rfl
theorem RF_stp {tmps : Array Value} (hC : Ctx I ρ H w) (hs : Stp I ρ H w I' ρ' H' w') (h : RF w I ρ H fr tmps) : RF w' I' ρ' H' fr tmps := fun t x hx => by
  obtain ⟨u, hu, hr⟩ := h t x hx
  exact ⟨u, hu, RV_stp hC hs hr⟩
theorem alloc_side (hC : Ctx I ρ H w) {arr : Array Value} {e : TypeId} : Ctx I ρ H (w.alloc (.cells arr e)) ∧ Stp I ρ H w I ρ H (w.alloc (.cells arr e)) := by
  have hold : ∀ b, b < w.heap.size → (w.alloc (.cells arr e)).heap[b]? = w.heap[b]? := fun b hb => by simp only [World.alloc, Array.getElem?_push]; rw [if_neg (by omega)]
  have hs : Stp I ρ H w I ρ H (w.alloc (.cells arr e)) := by
    refine ⟨Nat.le_refl _, fun _ _ => rfl, fun _ h => h, fun b hb => ⟨hb, hold b (hC.lt b hb)⟩, rfl, rfl, rfl, by simp, fun b hb _ => hold b hb, fun b n hcap => ?_, fun _ h => h, fun b hb => .inl hb, fun _ h => .inl h⟩
    obtain ⟨a, e', fz, h1, h2⟩ := hcap
    exact ⟨a, e', fz, (hold b (lt_heap h1)).trans h1, h2⟩
  refine ⟨⟨fun id ob hob => ?_, fun b hb => ?_, hC.dom, hC.inj⟩, hs⟩
  · refine RO_keep hC hs (hC.obj id ob hob) (List.getElem?_eq_some_iff.1 hob).1 fun b off hg hr => ⟨hold b (block_lt hC hob hg hr).1, fun h => h⟩
  · have := hC.lt b hb
    simp
    omega
theorem side_ok {b : Nat} {arr' : Array Value} (hC : Ctx I ρ H w) (hw : Wr w b w' arr') (hi : ¬ I b) (ho : ¬ ownd ρ H b) :
    Ctx I ρ H w' ∧ (∀ x u, RC w I ρ H x u → RC w' I ρ H x u) ∧ (∀ x u, RV w I ρ H x u → RV w' I ρ H x u) ∧ ∀ b' n, Cap w b' n → Cap w' b' n := by
  have hfix : Fix w I w' I := fun b' hb' => ⟨hb', hw.other b' (by rintro rfl; exact hi hb')⟩
  have hcap : ∀ b' n, Cap w b' n → Cap w' b' n := fun b' n h => hw.cap h
  have hrc : ∀ x u, RC w I ρ H x u → RC w' I ρ H x u := by
    intro x u h
    cases x with
    | t x => exact RT_fix hfix x u h
    | ref id off => exact h
    | osl id off len sz =>
      rcases h with h | h | ⟨b', o', c, h1, h2, h3, h4⟩
      · exact .inl h
      · exact .inr (.inl h)
      · exact .inr (.inr ⟨b', o', c, h1, h2, h3, hcap _ _ h4⟩)
    | fn f caps => exact h
    | any => exact h
  have hrv1 : ∀ x u, RV1 w I ρ H x u → RV1 w' I ρ H x u := by
    intro x u h
    cases x with
    | c x => exact hrc x u h
    | agg cs => obtain ⟨us, h1, h2⟩ := h; exact ⟨us, h1, h2.imp fun _ _ h => hrc _ _ h⟩
    | tup vs => cases vs <;> exact h
    | any => trivial
    | own _ => trivial
    | oref _ _ => trivial
  refine ⟨⟨fun id ob hob => ?_, fun b' hb' => ?_, hC.dom, hC.inj⟩, hrc, ?_, hcap⟩
  · have h := hC.obj id ob hob
    have hb : ∀ b' off, ob ≠ .gone → ρ id = some (b', off) → w'.heap[b']? = w.heap[b']? := by
      intro b' off hg hr
      refine hw.other b' ?_
      rintro rfl
      rcases (block_lt hC hob hg hr).2 with h | h
      · exact hi h
      · exact ho ⟨id, off, h, hr⟩
    cases ob with
    | gone => trivial
    | flat fr cs =>
      rcases h with h | ⟨b', off, h1, h2, h3⟩
      · exact .inl h
      · have hbb := hb b' off (by simp) h1
        refine .inr ⟨b', off, h1, fun j c hc => ?_, Own_keep h3 hbb (fun h => h) (fun h => h)⟩
        obtain ⟨u, hu, hr⟩ := h2 j c hc
        exact ⟨u, by rw [cell_of_block (w := w) hbb]; exact hu, RT_fix hfix c u hr⟩
    | mix fr cs =>
      obtain ⟨b', off, h1, h2, h3⟩ := h
      have hbb := hb b' off (by simp) h1
      refine ⟨b', off, h1, fun j c hc => ?_, Own_keep h3 hbb (fun h => h) (fun h => h)⟩
      obtain ⟨u, hu, hr⟩ := h2 j c hc
      exact ⟨u, by rw [cell_of_block (w := w) hbb]; exact hu, hrc _ _ hr⟩
  · have := hC.lt b' hb'
    rw [hw.size]
    exact this
  · intro x u h
    cases x with
    | c x => exact hrc x u h
    | agg cs => exact hrv1 (.agg cs) u h
    | tup vs => obtain ⟨us, h1, h2⟩ := h; exact ⟨us, h1, h2.imp fun _ _ h => hrv1 _ _ h⟩
    | any => trivial
    | own _ => trivial
    | oref _ _ => trivial
theorem ev_at {s : Nat} {cs : List C} (h : ev fr (.tmp s) = .own cs) : fr[s]? = some (.own cs) := by
  simp only [ev, List.getD_eq_getElem?_getD] at h
  cases hs : fr[s]? with
  | none => rw [hs] at h; cases h
  | some x => rw [hs] at h; simp only [Option.getD_some] at h; rw [h]
theorem ev_at' {s q off : Nat} (h : ev fr (.tmp s) = .oref q off) : fr[s]? = some (.oref q off) := by
  simp only [ev, List.getD_eq_getElem?_getD] at h
  cases hs : fr[s]? with
  | none => rw [hs] at h; cases h
  | some x => rw [hs] at h; simp only [Option.getD_some] at h; rw [h]
theorem eval_at {a : Act} {s : Nat} {u : Value} (h : a.tmps[s]? = some u) : a.eval (.tmp s) = u := by
  simp only [Act.eval, Array.getD_eq_getD_getElem?, h, Option.getD_some]
theorem off_ok {lo : Nat} (hO : OwnF lo w I ρ H fr a.tmps) {z s o' : Nat} {cs : List C} (h : offO z s (ev fr (.tmp z)) = some o') (hs : ev fr (.tmp s) = .own cs) :
    ∃ b arr e, a.tmps[s]? = some (.pointer (some ⟨b, 0, none⟩)) ∧ a.eval (.tmp z) = .pointer (some ⟨b, o', none⟩) ∧ w.heap[b]? = some (.cells arr e (0, 0)) ∧ A2 (RC w I ρ H) cs arr.toList ∧ lo ≤ b ∧ ¬ I b ∧ ¬ ownd ρ H b := by
  obtain ⟨b, arr, e, h1, h2, h3, h4, h5, h6⟩ := hO.own s cs (ev_at hs)
  refine ⟨b, arr, e, h1, ?_, h2, h3, h4, h5, h6⟩
  unfold offO at h
  split at h
  · split at h
    · rename_i hz
      subst hz
      cases h
      exact eval_at h1
    · cases h
  · rename_i s' o2 heq
    split at h
    · rename_i hq
      subst hq
      cases h
      obtain ⟨cs', b', h7, h8, h9⟩ := hO.oref z s' _ (ev_at' heq)
      rw [h1] at h8
      cases h8
      exact eval_at h9
    · cases h
  · cases h
theorem own_ok {tb : Tab} {ob : OB} {imp : FuncId → Bool} {orc : Orc} (hT : TabOk P tb) {d : Option Nat} {k : K} {xs : List Operand} (hk : compOwn ob o = some (d, k, xs)) {s : St} {own : Bool} {get : Nat → Option Ob} {nx : Nat}
    (hs : step tb imp orc own get nx k (xs.map (ev s.fr)) = some (v, es)) (hfree : free k s.fr d = true) {a : Act} {w : World} (hS : SR w0 I0 ρ0 H0 mm s a w) {K : Act → World → Prop} {Q : Exit → Act → World → Prop}
    (hK : ∀ a' w', SR w0 I0 ρ0 H0 mm ⟨put s.fr d v, s.H⟩ a' w' → K a' w') : es = [] ∧ o.wp P a w K Q := by
  obtain ⟨I, ρ, hC, ⟨hF, hO⟩, hd, hE, hm, hkeep⟩ := hS
  unfold compOwn at hk
  have fresh : ∀ {d : Nat} {t : TypeId} {cs : List C} {arr : Array Value}, (s.fr.getD d .any).isO = false → o.dst = some d → A2 (RC w I ρ s.H) cs arr.toList → (execOp a.eval o).run P w = .ok (.value (.pointer (some ⟨w.heap.size, 0, none⟩))) (w.alloc (.cells arr t)) →
      (∀ a' w', SR w0 I0 ρ0 H0 mm ⟨put s.fr (some d) (.own cs), s.H⟩ a' w' → K a' w') → o.wp P a w K Q := by
    intro d t cs arr hdo hdst hA hrun hK
    obtain ⟨hC1, hs1⟩ := alloc_side (arr := arr) (e := t) hC
    refine Res.value (G := fun v' w' => v' = .pointer (some ⟨w.heap.size, 0, none⟩) ∧ w' = w.alloc (.cells arr t)) hrun ⟨rfl, rfl⟩ K Q ?_
    rintro v' w' ⟨rfl, rfl⟩
    refine hK _ _ ⟨I, ρ, hC1, ⟨?_, ?_⟩, by rw [put_defers]; exact hd, hE.trans hs1.ext, hm, hkeep⟩
    · rw [hdst]; exact RF_put (RF_stp hC hs1 hF) trivial
    · have hO1 := hO.stp hC hs1
      rw [hdst]
      show OwnF w0.heap.size _ I ρ s.H (s.fr.set d (.own cs)) (a.tmps.setIfInBounds d _)
      have hlt : ∀ (t : Nat) (cs' : List C), s.fr[t]? = some (.own cs') → ∃ b, a.tmps[t]? = some (.pointer (some ⟨b, 0, none⟩)) ∧ b < w.heap.size := fun t cs' ht => by
        obtain ⟨b, arr', e', h1, h2, _⟩ := hO.own t cs' ht
        exact ⟨b, h1, lt_heap h2⟩
      have hne : ∀ {q : Nat} {cs : List C}, s.fr[q]? = some (.own cs) → q ≠ d := by
        rintro q cs hq rfl
        rw [List.getD_eq_getElem?_getD, hq] at hdo
        cases hdo
      have hsz : ∀ cs', (s.fr.set d (.own cs))[d]? = some (.own cs') → d < a.tmps.size := by
        intro cs' h
        have hl : d < s.fr.length := by have := (List.getElem?_eq_some_iff.1 h).1; simpa using this
        obtain ⟨u, hu, _⟩ := hF d _ (List.getElem?_eq_getElem hl)
        exact (Array.getElem?_eq_some_iff.1 hu).1
      refine ⟨fun t' cs' ht => ?_, fun t1 t2 cs1 cs2 hn ht1 ht2 => ?_, fun t' q off ht => ?_⟩
      · by_cases htd : t' = d
        · subst htd
          have hl := hsz _ ht
          rw [List.getElem?_set_self (by have := (List.getElem?_eq_some_iff.1 ht).1; simpa using this)] at ht
          cases ht
          refine ⟨w.heap.size, arr, t, by simp [Act.put, hl], heap_alloc_new w _, hA.imp fun _ _ h => RC_stp hC hs1 h, hE.size, fun hi => by have := hC.lt _ hi; omega, ?_⟩
          rintro ⟨id, off, h1, h2⟩
          obtain ⟨o1, ho1, hm1⟩ := h1
          have := (block_lt hC ho1 (by rintro rfl; exact hm1) h2).1
          omega
        · rw [List.getElem?_set_ne (fun h => htd h.symm)] at ht
          have := hO1.own t' cs' ht
          rw [tmps_ne htd]
          exact this
      · by_cases h1d : t1 = d
        · subst h1d
          have h2d : t2 ≠ t1 := fun h => hn h.symm
          rw [List.getElem?_set_ne (fun h => h2d h.symm)] at ht2
          obtain ⟨b, hb1, hb2⟩ := hlt _ _ ht2
          rw [tmps_ne h2d, hb1]
          intro hcon
          have hl := hsz _ ht1
          rw [Array.getElem?_setIfInBounds_self_of_lt hl] at hcon
          simp only [Option.some.injEq, Value.pointer.injEq, Addr.mk.injEq] at hcon
          omega
        · rw [List.getElem?_set_ne (fun h => h1d h.symm)] at ht1
          by_cases h2d : t2 = d
          · subst h2d
            obtain ⟨b, hb1, hb2⟩ := hlt _ _ ht1
            rw [tmps_ne h1d, hb1]
            intro hcon
            have hl := hsz _ ht2
            rw [Array.getElem?_setIfInBounds_self_of_lt hl] at hcon
            simp only [Option.some.injEq, Value.pointer.injEq, Addr.mk.injEq] at hcon
            omega
          · rw [List.getElem?_set_ne (fun h => h2d h.symm)] at ht2
            rw [tmps_ne h1d, tmps_ne h2d]
            exact hO.dis t1 t2 cs1 cs2 hn ht1 ht2
      · have htd : t' ≠ d := by
          rintro rfl
          have hl := (List.getElem?_eq_some_iff.1 ht).1
          rw [List.getElem?_set_self (by simpa using hl)] at ht
          cases ht
        rw [List.getElem?_set_ne (fun h => htd h.symm)] at ht
        obtain ⟨cs', b, h3, h4, h5⟩ := hO.oref t' q off ht
        have hqd := hne h3
        exact ⟨cs', b, by rw [List.getElem?_set_ne (fun h => hqd h.symm)]; exact h3, by rw [tmps_ne hqd]; exact h4, by rw [tmps_ne htd]; exact h5⟩
  split at hk
  · -- alloc
    rename_i t d' hop hdst
    split at hk
    · simp only [Option.some.injEq, Prod.mk.injEq] at hk
      obtain ⟨rfl, rfl, rfl⟩ := hk
      simp only [List.map_nil, step, sOalloc] at hs
      split at hs
      · cases hs
      · rename_i hok
        simp only [Option.some.injEq, Prod.mk.injEq] at hs
        obtain ⟨rfl, rfl⟩ := hs
        obtain ⟨inf, z, hi, hz, hA⟩ := zeros_A2 (w := w) (I := I) (ρ := ρ) (H := s.H) hT (ok_of (by simpa using hok))
        refine ⟨rfl, fresh (t := t) (by simpa [free, Go.AM.K.isOst] using hfree) hdst hA ?_ hK⟩
        simp [execOp, hop, Instr.alloc, zeroValue, typeInfo, hi, hz, newVar, newRow]
    · cases hk
  · -- box
    rename_i t x d' hop hdst
    split at hk
    · simp only [Option.some.injEq, Prod.mk.injEq] at hk
      obtain ⟨rfl, rfl, rfl⟩ := hk
      simp only [List.map_cons, List.map_nil, step, sObox] at hs
      split at hs
      · rename_i cs hcs
        simp only [Option.some.injEq, Prod.mk.injEq] at hs
        obtain ⟨rfl, rfl⟩ := hs
        obtain ⟨hA, _⟩ := cellsC_ok (RV_ev hF x) hcs
        refine ⟨rfl, fresh (t := t) (by simpa [free, Go.AM.K.isOst] using hfree) hdst hA ?_ hK⟩
        simp [execOp, hop, Instr.box, newVar, newRow]
      · cases hs
    · cases hk
  · -- an address
    rename_i t z i d' hop hdst
    simp only [Option.map_eq_some_iff, Prod.mk.injEq] at hk
    obtain ⟨q, _, rfl, rfl, rfl⟩ := hk
    simp only [List.map_cons, List.map_nil, step] at hs
    unfold sOfaddr at hs
    split at hs
    · rename_i vz cs heq
      simp only [List.cons.injEq, and_true] at heq
      obtain ⟨rfl, hq⟩ := heq
      split at hs
      · rename_i fs hkt
        split at hs
        · rename_i off t' o' hfi hof
          split at hs
          · rename_i hok
            simp only [Bool.and_eq_true, decide_eq_true_eq] at hok
            simp only [Option.some.injEq, Prod.mk.injEq] at hs
            obtain ⟨rfl, rfl⟩ := hs
            obtain ⟨gs, hu, hgs⟩ := hT.struct hkt
            obtain ⟨g, hg, h1, h2⟩ := field_at hgs hfi
            obtain ⟨b, arr, e, hb1, hb2, hb3, hb4, hb5, hb6, hb7⟩ := off_ok hO hof hq
            refine ⟨rfl, Res.value (G := fun v' w' => v' = .pointer (some ⟨b, o' + off, none⟩) ∧ w' = w) (v := .pointer (some ⟨b, o' + off, none⟩)) (w' := w) ?_ ⟨rfl, rfl⟩ K Q ?_⟩
            · simp [execOp, hop, Instr.fieldAt, run_underlying hu, hg, hb2, Instr.sureAddr, fieldPlace, h1, h2, sizeOf_run hT hok.1, hok.2, add_plain]
            · rintro v' w' ⟨rfl, rfl⟩
              rw [hdst]
              have hdo : (s.fr.getD d' .any).isO = false := by simpa [free, Go.AM.K.isOst] using hfree
              refine hK _ _ ⟨I, ρ, hC, ⟨RF_put hF trivial, ?_⟩, hd, hE, hm, hkeep⟩
              have hqd : q ≠ d' := by
                rintro rfl
                rw [List.getD_eq_getElem?_getD, ev_at hq] at hdo
                cases hdo
              have hne : ∀ {q : Nat} {cs : List C}, s.fr[q]? = some (.own cs) → q ≠ d' := by
                rintro q cs hq rfl
                rw [List.getD_eq_getElem?_getD, hq] at hdo
                cases hdo
              have hno : ∀ {t' : Nat} {cs' : List C}, (s.fr.set d' (.oref q (o' + off)))[t']? = some (.own cs') → t' ≠ d' ∧ s.fr[t']? = some (.own cs') := by
                intro t' cs' ht
                by_cases htd : t' = d'
                · subst htd
                  have hl := (List.getElem?_eq_some_iff.1 ht).1
                  rw [List.getElem?_set_self (by simpa using hl)] at ht
                  cases ht
                · rw [List.getElem?_set_ne (fun h => htd h.symm)] at ht
                  exact ⟨htd, ht⟩
              show OwnF w0.heap.size w' I ρ s.H (s.fr.set d' (.oref q (o' + off))) (a.tmps.setIfInBounds d' _)
              refine ⟨fun t1 cs1 ht => ?_, fun t1 t2 cs1 cs2 hn ht1 ht2 => ?_, fun t1 q1 off1 ht => ?_⟩
              · obtain ⟨h3, h4⟩ := hno ht
                rw [tmps_ne h3]
                exact hO.own t1 cs1 h4
              · obtain ⟨h3, h4⟩ := hno ht1
                obtain ⟨h5, h6⟩ := hno ht2
                rw [tmps_ne h3, tmps_ne h5]
                exact hO.dis t1 t2 cs1 cs2 hn h4 h6
              · by_cases htd : t1 = d'
                · subst htd
                  have hl := (List.getElem?_eq_some_iff.1 ht).1
                  rw [List.getElem?_set_self (by simpa using hl)] at ht
                  cases ht
                  obtain ⟨u, hu1, _⟩ := hF t1 _ (List.getElem?_eq_getElem (by simpa using hl))
                  refine ⟨cs, b, by rw [List.getElem?_set_ne (fun h => hqd h.symm)]; exact ev_at hq, by rw [tmps_ne hqd]; exact hb1, ?_⟩
                  rw [Array.getElem?_setIfInBounds_self_of_lt (Array.getElem?_eq_some_iff.1 hu1).1]
                · rw [List.getElem?_set_ne (fun h => htd h.symm)] at ht
                  obtain ⟨cs', b', h3, h4, h5⟩ := hO.oref t1 q1 off1 ht
                  have := hne h3
                  exact ⟨cs', b', by rw [List.getElem?_set_ne (fun h => this h.symm)]; exact h3, by rw [tmps_ne this]; exact h4, by rw [tmps_ne htd]; exact h5⟩
          · cases hs
        · cases hs
      · cases hs
    · cases hs
  · -- reading
    rename_i t z d' hop hdst
    simp only [Option.map_eq_some_iff, Prod.mk.injEq] at hk
    obtain ⟨q, _, rfl, rfl, rfl⟩ := hk
    simp only [List.map_cons, List.map_nil, step] at hs
    unfold sOload at hs
    split at hs
    · rename_i vz cs heq
      simp only [List.cons.injEq, and_true] at heq
      obtain ⟨rfl, hq⟩ := heq
      split at hs
      · cases hs
      · rename_i hok
        split at hs
        · rename_i o' hof
          split at hs
          · rename_i v' hl
            simp only [Option.some.injEq, Prod.mk.injEq] at hs
            obtain ⟨rfl, rfl⟩ := hs
            obtain ⟨b, arr, e, hb1, hb2, hb3, hb4, hb5, hb6, hb7⟩ := off_ok hO hof hq
            have hmem : MemC w I ρ s.H b 0 cs := fun j c hj => by
              obtain ⟨u, hu, hr⟩ := hb4.get hj
              exact ⟨u, by rw [Nat.zero_add, cell_at hb3]; simpa using hu, hr⟩
            obtain ⟨u, hu, hr⟩ := loadC_ok (P := P) hT (ok_of (by simpa using hok)) hmem hl
            have hvo : v'.isO = false := by
              unfold loadC at hl
              split at hl
              · split at hl
                · cases hl; rfl
                · cases hl
              · split at hl
                · cases hl; rfl
                · cases hl
            refine ⟨rfl, Res.value (G := fun v2 w2 => v2 = u ∧ w2 = w) (v := u) (w' := w) ?_ ⟨rfl, rfl⟩ K Q ?_⟩
            · rw [Nat.zero_add, ← hb2] at hu
              simp [execOp, hop, hu]
            · rintro v2 w2 ⟨rfl, rfl⟩
              rw [hdst]
              exact hK _ _ ⟨I, ρ, hC, ⟨RF_put hF hr, hO.put (by simpa [free, Go.AM.K.isOst] using hfree) hvo⟩, hd, hE, hm, hkeep⟩
          · cases hs
        · cases hs
    · cases hs
  · -- writing
    rename_i t z y hop hdst
    simp only [Option.map_eq_some_iff, Prod.mk.injEq] at hk
    obtain ⟨q, _, rfl, rfl, rfl⟩ := hk
    simp only [List.map_cons, List.map_nil, step] at hs
    unfold sOstore at hs
    split at hs
    · rename_i vz cs vy heq
      simp only [List.cons.injEq, and_true] at heq
      obtain ⟨rfl, hq, rfl⟩ := heq
      split at hs
      · cases hs
      · rename_i hok
        split at hs
        · rename_i o' xs hof hcs
          split at hs
          · rename_i hfit
            simp only [Option.some.injEq, Prod.mk.injEq] at hs
            obtain ⟨rfl, rfl⟩ := hs
            obtain ⟨b, arr, e, hb1, hb2, hb3, hb4, hb5, hb6, hb7⟩ := off_ok hO hof hq
            obtain ⟨hA, hone⟩ := cellsC_ok (RV_ev hF y) hcs
            have hlen : (a.eval y).cells.toList.length = xs.length := hA.length.symm
            have harr : arr.size = cs.length := by rw [← Array.length_toList, ← hb4.length]
            have hfit' : o' + (a.eval y).cells.toList.length ≤ arr.size := by rw [hlen, harr]; exact hfit.2
            obtain ⟨w1, hrun, hw⟩ : ∃ w1, (Instr.storeAt t (a.eval (.tmp z)) (a.eval y)).run P w = .ok () w1 ∧ Wr w b w1 (arr.toList.take o' ++ (a.eval y).cells.toList ++ arr.toList.drop (o' + (a.eval y).cells.toList.length)).toArray := by
              refine ⟨_, ?_, wr_setRow hb3 hfit'⟩
              rw [hb2]
              exact storeAt_run (w := w) hT (ok_of (by simpa using hok)) hb3 (v := a.eval y) (by rw [← Array.length_toList, hlen, hfit.1]) hone hfit'
            obtain ⟨hC', hrc, hrv, _⟩ := side_ok hC hw hb6 hb7
            refine ⟨rfl, Res.skip (G := fun v2 w2 => v2 = .tuple #[] ∧ w2 = w1) (w' := w1) (by simp only [execOp, hop, Sem.run_bind, hrun]; rfl) ⟨rfl, rfl⟩ K Q ?_⟩
            rintro v2 w2 ⟨rfl, rfl⟩
            rw [hdst]
            refine hK _ _ ⟨I, ρ, hC', ⟨fun t1 x1 hx1 => ?_, ?_⟩, hd, ?_, hm, hkeep⟩
            · simp only [put, List.getElem?_set] at hx1
              split at hx1
              · rename_i hqt
                subst hqt
                split at hx1
                · rename_i hl
                  cases hx1
                  obtain ⟨u, hu, _⟩ := hF q _ (List.getElem?_eq_getElem hl)
                  exact ⟨u, hu, trivial⟩
                · cases hx1
              · obtain ⟨u, hu, hr⟩ := hF t1 x1 hx1
                exact ⟨u, hu, hrv _ _ hr⟩
            · show OwnF w0.heap.size _ I ρ s.H (s.fr.set q (.own (putCells cs o' xs))) a.tmps
              have hoth : ∀ {t1 : Nat} {cs1 : List C}, t1 ≠ q → s.fr[t1]? = some (.own cs1) → ∀ b1, a.tmps[t1]? = some (.pointer (some ⟨b1, 0, none⟩)) → b1 ≠ b := by
                rintro t1 cs1 hn ht b1 hb1' rfl
                exact hO.dis t1 q cs1 cs hn ht (ev_at hq) (hb1'.trans hb1.symm)
              have hsplit : ∀ {t1 : Nat} {cs1 : List C}, (s.fr.set q (.own (putCells cs o' xs)))[t1]? = some (.own cs1) → (t1 = q ∧ cs1 = putCells cs o' xs) ∨ (t1 ≠ q ∧ s.fr[t1]? = some (.own cs1)) := by
                intro t1 cs1 ht
                rw [List.getElem?_set] at ht
                split at ht
                · rename_i h; subst h
                  split at ht
                  · cases ht; exact .inl ⟨rfl, rfl⟩
                  · cases ht
                · rename_i h; exact .inr ⟨fun h' => h h'.symm, ht⟩
              refine ⟨fun t1 cs1 ht => ?_, fun t1 t2 cs1 cs2 hn ht1 ht2 => ?_, fun t1 q1 off1 ht => ?_⟩
              · rcases hsplit ht with ⟨rfl, rfl⟩ | ⟨hn, ht⟩
                · obtain ⟨arr1, e1, h3, h4, hsz⟩ := hw.here
                  rw [hb3] at h3
                  cases h3
                  refine ⟨b, _, _, hb1, h4, ?_, hb5, hb6, hb7⟩
                  refine A2.of_get ?_ fun j c u hj hu => ?_
                  · rw [putCells_length]
                    exact harr.symm.trans (hsz.symm.trans (Array.length_toList ..).symm)
                  · rw [putCells_get hfit.2] at hj
                    have hu' : (arr.toList.take o' ++ (a.eval y).cells.toList ++ arr.toList.drop (o' + (a.eval y).cells.toList.length)).toArray[j]? = some u := by simpa using hu
                    rw [splice_get _ _ _ hfit', hlen] at hu'
                    split at hj
                    · rename_i hin
                      rw [if_pos hin] at hu'
                      obtain ⟨u2, hu2, hr2⟩ := hA.get hj
                      rw [hu'] at hu2; cases hu2
                      exact hrc _ _ hr2
                    · rename_i hin
                      rw [if_neg hin] at hu'
                      obtain ⟨u2, hu2, hr2⟩ := hb4.get hj
                      have : arr.toList[j]? = some u := by simpa using hu'
                      rw [this] at hu2; cases hu2
                      exact hrc _ _ hr2
                · obtain ⟨b1, arr1, e1, h3, h4, h5, h6, h7, h8⟩ := hO.own t1 cs1 ht
                  exact ⟨b1, arr1, e1, h3, (hw.other b1 (hoth hn ht b1 h3)).trans h4, h5.imp fun _ _ h => hrc _ _ h, h6, h7, h8⟩
              · have hold : ∀ {t1 : Nat} {cs1 : List C}, (s.fr.set q (.own (putCells cs o' xs)))[t1]? = some (.own cs1) → ∃ cs2, s.fr[t1]? = some (.own cs2) := by
                  intro t1 cs1 ht
                  rcases hsplit ht with ⟨rfl, _⟩ | ⟨_, ht⟩
                  · exact ⟨cs, ev_at hq⟩
                  · exact ⟨_, ht⟩
                obtain ⟨c1, h3⟩ := hold ht1
                obtain ⟨c2, h4⟩ := hold ht2
                exact hO.dis t1 t2 c1 c2 hn h3 h4
              · have htq : t1 ≠ q := by
                  rintro rfl
                  have hl := (List.getElem?_eq_some_iff.1 ht).1
                  rw [List.getElem?_set_self (by simpa using hl)] at ht
                  cases ht
                rw [List.getElem?_set_ne (fun h => htq h.symm)] at ht
                obtain ⟨cs', b', h3, h4, h5⟩ := hO.oref t1 q1 off1 ht
                by_cases hq1 : q1 = q
                · subst hq1
                  refine ⟨putCells cs o' xs, b', ?_, h4, h5⟩
                  rw [List.getElem?_set_self (List.getElem?_eq_some_iff.1 h3).1]
                · exact ⟨cs', b', by rw [List.getElem?_set_ne (fun h => hq1 h.symm)]; exact h3, h4, h5⟩
            · exact ⟨hw.os.trans hE.os, hw.tape.trans hE.tape, hw.output.trans hE.output, by rw [hw.size]; exact hE.size, fun b1 h1 h2 => (hw.other b1 (by omega)).trans (hE.same b1 h1 h2), fun b1 n h1 => hw.cap (hE.cap b1 n h1), hE.imm, hE.new, hE.own⟩
          · cases hs
        · cases hs
    · cases hs
  · cases hk
theorem compOp_notO {tb : Tab} {op : Op} {k : K} {xs : List Operand} (h : compOp tb op = some (k, xs)) : k.isO = false := by
  unfold compOp at h
  split at h
  · rename_i r hr
    simp only [Option.some.injEq] at h
    subst h
    unfold compOp0 at hr
    repeat' split at hr
    all_goals first
      | (simp only [reduceCtorEq] at hr; done)
      | (simp only [Option.some.injEq, Prod.mk.injEq] at hr; obtain ⟨rfl, _⟩ := hr; rfl)
      | skip
    all_goals
      unfold compCall at hr
      repeat' split at hr
      all_goals first | (simp only [reduceCtorEq] at hr; done) | (simp only [Option.some.injEq, Prod.mk.injEq] at hr; obtain ⟨rfl, _⟩ := hr; rfl)
  · simp only [Option.some.injEq, Prod.mk.injEq] at h
    obtain ⟨rfl, _⟩ := h
    rfl
theorem ins_ok {E : Env} {ob : OB} {ops : Array Oper} {Q : Exit → Act → World → Prop} (hT : TabOk P E.tb) (hO : OrcOk P E.orc) {i : Nat} {o : Oper} (ho : ops[i]? = some o) {x : Ins} (hx : compIns E.tb ob ops o = some x) {md : Md} {L0 : Nat} {s s' : St}
    (hs : stepIns E L0 { x with m := md } s = some s') {a : Act} {w : World} (hS : SR w0 I0 ρ0 H0 mm s a w) {K : Act → World → Prop} (hK : ∀ a' w', SR w0 I0 ρ0 H0 mm s' a' w' → K a' w') : wpOp P ops Q i K a w := by
  have hS0 := hS
  obtain ⟨I, ρ, hC, ⟨hF, hOw⟩, hd, hE, hm, hkeep⟩ := hS
  unfold wpOp
  rw [ho]
  simp only
  have hgd : (o.guard = none ∧ x.g = none) ∨ ∃ j want g, o.guard = some (j, want) ∧ (ops[j]?).bind (·.dst) = some g ∧ x.g = some (g, want) ∧ x.dst = o.dst := by
    unfold compIns at hx
    split at hx
    · rename_i d k xs hk
      split at hx
      · rename_i hg; cases hx; exact .inl ⟨hg, rfl⟩
      · rename_i j want hg
        split at hx
        · cases hx
        · rename_i hst
          split at hx
          · rename_i g hgg
            cases hx
            refine .inr ⟨j, want, g, hg, hgg, rfl, ?_⟩
            unfold compOwn at hk
            split at hk
            · rename_i h1 h2; split at hk <;> simp only [reduceCtorEq, Option.some.injEq, Prod.mk.injEq] at hk; obtain ⟨rfl, _⟩ := hk; exact h2.symm
            · rename_i h1 h2; split at hk <;> simp only [reduceCtorEq, Option.some.injEq, Prod.mk.injEq] at hk; obtain ⟨rfl, _⟩ := hk; exact h2.symm
            · rename_i h1 h2; simp only [Option.map_eq_some_iff, Prod.mk.injEq] at hk; obtain ⟨_, _, rfl, _⟩ := hk; exact h2.symm
            · rename_i h1 h2; simp only [Option.map_eq_some_iff, Prod.mk.injEq] at hk; obtain ⟨_, _, rfl, _⟩ := hk; exact h2.symm
            · rename_i h1 h2; simp only [Option.map_eq_some_iff, Prod.mk.injEq] at hk; obtain ⟨_, _, rfl, rfl, _⟩ := hk; simp [Go.AM.K.isOst] at hst
            · cases hk
          · cases hx
    · split at hx
      · cases hx
      · split at hx
        · rename_i hg; cases hx; exact .inl ⟨hg, rfl⟩
        · rename_i j want hg
          split at hx
          · rename_i g hgg; cases hx; exact .inr ⟨j, want, g, hg, hgg, rfl, rfl⟩
          · cases hx
  have hdo : doIns E L0 { x with m := md } s = some s' → o.wp P a w K Q ∨ (o.asks P a w ∧ LetsOut Q) := by
    intro h
    left
    unfold doIns at h
    split at h
    · cases h
    · rename_i v es hstep
      split at h
      · rename_i hfr
        simp only [Bool.and_eq_true] at hfr
        split at h
        · cases h
        · rename_i H' happ
          simp only [Option.some.injEq] at h
          subst h
          cases hown : compOwn ob o with
          | some p =>
            obtain ⟨d, k, xs⟩ := p
            have hx3 : x.k = k ∧ x.xs = xs ∧ x.dst = d := by
              unfold compIns at hx
              rw [hown] at hx
              simp only at hx
              split at hx
              · cases hx; exact ⟨rfl, rfl, rfl⟩
              · split at hx
                · cases hx
                · split at hx
                  · cases hx; exact ⟨rfl, rfl, rfl⟩
                  · cases hx
            obtain ⟨h1, h2, h3⟩ := hx3
            simp only [h1, h2, h3] at hstep hfr hK
            have hes : es = [] := (own_ok (K := fun _ _ => True) (Q := Q) hT hown hstep hfr.1 hS0 fun _ _ _ => trivial).1
            subst hes
            cases applyE_nil happ
            exact (own_ok (K := K) (Q := Q) hT hown hstep hfr.1 hS0 hK).2
          | none =>
            obtain ⟨k, xs, hk, h1, h2, h3⟩ : ∃ k xs, compOp E.tb o.op = some (k, xs) ∧ x.k = k ∧ x.xs = xs ∧ x.dst = o.dst := by
              unfold compIns at hx
              rw [hown] at hx
              simp only at hx
              split at hx
              · cases hx
              · rename_i k xs hk
                split at hx
                · cases hx; exact ⟨k, xs, hk, rfl, rfl, rfl⟩
                · split at hx
                  · cases hx; exact ⟨k, xs, hk, rfl, rfl, rfl⟩
                  · cases hx
            simp only [h1, h2, h3] at hstep hfr hK
            have hko := compOp_notO hk
            have hkst : k.isOst = false := by cases k <;> simp [Go.AM.K.isO] at hko <;> rfl
            refine step_ok hT hO hC hF hk hstep happ K Q ?_
            rintro v' w' ⟨I', ρ', hC', hs', hr⟩
            have hvo : v.isO = false := by have := hfr.2; rw [hko] at this; simpa using this
            refine hK _ _ ⟨I', ρ', hC', ⟨RF_put' (RF_stp hC hs' hF) hr, OwnF_put' (hOw.stp hC hs') hkst hfr.1 hvo⟩, by rw [put_defers]; exact hd, hE.trans hs'.ext, Nat.le_trans hm hs'.len, fun id hid => ?_⟩
            obtain ⟨h1, h2⟩ := hkeep id hid
            exact ⟨(hs'.rho id (Nat.lt_of_lt_of_le hid hm)).trans h1, fun hg => hs'.gone id (h2 hg)⟩
      · cases h
  have hskip : x.dst = o.dst → skipIns { x with m := md } s = some s' → K (a.put o.dst undef) w := by
    intro hxd h
    unfold skipIns at h
    simp only [hxd] at h
    split at h
    · rename_i hfr
      simp only [Option.some.injEq] at h
      subst h
      exact hK _ _ ⟨I, ρ, hC, ⟨RF_put' hF tup_nil, OwnF_put' hOw rfl hfr rfl⟩, by rw [put_defers]; exact hd, hE, hm, hkeep⟩
    · cases h
  unfold stepIns at hs
  rcases hgd with ⟨hg, hxg⟩ | ⟨j, want, d, hg, hj, hxg, hxd⟩
  · simp only [hxg] at hs
    have hw : Region.wanted o (yielded ops a.tmps) = true := by simp [Region.wanted, hg]
    rw [if_pos hw]
    exact hdo hs
  · simp only [hxg] at hs
    rw [List.getD_eq_getElem?_getD] at hs
    cases hfr : s.fr[d]? with
    | none => rw [hfr] at hs; cases hs
    | some vv =>
      rw [hfr] at hs
      simp only [Option.getD_some] at hs
      obtain ⟨u, hu, hr⟩ := hF d vv hfr
      have hcase : (∃ b, vv = .c (.t (.bool b))) ∨ vv = .tup [] := by
        split at hs
        · exact .inl ⟨_, rfl⟩
        · exact .inr rfl
        · cases hs
      rcases hcase with ⟨b, rfl⟩ | rfl
      · simp only at hs
        have hub : u = .bool b := hr
        have hy : yielded ops a.tmps j = some b := by simp [yielded, hj, hu, hub]
        have hw : Region.wanted o (yielded ops a.tmps) = (some b == some want) := by simp [Region.wanted, hg, hy]
        rw [hw]
        split at hs
        · rename_i hbw
          subst hbw
          simp only [beq_self_eq_true, if_true]
          exact hdo hs
        · rename_i hbw
          have : (some b == some want) = false := by simpa using hbw
          rw [this]
          simp only [Bool.false_eq_true, if_false]
          exact hskip hxd hs
      · simp only at hs
        have hub : u = .tuple #[] := by obtain ⟨us, h1, h2⟩ := hr; cases h2; exact h1
        have hy : yielded ops a.tmps j = none := by simp [yielded, hj, hu, hub]
        have hw : Region.wanted o (yielded ops a.tmps) = false := by simp [Region.wanted, hg, hy]
        rw [hw]
        simp only [Bool.false_eq_true, if_false]
        exact hskip hxd hs
theorem applyE_len {m : Md} {L0 : Nat} : ∀ {es : List Eff} {H H' : List Ob}, applyE m L0 es H = some H' → H.length ≤ H'.length
  | [], H, H', h => by rw [applyE_nil h]; exact Nat.le_refl _
  | .push o :: es, H, H', h => by
    have := applyE_len (applyE_push h)
    simp at this
    omega
  | .set id o :: es, H, H', h => by
    have := applyE_len (applyE_set h)
    simpa using this
theorem stepIns_len {E : Env} {L0 : Nat} {x : Ins} {s s' : St} (h : stepIns E L0 x s = some s') : s.H.length ≤ s'.H.length := by
  have hdo : doIns E L0 x s = some s' → s.H.length ≤ s'.H.length := by
    intro h
    unfold doIns at h
    split at h
    · cases h
    · split at h
      · split at h
        · cases h
        · rename_i H' happ
          cases h
          exact applyE_len happ
      · cases h
  have hskip : skipIns x s = some s' → s.H.length ≤ s'.H.length := by
    intro h
    unfold skipIns at h
    split at h
    · cases h
      exact Nat.le_refl _
    · cases h
  unfold stepIns at h
  split at h
  · exact hdo h
  · split at h
    · split at h
      · exact hdo h
      · exact hskip h
    · exact hskip h
    · cases h
theorem wpOps_ok {E : Env} {ob : OB} {ops : Array Oper} {Q : Exit → Act → World → Prop} (hT : TabOk P E.tb) (hO : OrcOk P E.orc) {L0 : Nat} : ∀ (l : List Oper) (k : Nat), (∀ j, l[j]? = ops[k + j]?) → ∀ {is : List Ins}, compAll E.tb ob ops l = some is → ∀ {s s' : St}, runIs E L0 is s = some s' →
    ∀ {a : Act} {w : World}, SR w0 I0 ρ0 H0 mm s a w → (∀ a' w', SR w0 I0 ρ0 H0 mm s' a' w' → Q .normal a' w') → wpOps P ops Q (List.range' k l.length) a w
  | [], k, _, is, hc, s, s', hr, a, w, hS, hQ => by
    simp only [compAll, Option.some.injEq] at hc
    subst hc
    simp only [runIs, Option.some.injEq] at hr
    subst hr
    simpa [wpOps] using hQ a w hS
  | o :: l, k, hl, is, hc, s, s', hr, a, w, hS, hQ => by
    simp only [compAll] at hc
    split at hc
    · rename_i x xs hx hxs
      simp only [Option.some.injEq] at hc
      subst hc
      simp only [runIs, Option.bind_eq_some_iff] at hr
      obtain ⟨s1, h1, h2⟩ := hr
      rw [List.length_cons, List.range'_succ, wpOps_cons]
      have h0 : ops[k]? = some o := by simpa using (hl 0).symm
      refine ins_ok hT hO h0 hx (md := x.m) h1 hS fun a' w' hS' => ?_
      exact wpOps_ok hT hO l (k + 1) (fun j => by have := hl (j + 1); simpa [Nat.add_assoc, Nat.add_comm 1 j] using this) hxs h2 hS' hQ
    · cases hc
end
end Go.AM
