/- Every operation but a call. -/
import Derived.Test.YtmomipeoigffgaaAmStore
import Derived.Test.YtmomipeoigffgaaAmComp
set_option linter.unusedVariables false
set_option linter.unusedSimpArgs false
namespace Go.AM

section
variable {P : Program} {I I' : Nat → Prop} {ρ ρ' : Rho} {H H' H0 H1 : List Ob} {w w' : World} {tb : Tab}

/-- Memory made, and never written again. -/
theorem alloc_imm (hC : Ctx I ρ H w) {arr : Array Value} {e : TypeId} :
    Ctx (fun b => I b ∨ b = w.heap.size) ρ H (w.alloc (.cells arr e)) ∧ Stp I ρ H w (fun b => I b ∨ b = w.heap.size) ρ H (w.alloc (.cells arr e)) := by
  have hold : ∀ b, b < w.heap.size → (w.alloc (.cells arr e)).heap[b]? = w.heap[b]? := fun b hb => by simp only [World.alloc, Array.getElem?_push]; rw [if_neg (by omega)]
  have hs : Stp I ρ H w (fun b => I b ∨ b = w.heap.size) ρ H (w.alloc (.cells arr e)) := by
    refine ⟨Nat.le_refl _, fun _ _ => rfl, fun _ h => h, fun b hb => ⟨.inl hb, hold b (hC.lt b hb)⟩, rfl, rfl, rfl, by simp, fun b hb _ => hold b hb, fun b n hcap => ?_, fun _ h => .inl h, fun b hb => ?_, fun _ h => .inl h⟩
    · obtain ⟨a, e', fz, h1, h2⟩ := hcap
      exact ⟨a, e', fz, (hold b (lt_heap h1)).trans h1, h2⟩
    · rcases hb with hb | hb
      · exact .inl hb
      · exact .inr (.inr (by omega))
  refine ⟨⟨fun id ob hob => ?_, fun b hb => ?_, hC.dom, hC.inj⟩, hs⟩
  · have h := hC.obj id ob hob
    have hlt : ∀ b off, ob ≠ .gone → ρ id = some (b, off) → b < w.heap.size := by
      intro b off hg hr
      cases ob with
      | gone => exact absurd rfl hg
      | flat fr cs =>
        rcases h with ⟨h, _⟩ | ⟨b', o', h1, _, h3⟩
        · rw [h] at hr; cases hr
        · rw [h1] at hr; cases hr
          cases fr with
          | true => exact hC.lt _ h3
          | false => obtain ⟨_, _, _, h4⟩ := h3; exact lt_heap h4
      | mix fr cs =>
        obtain ⟨b', o', h1, _, h3⟩ := h
        rw [h1] at hr; cases hr
        cases fr with
        | true => exact hC.lt _ h3
        | false => obtain ⟨_, _, _, h4⟩ := h3; exact lt_heap h4
    refine RO_keep hC hs h (List.getElem?_eq_some_iff.1 hob).1 fun b off hg hr => ?_
    have := hlt b off hg hr
    exact ⟨hold b this, fun hn hh => by rcases hh with hh | hh; exact hn hh; omega⟩
  · rcases hb with hb | hb
    · have := hC.lt b hb; simp; omega
    · simp; omega

theorem A2.set {α β : Type} {R : α → β → Prop} {as : List α} {bs : List β} (h : A2 R as bs) {x : α} {y : β} (hr : R x y) : ∀ j, A2 R (as.set j x) (bs.set j y) := by
  induction h with
  | nil => intro j; simp; exact .nil
  | cons h t ih =>
    intro j
    cases j with
    | zero => exact .cons hr t
    | succ j => exact .cons h (ih j)
theorem A2.put {α β : Type} {R : α → β → Prop} {xs : List α} {ys : List β} (h : A2 R xs ys) : ∀ {as : List α} {bs : List β} (_ : A2 R as bs) (j : Nat), A2 R (putCells as j xs) (putCells bs j ys) := by
  induction h with
  | nil => intro as bs h j; exact h
  | cons h t ih => intro as bs hab j; exact ih (hab.set h j) (j + 1)

theorem fold_put (off : Nat) : ∀ (xs : List Value) (k : Nat) (cs : Array Value), ((xs.zipIdx k).foldl (fun (cs : Array Value) (p : Value × Nat) => cs.setIfInBounds (off + p.2) p.1) cs).toList = putCells cs.toList (off + k) xs
  | [], k, cs => rfl
  | x :: xs, k, cs => by
    simp only [List.zipIdx_cons, List.foldl_cons, putCells]
    rw [fold_put off xs (k + 1)]
    simp [Nat.add_assoc]

theorem lit_ok {m : Md} {L0 : Nat} {zs : List T} {size : Nat} (hz : zs.length = size) {H0 : List Ob} : ∀ {idx : List Nat} {vs : List V} {us : List Value} {I : Nat → Prop} {H1 : List Ob} {acc : List T} {arr : Array Value} (_ : Ctx I ρ H1 w) (_ : Frz H0 H1) (_ : A2 (RV w I ρ H1) vs us)
    (_ : A2 (RT w I) acc arr.toList) {cs : List T} {es rest : List Eff} (_ : lit (getM m L0 H0) zs idx vs acc = some (cs, es)) (_ : applyE m L0 (es ++ rest) H1 = some H'),
    ∃ I2 H2 arr', Ctx I2 ρ H2 w ∧ Stp I ρ H1 w I2 ρ H2 w ∧ Frz H0 H2 ∧ Instr.fill (fun i => some (i * size, size)) arr (idx.zip us) = some arr' ∧ A2 (RT w I2) cs arr'.toList ∧ applyE m L0 rest H2 = some H'
  | [], [], us, I, H1, acc, arr, hC, hf, hr, ha, cs, es, rest, h, he => by
    simp only [lit, Option.some.injEq, Prod.mk.injEq] at h
    obtain ⟨rfl, rfl⟩ := h
    cases hr
    exact ⟨I, H1, arr, hC, Stp.refl _ _ _ _, hf, by simp [Instr.fill], ha, he⟩
  | i :: idx, v :: vs, us, I, H1, acc, arr, hC, hf, hr, ha, cs, es, rest, h, he => by
    cases hr with
    | cons hr1 hr2 =>
      rename_i u us
      simp only [lit] at h
      split at h
      · cases h
      · rename_i ts es1 hts
        split at h
        · rename_i hl
          split at h
          · cases h
          · rename_i r fs hlit
            simp only [Option.some.injEq, Prod.mk.injEq] at h
            obtain ⟨rfl, rfl⟩ := h
            rw [List.append_assoc] at he
            obtain ⟨I2, H2, hC2, hs2, hf2, hx, h1, he2⟩ := cellsT_ok hC hf hr1 hts he
            have hul : u.cells.size = size := by rw [← Array.length_toList, ← hx.length, hl.1, hz]
            have hfold := fold_put (i * size) u.cells.toList 0 arr
            have hacc : A2 (RT w I2) (putCells acc (i * zs.length) ts) (u.cells.zipIdx.foldl (fun (cs : Array Value) (p : Value × Nat) => cs.setIfInBounds (i * size + p.2) p.1) arr).toList := by
              have : (u.cells.zipIdx.foldl (fun (cs : Array Value) (p : Value × Nat) => cs.setIfInBounds (i * size + p.2) p.1) arr).toList = putCells arr.toList (i * size) u.cells.toList := by
                rw [← Array.foldl_toList, Array.toList_zipIdx]
                simpa using hfold
              rw [this, hz]
              exact hx.put (ha.imp fun a b h => RT_fix hs2.fix a b h) _
            obtain ⟨I3, H3, arr', hC3, hs3, hf3, hfill, hcs, he3⟩ := lit_ok hz hC2 hf2 (hr2.imp fun a b hab => RV_stp hC hs2 hab) hacc hlit he2
            refine ⟨I3, H3, arr', hC3, hs2.trans hs3, hf3, ?_, hcs, he3⟩
            have hal : acc.length = arr.size := by rw [ha.length]; simp
            simp only [List.zip_cons_cons, Instr.fill]
            rw [if_neg (by
              have := hl.2
              rw [hz, hal] at this
              simp [hul]; omega)]
            exact hfill
        · cases h
  | [], _ :: _, _, _, _, _, _, _, _, _, _, _, _, _, h, _ => by simp [lit] at h
  | _ :: _, [], _, _, _, _, _, _, _, _, _, _, _, _, h, _ => by simp [lit] at h

theorem lit_length {get : Nat → Option Ob} {zs : List T} : ∀ {idx : List Nat} {vs : List V} {acc cs : List T} {es : List Eff}, lit get zs idx vs acc = some (cs, es) → cs.length = acc.length
  | [], [], acc, cs, es, h => by simp only [lit, Option.some.injEq, Prod.mk.injEq] at h; rw [← h.1]
  | i :: idx, v :: vs, acc, cs, es, h => by
    simp only [lit] at h
    split at h
    · cases h
    · split at h
      · split at h
        · cases h
        · rename_i hl
          simp only [Option.some.injEq, Prod.mk.injEq] at h
          rw [← h.1, lit_length hl, putCells_length]
      · cases h
  | [], _ :: _, _, _, _, h => by simp [lit] at h
  | _ :: _, [], _, _, _, h => by simp [lit] at h

theorem A2.map_ev {fr : List V} {a : Act} (hF : RF w I ρ H fr a.tmps) : ∀ xs : List Operand, A2 (RV w I ρ H) (xs.map (ev fr)) (xs.map a.eval)
  | [] => .nil
  | x :: xs => .cons (RV_ev hF x) (A2.map_ev hF xs)

/-- What an operation of the machine's comes to. -/
abbrev Goal (P : Program) (I : Nat → Prop) (ρ : Rho) (H : List Ob) (w : World) (o : Oper) (a : Act) (v : V) (H' : List Ob) : Prop :=
  Res P o a w (Post I ρ H w v H')

section
variable {o : Oper} {a : Act} {fr : List V} {m : Md} {L0 : Nat} {v : V} {es : List Eff}

theorem go_value {u : Value} {w' : World} (h : (execOp a.eval o).run P w = .ok (.value u) w') (hp : Post I ρ H w v H' u w') : Goal P I ρ H w o a v H' := Res.value h hp

theorem st_mv (hC : Ctx I ρ H w) (hF : RF w I ρ H fr a.tmps) {x : Operand} (ho : o.op = .move x ∨ o.op = .assign x) (h : sMv [ev fr x] = some (v, es)) (he : applyE m L0 es H = some H') : Goal P I ρ H w o a v H' := by
  obtain ⟨h1, rfl⟩ := inv_mv h
  cases applyE_nil he
  simp only [List.cons.injEq, and_true] at h1
  subst h1
  refine go_value (u := a.eval x) (w' := w) ?_ (Post.same hC (RV_ev hF x))
  rcases ho with ho | ho <;> simp [execOp, ho]

theorem st_pick (hC : Ctx I ρ H w) (hF : RF w I ρ H fr a.tmps) {c x y : Operand} (ho : o.op = .pick c x y) (h : sPick [ev fr c, ev fr x, ev fr y] = some (v, es)) (he : applyE m L0 es H = some H') : Goal P I ρ H w o a v H' := by
  obtain ⟨b, p, q, h1, rfl, rfl⟩ := inv_pick h
  cases applyE_nil he
  simp only [List.cons.injEq, and_true] at h1
  obtain ⟨h1, rfl, rfl⟩ := h1
  have hc := RV_ev hF c
  rw [h1] at hc
  have hc' : a.eval c = .bool b := hc
  refine go_value (u := if b then a.eval x else a.eval y) (w' := w) ?_ (Post.same hC ?_)
  · simp only [execOp, ho, hc']
    cases b <;> simp [asBool]
  · cases b
    · exact RV_ev hF y
    · exact RV_ev hF x

theorem st_bin (hT : TabOk P tb) (hC : Ctx I ρ H w) (hF : RF w I ρ H fr a.tmps) {op : BinOp} {t t' : TypeId} {x y : Operand} (ho : o.op = .binOp op t x y t') (h : sBin (tb.at t).k op [ev fr x, ev fr y] = some (v, es)) (he : applyE m L0 es H = some H') : Goal P I ρ H w o a v H' := by
  obtain ⟨p, q, r, h1, h2, rfl, rfl⟩ := inv_bin h
  cases applyE_nil he
  simp only [List.cons.injEq, and_true] at h1
  have hx := RV_ev hF x
  have hy := RV_ev hF y
  rw [h1.1] at hx
  rw [h1.2] at hy
  obtain ⟨hr, hs⟩ := bin_ok hT rfl (show RT w I p _ from hx) (show RT w I q _ from hy) h2 (xo := x) (yo := y)
  refine go_value (u := valT r) (w' := w) ?_ (Post.same hC (RT_valT hs))
  simp only [Sem.run_bind] at hr
  simp only [execOp, ho, Sem.run_bind, hr]
  rfl

theorem st_not (hC : Ctx I ρ H w) (hF : RF w I ρ H fr a.tmps) {t : TypeId} {x : Operand} (ho : o.op = .unOp .not t x) (h : sNot [ev fr x] = some (v, es)) (he : applyE m L0 es H = some H') : Goal P I ρ H w o a v H' := by
  obtain ⟨b, h1, rfl, rfl⟩ := inv_not h
  cases applyE_nil he
  simp only [List.cons.injEq, and_true] at h1
  have hx := RV_ev hF x
  rw [h1] at hx
  have hx' : a.eval x = .bool b := hx
  refine go_value (u := .bool (!b)) (w' := w) ?_ (Post.same hC (show RT w I (.bool (!b)) _ by simp [RT]))
  simp [execOp, ho, hx', Op.unary]

theorem st_neg (hC : Ctx I ρ H w) (hF : RF w I ρ H fr a.tmps) {t : TypeId} {x : Operand} (ho : o.op = .unOp .neg t x) (h : sNeg [ev fr x] = some (v, es)) (he : applyE m L0 es H = some H') : Goal P I ρ H w o a v H' := by
  obtain ⟨k, n, h1, rfl, rfl⟩ := inv_neg h
  cases applyE_nil he
  simp only [List.cons.injEq, and_true] at h1
  have hx := RV_ev hF x
  rw [h1] at hx
  have hx' : a.eval x = .int k n := hx
  refine go_value (u := .int k (k.wrap (0 - n))) (w' := w) ?_ (Post.same hC (show RT w I (.int k (k.wrap (0 - n))) _ by simp [RT]))
  simp [execOp, ho, hx', Op.unary, Op.intArith]

theorem st_conv (hT : TabOk P tb) (hC : Ctx I ρ H w) (hF : RF w I ρ H fr a.tmps) {s d : TypeId} {k k' : IntKind} {x : Operand} (ho : o.op = .convert s d x) (hs : (tb.at s).k = .int k') (hd : (tb.at d).k = .int k) (h : sConv k [ev fr x] = some (v, es)) (he : applyE m L0 es H = some H') : Goal P I ρ H w o a v H' := by
  obtain ⟨k2, n, h1, rfl, rfl⟩ := inv_conv h
  cases applyE_nil he
  simp only [List.cons.injEq, and_true] at h1
  have hx := RV_ev hF x
  rw [h1] at hx
  have hx' : a.eval x = .int k2 n := hx
  refine go_value (u := .int k (k.wrap n)) (w' := w) ?_ (Post.same hC (show RT w I (.int k (k.wrap n)) _ by simp [RT]))
  simp [execOp, ho, hx', Go.convert, run_underlying (hT.int hs), run_underlying (hT.int hd), Conv.intToInt]

theorem mix_cont {w : World} {I : Nat → Prop} {ρ : Rho} {H : List Ob} {cs : List C} {arr : Array Value} (h : A2 (RC w I ρ H) cs arr.toList) : Cont w I ρ H 0 arr (.mix false cs) := fun j c hj => by
  obtain ⟨u, hu, hr⟩ := h.get hj
  exact ⟨u, by simpa using hu, hr⟩
theorem flat_cont {w : World} {I : Nat → Prop} {ρ : Rho} {H : List Ob} {cs : List T} {arr : Array Value} (h : A2 (RT w I) cs arr.toList) : Cont w I ρ H 0 arr (.flat false cs) := fun j c hj => by
  obtain ⟨u, hu, hr⟩ := h.get hj
  exact ⟨u, by simpa using hu, hr⟩

/-- A variable in memory: its cells, nil slices told as objects. -/
theorem var_ok (hC : Ctx I ρ H w) {cs : List C} {arr : Array Value} {e : TypeId} (hr : A2 (RC w I ρ H) cs arr.toList) {ks : List CK}
    (he : applyE m L0 (phants (nilsOf (m.nx H.length) ks cs).2 ++ [.push (.mix false (nilsOf (m.nx H.length) ks cs).1)]) H = some H') :
    Post I ρ H w (.c (.ref (m.nx H.length + (nilsOf (m.nx H.length) ks cs).2) 0)) H' (.pointer (some ⟨w.heap.size, 0, none⟩)) (w.alloc (.cells arr e)) := by
  have hown := own_of_last he
  rw [nx_own hown] at he ⊢
  obtain ⟨hC1, hs1, hr1⟩ := nils_ok (ks := ks) hC hr
  have he1 := applyE_phants he
  have he2 := applyE_nil (applyE_push he1)
  subst he2
  obtain ⟨hC2, hs2⟩ := push_ok (e := e) hC1 (o := .mix false (nilsOf H.length ks cs).1) (arr := arr) rfl (mix_cont hr1)
  refine ⟨_, _, hC2, hs1.trans hs2, ?_⟩
  refine .inr ⟨w.heap.size, 0, ?_, rfl⟩
  simp [upd]

theorem st_alloc (hT : TabOk P tb) (hC : Ctx I ρ H w) {t : TypeId} (ho : o.op = .alloc t) (h : sAlloc (tb.at t) (m.nx H.length) [] = some (v, es)) (he : applyE m L0 es H = some H') : Goal P I ρ H w o a v H' := by
  obtain ⟨_, hk, rfl, rfl⟩ := inv_alloc h
  obtain ⟨inf, z, hi, hz, hA⟩ := zeros_A2 (w := w) (I := I) (ρ := ρ) (H := H) hT (ok_of hk)
  refine go_value (u := .pointer (some ⟨w.heap.size, 0, none⟩)) (w' := w.alloc (.cells z.cells t)) ?_ (var_ok hC hA he)
  simp [execOp, ho, Instr.alloc, zeroValue, typeInfo, hi, hz, newVar, newRow]

theorem st_box (hC : Ctx I ρ H w) (hF : RF w I ρ H fr a.tmps) {t : TypeId} {x : Operand} (ho : o.op = .box t x) (h : sBox (tb.at t) (m.nx H.length) [ev fr x] = some (v, es)) (he : applyE m L0 es H = some H') : Goal P I ρ H w o a v H' := by
  obtain ⟨y, cs, h1, h2, rfl, rfl⟩ := inv_box h
  simp only [List.cons.injEq, and_true] at h1
  subst h1
  obtain ⟨hA, _⟩ := cellsC_ok (RV_ev hF x) h2
  refine go_value (u := .pointer (some ⟨w.heap.size, 0, none⟩)) (w' := w.alloc (.cells (a.eval x).cells t)) ?_ (var_ok hC hA he)
  simp [execOp, ho, Instr.box, newVar, newRow]

theorem st_make (hT : TabOk P tb) (hC : Ctx I ρ H w) (hF : RF w I ρ H fr a.tmps) {t : TypeId} {x y : Operand} (ho : o.op = .makeSlice t x y) (h : sMake (m.nx H.length) (tb.at t).k.isSlice (tb.at (tb.at t).elem) [ev fr x, ev fr y] = some (v, es)) (he : applyE m L0 es H = some H') : Goal P I ρ H w o a v H' := by
  obtain ⟨l, c, h1, h2, h3, h4, h5, h6, h7, rfl, rfl⟩ := inv_make h
  simp only [List.cons.injEq, and_true] at h1
  have hx := RV_ev hF x
  have hy := RV_ev hF y
  rw [h1.1] at hx
  rw [h1.2] at hy
  have hx' : a.eval x = .int .i64 l := hx
  have hy' : a.eval y = .int .i64 c := hy
  have hown := own_of_push he
  rw [nx_own hown]
  have he2 := applyE_nil (applyE_push he)
  subst he2
  obtain ⟨e, hk⟩ : ∃ e, (tb.at t).k = .slice e := by cases hk : (tb.at t).k <;> simp [hk, TK.isSlice] at h2; exact ⟨_, rfl⟩
  have hel : (tb.at t).elem = e := by simp [TI.elem, hk]
  rw [hel] at h3 h6 ⊢
  obtain ⟨inf, z, hi, hsz, hby, hz, hzs, _⟩ : ∃ inf z, P.info? e = some inf ∧ inf.size = (tb.at e).size ∧ inf.bytes = (tb.at e).bytes ∧ inf.zero = some z ∧ z.cells.toList = (tb.at e).zeros.map valT ∧ isAggV z = (tb.at e).isAgg := by
    rcases hT e with h | h
    · rw [h] at h3; cases h3
    · exact h.info
  have hrun := run_make (P := P) w t e inf z (hT.slice hk) hi hz .i64 .i64 l c h4 h5 (by rw [hby, Int.mul_comm]; exact h6) (by omega)
  obtain ⟨hC2, hs2⟩ := push_ok (e := e) hC (o := .flat false (zeroRow (tb.at e) l.toNat)) (arr := madeCells z.cells (c.toNat * inf.size)) rfl (fun j x hj => by
    rw [hsz, Nat.zero_add]
    exact made_cont (w := w) (I := I) hT (ok_of h3) hi hz (by omega) j x hj)
  refine go_value (u := .slice (some ⟨w.heap.size, 0, none⟩) l.toNat c.toNat) ?_ ⟨_, _, hC2, hs2, ?_⟩
  · simp [execOp, ho, hx', hy', hrun]
  · refine .inr (.inr ⟨w.heap.size, 0, c.toNat, by simp [upd], rfl, by omega, madeCells z.cells (c.toNat * inf.size), e, (0, 0), heap_alloc_new w _, ?_⟩)
    rw [size_madeCells, hsz]; omega

theorem st_load (hT : TabOk P tb) (hC : Ctx I ρ H w) (hF : RF w I ρ H fr a.tmps) {t : TypeId} {x : Operand} (ho : o.op = .load t x) (h : sLoad (getM m L0 H) (tb.at t) [ev fr x] = some (v, es)) (he : applyE m L0 es H = some H') : Goal P I ρ H w o a v H' := by
  obtain ⟨rfl, hk, hc⟩ := inv_load h
  cases applyE_nil he
  have hx := RV_ev hF x
  have key : ∀ u, (Instr.loadAt t (a.eval x)).run P w = .ok u w → RV w I ρ H v u → Goal P I ρ H w o a v H := fun u hu hr =>
    go_value (u := u) (w' := w) (by simp [execOp, ho, hu]) (Post.same hC hr)
  rcases hc with ⟨p, h1, h2, h3⟩ | ⟨id, off, h1, h2⟩
  · simp only [List.cons.injEq, and_true] at h1
    rw [h1] at hx
    have hx' : RT w I p (a.eval x) := hx
    cases p <;> simp [T.isBox] at h2
    rename_i cs j
    simp only [RT] at hx'
    obtain ⟨ad, hv, hs⟩ := hx'
    simp only [T.bCs, T.bJ] at h3
    obtain ⟨u, hu, hr⟩ := loadT_ok (ρ := ρ) (H := H) hT (ok_of hk) (MemT.of_RTs hs) h3
    rw [← hv] at hu
    exact key u hu hr
  · simp only [List.cons.injEq, and_true] at h1
    rw [h1] at hx
    have hx' : RP ρ H id off (a.eval x) := hx
    rcases h2 with ⟨f, cs, hg, h3⟩ | ⟨f, cs, hg, h3⟩
    · have hH := getM_some hg
      rcases hx' with ⟨h, _⟩ | ⟨b, o', hr, hv⟩
      · unfold GN at h; rw [hH] at h; cases h
      · have hro := hC.obj _ _ hH
        rcases hro with ⟨h, _⟩ | ⟨b', o'', h1', h2', _⟩
        · rw [h] at hr; cases hr
        · rw [hr] at h1'; cases h1'
          obtain ⟨u, hu, hru⟩ := loadT_ok (ρ := ρ) (H := H) hT (ok_of hk) (ad := ⟨b, o', none⟩) (fun j c hc => by rw [add_plain]; exact h2' j c hc) h3
          rw [add_plain, ← hv] at hu
          exact key u hu hru
    · have hH := getM_some hg
      rcases hx' with ⟨h, _⟩ | ⟨b, o', hr, hv⟩
      · unfold GN at h; rw [hH] at h; cases h
      · obtain ⟨b', o'', h1', h2', _⟩ := hC.obj _ _ hH
        rw [hr] at h1'; cases h1'
        obtain ⟨u, hu, hru⟩ := loadC_ok hT (ok_of hk) h2' h3
        rw [← hv] at hu
        exact key u hu hru

theorem noSet_get {id : Nat} : ∀ {es : List Eff} {rest : List Eff} {H H' H2 : List Ob} {L0 : Nat} {m : Md}, noSet id es = true → applyE m L0 (es ++ rest) H = some H' → ∀ {o : Ob}, H[id]? = some o → (∃ H2, applyE m L0 rest H2 = some H' ∧ H2[id]? = some o)
  | [], rest, H, H', H2, L0, m, _, h, o, ho => ⟨H, h, ho⟩
  | .push o' :: es, rest, H, H', H2, L0, m, hn, h, o, ho => by
    refine noSet_get (H2 := H2) (by simpa [noSet] using hn) (applyE_push h) ?_
    rw [List.getElem?_append_left (List.getElem?_eq_some_iff.1 ho).1]; exact ho
  | .set j o' :: es, rest, H, H', H2, L0, m, hn, h, o, ho => by
    simp only [noSet, Bool.and_eq_true, Bool.not_eq_true', beq_eq_false_iff_ne, ne_eq] at hn
    refine noSet_get (H2 := H2) hn.2 (applyE_set h) ?_
    rw [List.getElem?_set_ne hn.1]; exact ho

end
end
end Go.AM
