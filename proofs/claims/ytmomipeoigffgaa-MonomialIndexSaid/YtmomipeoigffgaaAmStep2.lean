/- The rest of the operations but calls. -/
import Derived.Test.YtmomipeoigffgaaAmStep
set_option linter.unusedVariables false
set_option linter.unusedSimpArgs false
namespace Go.AM

section
variable {P : Program} {I I' : Nat → Prop} {ρ ρ' : Rho} {H H' H0 H1 : List Ob} {w w' : World} {tb : Tab}
variable {o : Oper} {a : Act} {fr : List V} {m : Md} {L0 : Nat} {v : V} {es : List Eff}

theorem go_skip {w' : World} (h : (execOp a.eval o).run P w = .ok .skip w') (hp : Post I ρ H w v H' (.tuple #[]) w') : Goal P I ρ H w o a v H' := Res.skip h hp

theorem tup_nil {w : World} {I : Nat → Prop} {ρ : Rho} {H : List Ob} : RV w I ρ H (.tup []) (.tuple #[]) := ⟨[], rfl, .nil⟩

theorem applyE_split {m : Md} {L0 : Nat} {rest : List Eff} : ∀ {es : List Eff} {H : List Ob}, applyE m L0 (es ++ rest) H = some H' → ∃ H2, applyE m L0 es H = some H2 ∧ applyE m L0 rest H2 = some H'
  | [], H, h => ⟨H, rfl, h⟩
  | .push o :: es, H, h => by
    have hown := own_of_push h
    obtain ⟨H2, h1, h2⟩ := applyE_split (applyE_push h)
    exact ⟨H2, by simp only [applyE, hown, if_true]; exact h1, h2⟩
  | .set id o :: es, H, h => by
    obtain ⟨H2, h1, h2⟩ := applyE_split (applyE_set h)
    refine ⟨H2, ?_, h2⟩
    cases m with
    | sync => exact h1
    | al =>
      simp only [List.cons_append, applyE] at h
      split at h
      · rename_i hl; simp only [applyE, hl, if_true]; exact h1
      · cases h
    | low => simp [applyE] at h
    | free => simp [applyE] at h

theorem st_store (hT : TabOk P tb) (hC : Ctx I ρ H w) (hF : RF w I ρ H fr a.tmps) {t : TypeId} {x y : Operand} (ho : o.op = .store t x y) (h : sStore (getM m L0 H) (m.nx H.length) (tb.at t) [ev fr x, ev fr y] = some (v, es)) (he : applyE m L0 es H = some H') : Goal P I ρ H w o a v H' := by
  obtain ⟨id, off, x', h1, rfl, hk, hc⟩ := inv_store h
  simp only [List.cons.injEq, and_true] at h1
  obtain ⟨h1, rfl⟩ := h1
  have hx := RV_ev hF x
  have hy := RV_ev hF y
  rw [h1] at hx
  have hx' : RP ρ H id off (a.eval x) := hx
  have key : ∀ {I1 : Nat → Prop} {ρ1 : Rho} {H1 : List Ob} {ob ob' : Ob} {b o' : Nat}, Ctx I1 ρ1 H1 w → Stp I ρ H w I1 ρ1 H1 w → H1[id]? = some ob → ob.mine → ob'.mine → ρ1 id = some (b, o') → a.eval x = .pointer (some ⟨b, o' + off, none⟩) →
      (a.eval y).cells.toList.length = (tb.at t).size → (∀ z ∈ (a.eval y).cells.toList, z.oneCell' = true) → (∀ cur e, w.heap[b]? = some (.cells cur e (0, 0)) → o' + off + (a.eval y).cells.toList.length ≤ cur.size ∧
        (o' + off + (a.eval y).cells.toList.length ≤ cur.size → Cont w I1 ρ1 H1 o' (cur.toList.take (o' + off) ++ (a.eval y).cells.toList ++ cur.toList.drop (o' + off + (a.eval y).cells.toList.length)).toArray ob')) → H' = H1.set id ob' → Goal P I ρ H w o a (.tup []) H' := by
    intro I1 ρ1 H1 ob ob' b o' hC1 hs1 hH1 hm hm' hr hp hsz hone hcont hH'
    obtain ⟨_, cur, e, hb⟩ := hC1.own ⟨ob, hH1, hm⟩ hr
    obtain ⟨hfit, hc⟩ := hcont cur e hb
    have hrun := storeAt_run (w := w) hT (ok_of hk) hb (by rw [← Array.length_toList]; exact hsz) hone hfit
    obtain ⟨hC2, hs2⟩ := write_ok hC1 hH1 hm hr hm' (wr_setRow hb hfit) (hc hfit)
    subst hH'
    refine go_skip ?_ ⟨I1, ρ1, hC2, hs1.trans hs2, tup_nil⟩
    rw [← hp] at hrun
    simp [execOp, ho, hrun]
  have fit : ∀ {H2 : List Ob} {I2 : Nat → Prop} {cs : List C} {b o' n : Nat} {cur : Array Value} {e : TypeId}, MemC w I2 ρ H2 b o' cs → w.heap[b]? = some (.cells cur e (0, 0)) → 1 ≤ n → off + n ≤ cs.length → o' + off + n ≤ cur.size := by
    intro H2 I2 cs b o' n cur e hm hb h1 h2
    obtain ⟨u, hu, _⟩ := hm (off + n - 1) _ (List.getElem?_eq_getElem (by omega))
    rw [cell_at hb] at hu
    have := (Array.getElem?_eq_some_iff.1 hu).1
    omega
  rcases hc with ⟨cs, xs, fs, hg, hct, hno, ⟨hl, hl1⟩, hfit, rfl⟩ | ⟨cs, xs, hg, hct, ⟨hl, hl1⟩, hfit, rfl⟩
  · have hH := getM_some hg
    rcases hx' with ⟨hgn, _⟩ | ⟨b, o', hr, hp⟩
    · unfold GN at hgn; rw [hH] at hgn; cases hgn
    · obtain ⟨H2', he1, he2⟩ := applyE_split he
      have he1' : applyE m L0 (fs ++ []) H = some H2' := by simpa using he1
      obtain ⟨I2, H2, hC2, hs2, _, hA, hone, he3⟩ := cellsT_ok hC (Frz.refl H) hy hct he1'
      cases applyE_nil he3
      obtain ⟨H3, he4, hH2⟩ := noSet_get (H2 := H) hno he1' hH
      cases applyE_nil he4
      have hlen : (a.eval y).cells.toList.length = xs.length := hA.length.symm
      refine key hC2 hs2 hH2 rfl (ob' := .flat false (putCells cs off xs)) rfl hr hp (by rw [hlen, hl]) hone (fun cur e hb => ⟨?_, fun hfit' j c hj => ?_⟩) (applyE_nil (applyE_set he2))
      · rcases hC2.obj _ _ hH2 with ⟨h, _⟩ | ⟨b', o'', h1', h2', _⟩
        · rw [h] at hr; cases hr
        · rw [hr] at h1'; cases h1'
          rw [hlen]
          obtain ⟨u, hu, _⟩ := h2' (off + xs.length - 1) _ (List.getElem?_eq_getElem (by omega))
          rw [cell_at hb] at hu
          have := (Array.getElem?_eq_some_iff.1 hu).1
          omega
      · rw [putCells_get hfit] at hj
        rw [splice_get _ _ _ hfit', hlen]
        split at hj
        · rename_i hin
          rw [if_pos (by omega)]
          obtain ⟨u, hu, hru⟩ := hA.get hj
          exact ⟨u, by rw [show o' + j - (o' + off) = j - off by omega]; exact hu, hru⟩
        · rename_i hin
          rw [if_neg (by omega)]
          rcases hC2.obj _ _ hH2 with ⟨h, _⟩ | ⟨b', o'', h1', h2', _⟩
          · rw [h] at hr; cases hr
          · rw [hr] at h1'; cases h1'
            obtain ⟨u, hu, hru⟩ := h2' j c hj
            rw [cell_at hb] at hu
            exact ⟨u, hu, hru⟩
  · have hH := getM_some hg
    rcases hx' with ⟨hgn, _⟩ | ⟨b, o', hr, hp⟩
    · unfold GN at hgn; rw [hH] at hgn; cases hgn
    · obtain ⟨hA, hone⟩ := cellsC_ok hy hct
      have hown : m.own = true := by
        obtain ⟨H2, _, h2⟩ := applyE_split he
        cases m with
        | sync => rfl
        | al => rfl
        | low => simp [applyE] at h2
        | free => simp [applyE] at h2
      rw [nx_own hown] at he
      have he1 := applyE_phants he
      obtain ⟨hC1, hs1, hr1⟩ := nils_ok (ks := (tb.at t).cks) hC hA
      have hlen : (a.eval y).cells.toList.length = xs.length := hA.length.symm
      have hlen1 : (nilsOf H.length (tb.at t).cks xs).1.length = xs.length := by rw [hr1.length, hlen]
      have hH1 : (H ++ List.replicate (nilsOf H.length (tb.at t).cks xs).2 (Ob.flat false []))[id]? = some (.mix false cs) := by
        rw [List.getElem?_append_left (List.getElem?_eq_some_iff.1 hH).1]; exact hH
      have hm1 : MemC w I ρ (H ++ List.replicate (nilsOf H.length (tb.at t).cks xs).2 (Ob.flat false [])) b o' cs := by
        obtain ⟨b', o'', h1', h2', _⟩ := hC1.obj _ _ hH1
        rw [hr] at h1'; cases h1'
        exact h2'
      refine key hC1 hs1 hH1 rfl (ob' := .mix false (putCells cs off (nilsOf H.length (tb.at t).cks xs).1)) rfl hr hp (by rw [hlen, hl]) hone (fun cur e hb => ⟨?_, fun hfit' j c hj => ?_⟩) (applyE_nil (applyE_set he1))
      · rw [hlen]; exact fit hm1 hb hl1 hfit
      · rw [putCells_get (by rw [hlen1]; exact hfit), hlen1] at hj
        rw [splice_get _ _ _ hfit', hlen]
        split at hj
        · rename_i hin
          rw [if_pos (by omega)]
          obtain ⟨u, hu, hru⟩ := hr1.get hj
          exact ⟨u, by rw [show o' + j - (o' + off) = j - off by omega]; exact hu, hru⟩
        · rename_i hin
          rw [if_neg (by omega)]
          obtain ⟨u, hu, hru⟩ := hm1 j c hj
          rw [cell_at hb] at hu
          exact ⟨u, hu, hru⟩

theorem st_iaddr (hT : TabOk P tb) (hC : Ctx I ρ H w) (hF : RF w I ρ H fr a.tmps) {t : TypeId} {x y : Operand} (ho : o.op = .indexAddr t x y) (h : sIaddr tb (tb.at t).k [ev fr x, ev fr y] = some (v, es)) (he : applyE m L0 es H = some H') : Goal P I ρ H w o a v H' := by
  obtain ⟨rfl, x', ik, j, h1, h0, hc⟩ := inv_iaddr h
  cases applyE_nil he
  simp only [List.cons.injEq, and_true] at h1
  obtain ⟨rfl, h1⟩ := h1
  have hx := RV_ev hF x
  have hy := RV_ev hF y
  rw [h1] at hy
  have hy' : a.eval y = .int ik j := hy
  rcases hc with ⟨e, n, cs, hk, hxe, hoe, hj, rfl⟩ | ⟨e, id, off, len, sz, hk, hxe, hj, hoe, rfl, rfl⟩ | ⟨e, n, id, off, hk, hxe, hj, hoe, hn, rfl⟩
  · rw [hxe] at hx
    simp only [RV, RV1, RC, RT] at hx
    obtain ⟨A, c, hv, hnc, hs⟩ := hx
    rcases hs with ⟨h, _⟩ | ⟨ad, rfl, hs⟩
    · omega
    · refine go_value (u := .pointer (some (ad.add (j.toNat * (tb.at e).size)))) (w' := w) ?_ (Post.same hC ?_)
      · simp [execOp, ho, hy', hv, Instr.indexAt, asIntOf, run_underlying (hT.slice hk), h0, hj, sizeOf_run hT hoe]
      · simp only [RV, RV1, RC, RT]
        exact ⟨ad, rfl, hs⟩
  · rw [hxe] at hx
    simp only [RV, RV1, RC] at hx
    rcases hx with ⟨hgn, A, c, hv, hnc, hA⟩ | ⟨_, _, rfl, _⟩ | ⟨b, o', c, hr, hv, hnc, _⟩
    · rcases hA with rfl | ⟨ad, rfl⟩
      · omega
      · refine go_value (u := .pointer (some (ad.add (j.toNat * (tb.at e).size)))) (w' := w) ?_ (Post.same hC (.inl ⟨hgn, _, rfl⟩))
        simp [execOp, ho, hy', hv, Instr.indexAt, asIntOf, run_underlying (hT.slice hk), h0, hj, sizeOf_run hT hoe]
    · omega
    · refine go_value (u := .pointer (some ⟨b, o' + (off + j.toNat * (tb.at e).size), none⟩)) (w' := w) ?_ (Post.same hC (.inr ⟨b, o', hr, rfl⟩))
      simp [execOp, ho, hy', hv, Instr.indexAt, asIntOf, run_underlying (hT.slice hk), h0, hj, sizeOf_run hT hoe, add_plain, Nat.add_assoc]
  · rw [hxe] at hx
    simp only [RV, RV1, RC] at hx
    rcases hx with ⟨hgn, ad, hv⟩ | ⟨b, o', hr, hv⟩
    · refine go_value (u := .pointer (some (ad.add (j.toNat * (tb.at e).size)))) (w' := w) ?_ (Post.same hC (.inl ⟨hgn, _, rfl⟩))
      simp [execOp, ho, hy', hv, Instr.indexAt, asIntOf, Instr.sureAddr, run_underlying (hT.array hk), h0, hj, sizeOf_run hT hoe]
    · refine go_value (u := .pointer (some ⟨b, o' + (off + j.toNat * (tb.at e).size), none⟩)) (w' := w) ?_ (Post.same hC (.inr ⟨b, o', hr, rfl⟩))
      simp [execOp, ho, hy', hv, Instr.indexAt, asIntOf, Instr.sureAddr, run_underlying (hT.array hk), h0, hj, sizeOf_run hT hoe, add_plain, Nat.add_assoc]

theorem capsOf_ok {vs : List V} {us : List Value} (hr : A2 (RV w I ρ H) vs us) : ∀ {l : List (Nat × Nat)}, capsOf vs = some l → A2 (fun p u => RP ρ H p.1 p.2 u) l us := by
  induction hr with
  | nil => intro l h; simp [capsOf] at h; subst h; exact .nil
  | cons h t ih =>
    intro l hl
    unfold capsOf at hl
    split at hl
    · rename_i heq; cases heq
    · rename_i id off vs' heq
      cases heq
      simp only [Option.map_eq_some_iff] at hl
      obtain ⟨l', h1, rfl⟩ := hl
      exact .cons h (ih h1)
    · cases hl

theorem st_mkfn (hC : Ctx I ρ H w) (hF : RF w I ρ H fr a.tmps) {f : FuncId} {first caps : Array Operand} (hfi : first = #[]) (ho : o.op = .makeFunc (.func f) first caps) (h : sMkfn f (caps.toList.map (ev fr)) = some (v, es)) (he : applyE m L0 es H = some H') : Goal P I ρ H w o a v H' := by
  obtain ⟨l, h1, rfl, rfl⟩ := inv_mkfn h
  cases applyE_nil he
  subst hfi
  refine go_value (u := .func (.func f) #[] (caps.map a.eval)) (w' := w) ?_ (Post.same hC ⟨caps.toList.map a.eval, ?_, capsOf_ok (A2.map_ev hF caps.toList) h1⟩)
  · simp [execOp, ho, Instr.makeFunc]
  · congr 1
    apply Array.ext'
    simp

theorem st_ext (hC : Ctx I ρ H w) (hF : RF w I ρ H fr a.tmps) {x : Operand} {i : Nat} (ho : o.op = .extract x i) (h : sExt i [ev fr x] = some (v, es)) (he : applyE m L0 es H = some H') : Goal P I ρ H w o a v H' := by
  obtain ⟨l, h1, h2, rfl⟩ := inv_ext h
  cases applyE_nil he
  simp only [List.cons.injEq, and_true] at h1
  have hx := RV_ev hF x
  rw [h1] at hx
  obtain ⟨us, hv, hA⟩ := hx
  obtain ⟨u, hu, hr⟩ := hA.get h2
  refine go_value (u := u) (w' := w) ?_ (Post.same hC ?_)
  · simp [execOp, ho, hv, Instr.extract, hu]
  · cases v with
    | tup vs =>
      cases vs with
      | nil => exact ⟨[], hr, .nil⟩
      | cons _ _ => exact hr.elim
    | c _ => exact hr
    | agg _ => exact hr
    | any => exact hr

theorem st_len (hT : TabOk P tb) (hC : Ctx I ρ H w) (hF : RF w I ρ H fr a.tmps) {t : TypeId} {x : Operand} {c : Call} (hcal : c.callee = .builtin .len) (hty : c.argTypes.toList = [t]) (harg : c.args.toList = [x]) (ho : o.op = .call c) (h : sLen (tb.at t).k [ev fr x] = some (v, es)) (he : applyE m L0 es H = some H') : Goal P I ρ H w o a v H' := by
  obtain ⟨rfl, x', h1, hc⟩ := inv_len h
  cases applyE_nil he
  simp only [List.cons.injEq, and_true] at h1
  subst h1
  have hx := RV_ev hF x
  have harg' : c.args = #[x] := by apply Array.ext'; simpa using harg
  have hty' : c.argTypes = #[t] := by apply Array.ext'; simpa using hty
  have key : ∀ {n : Int}, (Builtin.len_ #[t] o.type #[a.eval x]).run P w = .ok (.int .i64 n) w → v = .c (.t (.int .i64 n)) → Goal P I ρ H w o a v H := by
    rintro n hn rfl
    refine go_value (u := .int .i64 n) (w' := w) ?_ (Post.same hC (show RT w I (.int .i64 n) _ by simp [RT]))
    simp [execOp, ho, resolve, hcal, harg', hty', invoke, builtin, hn]
  rcases hc with ⟨e, hk, hc⟩ | ⟨s, hk, hxe, rfl⟩ | ⟨n, e, hk, rfl⟩
  · rcases hc with ⟨hxe, rfl⟩ | ⟨n, cs, hxe, rfl⟩ | ⟨id, off, n, sz, hxe, rfl⟩
    · rw [hxe] at hx
      have hv : a.eval x = .slice none 0 0 := by simpa [RV, RV1, RC, RT] using hx
      exact key (by simp [Builtin.len_, run_underlying (hT.slice hk), hv, goInt]) rfl
    · rw [hxe] at hx
      simp only [RV, RV1, RC, RT] at hx
      obtain ⟨A, c', hv, _⟩ := hx
      exact key (by simp [Builtin.len_, run_underlying (hT.slice hk), hv, goInt]) rfl
    · rw [hxe] at hx
      simp only [RV, RV1, RC] at hx
      have hv : ∃ A c', a.eval x = .slice A n c' := by
        rcases hx with ⟨_, A, c', hv, _⟩ | ⟨_, _, rfl, hv⟩ | ⟨b, o', c', _, hv, _⟩
        · exact ⟨_, _, hv⟩
        · exact ⟨_, _, hv⟩
        · exact ⟨_, _, hv⟩
      obtain ⟨A, c', hv⟩ := hv
      exact key (by simp [Builtin.len_, run_underlying (hT.slice hk), hv, goInt]) rfl
  · rw [hxe] at hx
    have hv : a.eval x = .string s := hx
    exact key (by simp [Builtin.len_, run_underlying (hT.str hk), hv, goInt]) rfl
  · exact key (by simp [Builtin.len_, run_underlying (hT.array hk), goInt]) rfl

theorem st_max (hC : Ctx I ρ H w) (hF : RF w I ρ H fr a.tmps) {x y : Operand} {c : Call} (hcal : c.callee = .builtin .max) (harg : c.args.toList = [x, y]) (ho : o.op = .call c) (h : sMax [ev fr x, ev fr y] = some (v, es)) (he : applyE m L0 es H = some H') : Goal P I ρ H w o a v H' := by
  obtain ⟨k, p, k', q, h1, rfl, rfl⟩ := inv_max h
  cases applyE_nil he
  simp only [List.cons.injEq, and_true] at h1
  have hx := RV_ev hF x
  have hy := RV_ev hF y
  rw [h1.1] at hx
  rw [h1.2] at hy
  have hx' : a.eval x = .int k p := hx
  have hy' : a.eval y = .int k' q := hy
  have harg' : c.args = #[x, y] := by apply Array.ext'; simpa using harg
  refine go_value (u := .int k (if q > p then q else p)) (w' := w) ?_ (Post.same hC (show RT w I (.int k (if q > p then q else p)) _ by simp [RT]))
  have hr := run_max_int2 (P := P) w c.argTypes o.type k k' p q
  simp only [execOp, ho, resolve, hcal, harg']
  simp [invoke, builtin, hx', hy', hr]

theorem st_min (hC : Ctx I ρ H w) (hF : RF w I ρ H fr a.tmps) {x y : Operand} {c : Call} (hcal : c.callee = .builtin .min) (harg : c.args.toList = [x, y]) (ho : o.op = .call c) (h : sMin [ev fr x, ev fr y] = some (v, es)) (he : applyE m L0 es H = some H') : Goal P I ρ H w o a v H' := by
  obtain ⟨k, p, k', q, h1, rfl, rfl⟩ := inv_min h
  cases applyE_nil he
  simp only [List.cons.injEq, and_true] at h1
  have hx := RV_ev hF x
  have hy := RV_ev hF y
  rw [h1.1] at hx
  rw [h1.2] at hy
  have hx' : a.eval x = .int k p := hx
  have hy' : a.eval y = .int k' q := hy
  have harg' : c.args = #[x, y] := by apply Array.ext'; simpa using harg
  refine go_value (u := .int k (if q < p then q else p)) (w' := w) ?_ (Post.same hC (show RT w I (.int k (if q < p then q else p)) _ by simp [RT]))
  have hr := run_min_int2 (P := P) w c.argTypes o.type k k' p q
  simp only [execOp, ho, resolve, hcal, harg']
  simp [invoke, builtin, hx', hy', hr]

theorem isSlice_elem {k : TK} (h : k.isSlice = true) : ∃ e, k = .slice e := by
  cases k <;> simp [TK.isSlice] at h
  exact ⟨_, rfl⟩

theorem info_of (hT : TabOk P tb) {e : TypeId} (h : isOther (tb.at e).k = false) : ∃ inf z, P.info? e = some inf ∧ inf.size = (tb.at e).size ∧ inf.bytes = (tb.at e).bytes ∧ inf.zero = some z ∧ z.cells.size = (tb.at e).size ∧ (tb.at e).zeros.length = (tb.at e).size := by
  rcases hT e with h' | h'
  · rw [h'] at h; cases h
  · obtain ⟨inf, z, h1, h2, h3, h4, h5, _⟩ := h'.info
    exact ⟨inf, z, h1, h2, h3, h4, by rw [← Array.length_toList, h5]; simp [h'.len], h'.len⟩

theorem run_lit (hT : TabOk P tb) {t e : TypeId} (hk : (tb.at t).k = .slice e) (h2 : isOther (tb.at e).k = false) {inf : TypeInfo} {z : Value} (hi : P.info? e = some inf) (hz : inf.zero = some z) {n : Nat} (h3 : n * (tb.at e).size ≤ 16777216)
    {parts : Array (Nat × Value)} {arr' : Array Value} (hf : Instr.fill (fun i => some (i * (tb.at e).size, (tb.at e).size)) (madeCells z.cells (n * (tb.at e).size)) parts.toList = some arr') :
    (Instr.buildSlice t n parts).run P w = .ok (.slice (some ⟨w.heap.size, 0, none⟩) n n) (w.alloc (.cells arr' e)) := by
  have hzv : (zeroValue e).run P w = .ok z w := by simp [zeroValue, typeInfo, hi, hz]
  have hu := run_underlying (hT.slice hk) w
  have hs := sizeOf_run (w := w) hT (ok_of h2)
  unfold Instr.buildSlice
  simp only [Sem.run_bind, hu, hs, Result.andThen]
  generalize hN : n * (tb.at e).size = N at *
  rw [if_neg (by omega)]
  by_cases h0 : N = 0
  · subst h0
    have hm : ∀ f : Nat → Value, (Array.range 0).map f = #[] := fun f => by simp
    unfold madeCells at hf
    rw [hm] at hf
    simp [hm, hf, newRow]
  · unfold madeCells at hf
    simp [h0, hzv, hf, newRow]

theorem st_mkslice (hT : TabOk P tb) (hC : Ctx I ρ H w) (hF : RF w I ρ H fr a.tmps) {t : TypeId} {n : Nat} {ps : Array (Nat × Operand)} (ho : o.op = .buildSlice t n ps) (h : sMkslice m.own (getM m L0 H) (m.nx H.length) (tb.at t).k.isSlice (tb.at (tb.at t).elem) n (pairsFst ps) ((pairsSnd ps).map (ev fr)) = some (v, es)) (he : applyE m L0 es H = some H') : Goal P I ρ H w o a v H' := by
  obtain ⟨h1, h2, h3, cs, fs, hl, hc⟩ := inv_mkslice h
  obtain ⟨e, hk⟩ := isSlice_elem h1
  have hel : (tb.at t).elem = e := by simp [TI.elem, hk]
  rw [hel] at h2 h3 hl hc
  obtain ⟨inf, z, hi, hsz, hby, hz, hzs, hzl⟩ := info_of hT h2
  have hacc : A2 (RT w I) (zeroRow (tb.at e) n) (madeCells z.cells (n * (tb.at e).size)).toList := by
    refine A2.of_get (by rw [zeroRow_length, hzl, Array.length_toList, size_madeCells]) fun j x u hx hu => ?_
    obtain ⟨u', hu', hr⟩ := made_cont (w := w) (I := I) hT (ok_of h2) hi hz (Nat.le_refl n) j x hx
    have : some u' = some u := by rw [← hu', ← hu]; simp
    cases this
    exact hr
  have hzip : (pairsFst ps).zip ((pairsSnd ps).map a.eval) = (ps.map fun p => (p.1, a.eval p.2)).toList := by
    apply List.ext_getElem?
    intro j
    unfold pairsFst pairsSnd
    simp only [List.map_map, List.getElem?_zip_eq_some, Array.toList_map]
    rw [List.zip_map', List.getElem?_map, List.getElem?_map]
    rfl
  have hrun : ∀ arr', Instr.fill (fun i => some (i * (tb.at e).size, (tb.at e).size)) (madeCells z.cells (n * (tb.at e).size)) ((pairsFst ps).zip ((pairsSnd ps).map a.eval)) = some arr' →
      (execOp a.eval o).run P w = .ok (.value (.slice (some ⟨w.heap.size, 0, none⟩) n n)) (w.alloc (.cells arr' e)) := by
    intro arr' hf
    rw [hzip] at hf
    have := run_lit (w := w) hT hk h2 hi hz h3 hf
    simp [execOp, ho, this]
  rcases hc with ⟨hown, rfl, rfl⟩ | ⟨hown, rfl, rfl⟩
  · obtain ⟨I2, H2, arr', hC2, hs2, hf2, hfill, hA, he2⟩ := lit_ok hzl hC (Frz.refl H) (A2.map_ev hF _) hacc hl he
    have he3 := applyE_nil (applyE_push he2)
    subst he3
    have hH2 : H2.length = H.length := hf2.len
    rw [nx_own hown, ← hH2]
    obtain ⟨hC3, hs3⟩ := push_ok (e := e) hC2 (o := .flat false cs) (arr := arr') rfl (flat_cont hA)
    refine go_value (hrun _ hfill) ⟨_, _, hC3, hs2.trans hs3, ?_⟩
    refine .inr (.inr ⟨w.heap.size, 0, n, by simp [upd], rfl, Nat.le_refl _, arr', e, (0, 0), heap_alloc_new w _, ?_⟩)
    rw [← Array.length_toList, ← hA.length, lit_length hl, zeroRow_length, hzl]
    omega
  · have he' : applyE m L0 (es ++ []) H = some H' := by simpa using he
    obtain ⟨I2, H2, arr', hC2, hs2, hf2, hfill, hA, he2⟩ := lit_ok hzl hC (Frz.refl H) (A2.map_ev hF _) hacc hl he'
    cases applyE_nil he2
    obtain ⟨hC3, hs3⟩ := alloc_imm (arr := arr') (e := e) hC2
    refine go_value (hrun _ hfill) ⟨_, _, hC3, hs2.trans hs3, ?_⟩
    simp only [RV, RV1, RC, RT]
    refine ⟨_, _, rfl, Nat.le_refl _, .inr ⟨_, rfl, RTs_mk fun j c hj => ?_⟩⟩
    obtain ⟨u, hu, hr⟩ := hA.get hj
    refine ⟨.inr rfl, u, ?_, RT_fix hs3.fix c u hr⟩
    rw [Nat.zero_add, add_plain, cell_at (heap_alloc_new w _)]
    simpa using hu
end
end Go.AM
