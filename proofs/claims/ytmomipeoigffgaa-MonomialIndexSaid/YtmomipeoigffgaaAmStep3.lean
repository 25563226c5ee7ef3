/- Appending, as an operation. -/
import Derived.Test.YtmomipeoigffgaaAmStep2
set_option linter.unusedVariables false
set_option linter.unusedSimpArgs false
namespace Go.AM

section
variable {P : Program} {I I' : Nat → Prop} {ρ ρ' : Rho} {H H' H0 H1 : List Ob} {w w' : World} {tb : Tab}
variable {o : Oper} {a : Act} {fr : List V} {m : Md} {L0 : Nat} {v : V} {es : List Eff}

theorem A2_one {w : World} {I : Nat → Prop} {xs : List T} {us : List Value} (h : A2 (RT w I) xs us) : ∀ x ∈ us, x.oneCell' = true := by
  intro x hx
  obtain ⟨j, hj⟩ := List.getElem?_of_mem hx
  obtain ⟨a, _, hr⟩ := h.get' hj
  exact RT_one hr

theorem A2.append' {α β : Type} {R : α → β → Prop} {as as' : List α} {bs bs' : List β} (h : A2 R as bs) (h' : A2 R as' bs') : A2 R (as ++ as') (bs ++ bs') := h.append h'

/-- A slice grown into a new block. -/
theorem grown_ok (hT : TabOk P tb) (hC : Ctx I ρ H w) {e : TypeId} (h2 : isOther (tb.at e).k = false) {inf : TypeInfo} {z : Value} (hsz : inf.size = (tb.at e).size) (hzs : z.cells.size = (tb.at e).size)
    {old new : List T} {olds news : List Value} (ho : A2 (RT w I) old olds) (hn : A2 (RT w I) new news) {n mm cap : Nat} (hlo : olds.length = n * (tb.at e).size) (hln : news.length = mm * (tb.at e).size) (hcap : n + mm ≤ cap) :
    Post I ρ H w (.c (.osl H.length 0 (n + mm) (tb.at e).size)) (H ++ [.flat false (old ++ new)]) (.slice (some ⟨w.heap.size, 0, none⟩) (n + mm) cap)
      (w.drew.alloc (.cells (olds.toArray ++ news.toArray ++ Builtin.zeroCells z.cells (cap - (n + mm))) e)) := by
  obtain ⟨hC1, hs1⟩ := drew_ok hC
  obtain ⟨hC2, hs2⟩ := push_ok (e := e) hC1 (o := .flat false (old ++ new)) (arr := olds.toArray ++ news.toArray ++ Builtin.zeroCells z.cells (cap - (n + mm))) rfl (fun j c hj => by
    obtain ⟨u, hu, hr⟩ := (ho.append hn).get hj
    refine ⟨u, ?_, RT_fix hs1.fix c u hr⟩
    have hlt := (List.getElem?_eq_some_iff.1 hu).1
    rw [Nat.zero_add, Array.getElem?_append_left (by simp at hlt ⊢; omega)]
    simpa using hu)
  refine ⟨_, _, hC2, hs1.trans hs2, .inr (.inr ⟨w.heap.size, 0, cap, ?_, rfl, hcap, _, e, (0, 0), heap_alloc_new w.drew _, ?_⟩)⟩
  · simp [upd]
  · simp only [Array.size_append, List.size_toArray, size_zeroCells, hzs, hlo, hln, Nat.zero_add]
    rw [← Nat.add_mul, ← Nat.add_mul]
    exact Nat.mul_le_mul_right _ (by omega)

theorem Post.trans {w1 : World} {I1 : Nat → Prop} {ρ1 : Rho} {H1 : List Ob} (hs : Stp I ρ H w I1 ρ1 H1 w1) {v : V} {u : Value} (h : Post I1 ρ1 H1 w1 v H' u w') : Post I ρ H w v H' u w' := by
  obtain ⟨I2, ρ2, hC2, hs2, hr⟩ := h
  exact ⟨I2, ρ2, hC2, hs.trans hs2, hr⟩

theorem run_append {c : Call} {x y : Operand} {t u : TypeId} (hcal : c.callee = .builtin .append) (hty : c.argTypes.toList = [t, u]) (harg : c.args.toList = [x, y]) (ho : o.op = .call c) {r : Value} {w' : World}
    (h : (Builtin.append_ #[t, u] o.type #[a.eval x, a.eval y]).run P w = .ok r w') : (execOp a.eval o).run P w = .ok (.value r) w' := by
  have harg' : c.args = #[x, y] := by apply Array.ext'; simpa using harg
  have hty' : c.argTypes = #[t, u] := by apply Array.ext'; simpa using hty
  simp [execOp, ho, resolve, hcal, harg', hty', invoke, builtin, h]

theorem st_append (hT : TabOk P tb) (hC : Ctx I ρ H w) (hF : RF w I ρ H fr a.tmps) {t u : TypeId} {x y : Operand} {c : Call} (hcal : c.callee = .builtin .append) (hty : c.argTypes.toList = [t, u]) (harg : c.args.toList = [x, y])
    (hu : (tb.at u).k.isSlice = true) (ho : o.op = .call c) (h : sAppend (getM m L0 H) (m.nx H.length) (tb.at t).k.isSlice (tb.at (tb.at t).elem) [ev fr x, ev fr y] = some (v, es)) (he : applyE m L0 es H = some H') : Goal P I ρ H w o a v H' := by
  obtain ⟨s, y', mm, new, h1, hrow, h3, h4, h5, h6, hc⟩ := inv_append h
  simp only [List.cons.injEq, and_true] at h1
  obtain ⟨rfl, rfl⟩ := h1
  obtain ⟨e, hk⟩ := isSlice_elem h3
  obtain ⟨f, hk'⟩ := isSlice_elem hu
  have hel : (tb.at t).elem = e := by simp [TI.elem, hk]
  rw [hel] at h4 h5 h6 hc
  obtain ⟨inf, z, hi, hsz, hby, hz, hzs, hzl⟩ := info_of hT h4
  have hx := RV_ev hF x
  have hy := RV_ev hF y
  obtain ⟨A, c', news, hyv, _, hA, hsrc⟩ := row_ok hC (fun id ob hg => getM_some hg) hy hrow h6
  have hln : news.length = mm * (tb.at e).size := by rw [← hA.length]; exact h6
  have hnew : Src P w inf.size (a.eval y) mm news := by rw [hyv, hsz]; exact src_of hln (A2_one hA) hsrc
  have htn := hT.slice hk
  have hun := hT.slice hk'
  rcases hc with ⟨hs, hb, rfl, rfl⟩ | ⟨id, off, len, cs, hs, hg, hfit, hb, rfl, rfl⟩
  · have hown := own_of_push he
    rw [nx_own hown]
    have he1 := applyE_nil (applyE_push he)
    subst he1
    rw [hs] at hx
    have hxv : a.eval x = .slice none 0 0 := by simpa [RV, RV1, RC, RT] using hx
    rcases Nat.eq_zero_or_pos mm with rfl | hpos
    · have hn0 : news = [] := List.eq_nil_of_length_eq_zero (by simpa using hln)
      subst hn0
      have hn1 : new = [] := List.eq_nil_of_length_eq_zero (by simpa using h6)
      subst hn1
      obtain ⟨hC1, hs1, hn⟩ := phant_ok hC
      refine go_value (u := .slice none 0 0) (w' := w) (run_append hcal hty harg ho ?_) ⟨_, _, hC1, hs1, .inr (.inl ⟨by simp, hn, rfl, rfl⟩)⟩
      rw [hxv]
      exact run_app_none htn hun hi hnew
    · have hold : Src P w inf.size (.slice none 0 0) 0 [] := src_of (by simp) (by simp) (.inl rfl)
      have hb' : (0 + mm) * inf.bytes ≤ 140737488355328 := by rw [Nat.zero_add, hby]; exact hb
      have hrun := run_app_grow (ty := o.type) htn hun hi hz (by rw [hby]; exact h5) hold hnew (by omega) hb'
      have hp := grown_ok (old := []) (olds := []) (n := 0) (mm := mm) (cap := grownCap w (0 + mm) 0 e) hT hC h4 hsz hzs .nil hA (by simp) hln (grownCap_ge _ _ _ _)
      simp only [Nat.zero_add, List.nil_append] at hp hrun
      refine go_value (run_append hcal hty harg ho ?_) hp
      rw [hxv]
      exact hrun
  · have hH := getM_some hg
    have hown : m.own = true := by
      cases m with
      | sync => rfl
      | al => rfl
      | low => simp [applyE] at he
      | free => simp [applyE] at he
    rw [nx_own hown]
    have he1 := applyE_nil (applyE_push (applyE_set he))
    subst he1
    have hlen : (sub cs off (len * (tb.at e).size)).length = len * (tb.at e).size := by simp [sub]; omega
    have hrowx : rowOf (getM m L0 H) (ev fr x) = some (len, sub cs off (len * (tb.at e).size)) := by
      rw [hs]; simp [rowOf, hg, slot?]
    obtain ⟨A0, c0, olds, hxv, hlc, hA0, hsrc0⟩ := row_ok hC (fun id ob hg => getM_some hg) hx hrowx hlen
    have hlo : olds.length = len * (tb.at e).size := by rw [← hA0.length]; exact hlen
    have hold : Src P w inf.size (a.eval x) len olds := by rw [hxv, hsz]; exact src_of hlo (A2_one hA0) hsrc0
    obtain ⟨hCg, hsg⟩ := gone_ok hC hH rfl
    have hglen : (H.set id Ob.gone).length = H.length := by simp
    have hb' : (len + mm) * inf.bytes ≤ 140737488355328 := by rw [hby]; exact hb
    rw [hs] at hx
    simp only [RV, RV1, RC] at hx
    rcases hx with ⟨hgn, _⟩ | ⟨_, hr, rfl, hv⟩ | ⟨b, o', cc, hr, hv, hnc, hcapx⟩
    · unfold GN at hgn; rw [hH] at hgn; cases hgn
    · -- nil
      rw [hv] at hxv hold
      have ho0 : olds = [] := List.eq_nil_of_length_eq_zero (by simpa using hlo)
      have hs0 : sub cs off (0 * (tb.at e).size) = [] := List.eq_nil_of_length_eq_zero (by simpa using hlen)
      rcases Nat.eq_zero_or_pos mm with rfl | hpos
      · have hn0 : news = [] := List.eq_nil_of_length_eq_zero (by simpa using hln)
        subst hn0
        have hn1 : new = [] := List.eq_nil_of_length_eq_zero (by simpa using h6)
        subst hn1
        obtain ⟨hC1, hs1, hn⟩ := phant_ok hCg
        rw [hs0, List.append_nil]
        rw [hglen] at hn
        refine go_value (u := .slice none 0 0) (w' := w) (run_append hcal hty harg ho ?_) ⟨_, _, hC1, hsg.trans hs1, .inr (.inl ⟨by simp, hn, rfl, rfl⟩)⟩
        rw [hv]
        exact run_app_none htn hun hi hnew
      · have hrun := run_app_grow (ty := o.type) htn hun hi hz (by rw [hby]; exact h5) hold hnew (by omega) hb'
        have hp := grown_ok (old := sub cs off (0 * (tb.at e).size)) (olds := olds) (n := 0) (mm := mm) (cap := grownCap w (0 + mm) 0 e) hT hCg h4 hsz hzs hA0 hA hlo hln (grownCap_ge _ _ _ _)
        rw [hglen] at hp
        refine go_value (run_append hcal hty harg ho ?_) (hp.trans hsg)
        rw [hv]
        exact hrun
    · by_cases hroom : len + mm ≤ cc
      · obtain ⟨cur, e', hb0⟩ := (hC.own ⟨_, hH, rfl⟩ hr).2
        have hcap0 : o' + off + cc * (tb.at e).size ≤ cur.size := by
          obtain ⟨arr, e2, fz, h7, h8⟩ := hcapx
          rw [hb0] at h7
          cases h7
          exact h8
        have hmul : len * (tb.at e).size + news.length ≤ cc * (tb.at e).size := by rw [hln, ← Nat.add_mul]; exact Nat.mul_le_mul_right _ hroom
        have hfit' : o' + off + len * inf.size + news.length ≤ cur.size := by rw [hsz]; omega
        have hrun := run_app_room (ty := o.type) htn hun hi hb0 hnew hroom hfit'
        obtain ⟨hC2, hs2⟩ := take_ok (off' := o' + off) (o' := .flat false (sub cs off (len * (tb.at e).size) ++ new)) hC hH rfl hr rfl (wr_setRow hb0 hfit') (fun j t hj => by
          rw [splice_get _ _ _ hfit', hsz]
          rw [List.getElem?_append, hlen] at hj
          split at hj
          · rename_i hlt
            rw [if_neg (by omega)]
            unfold sub at hj
            rw [List.getElem?_take, if_pos hlt, List.getElem?_drop] at hj
            rcases hC.obj _ _ hH with ⟨h, _⟩ | ⟨b', o'', h1', h2', _⟩
            · rw [h] at hr; cases hr
            · rw [hr] at h1'; cases h1'
              obtain ⟨q, hq, hrq⟩ := h2' _ t hj
              rw [cell_at hb0] at hq
              exact ⟨q, by rw [show o' + off + j = o' + (off + j) by omega]; exact hq, hrq⟩
          · rename_i hge
            obtain ⟨q, hq, hrq⟩ := hA.get hj
            have := (List.getElem?_eq_some_iff.1 hq).1
            rw [if_pos (by omega)]
            exact ⟨q, by rw [show o' + off + j - (o' + off + len * (tb.at e).size) = j - len * (tb.at e).size by omega]; exact hq, hrq⟩)
        refine go_value (run_append hcal hty harg ho ?_) ⟨_, _, hC2, hs2, .inr (.inr ⟨b, o' + off, cc, by simp [upd], rfl, hroom, _, e', (0, 0), setRow_heap w b cur _ e' (0, 0) hb0, ?_⟩)⟩
        · rw [hv]; exact hrun
        · simp only [List.size_toArray, List.length_append, List.length_take, List.length_drop, Array.length_toList]
          omega
      · have hxv' : A0 = some ⟨b, o' + off, none⟩ ∧ c0 = cc := by rw [hv] at hxv; cases hxv; exact ⟨rfl, rfl⟩
        obtain ⟨rfl, rfl⟩ := hxv'
        rw [hv] at hold
        have hrun := run_app_grow (ty := o.type) htn hun hi hz (by rw [hby]; exact h5) hold hnew (by omega) hb'
        have hp := grown_ok (n := len) (mm := mm) (cap := grownCap w (len + mm) c0 e) hT hCg h4 hsz hzs hA0 hA hlo hln (grownCap_ge _ _ _ _)
        rw [hglen] at hp
        refine go_value (run_append hcal hty harg ho ?_) (hp.trans hsg)
        rw [hv]
        exact hrun

end
end Go.AM
