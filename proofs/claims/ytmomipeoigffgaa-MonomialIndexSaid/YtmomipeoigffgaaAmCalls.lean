/- The abstract machine's calls are the model's. -/
import Derived.Test.YtmomipeoigffgaaAmRun
set_option linter.unusedVariables false
set_option linter.unusedSimpArgs false
namespace Go.AM

section
variable {P : Program} {w0 : World} {I0 : Nat → Prop} {ρ0 : Rho} {H0 : List Ob} {mm : Nat}

theorem RV_renT {w : World} {I : Nat → Prop} {ρ ρ2 : Rho} {H H2 : List Ob} {f : Nat → Option Nat} (hR : Ren ρ H f ρ2 H2) (hd : ∀ id p, ρ id = some p → id < H.length) {vs : List V} {us : List Value} (h : A2 (RV w I ρ H) vs us) :
    RV w I ρ2 H2 (renV f (.tup vs)) (.tuple us.toArray) := by
  refine ⟨us, rfl, A2.map_left (h.imp fun x u hx => ?_)⟩
  by_cases ht : noTup x = true
  · exact RV1_ren hR hd (RV1_of ht hx)
  · cases x with
    | tup vs => cases vs with
      | nil => simp [noTup] at ht
      | cons _ _ => trivial
    | _ => simp [noTup] at ht

theorem finish_ok {imp : Bool} {fd : Fun} {s : St} {a : Act} {w' : World} {fn : Func} {r : V} {H' : List Ob} (hr : fn.results.toList = fd.results.map .tmp) (h5 : fd.results.length ≤ 5)
    (h : finish imp H0.length fd s = some (r, H')) (hS : SR w0 I0 ρ0 H0 H0.length s a w') :
    a.defers = [] ∧ ∃ v, (results fn a.tmps).run P w' = .ok v w' ∧ ∃ I' ρ', Ctx I' ρ' H' w' ∧ RV w' I' ρ' H' r v ∧ Ext w0 I0 (ownd ρ0 H0) w' I' (ownd ρ' H') ∧ (H0.length ≤ H'.length → ∀ id, id < H0.length → ρ' id = ρ0 id ∧ (GN H0 id → GN H' id)) := by
  obtain ⟨I, ρ, hC, hF, hd, hE, hm, hk⟩ := hS
  refine ⟨hd, _, results_run hr h5 a.tmps w', ?_⟩
  unfold finish at h
  simp only at h
  cases imp with
  | true =>
    simp only [if_true, Option.some.injEq, Prod.mk.injEq] at h
    obtain ⟨hn, hml, hid⟩ := live_keep (get := (s.H[·]?)) (n := depth) (m := H0.length) (todo := (List.range H0.length).flatMap (fun i => idsO s.H[i]?) ++ idsV (result fd.results s.fr))
    generalize reach (fun x => s.H[x]?) depth ((List.range H0.length).flatMap (fun i => idsO s.H[i]?) ++ idsV (result fd.results s.fr)) (List.range H0.length) = live at hn hml hid h
    obtain ⟨hC1, hR, hown⟩ := pack_ctx hC hn
    obtain ⟨rfl, rfl⟩ := h
    refine ⟨I, _, hC1, ?_, ⟨hE.os, hE.tape, hE.output, hE.size, hE.same, hE.cap, hE.imm, hE.new, fun b hb => hE.own b (hown b hb)⟩, fun _ id hid' => ⟨?_, fun hg => hR.gone id id (pos_of_get hn (hid id hid')) ((hk id hid').2 hg)⟩⟩
    · rcases result_ok hF (l := fd.results) with ⟨t, hl, hrv⟩ | ⟨hne, hres, hA⟩
      · rw [hl]
        exact RV_ren hR hC.dom hrv
      · rw [hres]
        rw [resV_tup hne]
        exact RV_renT hR hC.dom hA
    · simp only [hid id hid', Option.bind_some]
      exact (hk id hid').1
  | false =>
    simp only [Bool.false_eq_true, if_false, Option.map_eq_some_iff, Prod.mk.injEq] at h
    obtain ⟨r', hfr, rfl, rfl⟩ := h
    -- the objects that are handed back are frozen
    have key : ∃ I2 H2, Ctx I2 ρ H2 w' ∧ Stp I ρ s.H w' I2 ρ H2 w' ∧ RV w' I2 (fun _ => none) [] r' (resV fd.results a.tmps) := by
      rcases result_ok hF (l := fd.results) with ⟨t, hl, hrv⟩ | ⟨hne, hres, hA⟩
      · rw [hl] at hfr ⊢
        have hrw : result [t] s.fr = s.fr.getD t .any := rfl
        have hrv2 : resV [t] a.tmps = a.tmps.getD t undef := rfl
        rw [hrw] at hfr
        rw [hrv2]
        generalize s.fr.getD t .any = x0 at hfr hrv
        unfold frzR at hfr
        split at hfr
        · simp only [Option.map_eq_some_iff] at hfr
          obtain ⟨⟨xs, es⟩, h1, rfl⟩ := hfr
          obtain ⟨us, hus, hA⟩ := hrv
          obtain ⟨H2, happ⟩ := applyE_sync (H := s.H) (frzVs_sets h1)
          have h1' : frzVs (getM .sync 0 s.H) _ = some (xs, es) := h1
          obtain ⟨I2, H3, hC2, hs2, _, hx, _, _⟩ := frzVs_ok hC (Frz.refl s.H) (hA.imp fun _ _ h => RV1_RV h) h1' (rest := []) (by simpa using happ)
          exact ⟨I2, H3, hC2, hs2, us, hus, hx _ _⟩
        · simp only [Option.map_eq_some_iff] at hfr
          obtain ⟨⟨x, es⟩, h1, rfl⟩ := hfr
          obtain ⟨H2, happ⟩ := applyE_sync (H := s.H) (frzV_sets h1)
          have h1' : frzV (getM .sync 0 s.H) _ = some (x, es) := h1
          obtain ⟨I2, H3, hC2, hs2, _, hx, hnt, _⟩ := frzV_ok hC (Frz.refl s.H) hrv h1' (rest := []) (by simpa using happ)
          exact ⟨I2, H3, hC2, hs2, RV1_RV (hx _ _)⟩
      · rw [resV_tup hne]
        rw [hres] at hfr
        simp only [frzR, Option.map_eq_some_iff] at hfr
        obtain ⟨⟨xs, es⟩, h1, rfl⟩ := hfr
        obtain ⟨H2, happ⟩ := applyE_sync (H := s.H) (frzVs_sets h1)
        have h1' : frzVs (getM .sync 0 s.H) _ = some (xs, es) := h1
        obtain ⟨I2, H3, hC2, hs2, _, hx, _, _⟩ := frzVs_ok hC (Frz.refl s.H) hA h1' (rest := []) (by simpa using happ)
        exact ⟨I2, H3, hC2, hs2, _, rfl, hx _ _⟩
    obtain ⟨I2, H2, hC2, hs2, hrv⟩ := key
    refine ⟨I2, fun _ => none, ⟨by simp, hC2.lt, by simp, by simp⟩, hrv, ?_, ?_⟩
    · have := hE.trans hs2.ext
      exact ⟨this.os, this.tape, this.output, this.size, this.same, this.cap, this.imm, this.new, fun b hb => by obtain ⟨id, o, _, h⟩ := hb; cases h⟩
    · intro hl id hid
      have hl' : H0.length ≤ 0 := hl
      exact (Nat.not_lt_zero _ (Nat.lt_of_lt_of_le hid hl')).elim

/-- What is owed of the functions. -/
def FnsOk (P : Program) (G : Pg) : Prop := ∀ f fd, G.fn f = some fd → ∃ fn : Func, P.funcs[f]? = some fn ∧ comp G.tb fn = some fd ∧ (fn.name == "runtime.NumGoroutine") = false

theorem comp_inv {tb : Tab} {fn : Func} {fd : Fun} (h : comp tb fn = some fd) : ∃ c, fn.body = some c ∧ fd.ntmps = fn.ntmps ∧ fn.results.toList = fd.results.map .tmp ∧ fd.results.length ≤ 5 ∧ Cm tb c fd.body := by
  unfold comp at h
  split at h
  · cases h
  · rename_i c hc
    split at h
    · rename_i rs cd hrs hcd
      split at h
      · rename_i hl
        simp only [Option.some.injEq] at h
        subst h
        exact ⟨c, hc, rfl, resultTmps_ok hrs, hl, dress_ok (comp0_ok hcd) _⟩
      · cases h
    · cases h

theorem pcall_ok {G : Pg} (hP : P.follows .mixedOrders = true) (hT : TabOk P G.tb) (hG : FnsOk P G) : ∀ n, OrcOk P (pcall G n)
  | 0 => fun f vs H r H' h => by simp [pcall] at h
  | n + 1 => fun f vs H r H' h => by
    simp only [pcall] at h
    split at h
    · cases h
    · rename_i fd hfd
      obtain ⟨fn, hf, hc, hname⟩ := hG f fd hfd
      obtain ⟨c, hb, hnt, hres, h5, hcm⟩ := comp_inv hc
      refine ⟨⟨fn, hf, by rw [hb]; rfl, hname⟩, fun I ρ w us hC hA => ?_⟩
      have hO := pcall_ok hP hT hG n
      refine calls_of_wp hf hb ?_
      have hS : SR w I ρ H H.length ⟨vs ++ List.replicate (fd.ntmps - vs.length) (.tup []), H⟩ ⟨us.toArray ++ Array.replicate (fn.ntmps - us.toArray.size) undef, []⟩ w := by
        refine ⟨I, ρ, hC, ?_, rfl, Ext.refl _ _ _, Nat.le_refl _, fun _ _ => ⟨rfl, fun h => h⟩⟩
        intro t x hx
        have hl := hA.length
        rw [List.getElem?_append] at hx
        split at hx
        · rename_i ht
          obtain ⟨u, hu, hr⟩ := hA.get hx
          exact ⟨u, by rw [Array.getElem?_append_left (by simp; omega)]; simpa using hu, hr⟩
        · rename_i ht
          rw [List.getElem?_replicate] at hx
          split at hx
          · rename_i hlt
            cases hx
            refine ⟨undef, ?_, tup_nil⟩
            rw [Array.getElem?_append_right (by simp; omega), Array.getElem?_replicate, if_pos (by simp; omega)]
          · cases hx
      refine exec_ok (E := ⟨G.tb, G.imp, pcall G n, H.length⟩) hP hT hO rfl hcm h hS ?_
      intro e s' a' w' hS' he
      cases e with
      | norm =>
        obtain ⟨hd, v, hv, I', ρ', hrest⟩ := finish_ok (P := P) hres h5 he hS'
        exact ⟨hd, v, hv, v, I', ρ', rfl, hrest⟩
      | ret =>
        obtain ⟨hd, v, hv, I', ρ', hrest⟩ := finish_ok (P := P) hres h5 he hS'
        exact ⟨hd, v, hv, v, I', ρ', rfl, hrest⟩
      | exit id => cases he

end
end Go.AM
