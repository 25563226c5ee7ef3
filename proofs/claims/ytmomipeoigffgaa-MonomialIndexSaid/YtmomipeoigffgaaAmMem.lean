/- Cells read; slices appended to. -/
import Derived.Test.YtmomipeoigffgaaAmHeap
import Derived.Laws.MakeOwn
set_option linter.unusedVariables false
set_option linter.unusedSimpArgs false
namespace Go.AM

section
variable {P : Program} {I I' : Nat → Prop} {ρ ρ' : Rho} {H H' : List Ob} {w w' : World} {tb : Tab}

theorem isAgg_run (hT : TabOk P tb) {t : TypeId} (ho : tb.ok t = true) : (isAgg t).run P w = .ok (tb.at t).isAgg w := by
  rcases hT t with h | h
  · simp [Tab.ok, h] at ho
  · obtain ⟨d, hd, hk⟩ := h.desc
    have hr : (underlying t).run P w = .ok d w := run_underlying hd w
    unfold isAgg TI.isAgg
    cases hkk : (tb.at t).k <;> cases d <;> simp [hkk, dOk] at hk <;> simp [hr]

theorem sizeOf_run (hT : TabOk P tb) {t : TypeId} (ho : tb.ok t = true) : (sizeOf t).run P w = .ok (tb.at t).size w := by
  rcases hT t with h | h
  · simp [Tab.ok, h] at ho
  · obtain ⟨inf, z, hi, hs, _⟩ := h.info
    simp [sizeOf, typeInfo, hi, hs]

theorem CK.get_ok {k : CK} {cs : List T} {j : Nat} {c : T} {u : Value} (h : k.is cs j = true) (hc : cs[j]? = some c) (hr : RT w I c u) : RT w I (k.get cs j) u := by
  cases k <;> simp only [CK.is] at h <;> simp only [CK.get]
  case int k =>
    simp only [isI, gI, hc] at h ⊢
    split at h <;> simp at h
    rename_i heq
    simp at heq
    subst heq
    simp only [← h]
    exact hr
  case bool => simp only [isB, gB, hc] at h ⊢; split at h <;> simp at h; rename_i heq; simp at heq; subst heq; exact hr
  case str => simp only [isS, gS, hc] at h ⊢; split at h <;> simp at h; rename_i heq; simp at heq; subst heq; exact hr
  case ptr => simp only [gP, hc, Option.getD_some]; exact hr
  case sl =>
    simp only [isL, gN, gL, hc] at h ⊢
    split at h <;> simp at h
    · rename_i heq; simp at heq; subst heq; exact hr
    · rename_i heq; simp at heq; subst heq
      simp only [RT] at hr ⊢
      refine ⟨none, 0, hr, Nat.le_refl _, ?_⟩
      simp
  case fn => simp only [isF, gF, hc] at h ⊢; split at h <;> simp at h; rename_i heq; simp at heq; subst heq; exact hr
  case ifc => simp at h
  case other => simp at h

theorem CK.is_some {k : CK} {cs : List T} {j : Nat} (h : k.is cs j = true) : ∃ c, cs[j]? = some c := by
  cases hc : cs[j]? with
  | some c => exact ⟨c, rfl⟩
  | none => cases k <;> simp [CK.is, isI, isB, isS, isP, isL, isF, hc] at h

/-- Cells in memory from an address on. -/
def MemT (w : World) (I : Nat → Prop) (ad : Addr) (cs : List T) : Prop := ∀ (j : Nat) (c : T), cs[j]? = some c → ∃ u, w.cell? (ad.add j) = some u ∧ RT w I c u
theorem MemT.of_RTs {ad : Addr} {cs : List T} (h : RTs w I cs ad 0) : MemT w I ad cs := fun j c hc => by
  have := (RTs_get h hc).2
  simpa using this

theorem getAll_ok {ad : Addr} {cs : List T} (hm : MemT w I ad cs) : ∀ (ks : List CK) (j : Nat), isAll ks cs j = true →
    ∃ us : List Value, us.length = ks.length ∧ (∀ i u, us[i]? = some u → w.cell? ((ad.add j).add i) = some u) ∧ A2 (RC w I ρ H) (getAll ks cs j) us
  | [], j, _ => ⟨[], rfl, by simp, .nil⟩
  | k :: ks, j, h => by
    simp only [isAll, Bool.and_eq_true] at h
    obtain ⟨c, hc⟩ := CK.is_some h.1
    obtain ⟨u, hu, hr⟩ := hm j c hc
    obtain ⟨us, hl, hcell, ha⟩ := getAll_ok hm ks (j + 1) h.2
    refine ⟨u :: us, by simp [hl], fun i v hv => ?_, .cons (CK.get_ok h.1 hc hr) ha⟩
    cases i with
    | zero => simp at hv; subst hv; rw [Addr.add_add]; exact hu
    | succ i =>
      have := hcell i v (by simpa using hv)
      rw [Addr.add_add] at this ⊢
      rwa [show j + (i + 1) = j + 1 + i by omega]

theorem loadT_ok (hT : TabOk P tb) {t : TypeId} (ho : tb.ok t = true) {ad : Addr} {cs : List T} (hm : MemT w I ad cs) {j : Nat} {v : V} (h : loadT (tb.at t) cs j = some v) :
    ∃ u, (Instr.loadAt t (.pointer (some (ad.add j)))).run P w = .ok u w ∧ RV w I ρ H v u := by
  have hlen : (tb.at t).cks.length = (tb.at t).size := by
    rcases hT t with h | h
    · simp [Tab.ok, h] at ho
    · have := h.len; simpa [TI.zeros] using this
  unfold loadT at h
  split at h
  · rename_i hall
    obtain ⟨us, hl, hcell, ha⟩ := getAll_ok (ρ := ρ) (H := H) hm _ _ hall
    split at h
    · rename_i hagg
      simp only [Option.some.injEq] at h
      subst h
      refine ⟨.agg us.toArray, ?_, us, rfl, ha⟩
      have := run_loadCells_list (P := P) w (ad.add j) us hcell
      rw [hl, hlen] at this
      simp [Instr.loadAt, Instr.sureAddr, loadVar, isAgg_run hT ho, hagg, sizeOf_run hT ho, this]
    · rename_i hagg
      split at h
      · rename_i k hk
        simp only [Option.some.injEq] at h
        subst h
        rw [hk] at ha hl
        simp only [getAll] at ha
        cases ha with
        | cons hr ht =>
          rename_i u us'
          refine ⟨u, ?_, hr⟩
          have := hcell 0 u rfl
          rw [Addr.add_zero'] at this
          simp [Instr.loadAt, Instr.sureAddr, loadVar, isAgg_run hT ho, hagg, run_load, this]
      · simp at h
  · simp at h

def MemC (w : World) (I : Nat → Prop) (ρ : Rho) (H : List Ob) (b o : Nat) (cs : List C) : Prop := ∀ (j : Nat) (c : C), cs[j]? = some c → ∃ u, w.cell? ⟨b, o + j, none⟩ = some u ∧ RC w I ρ H c u

theorem memC_list {b o : Nat} {cs : List C} (hm : MemC w I ρ H b o cs) : ∃ us : List Value, A2 (RC w I ρ H) cs us ∧ ∀ i u, us[i]? = some u → w.cell? ⟨b, o + i, none⟩ = some u := by
  induction cs generalizing o with
  | nil => exact ⟨[], .nil, by simp⟩
  | cons c cs ih =>
    obtain ⟨u, hu, hr⟩ := hm 0 c rfl
    obtain ⟨us, ha, hc⟩ := ih (o := o + 1) (fun j c hc => by
      have := hm (j + 1) c (by simpa using hc)
      rwa [show o + (j + 1) = o + 1 + j by omega] at this)
    refine ⟨u :: us, .cons hr ha, fun i v hv => ?_⟩
    cases i with
    | zero => simp at hv; subst hv; exact hu
    | succ i =>
      have := hc i v (by simpa using hv)
      rwa [show o + (i + 1) = o + 1 + i by omega]

theorem loadC_ok (hT : TabOk P tb) {t : TypeId} (ho : tb.ok t = true) {b o : Nat} {cs : List C} (hm : MemC w I ρ H b o cs) {j : Nat} {v : V} (h : loadC (tb.at t) cs j = some v) :
    ∃ u, (Instr.loadAt t (.pointer (some ⟨b, o + j, none⟩))).run P w = .ok u w ∧ RV w I ρ H v u := by
  unfold loadC at h
  split at h
  · rename_i hagg
    split at h
    · rename_i hlen
      simp only [Option.some.injEq] at h
      subst h
      obtain ⟨us, ha, hc⟩ := memC_list (o := o + j) (cs := (cs.drop j).take (tb.at t).size) (fun i c hi => by
        rw [List.getElem?_take] at hi
        split at hi
        · rw [List.getElem?_drop] at hi
          have := hm _ c hi
          rwa [show o + (j + i) = o + j + i by omega] at this
        · simp at hi)
      refine ⟨.agg us.toArray, ?_, us, rfl, ha⟩
      have hl : us.length = (tb.at t).size := by rw [← ha.length]; simp; omega
      have := run_loadCells_list (P := P) w ⟨b, o + j, none⟩ us (fun i u hu => by rw [add_plain]; exact hc i u hu)
      rw [hl] at this
      simp [Instr.loadAt, Instr.sureAddr, loadVar, isAgg_run hT ho, hagg, sizeOf_run hT ho, this]
    · simp at h
  · rename_i hagg
    split at h
    · rename_i c hc
      simp only [Option.some.injEq] at h
      subst h
      obtain ⟨u, hu, hr⟩ := hm j c hc
      exact ⟨u, by simp [Instr.loadAt, Instr.sureAddr, loadVar, isAgg_run hT ho, hagg, run_load, hu], hr⟩
    · simp at h

/-- What a slice shows can be read. -/
theorem row_ok (hC : Ctx I ρ H w) {get : Nat → Option Ob} (hget : ∀ id o, get id = some o → H[id]? = some o) {x : V} {u : Value} (hr : RV w I ρ H x u) {m : Nat} {new : List T} (h : rowOf get x = some (m, new)) {sz : Nat} (hl : new.length = m * sz) :
    ∃ (A : Option Addr) (c : Nat) (us : List Value), u = .slice A m c ∧ m ≤ c ∧ A2 (RT w I) new us ∧ (us = [] ∨ ∃ ad, A = some ad ∧ ∀ j v, us[j]? = some v → w.cell? (ad.add j) = some v) := by
  have key : ∀ {ad : Addr} {cs : List T}, MemT w I ad cs → ∃ us, A2 (RT w I) cs us ∧ ∀ j v, us[j]? = some v → w.cell? (ad.add j) = some v := by
    intro ad cs hm
    induction cs generalizing ad with
    | nil => exact ⟨[], .nil, by simp⟩
    | cons c cs ih =>
      obtain ⟨u, hu, hr⟩ := hm 0 c rfl
      obtain ⟨us, ha, hc⟩ := ih (ad := ad.add 1) (fun j c hc => by
        have := hm (j + 1) c (by simpa using hc)
        rwa [show j + 1 = 1 + j by omega, ← Addr.add_add] at this)
      refine ⟨u :: us, .cons hr ha, fun i v hv => ?_⟩
      cases i with
      | zero => simp at hv; subst hv; exact hu
      | succ i =>
        have := hc i v (by simpa using hv)
        rwa [Addr.add_add, show 1 + i = i + 1 by omega] at this
  unfold rowOf at h
  split at h
  · simp only [Option.some.injEq, Prod.mk.injEq] at h
    obtain ⟨rfl, rfl⟩ := h
    simp only [RV, RV1, RC, RT] at hr
    exact ⟨none, 0, [], hr, Nat.le_refl _, .nil, .inl rfl⟩
  · simp only [Option.some.injEq, Prod.mk.injEq] at h
    obtain ⟨rfl, rfl⟩ := h
    simp only [RV, RV1, RC, RT] at hr
    obtain ⟨A, c, rfl, hn, hs⟩ := hr
    rcases hs with ⟨rfl, rfl⟩ | ⟨ad, rfl, hs⟩
    · exact ⟨A, c, [], rfl, hn, .nil, .inl rfl⟩
    · obtain ⟨us, ha, hc⟩ := key (MemT.of_RTs hs)
      exact ⟨some ad, c, us, rfl, hn, ha, .inr ⟨ad, rfl, hc⟩⟩
  · rename_i id off len sz'
    cases hg : slot? (get id) with
    | none => simp [hg] at h
    | some cs =>
      rw [hg] at h
      simp only [Option.map_some, Option.some.injEq, Prod.mk.injEq] at h
      obtain ⟨rfl, rfl⟩ := h
      have ⟨fr, hob⟩ : ∃ fr, get id = some (.flat fr cs) := by
        unfold slot? at hg
        split at hg <;> simp at hg
        rename_i fr cs' heq
        subst hg
        exact ⟨fr, heq⟩
      have hH := hget _ _ hob
      have hro := hC.obj _ _ hH
      simp only [RV, RV1, RC] at hr
      rcases hr with ⟨h, _⟩ | ⟨_, h1, rfl, rfl⟩ | ⟨b, o, c, h1, rfl, h3, _⟩
      · unfold GN at h; rw [hH] at h; cases h
      · refine ⟨none, 0, [], rfl, Nat.le_refl _, ?_, .inl rfl⟩
        have : sub cs off (0 * sz') = [] := by simp [sub]
        rw [this]; exact .nil
      · rcases hro with ⟨h, _⟩ | ⟨b', o', h1', h2', _⟩
        · rw [h] at h1; cases h1
        · rw [h1] at h1'; cases h1'
          obtain ⟨us, ha, hc⟩ := key (ad := ⟨b, o + off, none⟩) (cs := sub cs off (len * sz')) (fun j t ht => by
            unfold sub at ht
            rw [List.getElem?_take] at ht
            split at ht
            · rw [List.getElem?_drop] at ht
              have := h2' _ t ht
              rw [add_plain]
              rwa [show o + off + j = o + (off + j) by omega]
            · simp at ht)
          exact ⟨some ⟨b, o + off, none⟩, c, us, rfl, h3, ha, .inr ⟨_, rfl, hc⟩⟩
  · simp at h

end
end Go.AM
