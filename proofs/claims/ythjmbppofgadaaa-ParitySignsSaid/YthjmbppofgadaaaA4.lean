import Derived.Test.YthjmbppofgadaaaA3
set_option linter.unusedVariables false
set_option linter.unnecessarySimpa false
set_option linter.all false
set_option linter.unusedSimpArgs false
set_option linter.defProp false
namespace Go.AM
def operV (E : Env) (L0 : Nat) (x : Ins) (fr : List V) (H : List Ob) : Option (V × List Ob) :=
  match step E.tb E.imp E.orc x.m.own (getM x.m L0 H) (x.m.nx H.length) x.k (x.xs.map (ev fr)) with
  | none => none
  | some (v, es) => if free x.k fr x.dst && (x.k.isO || !v.isO) then (applyE x.m L0 es H).map fun H' => (v, H') else none
def skipV (x : Ins) (fr : List V) (H : List Ob) : Option (V × List Ob) := if free .mv fr x.dst then some (.tup [], H) else none
def oper (E : Env) (L0 : Nat) (x : Ins) (fr : List V) (H : List Ob) : Option (V × List Ob) :=
  match x.g with
  | none => operV E L0 x fr H
  | some (g, want) =>
    match fr.getD g .any with
    | .c (.t (.bool b)) => if b = want then operV E L0 x fr H else skipV x fr H
    | .tup [] => skipV x fr H
    | _ => none
section
variable {E : Env} {L0 : Nat} {x y : Ins} {fr fr' : List V} {H H' : List Ob} {s : St}
theorem stepIns_oper : stepIns E L0 x s = (oper E L0 x s.fr s.H).map fun p => ⟨put s.fr x.dst p.1, p.2⟩ := by
  have hdo : doIns E L0 x s = (operV E L0 x s.fr s.H).map fun p => ⟨put s.fr x.dst p.1, p.2⟩ := by
    unfold doIns operV
    generalize step E.tb E.imp E.orc x.m.own (getM x.m L0 s.H) (x.m.nx s.H.length) x.k (x.xs.map (ev s.fr)) = r
    cases r with
    | none => rfl
    | some p =>
      obtain ⟨v, es⟩ := p
      simp only
      split
      · cases applyE x.m L0 es s.H <;> rfl
      · rfl
  have hskip : skipIns x s = (skipV x s.fr s.H).map fun p => (⟨put s.fr x.dst p.1, p.2⟩ : St) := by
    unfold skipIns skipV
    split <;> rfl
  unfold stepIns oper
  generalize x.g = g
  cases g with
  | none => exact hdo
  | some gw =>
    obtain ⟨g, want⟩ := gw
    simp only
    generalize s.fr.getD g .any = vv
    by_cases hb : ∃ b, vv = .c (.t (.bool b))
    · obtain ⟨b, rfl⟩ := hb
      simp only
      by_cases hw : b = want
      · rw [if_pos hw, if_pos hw]; exact hdo
      · rw [if_neg hw, if_neg hw]; exact hskip
    · by_cases ht : vv = .tup []
      · subst ht; exact hskip
      · split
        · exact (hb ⟨_, rfl⟩).elim
        · exact (ht rfl).elim
        · split
          · exact (hb ⟨_, rfl⟩).elim
          · exact (ht rfl).elim
          · rfl
theorem ev_congr {o : Operand} (h : ∀ t, o = .tmp t → fr.getD t .any = fr'.getD t .any) : ev fr o = ev fr' o := by
  cases o with
  | tmp t => exact h t rfl
  | _ => rfl
theorem mem_tmpsOf {xs : List Operand} {t : Nat} (h : Operand.tmp t ∈ xs) : t ∈ tmpsOf xs := by
  unfold tmpsOf
  exact List.mem_filterMap.2 ⟨.tmp t, h, rfl⟩
theorem free_congr {k : K} {d : Option Nat} (h : ∀ t, d = some t → fr.getD t .any = fr'.getD t .any) : free k fr d = free k fr' d := by
  cases d with
  | none => rfl
  | some d => simp only [free, h d rfl]
theorem oper_congr (h : ∀ u ∈ x.uses, fr.getD u .any = fr'.getD u .any) (hd : ∀ u, x.dst = some u → fr.getD u .any = fr'.getD u .any) : oper E L0 x fr H = oper E L0 x fr' H := by
  have hxs : x.xs.map (ev fr) = x.xs.map (ev fr') := List.map_congr_left fun o ho => ev_congr fun t ht => by
    subst ht
    exact h t (List.mem_append_left _ (mem_tmpsOf ho))
  have hV : operV E L0 x fr H = operV E L0 x fr' H := by unfold operV; rw [hxs, free_congr hd]
  have hS : skipV x fr H = skipV x fr' H := by unfold skipV; rw [free_congr hd]
  unfold oper
  cases hg : x.g with
  | none => exact hV
  | some gw =>
    obtain ⟨g, want⟩ := gw
    have : fr.getD g .any = fr'.getD g .any := h g (by unfold Ins.uses; rw [hg]; simp)
    simp only [this, hV, hS]
theorem put_getD {d : Option Nat} {v : V} {u : Nat} (h : d ≠ some u) : (put fr d v).getD u .any = fr.getD u .any := by
  cases d with
  | none => rfl
  | some d =>
    simp only [put, List.getD_eq_getElem?_getD]
    rw [List.getElem?_set_ne (fun e => h (by rw [e]))]
theorem put_comm {d e : Option Nat} {v u : V} (h : ∀ t, d = some t → e ≠ some t) : put (put fr d v) e u = put (put fr e u) d v := by
  cases d with
  | none => rfl
  | some d => cases e with
    | none => rfl
    | some e => exact List.set_comm _ _ (fun he => h d rfl (by rw [he]))
theorem apart_ok (h : apart x y = true) : (∀ d, x.dst = some d → d ∉ y.uses) ∧ (∀ d, x.dst = some d → y.dst ≠ some d) ∧ ∀ d, y.dst = some d → d ∉ x.uses := by
  unfold apart at h
  simp only [Bool.and_eq_true] at h
  refine ⟨fun d hd => ?_, fun d hd => ?_, fun d hd => ?_⟩ <;> simp [hd] at h
  · exact h.1.1
  · exact h.1.2
  · exact h.2
def Blind (E : Env) (L0 : Nat) (x y : Ins) : Prop :=
  (∀ fr H v H', oper E L0 x fr H = some (v, H') → H' = H) ∧
  ∀ fr fr' H v H', L0 ≤ H.length → oper E L0 y fr' H = some (v, H') → oper E L0 x fr H' = (oper E L0 x fr H).map fun p => (p.1, H')
theorem commute (hb : Blind E L0 x y) (ha : apart x y = true) (hl : L0 ≤ s.H.length) : (stepIns E L0 x s).bind (stepIns E L0 y) = (stepIns E L0 y s).bind (stepIns E L0 x) := by
  obtain ⟨a1, a2, a3⟩ := apart_ok ha
  rw [stepIns_oper, stepIns_oper]
  cases hx : oper E L0 x s.fr s.H with
  | none =>
    simp only [Option.map_none, Option.bind_none]
    cases hy : oper E L0 y s.fr s.H with
    | none => rfl
    | some q =>
      obtain ⟨vy, Hy⟩ := q
      simp only [Option.map_some, Option.bind_some]
      rw [stepIns_oper]
      simp only
      rw [oper_congr (fr' := s.fr) (fun u hu => put_getD fun hd => a3 u hd hu) (fun u hu => put_getD fun hd => a2 u hu hd), hb.2 s.fr s.fr s.H vy Hy hl hy, hx]
      rfl
  | some p =>
    obtain ⟨vx, Hx⟩ := p
    have := hb.1 _ _ _ _ hx
    subst this
    simp only [Option.map_some, Option.bind_some]
    rw [stepIns_oper]
    simp only
    rw [oper_congr (x := y) (fr' := s.fr) (fun u hu => put_getD fun hd => a1 u hd hu) (fun u hu => put_getD fun hd => a2 u hd hu)]
    cases hy : oper E L0 y s.fr s.H with
    | none => rfl
    | some q =>
      obtain ⟨vy, Hy⟩ := q
      simp only [Option.map_some, Option.bind_some]
      rw [stepIns_oper]
      simp only
      rw [oper_congr (x := x) (fr' := s.fr) (fun u hu => put_getD fun hd => a3 u hd hu) (fun u hu => put_getD fun hd => a2 u hu hd), hb.2 s.fr s.fr s.H vy Hy hl hy, hx]
      simp only [Option.map_some]
      rw [put_comm a2]
theorem applyE_still {m : Md} (hm : m = .free ∨ m = .low) {es : List Eff} : applyE m L0 es H = if es.isEmpty then some H else none := by
  cases es with
  | nil => rfl
  | cons e es => rcases hm with rfl | rfl <;> cases e <;> rfl
theorem operV_still (hm : x.m = .free ∨ x.m = .low) (hg : getM x.m L0 H = getM x.m L0 H') : operV E L0 x fr H' = (operV E L0 x fr H).map fun p => (p.1, H') := by
  have hn : ∀ n, x.m.nx n = 0 := fun n => by rcases hm with h | h <;> rw [h] <;> rfl
  unfold operV
  rw [hg, hn, hn]
  generalize step E.tb E.imp E.orc x.m.own (getM x.m L0 H') 0 x.k (x.xs.map (ev fr)) = r
  cases r with
  | none => rfl
  | some p =>
    obtain ⟨v, es⟩ := p
    simp only [applyE_still hm]
    split
    · cases es <;> rfl
    · rfl
theorem oper_still (hm : x.m = .free ∨ x.m = .low) (hg : getM x.m L0 H = getM x.m L0 H') : oper E L0 x fr H' = (oper E L0 x fr H).map fun p => (p.1, H') := by
  have hV := operV_still (E := E) (fr := fr) hm hg
  have hS : skipV x fr H' = (skipV x fr H).map fun p => (p.1, H') := by unfold skipV; split <;> rfl
  unfold oper
  generalize x.g = g
  cases g with
  | none => exact hV
  | some gw =>
    obtain ⟨g, want⟩ := gw
    simp only
    generalize fr.getD g .any = vv
    by_cases hb : ∃ b, vv = .c (.t (.bool b))
    · obtain ⟨b, rfl⟩ := hb
      simp only
      by_cases hw : b = want
      · rw [if_pos hw, if_pos hw]; exact hV
      · rw [if_neg hw, if_neg hw]; exact hS
    · by_cases ht : vv = .tup []
      · subst ht; exact hS
      · split
        · exact (hb ⟨_, rfl⟩).elim
        · exact (ht rfl).elim
        · rfl
theorem oper_same (hm : x.m = .free ∨ x.m = .low) {v : V} (h : oper E L0 x fr H = some (v, H')) : H' = H := by
  have := oper_still (E := E) (L0 := L0) (fr := fr) (H := H) (H' := H) hm rfl
  rw [h] at this
  simp at this
  exact this
theorem applyE_al {es : List Eff} : ∀ {H H' : List Ob}, L0 ≤ H.length → applyE .al L0 es H = some H' → ∀ id, id < L0 → H'[id]? = H[id]? := by
  induction es with
  | nil => intro H H' _ h id _; rw [applyE_nil h]
  | cons e es ih =>
    intro H H' hl h id hid
    cases e with
    | push o =>
      rw [ih (by simp; omega) (applyE_push h) id hid, List.getElem?_append_left (by omega)]
    | set j o =>
      have hj : L0 ≤ j := by
        simp only [applyE] at h
        split at h
        · assumption
        · cases h
      rw [ih (by simpa using hl) (applyE_set h) id hid, List.getElem?_set_ne (by omega)]
theorem oper_al (hm : x.m = .al) (hl : L0 ≤ H.length) {v : V} (h : oper E L0 x fr H = some (v, H')) : ∀ id, id < L0 → H'[id]? = H[id]? := by
  have hV : operV E L0 x fr H = some (v, H') → ∀ id, id < L0 → H'[id]? = H[id]? := by
    intro h
    unfold operV at h
    split at h
    · cases h
    · split at h
      · simp only [Option.map_eq_some_iff, Prod.mk.injEq] at h
        obtain ⟨H2, h1, _, rfl⟩ := h
        rw [hm] at h1
        exact applyE_al hl h1
      · cases h
  have hS : skipV x fr H = some (v, H') → ∀ id, id < L0 → H'[id]? = H[id]? := by
    intro h
    unfold skipV at h
    split at h
    · cases h; exact fun _ _ => rfl
    · cases h
  unfold oper at h
  split at h
  · exact hV h
  · split at h
    · split at h
      · exact hV h
      · exact hS h
    · exact hS h
    · cases h
theorem getM_low {id : Nat} (h : ∀ id, id < L0 → H'[id]? = H[id]?) : getM .low L0 H = getM .low L0 H' := by
  funext i
  simp only [getM]
  split
  · rename_i hi; exact (h i hi).symm
  · rfl
theorem blind_of (h : compat x.m y.m = true) : Blind E L0 x y ∨ Blind E L0 y x := by
  have free : ∀ {x y : Ins}, x.m = .free → Blind E L0 x y := fun {x y} hm =>
    ⟨fun fr H v H' h => oper_same (.inl hm) h, fun fr fr' H v H' _ _ => oper_still (.inl hm) (by rw [hm]; rfl)⟩
  have low : ∀ {x y : Ins}, x.m = .low → (y.m = .low ∨ y.m = .al) → Blind E L0 x y := fun {x y} hm hy =>
    ⟨fun fr H v H' h => oper_same (.inr hm) h, fun fr fr' H v H' hl h => oper_still (.inr hm) (by
      rw [hm]
      rcases hy with hy | hy
      · rw [oper_same (.inr hy) h]
      · exact getM_low (id := 0) (oper_al hy hl h))⟩
  cases hx : x.m <;> cases hy : y.m <;> rw [hx, hy] at h <;> simp [compat] at h
  · exact .inr (free hy)
  · exact .inr (low hy (.inr hx))
  · exact .inr (free hy)
  · exact .inl (low hx (.inr hy))
  · exact .inl (low hx (.inl hy))
  · exact .inr (free hy)
  · exact .inl (free hx)
  · exact .inl (free hx)
  · exact .inl (free hx)
  · exact .inl (free hx)
theorem apart_symm (h : apart x y = true) : apart y x = true := by
  obtain ⟨a1, a2, a3⟩ := apart_ok h
  unfold apart
  simp only [Bool.and_eq_true]
  constructor
  · split
    · rename_i d hd
      simp only [Bool.and_eq_true, Bool.not_eq_true', bne_iff_ne, ne_eq]
      exact ⟨by simpa using a3 d hd, fun he => a2 d he hd⟩
    · rfl
  · split
    · rename_i d hd
      simpa using a1 d hd
    · rfl
theorem commute' (h : compat x.m y.m = true) (ha : apart x y = true) (hl : L0 ≤ s.H.length) : (stepIns E L0 x s).bind (stepIns E L0 y) = (stepIns E L0 y s).bind (stepIns E L0 x) := by
  rcases blind_of (E := E) (L0 := L0) h with hb | hb
  · exact commute hb ha hl
  · exact (commute hb (apart_symm ha) hl).symm
theorem ahead (l2 : List Ins) : ∀ (l1 : List Ins), (∀ z ∈ l1, compat z.m x.m = true ∧ apart z x = true) → ∀ s : St, L0 ≤ s.H.length → runIs E L0 (l1 ++ x :: l2) s = runIs E L0 (x :: (l1 ++ l2)) s
  | [], _, _, _ => rfl
  | z :: l1, h, s, hl => by
    have hz := h z (by simp)
    have ih := ahead l2 l1 (fun z' hz' => h z' (by simp [hz']))
    simp only [List.cons_append, runIs]
    have h1 : (stepIns E L0 z s).bind (runIs E L0 (l1 ++ x :: l2)) = (stepIns E L0 z s).bind (runIs E L0 (x :: (l1 ++ l2))) := by
      cases hs : stepIns E L0 z s with
      | none => rfl
      | some s1 =>
        simp only [Option.bind_some]
        exact ih s1 (Nat.le_trans hl (stepIns_len hs))
    rw [h1]
    have h2 : (stepIns E L0 z s).bind (runIs E L0 (x :: (l1 ++ l2))) = ((stepIns E L0 z s).bind (stepIns E L0 x)).bind (runIs E L0 (l1 ++ l2)) := by
      cases stepIns E L0 z s <;> rfl
    rw [h2, commute' hz.1 hz.2 hl]
    cases stepIns E L0 x s <;> rfl
end
def AncOk (ops : List Oper) (an : List Nat) : Prop :=
  ∀ (i : Nat) (o : Oper), ops[i]? = some o → (∀ p ∈ binding o, p < i) ∧ ∀ j, (an.getD i 0).testBit j = true → ∃ p ∈ binding o, j = p ∨ (an.getD p 0).testBit j = true
theorem fold_bits (acc : List Nat) (j : Nat) : ∀ (b : List Nat) (m : Nat), (b.foldl (fun m p => m ||| 2 ^ p ||| acc.getD p 0) m).testBit j = true → m.testBit j = true ∨ ∃ p ∈ b, j = p ∨ (acc.getD p 0).testBit j = true
  | [], m, h => .inl h
  | p :: b, m, h => by
    rw [List.foldl_cons] at h
    rcases fold_bits acc j b _ h with h | ⟨q, hq, h⟩
    · rw [Nat.testBit_or, Nat.testBit_or, Bool.or_eq_true, Bool.or_eq_true] at h
      rcases h with (h | h) | h
      · exact .inl h
      · rw [Nat.testBit_two_pow] at h
        exact .inr ⟨p, by simp, .inl (by have := of_decide_eq_true h; omega)⟩
      · exact .inr ⟨p, by simp, .inr h⟩
    · exact .inr ⟨q, by simp [hq], h⟩
theorem ancs_ok : ∀ (os : List Oper) (pre : List Oper) (acc an : List Nat), acc.length = pre.length → ancs os acc pre.length = some an →
    (∀ (i : Nat) (o : Oper), pre[i]? = some o → (∀ p ∈ binding o, p < i) ∧ ∀ j, (acc.getD i 0).testBit j = true → ∃ p ∈ binding o, j = p ∨ (acc.getD p 0).testBit j = true) → AncOk (pre ++ os) an ∧ an.length = (pre ++ os).length
  | [], pre, acc, an, hl, h, hp => by
    simp only [ancs, Option.some.injEq] at h
    subst h
    rw [List.append_nil]
    exact ⟨hp, hl⟩
  | o :: os, pre, acc, an, hl, h, hp => by
    simp only [ancs] at h
    split at h
    · rename_i hb
      have hb' : ∀ p ∈ binding o, p < pre.length := fun p hpm => by simpa using List.all_eq_true.1 hb p hpm
      have hlast : (acc ++ [(binding o).foldl (fun m p => m ||| 2 ^ p ||| acc.getD p 0) 0]).length = (pre ++ [o]).length := by simp [hl]
      have hget : ∀ p, p < pre.length → (acc ++ [(binding o).foldl (fun m p => m ||| 2 ^ p ||| acc.getD p 0) 0]).getD p 0 = acc.getD p 0 := fun p hpl => by
        rw [List.getD_eq_getElem?_getD, List.getD_eq_getElem?_getD, List.getElem?_append_left (by omega)]
      have := ancs_ok os (pre ++ [o]) _ an hlast (by simpa using h) (fun i o' ho' => by
        rw [List.getElem?_append] at ho'
        split at ho'
        · rename_i hi
          obtain ⟨h1, h2⟩ := hp i o' ho'
          refine ⟨h1, fun j hj => ?_⟩
          rw [hget i hi] at hj
          obtain ⟨p, hpm, h3⟩ := h2 j hj
          refine ⟨p, hpm, ?_⟩
          rw [hget p (Nat.lt_trans (h1 p hpm) hi)]
          exact h3
        · rename_i hi
          have h0 : i - pre.length = 0 := by
            have := (List.getElem?_eq_some_iff.1 ho').1
            simp at this
            omega
          rw [h0] at ho'
          simp at ho'
          subst ho'
          have hi' : i = pre.length := by omega
          subst hi'
          refine ⟨hb', fun j hj => ?_⟩
          rw [List.getD_eq_getElem?_getD, List.getElem?_append_right (by omega), hl] at hj
          simp only [Nat.sub_self, List.getElem?_cons_zero, Option.getD_some] at hj
          rcases fold_bits acc j _ _ hj with h | ⟨p, hpm, h⟩
          · simp at h
          · refine ⟨p, hpm, ?_⟩
            rw [hget p (hb' p hpm)]
            exact h)
      simpa using this
    · cases h
def Lst (listed : Array Bool) (i : Nat) : Prop := listed.getD i false = true
theorem anc_listed {ops : Array Oper} {an : List Nat} (hA : AncOk ops.toList an) {listed : Array Bool} (hcl : ∀ (i : Nat) (o : Oper), ops[i]? = some o → Lst listed i → ∀ p ∈ binding o, Lst listed p) :
    ∀ (i : Nat) (o : Oper), ops[i]? = some o → (∀ p ∈ binding o, Lst listed p) → ∀ j, (an.getD i 0).testBit j = true → Lst listed j := by
  intro i
  induction i using Nat.strongRecOn with
  | _ i ih =>
    intro o ho hp j hj
    obtain ⟨h1, h2⟩ := hA i o (by simpa using ho)
    obtain ⟨p, hpm, h3⟩ := h2 j hj
    rcases h3 with rfl | h3
    · exact hp _ hpm
    · have hi : i < ops.size := (Array.getElem?_eq_some_iff.1 ho).1
      have hpi := h1 p hpm
      have hop : ops[p]? = some (ops[p]'(by omega)) := Array.getElem?_eq_getElem (by omega)
      exact ih p hpi _ hop (hcl p _ hop (hp p hpm)) j h3
end Go.AM

namespace Go.AM
section
variable {P : Program} {w0 : World} {I0 : Nat → Prop} {ρ0 : Rho} {H0 : List Ob} {mm : Nat}
theorem compAll_ok {tb : Tab} {ob : OB} {ops : Array Oper} : ∀ {l : List Oper} {is : List Ins}, compAll tb ob ops l = some is → is.length = l.length ∧ ∀ (j : Nat) (o : Oper), l[j]? = some o → ∃ x, is[j]? = some x ∧ compIns tb ob ops o = some x
  | [], is, h => by simp only [compAll, Option.some.injEq] at h; subst h; simp
  | o :: os, is, h => by
    simp only [compAll] at h
    split at h
    · rename_i i is' h1 h2
      simp only [Option.some.injEq] at h
      subst h
      obtain ⟨hl, hg⟩ := compAll_ok h2
      refine ⟨by simp [hl], fun j o' hj => ?_⟩
      cases j with
      | zero => simp at hj; subst hj; exact ⟨i, rfl, h1⟩
      | succ j => simpa using hg j o' (by simpa using hj)
    · cases h
theorem mem_ready {md : Region.Mode} {ops : Array Oper} {listed : Array Bool} {i : Nat} (h : i ∈ Region.ready .any ops listed) : ∃ o, ops[i]? = some o ∧ listed.getD i true = false ∧ ∀ p ∈ binding o, Lst listed p := by
  unfold Region.ready at h
  rw [List.mem_filter] at h
  obtain ⟨h1, h2⟩ := h
  have hi : i < ops.size := List.mem_range.1 h1
  rw [Array.getElem?_eq_getElem hi] at h2
  simp only [Option.map_some, Option.getD_some, Bool.and_eq_true, Bool.not_eq_true'] at h2
  refine ⟨ops[i], Array.getElem?_eq_getElem hi, h2.1, fun p hp => ?_⟩
  unfold binding at hp
  obtain ⟨e, he, rfl⟩ := List.mem_map.1 hp
  rw [List.mem_filter] at he
  have := Array.all_eq_true_iff_forall_mem.1 h2.2 e (by simpa using he.1)
  simpa [he.2, Lst] using this
theorem ready_mem {ops : Array Oper} {listed : Array Bool} {i : Nat} {o : Oper} (ho : ops[i]? = some o) (hl : listed.getD i true = false) (hp : ∀ p ∈ binding o, Lst listed p) : i ∈ Region.ready .any ops listed := by
  unfold Region.ready
  rw [List.mem_filter]
  have hi := (Array.getElem?_eq_some_iff.1 ho).1
  refine ⟨List.mem_range.2 hi, ?_⟩
  rw [ho]
  simp only [Option.map_some, Option.getD_some, hl, Bool.not_false, Bool.true_and]
  rw [Array.all_eq_true_iff_forall_mem]
  intro e he
  by_cases hb : Region.binds .any e = true
  · have := hp e.on (List.mem_map.2 ⟨e, List.mem_filter.2 ⟨by simpa using he, hb⟩, rfl⟩)
    unfold Lst at this
    simp [this]
  · simp [hb]
def left (n : Nat) (listed : Array Bool) : List Nat := (List.range n).filter fun i => !listed.getD i true
theorem left_set {n : Nat} {listed : Array Bool} (hs : listed.size = n) {i : Nat} (hi : i < n) : left n (listed.setIfInBounds i true) = (left n listed).filter fun j => !(j == i) := by
  unfold left
  rw [List.filter_filter]
  apply List.filter_congr
  intro j hj
  have hjn : j < n := List.mem_range.1 hj
  by_cases hij : j = i
  · subst hij
    simp [Array.getD_eq_getD_getElem?, Array.getElem?_setIfInBounds, hs, hjn]
  · have : (j == i) = false := by simpa using hij
    rw [this]
    simp only [Bool.not_false, Bool.true_and, Array.getD_eq_getD_getElem?]
    rw [Array.getElem?_setIfInBounds_ne (fun e => hij e.symm)]
theorem any_ok {E : Env} {ob : OB} {ops : Array Oper} {Q : Exit → Act → World → Prop} (hT : TabOk P E.tb) (hO : OrcOk P E.orc) {L0 : Nat} {an : List Nat} (hA : AncOk ops.toList an) {is : List Ins}
    (hlen : is.length = ops.size) (hins : ∀ (j : Nat) (o : Oper), ops[j]? = some o → ∃ x md, is[j]? = some { x with m := md } ∧ compIns E.tb ob ops o = some x)
    (hloose : ∀ (i j : Nat) (x y : Ins), is[i]? = some x → is[j]? = some y → i < j → (an.getD j 0).testBit i = true ∨ (compat x.m y.m = true ∧ apart x y = true)) {s' : St} (hQ : ∀ a' w', SR w0 I0 ρ0 H0 mm s' a' w' → Q .normal a' w') :
    ∀ (fuel : Nat) (listed : Array Bool), listed.size = ops.size → (left ops.size listed).length ≤ fuel → (∀ (i : Nat) (o : Oper), ops[i]? = some o → Lst listed i → ∀ p ∈ binding o, Lst listed p) →
      ∀ {s : St} {a : Act} {w : World}, L0 ≤ s.H.length → runIs E L0 ((left ops.size listed).map fun i => is.getD i default) s = some s' → SR w0 I0 ρ0 H0 mm s a w → wpAny P .any ops Q fuel listed a w := by
  have hnone : ∀ listed : Array Bool, listed.size = ops.size → left ops.size listed = [] → Region.ready .any ops listed = [] := by
    intro listed hs hl
    apply List.eq_nil_iff_forall_not_mem.2
    intro i hi
    obtain ⟨o, ho, hli, _⟩ := mem_ready (md := .any) hi
    have : i ∈ left ops.size listed := by
      unfold left
      rw [List.mem_filter]
      exact ⟨List.mem_range.2 (Array.getElem?_eq_some_iff.1 ho).1, by rw [hli]; rfl⟩
    rw [hl] at this
    cases this
  intro fuel
  induction fuel with
  | zero =>
    intro listed hs hf hcl s a w hL hr hS
    have hl : left ops.size listed = [] := List.eq_nil_of_length_eq_zero (by omega)
    rw [hl] at hr
    simp only [List.map_nil, runIs, Option.some.injEq] at hr
    subst hr
    exact ⟨hnone listed hs hl, hQ a w hS⟩
  | succ fuel ih =>
    intro listed hs hf hcl s a w hL hr hS
    refine ⟨fun hrd => ?_, fun i hi => ?_⟩
    · -- nothing is ready: nothing is left
      have hl : left ops.size listed = [] := by
        cases hl : left ops.size listed with
        | nil => rfl
        | cons j rest =>
          exfalso
          have hjm : j ∈ left ops.size listed := by rw [hl]; simp
          have hjm' := hjm
          unfold left at hjm
          rw [List.mem_filter] at hjm
          have hjn : j < ops.size := List.mem_range.1 hjm.1
          have hjl : listed.getD j true = false := by simpa using hjm.2
          have hoj : ops[j]? = some ops[j] := Array.getElem?_eq_getElem hjn
          have hpw : (left ops.size listed).Pairwise (· < ·) := List.Pairwise.filter _ List.pairwise_lt_range
          have hfirst : ∀ k ∈ left ops.size listed, j ≤ k := by
            intro k hk
            rw [hl] at hk hpw
            rw [List.pairwise_cons] at hpw
            rcases List.mem_cons.1 hk with rfl | hk
            · exact Nat.le_refl _
            · exact Nat.le_of_lt (hpw.1 k hk)
          have : j ∈ Region.ready .any ops listed := ready_mem hoj hjl fun p hp => by
            have hpj := (hA j _ (by simpa using hoj)).1 p hp
            by_cases hpl : listed.getD p true = false
            · have := hfirst p (by unfold left; rw [List.mem_filter]; exact ⟨List.mem_range.2 (by omega), by rw [hpl]; rfl⟩)
              omega
            · unfold Lst
              rw [Array.getD_eq_getD_getElem?] at hpl ⊢
              rw [Array.getElem?_eq_getElem (by omega)] at hpl ⊢
              simpa using hpl
          rw [hrd] at this
          cases this
      rw [hl] at hr
      simp only [List.map_nil, runIs, Option.some.injEq] at hr
      subst hr
      exact hQ a w hS
    · obtain ⟨o, ho, hli, hpi⟩ := mem_ready (md := .any) hi
      have hin : i < ops.size := (Array.getElem?_eq_some_iff.1 ho).1
      have him : i ∈ left ops.size listed := by
        unfold left
        rw [List.mem_filter]
        exact ⟨List.mem_range.2 hin, by rw [hli]; rfl⟩
      obtain ⟨l1, l2, hsp⟩ := List.append_of_mem him
      have hpw : (left ops.size listed).Pairwise (· < ·) := List.Pairwise.filter _ List.pairwise_lt_range
      rw [hsp] at hpw
      have hlt1 : ∀ j ∈ l1, j < i := fun j hj => (List.pairwise_append.1 hpw).2.2 j hj i (by simp)
      have hlt2 : ∀ j ∈ l2, i < j := by
        have := (List.pairwise_append.1 hpw).2.1
        rw [List.pairwise_cons] at this
        exact this.1
      obtain ⟨x, md, hxi, hxc⟩ := hins i o ho
      have hgi : is.getD i default = { x with m := md } := by rw [List.getD_eq_getElem?_getD, hxi]; rfl
      rw [hsp, List.map_append, List.map_cons, hgi] at hr
      rw [ahead _ _ (fun z hz => by
        obtain ⟨j, hj, rfl⟩ := List.mem_map.1 hz
        have hji := hlt1 j hj
        have hjl : j < is.length := by omega
        have hzj : is[j]? = some (is.getD j default) := by rw [List.getD_eq_getElem?_getD, List.getElem?_eq_getElem hjl]; rfl
        rcases hloose j i _ _ hzj hxi hji with h | h
        · exfalso
          have hlst := anc_listed hA hcl i o ho hpi j h
          have hjm : j ∈ left ops.size listed := by rw [hsp]; simp [hj]
          unfold left at hjm
          rw [List.mem_filter] at hjm
          have : listed.getD j true = false := by simpa using hjm.2
          unfold Lst at hlst
          rw [Array.getD_eq_getD_getElem?] at this hlst
          rw [Array.getElem?_eq_getElem (by omega)] at this hlst
          simp at this hlst
          rw [this] at hlst
          cases hlst
        · exact h) s hL] at hr
      simp only [runIs, Option.bind_eq_some_iff] at hr
      obtain ⟨s1, h1, h2⟩ := hr
      refine ins_ok hT hO ho hxc (md := md) h1 hS fun a' w' hS' => ?_
      have hleft : left ops.size (listed.setIfInBounds i true) = l1 ++ l2 := by
        rw [left_set hs hin, hsp, List.filter_append, List.filter_cons]
        have h1 : l1.filter (fun j => !(j == i)) = l1 := List.filter_eq_self.2 fun j hj => by have := hlt1 j hj; simp; omega
        have h2 : l2.filter (fun j => !(j == i)) = l2 := List.filter_eq_self.2 fun j hj => by have := hlt2 j hj; simp; omega
        rw [h1, h2]
        simp
      refine ih _ (by simp [hs]) ?_ ?_ (Nat.le_trans hL (stepIns_len h1)) ?_ hS'
      · rw [hleft]
        rw [hsp] at hf
        simp at hf ⊢
        omega
      · intro j o' ho' hj p hp
        have hset : ∀ q, Lst listed q → Lst (listed.setIfInBounds i true) q := fun q hq => by
          unfold Lst at hq ⊢
          by_cases hqi : q = i
          · subst hqi; simp [Array.getD_eq_getD_getElem?, Array.getElem?_setIfInBounds, hs, hin]
          · rw [Array.getD_eq_getD_getElem?, Array.getElem?_setIfInBounds_ne (fun e => hqi e.symm), ← Array.getD_eq_getD_getElem?]; exact hq
        by_cases hji : j = i
        · subst hji
          rw [ho] at ho'
          cases ho'
          exact hset p (hpi p hp)
        · have : Lst listed j := by
            unfold Lst at hj ⊢
            rw [Array.getD_eq_getD_getElem?, Array.getElem?_setIfInBounds_ne (fun e => hji e.symm), ← Array.getD_eq_getD_getElem?] at hj
            exact hj
          exact hset p (hcl j o' ho' this p hp)
      · rw [hleft, List.map_append]
        exact h2
theorem left_all (n : Nat) : left n (Array.replicate n false) = List.range n := by
  unfold left
  rw [List.filter_eq_self]
  intro i hi
  have := List.mem_range.1 hi
  simp [Array.getD_eq_getD_getElem?, this]
theorem map_getD {α : Type} (d : α) (l : List α) : (List.range l.length).map (fun i => l.getD i d) = l := by
  apply List.ext_getElem?
  intro i
  rw [List.getElem?_map]
  by_cases hi : i < l.length
  · simp [List.getElem?_range hi, List.getElem?_eq_getElem hi, List.getD_eq_getElem?_getD]
  · simp [List.getElem?_eq_none (Nat.le_of_not_lt hi)]
    omega
theorem SR_drew {s : St} {a : Act} {w : World} (h : SR w0 I0 ρ0 H0 mm s a w) : SR w0 I0 ρ0 H0 mm s a w.drew := by
  obtain ⟨I, ρ, hC, ⟨hF, hO⟩, hd, hE, hm, hk⟩ := h
  obtain ⟨hC1, hs1⟩ := drew_ok hC
  exact ⟨I, ρ, hC1, ⟨RF_stp hC hs1 hF, hO.stp hC hs1⟩, hd, hE.trans hs1.ext, hm, hk⟩
theorem region_ok {E : Env} {ob : OB} (hP : P.follows .mixedOrders = true) (hT : TabOk P E.tb) (hO : OrcOk P E.orc) {ops : Array Oper} {draw : Bool} {is : List Ins} (hc : compReg E.tb ob ops draw = some is) {id : Nat} {Q : Exit → Act → World → Prop} {s s' : St}
    (hr : runIs E s.H.length is s = some s') {a : Act} {w : World} (hS : SR w0 I0 ρ0 H0 mm s a w) (hQ : ∀ a' w', SR w0 I0 ρ0 H0 mm s' a' w' → Q .normal a' w') : (Code.region id ops draw).wp P Q a w := by
  unfold compReg at hc
  split at hc
  · cases hc
  · rename_i is0 hall
    obtain ⟨hl0, hg0⟩ := compAll_ok hall
    cases draw with
    | false =>
      simp only [Bool.false_eq_true, if_false, Option.some.injEq] at hc
      subst hc
      refine wp_region ?_
      have := wpOps_ok (Q := Q) hT hO ops.toList 0 (by simp) hall hr hS hQ
      rw [List.range_eq_range']
      simpa using this
    | true =>
      simp only [if_true] at hc
      split at hc
      · cases hc
      · rename_i an han
        split at hc
        · rename_i hloose
          simp only [Option.some.injEq] at hc
          subst hc
          have hanc := (ancs_ok ops.toList [] [] an rfl han (by simp)).1
          simp only [List.nil_append] at hanc
          have hlen : (is0.zipIdx.map fun (x, i) => { x with m := modeOf is0 an i x.k x.dst }).length = ops.size := by simp [hl0]
          have hins : ∀ (j : Nat) (o : Oper), ops[j]? = some o → ∃ x md, (is0.zipIdx.map fun (x, i) => { x with m := modeOf is0 an i x.k x.dst })[j]? = some { x with m := md } ∧ compIns E.tb ob ops o = some x := by
            intro j o ho
            obtain ⟨x, hx, hxc⟩ := hg0 j o (by simpa using ho)
            refine ⟨x, modeOf is0 an j x.k x.dst, ?_, hxc⟩
            rw [List.getElem?_map, List.getElem?_zipIdx, hx]
            simp
          refine wp_region_any hP ?_
          refine any_ok hT hO hanc hlen hins ?_ hQ ops.size _ (by simp) (by rw [left_all]; simp) ?_ (L0 := s.H.length) (Nat.le_refl _) ?_ (SR_drew hS)
          · intro i j x y hx hy hij
            unfold loose at hloose
            have h1 := List.all_eq_true.1 hloose (x, i) (by
              rw [List.mem_iff_getElem?]
              exact ⟨i, by rw [List.getElem?_zipIdx, hx]; simp⟩)
            have h2 := List.all_eq_true.1 h1 (y, j) (by
              rw [List.mem_iff_getElem?]
              exact ⟨j, by rw [List.getElem?_zipIdx, hy]; simp⟩)
            simp only [hij, decide_true, Bool.not_true, Bool.false_or, Bool.or_eq_true, Bool.and_eq_true] at h2
            exact h2
          · intro i o _ hi
            unfold Lst at hi
            rw [Array.getD_eq_getD_getElem?] at hi
            by_cases hin : i < ops.size
            · simp [hin] at hi
            · simp [Nat.le_of_not_lt hin] at hi
          · rw [left_all, ← hlen, map_getD]
            exact hr
        · cases hc
end
end Go.AM

namespace Go.AM
inductive Cm (tb : Tab) (ob : OB) : Code → Cd → Prop where
  | skip : Cm tb ob .skip .skip
  | reg {id : Nat} {ops : Array Oper} {draw : Bool} {is : List Ins} (h : compReg tb ob ops draw = some is) : Cm tb ob (.region id ops draw) (.reg draw is)
  | seq {a b : Code} {c d : Cd} (h : Cm tb ob a c) (k : Cm tb ob b d) : Cm tb ob (.seq a b) (.seq c d)
  | cond {x : Operand} {a b : Code} {c d : Cd} (h : Cm tb ob a c) (k : Cm tb ob b d) : Cm tb ob (.cond x a b) (.cond x c d)
  | block {id : Nat} {a : Code} {c : Cd} (h : Cm tb ob a c) : Cm tb ob (.block id a) (.block id c)
  | loop {a : Code} {c : Cd} {kl : List Nat} {ns : List (Nat × Nat)} (h : Cm tb ob a c) : Cm tb ob (.loop a) (.loop kl ns c)
  | exit {id : Nat} : Cm tb ob (.exit id) (.exit id)
  | ret : Cm tb ob .ret .ret
  | bad {a : Code} : Cm tb ob a (.reg false [⟨none, .bad, [], none, .sync⟩])
theorem comp0_ok {tb : Tab} {ob : OB} : ∀ {c : Code} {d : Cd}, comp0 tb ob c = some d → Cm tb ob c d := by
  intro c
  induction c with
  | skip => intro d h; simp only [comp0, Option.some.injEq] at h; subst h; exact .skip
  | region id ops draw =>
    intro d h
    simp only [comp0, Option.map_eq_some_iff] at h
    obtain ⟨is, h1, rfl⟩ := h
    exact .reg h1
  | seq a b iha ihb =>
    intro d h
    simp only [comp0] at h
    split at h
    · rename_i x y hx hy
      simp only [Option.some.injEq] at h
      subst h
      exact .seq (iha hx) (ihb hy)
    · cases h
  | cond x a b iha ihb =>
    intro d h
    simp only [comp0] at h
    split at h
    · rename_i p q hx hy
      simp only [Option.some.injEq] at h
      subst h
      exact .cond (iha hx) (ihb hy)
    · cases h
  | block id a ih =>
    intro d h
    simp only [comp0, Option.map_eq_some_iff] at h
    obtain ⟨is, h1, rfl⟩ := h
    exact .block (ih h1)
  | loop a ih =>
    intro d h
    simp only [comp0, Option.map_eq_some_iff] at h
    obtain ⟨is, h1, rfl⟩ := h
    exact .loop (ih h1)
  | exit id => intro d h; simp only [comp0, Option.some.injEq] at h; subst h; exact .exit
  | ret => intro d h; simp only [comp0, Option.some.injEq] at h; subst h; exact .ret
  | _ => intro d h; simp only [comp0, Option.some.injEq] at h; subst h; exact .bad
theorem dress_ok {tb : Tab} {ob : OB} {nt : Nat} {sl : List (Nat × Nat)} {c : Code} {d : Cd} (h : Cm tb ob c d) : ∀ out, Cm tb ob c (dress nt sl d out) := by
  induction h with
  | skip => intro out; exact .skip
  | reg h => intro out; exact .reg h
  | seq h k ih ik => intro out; exact .seq (ih _) (ik _)
  | cond h k ih ik => intro out; exact .cond (ih _) (ik _)
  | block h ih => intro out; exact .block (ih _)
  | loop h ih => intro out; exact .loop (ih _)
  | exit => intro out; exact .exit
  | ret => intro out; exact .ret
  | bad => intro out; exact .bad
section
variable {P : Program} {w0 : World} {I0 : Nat → Prop} {ρ0 : Rho} {H0 : List Ob} {mm : Nat}
theorem RV_any {w : World} {I : Nat → Prop} {ρ : Rho} {H : List Ob} (u : Value) : RV w I ρ H .any u := trivial
theorem killed_ok {w : World} {I : Nat → Prop} {ρ : Rho} {H : List Ob} {tmps : Array Value} : ∀ {kl : List Nat} {fr : List V}, RF w I ρ H fr tmps → RF w I ρ H (killed kl fr) tmps
  | [], fr, h => h
  | t :: kl, fr, h => by
    unfold killed
    rw [List.foldl_cons]
    refine killed_ok (kl := kl) (fr := fr.set t .any) ?_
    intro i x hx
    rw [List.getElem?_set] at hx
    split at hx
    · rename_i hi
      subst hi
      split at hx
      · rename_i hl
        cases hx
        obtain ⟨u, hu, _⟩ := h _ _ (List.getElem?_eq_getElem hl)
        exact ⟨u, hu, trivial⟩
      · cases hx
    · exact h i x hx
theorem OwnF.sub {lo : Nat} {w : World} {I : Nat → Prop} {ρ : Rho} {H : List Ob} {fr fr' : List V} {tmps : Array Value} (h : OwnF lo w I ρ H fr tmps) (h1 : ∀ (t : Nat) (cs : List C), fr'[t]? = some (.own cs) → fr[t]? = some (.own cs))
    (h2 : ∀ (t s off : Nat), fr'[t]? = some (.oref s off) → fr[t]? = some (.oref s off) ∧ ∃ cs, fr'[s]? = some (.own cs)) : OwnF lo w I ρ H fr' tmps := by
  refine ⟨fun t cs ht => h.own t cs (h1 t cs ht), fun t t' cs cs' hn ht ht' => h.dis t t' cs cs' hn (h1 _ _ ht) (h1 _ _ ht'), fun t s off ht => ?_⟩
  obtain ⟨h3, cs, h4⟩ := h2 t s off ht
  obtain ⟨_, b, _, h6, h7⟩ := h.oref t s off h3
  exact ⟨cs, b, h4, h6, h7⟩
theorem killed_get : ∀ {kl : List Nat} {fr : List V} {t : Nat} {x : V}, (killed kl fr)[t]? = some x → x = .any ∨ fr[t]? = some x
  | [], fr, t, x, h => .inr h
  | k :: kl, fr, t, x, h => by
    unfold killed at h
    rw [List.foldl_cons] at h
    rcases killed_get (kl := kl) (fr := fr.set k .any) h with h | h
    · exact .inl h
    · rw [List.getElem?_set] at h
      split at h
      · split at h
        · cases h; exact .inl rfl
        · cases h
      · exact .inr h
theorem cleanO_get {fr : List V} {t : Nat} {x : V} (h : (cleanO fr)[t]? = some x) : x = .any ∨ fr[t]? = some x ∧ ∀ s off, x = .oref s off → ∃ cs, fr[s]? = some (.own cs) := by
  unfold cleanO at h
  rw [List.getElem?_map] at h
  cases hv : fr[t]? with
  | none => rw [hv] at h; cases h
  | some v =>
    rw [hv] at h
    simp only [Option.map_some, Option.some.injEq] at h
    split at h
    · rename_i s off
      split at h
      · rename_i cs hs
        subst h
        refine .inr ⟨rfl, fun s' off' he => ?_⟩
        cases he
        rw [List.getD_eq_getElem?_getD] at hs
        cases hq : fr[s]? with
        | none => rw [hq] at hs; cases hs
        | some q => rw [hq] at hs; simp only [Option.getD_some] at hs; exact ⟨cs, by rw [hs]⟩
      · exact .inl h.symm
    · rename_i hne
      subst h
      exact .inr ⟨rfl, fun s off he => (hne s off he).elim⟩
theorem cleanO_own {fr : List V} {s : Nat} {cs : List C} (h : fr[s]? = some (.own cs)) : (cleanO fr)[s]? = some (.own cs) := by
  unfold cleanO
  rw [List.getElem?_map, h]
  rfl
def nilOne (s : St) (p : Nat × Nat) : St := match s.fr.getD p.1 .any with
  | .c (.t .nils) => ⟨s.fr.set p.1 (.c (.osl s.H.length 0 0 p.2)), s.H ++ [.flat false []]⟩
  | _ => s
theorem nilOne_ok {s : St} {a : Act} {w : World} (p : Nat × Nat) (h : SR w0 I0 ρ0 H0 mm s a w) : SR w0 I0 ρ0 H0 mm (nilOne s p) a w := by
  unfold nilOne
  split
  · rename_i heq
    obtain ⟨I, ρ, hC, ⟨hF, hO⟩, hd, hE, hm, hk⟩ := h
    obtain ⟨hC1, hs1, hn⟩ := phant_ok hC
    have hset : ∀ {t : Nat} {x : V}, x.isO = true → (s.fr.set p.1 (.c (.osl s.H.length 0 0 p.2)))[t]? = some x → s.fr[t]? = some x := fun hx ht => (set_none rfl hx ht).2
    refine ⟨I, ρ, hC1, ⟨?_, (hO.stp hC hs1).sub (fun t cs ht => hset rfl ht) fun t q off ht => ⟨hset rfl ht, ?_⟩⟩, hd, hE.trans hs1.ext, Nat.le_trans hm hs1.len, fun id hid => ⟨(hk id hid).1, fun hg => hs1.gone id ((hk id hid).2 hg)⟩⟩
    rotate_left
    · obtain ⟨cs, _, hq, _⟩ := hO.oref t q off (hset rfl ht)
      refine ⟨cs, ?_⟩
      rw [List.getElem?_set_ne]
      · exact hq
      · rintro rfl
        rw [List.getD_eq_getElem?_getD, hq] at heq
        cases heq
    have hF1 := RF_stp hC hs1 hF
    intro i x hx
    rw [List.getElem?_set] at hx
    split at hx
    · rename_i hi
      subst hi
      split at hx
      · rename_i hl
        cases hx
        obtain ⟨u, hu, hr⟩ := hF _ _ (List.getElem?_eq_getElem hl)
        rw [List.getD_eq_getElem?_getD, List.getElem?_eq_getElem hl] at heq
        simp only [Option.getD_some] at heq
        rw [heq] at hr
        have hv : u = .slice none 0 0 := hr
        exact ⟨u, hu, .inr (.inl ⟨by simp, hn, rfl, hv⟩)⟩
      · cases hx
    · exact hF1 i x hx
  · exact h
theorem nils_fold {a : Act} {w : World} : ∀ (ns : List (Nat × Nat)) {s : St}, SR w0 I0 ρ0 H0 mm s a w → SR w0 I0 ρ0 H0 mm (ns.foldl nilOne s) a w
  | [], s, h => h
  | p :: ns, s, h => nils_fold ns (nilOne_ok p h)
theorem reach_prefix (get : Nat → Option Ob) : ∀ (n : Nat) (todo acc : List Nat), ∃ tail, reach get n todo acc = acc ++ tail
  | 0, _, acc => ⟨[], by simp [reach]⟩
  | n + 1, [], acc => ⟨[], by simp [reach]⟩
  | n + 1, i :: todo, acc => by
    simp only [reach]
    split
    · exact reach_prefix get n todo acc
    · obtain ⟨t, ht⟩ := reach_prefix get n (todo ++ idsO (get i)) (acc ++ [i])
      exact ⟨i :: t, by rw [ht]; simp⟩
theorem pack_ctx {w : World} {I : Nat → Prop} {ρ : Rho} {H : List Ob} (hC : Ctx I ρ H w) {live : List Nat} (hn : live.Nodup) :
    Ctx I (fun j => (live[j]?).bind ρ) (live.map fun i => renO (pos live) ((H[i]?).getD .gone)) w ∧ Ren ρ H (pos live) (fun j => (live[j]?).bind ρ) (live.map fun i => renO (pos live) ((H[i]?).getD .gone)) ∧
      ∀ b, ownd (fun j => (live[j]?).bind ρ) (live.map fun i => renO (pos live) ((H[i]?).getD .gone)) b → ownd ρ H b := by
  have hget : ∀ (j : Nat) (ob : Ob), (live.map fun i => renO (pos live) ((H[i]?).getD .gone))[j]? = some ob → ∃ (id : Nat), live[j]? = some id ∧ ((∃ ob', H[id]? = some ob' ∧ ob = renO (pos live) ob') ∨ ob = .gone) := by
    intro j ob h
    rw [List.getElem?_map] at h
    cases hj : live[j]? with
    | none => rw [hj] at h; cases h
    | some id =>
      rw [hj] at h
      simp only [Option.map_some, Option.some.injEq] at h
      refine ⟨id, rfl, ?_⟩
      cases hh : H[id]? with
      | none => rw [hh] at h; exact .inr h.symm
      | some ob' => rw [hh] at h; exact .inl ⟨ob', rfl, h.symm⟩
  have hmine : ∀ (j b off : Nat), mine (live.map fun i => renO (pos live) ((H[i]?).getD .gone)) j → (live[j]?).bind ρ = some (b, off) → ∃ id, live[j]? = some id ∧ mine H id ∧ ρ id = some (b, off) := by
    rintro j b off ⟨ob, h1, h2⟩ h3
    obtain ⟨id, h4, ⟨ob', h5, rfl⟩ | rfl⟩ := hget j ob h1
    · rw [h4] at h3
      exact ⟨id, h4, ⟨ob', h5, mine_ren.1 h2⟩, h3⟩
    · exact h2.elim
  have hR : Ren ρ H (pos live) (fun j => (live[j]?).bind ρ) (live.map fun i => renO (pos live) ((H[i]?).getD .gone)) := by
    refine ⟨fun id j hj _ => by simp [pos_get hj], fun id j hj hg => ?_, fun id j hj _ => ?_⟩
    · unfold GN at hg ⊢
      rw [List.getElem?_map, pos_get hj]
      simp [hg, renO]
    · have := (List.getElem?_eq_some_iff.1 (pos_get hj)).1
      simpa using this
  refine ⟨⟨fun j ob h => ?_, hC.lt, fun j p h => ?_, fun j j' b o o' h1 h2 h3 h4 => ?_⟩, hR, fun b hb => ?_⟩
  · obtain ⟨id, h4, ⟨ob', h5, rfl⟩ | rfl⟩ := hget j ob h
    · exact RO_ren hR hC.dom (by simp [h4]) (hC.obj id ob' h5)
    · trivial
  · cases hj : live[j]? with
    | none => rw [hj] at h; cases h
    | some i => simpa using (List.getElem?_eq_some_iff.1 hj).1
  · obtain ⟨id, a1, a2, a3⟩ := hmine j b o h1 h3
    obtain ⟨id', b1, b2, b3⟩ := hmine j' b o' h2 h4
    have := hC.inj id id' b o o' a2 b2 a3 b3
    subst this
    exact (List.getElem?_inj (List.getElem?_eq_some_iff.1 a1).1 hn).1 (a1.trans b1.symm)
  · obtain ⟨j, off, h1, h2⟩ := hb
    obtain ⟨id, _, a2, a3⟩ := hmine j b off h1 h2
    exact ⟨id, off, a2, a3⟩
theorem live_keep {get : Nat → Option Ob} {n m : Nat} {todo : List Nat} : (reach get n todo (List.range m)).Nodup ∧ m ≤ (reach get n todo (List.range m)).length ∧ ∀ id, id < m → (reach get n todo (List.range m))[id]? = some id := by
  obtain ⟨t, ht⟩ := reach_prefix get n todo (List.range m)
  refine ⟨reach_nodup get n todo _ List.nodup_range, by rw [ht]; simp, fun id hid => ?_⟩
  rw [ht, List.getElem?_append_left (by simpa using hid)]
  exact List.getElem?_range hid
theorem pack_ok {s : St} {a : Act} {w : World} (h : SR w0 I0 ρ0 H0 mm s a w) : SR w0 I0 ρ0 H0 mm (pack mm s.fr s.H) a w := by
  obtain ⟨I, ρ, hC, ⟨hF, hO⟩, hd, hE, hm, hk⟩ := h
  obtain ⟨hn, hml, hid⟩ := live_keep (get := (s.H[·]?)) (n := depth) (m := mm) (todo := (List.range mm).flatMap (fun i => idsO s.H[i]?) ++ s.fr.flatMap idsV)
  unfold pack
  simp only
  generalize reach (fun x => s.H[x]?) depth ((List.range mm).flatMap (fun i => idsO s.H[i]?) ++ s.fr.flatMap idsV) (List.range mm) = live at hn hml hid ⊢
  obtain ⟨hC1, hR, hown⟩ := pack_ctx hC hn
  have hren : ∀ {t : Nat} {x : V}, x.isO = true → (s.fr.map (renV (pos live)))[t]? = some x → ∃ y, s.fr[t]? = some y ∧ renV (pos live) y = x ∧ y.isO = true := by
    intro t x hx ht
    rw [List.getElem?_map] at ht
    cases hy : s.fr[t]? with
    | none => rw [hy] at ht; cases ht
    | some y =>
      rw [hy] at ht
      simp only [Option.map_some, Option.some.injEq] at ht
      refine ⟨y, rfl, ht, ?_⟩
      subst ht
      cases y <;> first | rfl | exact hx
  have hO' : OwnF w0.heap.size w I (fun j => (live[j]?).bind ρ) (live.map fun i => renO (pos live) ((s.H[i]?).getD .gone)) (s.fr.map (renV (pos live))) a.tmps := by
    refine ⟨fun t cs ht => ?_, fun t t' cs cs' hne ht ht' => ?_, fun t q off ht => ?_⟩
    · obtain ⟨y, h1, h2, h3⟩ := hren rfl ht
      cases y <;> simp [V.isO] at h3
      · rename_i cs0
        simp only [renV, renV1, V.own.injEq] at h2
        subst h2
        obtain ⟨b, arr, e, h4, h5, h6, h7, h8, h9⟩ := hO.own t cs0 h1
        exact ⟨b, arr, e, h4, h5, A2.map_left (h6.imp fun _ _ h => RC_ren hR hC.dom h), h7, h8, fun h => h9 (hown b h)⟩
      · cases h2
    · obtain ⟨y, h1, h2, h3⟩ := hren rfl ht
      obtain ⟨y', h1', h2', h3'⟩ := hren rfl ht'
      cases y <;> simp [V.isO] at h3
      · cases y' <;> simp [V.isO] at h3'
        · exact hO.dis t t' _ _ hne h1 h1'
        · cases h2'
      · cases h2
    · obtain ⟨y, h1, h2, h3⟩ := hren rfl ht
      cases y <;> simp [V.isO] at h3
      · cases h2
      · simp only [renV, renV1, V.oref.injEq] at h2
        obtain ⟨rfl, rfl⟩ := h2
        obtain ⟨cs, b, h4, h5, h6⟩ := hO.oref t _ _ h1
        exact ⟨cs.map (renC (pos live)), b, by rw [List.getElem?_map, h4]; rfl, h5, h6⟩
  refine ⟨I, _, hC1, ⟨?_, hO'⟩, hd, ⟨hE.os, hE.tape, hE.output, hE.size, hE.same, hE.cap, hE.imm, hE.new, fun b hb => hE.own b (hown b hb)⟩, by simpa using hml, fun id hid' => ?_⟩
  · intro i x hx
    rw [List.getElem?_map] at hx
    cases hy : s.fr[i]? with
    | none => rw [hy] at hx; cases hx
    | some y =>
      rw [hy] at hx
      simp only [Option.map_some, Option.some.injEq] at hx
      subst hx
      obtain ⟨u, hu, hr⟩ := hF i y hy
      exact ⟨u, hu, RV_ren hR hC.dom hr⟩
  · refine ⟨?_, fun hg => hR.gone id id (pos_of_get hn (hid id hid')) ((hk id hid').2 hg)⟩
    simp only [hid id hid', Option.bind_some]
    exact (hk id hid').1
theorem wk_ok {s : St} {a : Act} {w : World} (h : SR w0 I0 ρ0 H0 mm s a w) : SR w0 I0 ρ0 H0 mm ⟨s.fr.map V.wk, s.H⟩ a w := by
  obtain ⟨I, ρ, hC, ⟨hF, hO⟩, hd, hE, hm, hk⟩ := h
  have hget : ∀ {t : Nat} {x : V}, x.isO = true → (s.fr.map V.wk)[t]? = some x → s.fr[t]? = some x := by
    intro t x hx ht
    rw [List.getElem?_map] at ht
    cases hy : s.fr[t]? with
    | none => rw [hy] at ht; cases ht
    | some y =>
      rw [hy] at ht
      simp only [Option.map_some, Option.some.injEq] at ht
      subst ht
      cases y with
      | c y => cases y <;> simp [V.wk, V.isO] at hx
      | _ => rfl
  refine ⟨I, ρ, hC, ⟨?_, hO.sub (fun t cs ht => hget rfl ht) fun t q off ht => ⟨hget rfl ht, ?_⟩⟩, hd, hE, hm, hk⟩
  · intro t x hx
    rw [List.getElem?_map] at hx
    cases hy : s.fr[t]? with
    | none => rw [hy] at hx; cases hx
    | some y =>
      rw [hy] at hx
      simp only [Option.map_some, Option.some.injEq] at hx
      subst hx
      obtain ⟨u, hu, hr⟩ := hF t y hy
      refine ⟨u, hu, ?_⟩
      cases y with
      | c y => cases y with
        | t y => exact RT_wk hr
        | _ => exact hr
      | _ => exact hr
  · obtain ⟨cs, _, hq, _⟩ := hO.oref t q off (hget rfl ht)
    exact ⟨cs, by rw [List.getElem?_map, hq]; rfl⟩
theorem norm_ok {s : St} {a : Act} {w : World} {kl : List Nat} {ns : List (Nat × Nat)} (h : SR w0 I0 ρ0 H0 mm s a w) : SR w0 I0 ρ0 H0 mm (norm mm kl ns s) a w := by
  have h1 : SR w0 I0 ρ0 H0 mm ⟨cleanO (killed kl s.fr), s.H⟩ a w := by
    obtain ⟨I, ρ, hC, ⟨hF, hO⟩, hd, hE, hm, hk⟩ := h
    refine ⟨I, ρ, hC, ⟨?_, hO.sub (fun t cs ht => ?_) fun t q off ht => ?_⟩, hd, hE, hm, hk⟩
    · have hF1 := killed_ok (kl := kl) hF
      intro t x hx
      rcases cleanO_get hx with rfl | ⟨hx, _⟩
      · have hl : t < (killed kl s.fr).length := by
          have := (List.getElem?_eq_some_iff.1 hx).1
          simpa [cleanO] using this
        obtain ⟨u, hu, _⟩ := hF1 t _ (List.getElem?_eq_getElem hl)
        exact ⟨u, hu, trivial⟩
      · exact hF1 t x hx
    · rcases cleanO_get ht with h | ⟨hx, _⟩
      · cases h
      · rcases killed_get hx with h | h
        · cases h
        · exact h
    · rcases cleanO_get ht with h | ⟨hx, hcs⟩
      · cases h
      · obtain ⟨cs, hcs⟩ := hcs q off rfl
        refine ⟨?_, cs, cleanO_own hcs⟩
        rcases killed_get hx with h | h
        · cases h
        · exact h
  exact pack_ok (wk_ok (nils_fold ns h1))
def toExit : Ex → Exit | .norm => .normal | .exit id => .exit id | .ret => .ret
theorem exec_ok {R : Type} {E : Env} {ob : OB} (hP : P.follows .mixedOrders = true) (hT : TabOk P E.tb) (hO : OrcOk P E.orc) (hm : E.m = mm) {n : Nat} {c : Code} {d : Cd} (hc : Cm E.tb ob c d) :
    ∀ {s : St} {k : Ex → St → Option R} {r : R}, exec E n d s k = some r → ∀ {a : Act} {w : World}, SR w0 I0 ρ0 H0 mm s a w → ∀ {Q : Exit → Act → World → Prop},
      (∀ e s' a' w', SR w0 I0 ρ0 H0 mm s' a' w' → k e s' = some r → Q (toExit e) a' w') → c.wp P Q a w := by
  induction hc with
  | bad => intro s k r h; simp [exec, runIs, stepIns, doIns, step] at h
  | skip => intro s k r h a w hS Q hQ; exact wp_skip (hQ .norm s a w hS h)
  | reg hreg =>
    intro s k r h a w hS Q hQ
    simp only [exec, Option.bind_eq_some_iff] at h
    obtain ⟨s', h1, h2⟩ := h
    exact region_ok hP hT hO hreg h1 hS fun a' w' hS' => hQ .norm s' a' w' hS' h2
  | seq ha hb iha ihb =>
    intro s k r h a w hS Q hQ
    refine wp_seq (iha h hS ?_)
    intro e s' a' w' hS' he
    cases e with
    | norm => exact ihb he hS' hQ
    | exit id => exact hQ (.exit id) s' a' w' hS' he
    | ret => exact hQ .ret s' a' w' hS' he
  | cond ha hb iha ihb =>
    rename_i x _ _ _ _
    intro s k r h a w hS Q hQ
    simp only [exec] at h
    split at h
    · rename_i t heq
      obtain ⟨I, ρ, hC, hF, hrest⟩ := hS
      have hx := RV_ev hF.1 x
      rw [heq] at hx
      have hx' : a.eval x = .bool t := hx
      refine wp_cond hx' ?_
      cases t with
      | true => exact iha (by simpa using h) ⟨I, ρ, hC, hF, hrest⟩ hQ
      | false => exact ihb (by simpa using h) ⟨I, ρ, hC, hF, hrest⟩ hQ
    · cases h
  | block ha iha =>
    rename_i id _ _
    intro s k r h a w hS Q hQ
    refine wp_block (iha h hS ?_)
    intro e s' a' w' hS' he
    cases e with
    | norm => exact hQ .norm s' a' w' hS' he
    | exit j =>
      simp only at he
      show Exit.inBlock id Q (.exit j) a' w'
      unfold Exit.inBlock
      split at he
      · rename_i hj; simp only [hj, if_true]; exact hQ .norm s' a' w' hS' he
      · rename_i hj; simp only [hj, if_false]; exact hQ (.exit j) s' a' w' hS' he
    | ret => exact hQ .ret s' a' w' hS' he
  | loop ha iha =>
    rename_i c d kl ns
    intro s k r h a w hS Q hQ
    simp only [exec] at h
    refine wp_loop_rounds n ?_
    have key : ∀ (n' : Nat) {s : St} {a : Act} {w : World}, loopN E.m kl ns (exec E n d) k n' s = some r → SR w0 I0 ρ0 H0 mm s a w → Code.rounds P c Q n' a w := by
      intro n'
      induction n' with
      | zero => intro s a w h _; simp [loopN] at h
      | succ n' ih =>
        intro s a w h hS
        simp only [loopN] at h
        rw [rounds_succ]
        rw [hm] at h
        refine iha h (norm_ok hS) ?_
        intro e s' a' w' hS' he
        cases e with
        | norm => rw [← hm] at he; exact ih he hS'
        | exit id => exact hQ (.exit id) s' a' w' hS' he
        | ret => exact hQ .ret s' a' w' hS' he
    exact key n h hS
  | exit => intro s k r h a w hS Q hQ; exact wp_exit (hQ (.exit _) s a w hS h)
  | ret => intro s k r h a w hS Q hQ; exact wp_ret (hQ .ret s a w hS h)
theorem RV1_RV {w : World} {I : Nat → Prop} {ρ : Rho} {H : List Ob} {x : V} {u : Value} (h : RV1 w I ρ H x u) : RV w I ρ H x u := by
  cases x with
  | tup vs => cases vs with
    | nil => exact ⟨[], h, .nil⟩
    | cons _ _ => exact h.elim
  | c _ => exact h
  | agg _ => exact h
  | any => exact h
  | own _ => trivial
  | oref _ _ => trivial
def resV (us : List Value) : Value := match us with
  | [u] => u
  | us => .tuple us.toArray
theorem mapM_run {α β : Type} {f : α → Sem β} {w : World} : ∀ {l : List α} {us : List β}, A2 (fun a b => (f a).run P w = .ok b w) l us → (l.mapM f).run P w = .ok us w
  | [], us, h => by cases h; simp
  | a :: l, us, h => by
    cases h with
    | cons h1 h2 =>
      have ih := mapM_run h2
      simp only [List.mapM_cons, Sem.run_bind, h1, Result.andThen, ih, Sem.run_pure]
theorem results_run {fn : Func} {tmps : Array Value} {w : World} {us : List Value}
    (h : A2 (fun (r : ResultVar) (b : Value) => ((match r with | .tmp t => pure (tmps.getD t undef) | .cell a t => do loadVar t (← asAddr (tmps.getD a undef)) : Sem Value)).run P w = .ok b w) fn.results.toList us) :
    (results fn tmps).run P w = .ok (resV us) w := by
  have hm := mapM_run h
  have hm2 : ∀ (x : Sem (List Value)) (r : List Value), x.run P w = .ok r w → (List.toArray <$> x).run P w = .ok r.toArray w := by
    intro x r h
    rw [← bind_pure_comp, Sem.run_bind, h]
    rfl
  have hm3 := hm2 _ _ hm
  rw [← Array.mapM_eq_mapM_toList] at hm3
  unfold results
  rw [Sem.run_bind]
  refine Eq.trans (congrArg (fun z : Result (Array Value) => z.andThen fun a w' => Sem.run P (pure (if h : a.size = 1 then a[0] else Value.tuple a)) w') hm3) ?_
  simp only [Result.andThen]
  match us with
  | [] => rfl
  | [u] => rfl
  | u :: v :: us => simp [resV]
theorem load_run {tb : Tab} {w : World} {I : Nat → Prop} {ρ : Rho} {H : List Ob} (hT : TabOk P tb) (hC : Ctx I ρ H w) {t : TypeId} {x v : V} {ux : Value} {es : List Eff} (hx : RV w I ρ H x ux) (h : sLoad (H[·]?) (tb.at t) [x] = some (v, es)) :
    ∃ u, ((do loadVar t (← asAddr ux) : Sem Value)).run P w = .ok u w ∧ RV w I ρ H v u := by
  obtain ⟨rfl, hk, hc⟩ := inv_load h
  have conv : ∀ {ad : Addr} {u : Value}, ux = .pointer (some ad) → (Instr.loadAt t ux).run P w = .ok u w → ((do loadVar t (← asAddr ux) : Sem Value)).run P w = .ok u w := by
    intro ad u hv hr
    subst hv
    simpa [Instr.loadAt, Instr.sureAddr, asAddr] using hr
  rcases hc with ⟨p, h1, h2, h3⟩ | ⟨id, off, h1, h2⟩
  · simp only [List.cons.injEq, and_true] at h1
    rw [h1] at hx
    have hx' : RT w I p ux := hx
    cases p <;> simp [T.isBox] at h2
    rename_i cs j
    simp only [RT] at hx'
    obtain ⟨ad, hv, hs⟩ := hx'
    simp only [T.bCs, T.bJ] at h3
    obtain ⟨u, hu, hr⟩ := loadT_ok (ρ := ρ) (H := H) hT (ok_of hk) (MemT.of_RTs hs) h3
    rw [← hv] at hu
    exact ⟨u, conv hv hu, hr⟩
  · simp only [List.cons.injEq, and_true] at h1
    rw [h1] at hx
    have hx' : RP ρ H id off ux := hx
    rcases h2 with ⟨f, cs, hg, h3⟩ | ⟨f, cs, hg, h3⟩
    · have hH : H[id]? = some (.flat f cs) := hg
      rcases hx' with ⟨h, _⟩ | ⟨b, o', hr, hv⟩
      · unfold GN at h; rw [hH] at h; cases h
      · have hro := hC.obj _ _ hH
        rcases hro with ⟨h, _⟩ | ⟨b', o'', h1', h2', _⟩
        · rw [h] at hr; cases hr
        · rw [hr] at h1'; cases h1'
          obtain ⟨u, hu, hru⟩ := loadT_ok (ρ := ρ) (H := H) hT (ok_of hk) (ad := ⟨b, o', none⟩) (fun j c hc => by rw [add_plain]; exact h2' j c hc) h3
          rw [add_plain, ← hv] at hu
          exact ⟨u, conv hv hu, hru⟩
    · have hH : H[id]? = some (.mix f cs) := hg
      rcases hx' with ⟨h, _⟩ | ⟨b, o', hr, hv⟩
      · unfold GN at h; rw [hH] at h; cases h
      · obtain ⟨b', o'', h1', h2', _⟩ := hC.obj _ _ hH
        rw [hr] at h1'; cases h1'
        obtain ⟨u, hu, hru⟩ := loadC_ok hT (ok_of hk) h2' h3
        rw [← hv] at hu
        exact ⟨u, conv hv hu, hru⟩
theorem load_own {tb : Tab} {w : World} {I : Nat → Prop} {ρ : Rho} {H : List Ob} (hT : TabOk P tb) {t : TypeId} {cs : List C} {b : Nat} {arr : Array Value} {e : TypeId} {v : V} (hk : isOther (tb.at t).k = false) (h5 : w.heap[b]? = some (.cells arr e (0, 0)))
    (h6 : A2 (RC w I ρ H) cs arr.toList) (h : loadC (tb.at t) cs 0 = some v) : ∃ u, ((do loadVar t (← asAddr (.pointer (some ⟨b, 0, none⟩))) : Sem Value)).run P w = .ok u w ∧ RV w I ρ H v u := by
  have hm : MemC w I ρ H b 0 cs := by
    intro j c hc
    obtain ⟨u, hu, hr⟩ := h6.get hc
    exact ⟨u, by rw [Nat.zero_add, cell_at h5]; simpa using hu, hr⟩
  obtain ⟨u, hu, hr⟩ := loadC_ok (P := P) hT (ok_of hk) hm h
  exact ⟨u, by simpa [Instr.loadAt, Instr.sureAddr, asAddr] using hu, hr⟩
theorem applyE_sync : ∀ {es : List Eff} {H : List Ob}, (∀ e ∈ es, ∃ id o, e = .set id o) → ∃ H', applyE .sync 0 es H = some H'
  | [], H, _ => ⟨H, rfl⟩
  | e :: es, H, h => by
    obtain ⟨id, o, rfl⟩ := h e (by simp)
    exact applyE_sync (es := es) (H := H.set id o) fun e he => h e (by simp [he])
theorem frzC_sets {get : Nat → Option Ob} {c : C} {x : T} {es : List Eff} (h : frzC get c = some (x, es)) : ∀ e ∈ es, ∃ id o, e = .set id o := by
  cases c with
  | t x => simp only [frzC, Option.some.injEq, Prod.mk.injEq] at h; obtain ⟨_, rfl⟩ := h; simp
  | osl id off len sz =>
    simp only [frzC] at h
    split at h <;> simp only [Option.some.injEq, Prod.mk.injEq, reduceCtorEq] at h <;> obtain ⟨_, rfl⟩ := h <;> simp
  | ref id off =>
    simp only [frzC] at h
    split at h
    · simp only [Option.some.injEq, Prod.mk.injEq] at h; obtain ⟨_, rfl⟩ := h; simp
    · simp only [Option.some.injEq, Prod.mk.injEq] at h; obtain ⟨_, rfl⟩ := h; simp
    · simp only [Option.map_eq_some_iff, Prod.mk.injEq] at h; obtain ⟨_, _, _, rfl⟩ := h; simp
    · simp only [Option.map_eq_some_iff, Prod.mk.injEq] at h; obtain ⟨_, _, _, rfl⟩ := h; simp
    · cases h
  | fn f caps =>
    cases caps with
    | nil => simp only [frzC, Option.some.injEq, Prod.mk.injEq] at h; obtain ⟨_, rfl⟩ := h; simp
    | cons _ _ => cases h
  | any => cases h
theorem frzCs_sets {get : Nat → Option Ob} : ∀ {cs : List C} {xs : List T} {es : List Eff}, frzCs get cs = some (xs, es) → ∀ e ∈ es, ∃ id o, e = .set id o
  | [], xs, es, h => by simp only [frzCs, Option.some.injEq, Prod.mk.injEq] at h; obtain ⟨_, rfl⟩ := h; simp
  | c :: cs, xs, es, h => by
    simp only [frzCs] at h
    split at h
    · cases h
    · rename_i x es1 h1
      split at h
      · cases h
      · rename_i xs2 es2 h2
        simp only [Option.some.injEq, Prod.mk.injEq] at h
        obtain ⟨_, rfl⟩ := h
        intro e he
        rcases List.mem_append.1 he with he | he
        · exact frzC_sets h1 e he
        · exact frzCs_sets h2 e he
theorem frzV_sets {get : Nat → Option Ob} {v x : V} {es : List Eff} (h : frzV get v = some (x, es)) : ∀ e ∈ es, ∃ id o, e = .set id o := by
  cases v with
  | c x =>
    simp only [frzV, Option.map_eq_some_iff, Prod.mk.injEq] at h
    obtain ⟨⟨y, es'⟩, h1, _, rfl⟩ := h
    exact frzC_sets h1
  | agg cs =>
    simp only [frzV, Option.map_eq_some_iff, Prod.mk.injEq] at h
    obtain ⟨⟨y, es'⟩, h1, _, rfl⟩ := h
    exact frzCs_sets h1
  | tup vs => cases h
  | any => simp only [frzV, Option.some.injEq, Prod.mk.injEq] at h; obtain ⟨_, rfl⟩ := h; simp
  | own _ => simp [frzV] at h
  | oref _ _ => simp [frzV] at h
theorem frzVs_sets {get : Nat → Option Ob} : ∀ {cs : List V} {xs : List V} {es : List Eff}, frzVs get cs = some (xs, es) → ∀ e ∈ es, ∃ id o, e = .set id o
  | [], xs, es, h => by simp only [frzVs, Option.some.injEq, Prod.mk.injEq] at h; obtain ⟨_, rfl⟩ := h; simp
  | c :: cs, xs, es, h => by
    simp only [frzVs] at h
    split at h
    · cases h
    · rename_i x es1 h1
      split at h
      · cases h
      · rename_i xs2 es2 h2
        simp only [Option.some.injEq, Prod.mk.injEq] at h
        obtain ⟨_, rfl⟩ := h
        intro e he
        rcases List.mem_append.1 he with he | he
        · exact frzV_sets h1 e he
        · exact frzVs_sets h2 e he
theorem rsVs_ok {tb : Tab} {w : World} {I : Nat → Prop} {ρ : Rho} {H : List Ob} {fr : List V} {tmps : Array Value} (hT : TabOk P tb) (hC : Ctx I ρ H w) (hF : RF w I ρ H fr tmps) {lo : Nat} (hO : OwnF lo w I ρ H fr tmps) : ∀ {l : List ResultVar} {vs : List V}, rsVs tb (H[·]?) fr (resultRS l) = some vs →
    ∃ us, A2 (fun (r : ResultVar) (b : Value) => ((match r with | .tmp t => pure (tmps.getD t undef) | .cell a t => do loadVar t (← asAddr (tmps.getD a undef)) : Sem Value)).run P w = .ok b w) l us ∧ A2 (RV w I ρ H) vs us
  | [], vs, h => by
    simp only [resultRS, rsVs, Option.some.injEq] at h
    subst h
    exact ⟨[], .nil, .nil⟩
  | r :: l, vs, h => by
    have h1 : ∀ t, RV w I ρ H (fr.getD t .any) (tmps.getD t undef) := fun t => by
      have := RV_ev (a := ⟨tmps, []⟩) hF (.tmp t)
      simpa [ev, Act.eval] using this
    cases r with
    | tmp t =>
      simp only [resultRS, rsVs, rsV] at h
      split at h
      · rename_i v vs' he hvs
        simp only [Option.some.injEq] at he h
        subst he h
        obtain ⟨us, ha, hb⟩ := rsVs_ok hT hC hF hO hvs
        exact ⟨_ :: us, .cons (by simp only [Sem.run_pure]) ha, .cons (h1 t) hb⟩
      · cases h
    | cell a t =>
      simp only [resultRS, rsVs, rsV] at h
      split at h
      · rename_i v vs' he hvs
        simp only [Option.some.injEq] at h
        subst h
        split at he
        · rename_i cs0 hcs0
          split at he
          · cases he
          rename_i hok
          obtain ⟨us, ha, hb⟩ := rsVs_ok hT hC hF hO hvs
          have hfr : fr[a]? = some (.own cs0) := by
            rw [List.getD_eq_getElem?_getD] at hcs0
            cases hq : fr[a]? with
            | none => rw [hq] at hcs0; cases hcs0
            | some q => rw [hq] at hcs0; simp only [Option.getD_some] at hcs0; rw [hcs0]
          obtain ⟨b, arr, e, h4, h5, h6, _⟩ := hO.own a cs0 hfr
          obtain ⟨u, hu, hr⟩ := load_own (P := P) (I := I) (ρ := ρ) (H := H) hT (by simpa using hok) h5 h6 he
          refine ⟨u :: us, .cons ?_ ha, .cons hr hb⟩
          have : tmps.getD a undef = .pointer (some ⟨b, 0, none⟩) := by simp [Array.getD_eq_getD_getElem?, h4]
          simp only [this]
          exact hu
        · split at he
          rotate_left
          · cases he
          rename_i v' es hl
          simp only [Option.some.injEq] at he
          subst he
          obtain ⟨us, ha, hb⟩ := rsVs_ok hT hC hF hO hvs
          obtain ⟨u, hu, hr⟩ := load_run (P := P) hT hC (h1 a) hl
          exact ⟨u :: us, .cons hu ha, .cons hr hb⟩
      · cases h
theorem result_ok {tb : Tab} {w : World} {I : Nat → Prop} {ρ : Rho} {H : List Ob} {fr : List V} {tmps : Array Value} {fn : Func} (hT : TabOk P tb) (hC : Ctx I ρ H w) (hF : RF w I ρ H fr tmps) {lo : Nat} (hO : OwnF lo w I ρ H fr tmps) {r : V} (h : result tb (H[·]?) (resultRS fn.results.toList) fr = some r) :
    ∃ us, (results fn tmps).run P w = .ok (resV us) w ∧ ((∃ u, us = [u] ∧ RV w I ρ H r u) ∨ (resV us = .tuple us.toArray ∧ ∃ vs, r = .tup vs ∧ A2 (RV w I ρ H) vs us)) := by
  unfold result at h
  split at h
  · rename_i vs hvs
    simp only [Option.some.injEq] at h
    subst h
    obtain ⟨us, ha, hb⟩ := rsVs_ok (P := P) hT hC hF hO hvs
    refine ⟨us, results_run ha, ?_⟩
    cases hb with
    | nil => exact .inr ⟨rfl, [], rfl, .nil⟩
    | cons h1 h2 =>
      cases h2 with
      | nil => exact .inl ⟨_, rfl, h1⟩
      | cons h3 h4 => exact .inr ⟨rfl, _, rfl, .cons h1 (.cons h3 h4)⟩
  · cases h
def noTup : V → Bool | .tup (_ :: _) => false | _ => true
theorem RV1_of {w : World} {I : Nat → Prop} {ρ : Rho} {H : List Ob} {x : V} {u : Value} (hn : noTup x = true) (h : RV w I ρ H x u) : RV1 w I ρ H x u := by
  cases x with
  | tup vs => cases vs with
    | nil => obtain ⟨us, h1, h2⟩ := h; cases h2; exact h1
    | cons _ _ => simp [noTup] at hn
  | c _ => exact h
  | agg _ => exact h
  | any => exact h
  | own _ => trivial
  | oref _ _ => trivial
end
end Go.AM

namespace Go.AM
section
variable {P : Program} {w0 : World} {I0 : Nat → Prop} {ρ0 : Rho} {H0 : List Ob} {mm : Nat}
theorem RV_renT {w : World} {I : Nat → Prop} {ρ ρ2 : Rho} {H H2 : List Ob} {f : Nat → Option Nat} (hR : Ren ρ H f ρ2 H2) (hd : ∀ id p, ρ id = some p → id < H.length) {vs : List V} {us : List Value} (h : A2 (RV w I ρ H) vs us) :
    RV w I ρ2 H2 (renV f (.tup vs)) (.tuple us.toArray) := by
  refine ⟨us, rfl, A2.map_left (h.imp fun x u hx => ?_)⟩
  by_cases ht : noTup x = true
  · exact RV1_ren hR hd (RV1_of ht hx)
  · cases x with
    | tup vs => cases vs with
      | nil => simp [noTup] at ht
      | cons _ _ => trivial
    | _ => simp [noTup] at ht
theorem finish_ok {tb : Tab} {imp : Bool} {s : St} {a : Act} {w' : World} {fn : Func} {r : V} {H' : List Ob} (hT : TabOk P tb)
    (h : finish tb imp H0.length (resultRS fn.results.toList) s = some (r, H')) (hS : SR w0 I0 ρ0 H0 H0.length s a w') :
    a.defers = [] ∧ ∃ v, (results fn a.tmps).run P w' = .ok v w' ∧ ∃ I' ρ', Ctx I' ρ' H' w' ∧ RV w' I' ρ' H' r v ∧ Ext w0 I0 (ownd ρ0 H0) w' I' (ownd ρ' H') ∧ (H0.length ≤ H'.length → ∀ id, id < H0.length → ρ' id = ρ0 id ∧ (GN H0 id → GN H' id)) := by
  obtain ⟨I, ρ, hC, ⟨hF, hO⟩, hd, hE, hm, hk⟩ := hS
  unfold finish at h
  split at h
  · cases h
  rename_i r0 hr0
  split at h
  · cases h
  obtain ⟨us, hrun, hres⟩ := result_ok (P := P) hT hC hF hO hr0
  refine ⟨hd, _, hrun, ?_⟩
  cases imp with
  | true =>
    simp only [if_true, Option.some.injEq, Prod.mk.injEq] at h
    obtain ⟨hn, hml, hid⟩ := live_keep (get := (s.H[·]?)) (n := depth) (m := H0.length) (todo := (List.range H0.length).flatMap (fun i => idsO s.H[i]?) ++ idsV r0)
    generalize reach (fun x => s.H[x]?) depth ((List.range H0.length).flatMap (fun i => idsO s.H[i]?) ++ idsV r0) (List.range H0.length) = live at hn hml hid h
    obtain ⟨hC1, hR, hown⟩ := pack_ctx hC hn
    obtain ⟨rfl, rfl⟩ := h
    refine ⟨I, _, hC1, ?_, ⟨hE.os, hE.tape, hE.output, hE.size, hE.same, hE.cap, hE.imm, hE.new, fun b hb => hE.own b (hown b hb)⟩, fun _ id hid' => ⟨?_, fun hg => hR.gone id id (pos_of_get hn (hid id hid')) ((hk id hid').2 hg)⟩⟩
    · rcases hres with ⟨u, rfl, hrv⟩ | ⟨hv, vs, rfl, hA⟩
      · exact RV_ren hR hC.dom hrv
      · rw [hv]
        exact RV_renT hR hC.dom hA
    · simp only [hid id hid', Option.bind_some]
      exact (hk id hid').1
  | false =>
    simp only [Bool.false_eq_true, if_false, Option.map_eq_some_iff, Prod.mk.injEq] at h
    obtain ⟨r', hfr, rfl, rfl⟩ := h
    have one : ∀ {x0 : V} {u : Value}, (∀ vs, x0 ≠ .tup vs) → frzR (s.H[·]?) x0 = some r' → RV w' I ρ s.H x0 u → ∃ I2 H2, Ctx I2 ρ H2 w' ∧ Stp I ρ s.H w' I2 ρ H2 w' ∧ RV w' I2 (fun _ => none) [] r' u := by
      intro x0 u hnt hfr hrv
      have hfr' : (frzV (s.H[·]?) x0).map (fun p => p.1) = some r' := by
        cases x0 with
        | tup vs => exact absurd rfl (hnt vs)
        | own _ => cases hfr
        | oref _ _ => cases hfr
        | _ => exact hfr
      simp only [Option.map_eq_some_iff] at hfr'
      obtain ⟨⟨x, es⟩, h1, rfl⟩ := hfr'
      obtain ⟨H2, happ⟩ := applyE_sync (H := s.H) (frzV_sets h1)
      have h1' : frzV (getM .sync 0 s.H) _ = some (x, es) := h1
      obtain ⟨I2, H3, hC2, hs2, _, hx, hnt, _⟩ := frzV_ok hC (Frz.refl s.H) hrv h1' (rest := []) (by simpa using happ)
      exact ⟨I2, H3, hC2, hs2, RV1_RV (hx _ _)⟩
    have tups : ∀ {vs : List V} {us : List Value}, frzR (s.H[·]?) (.tup vs) = some r' → A2 (RV w' I ρ s.H) vs us → ∃ I2 H2, Ctx I2 ρ H2 w' ∧ Stp I ρ s.H w' I2 ρ H2 w' ∧ RV w' I2 (fun _ => none) [] r' (.tuple us.toArray) := by
      intro vs us hfr hA
      simp only [frzR, Option.map_eq_some_iff] at hfr
      obtain ⟨⟨xs, es⟩, h1, rfl⟩ := hfr
      obtain ⟨H2, happ⟩ := applyE_sync (H := s.H) (frzVs_sets h1)
      have h1' : frzVs (getM .sync 0 s.H) _ = some (xs, es) := h1
      obtain ⟨I2, H3, hC2, hs2, _, hx, _, _⟩ := frzVs_ok hC (Frz.refl s.H) hA h1' (rest := []) (by simpa using happ)
      exact ⟨I2, H3, hC2, hs2, _, rfl, hx _ _⟩
    have key : ∃ I2 H2, Ctx I2 ρ H2 w' ∧ Stp I ρ s.H w' I2 ρ H2 w' ∧ RV w' I2 (fun _ => none) [] r' (resV us) := by
      rcases hres with ⟨u, rfl, hrv⟩ | ⟨hv, vs, rfl, hA⟩
      · by_cases ht : ∃ vs, r0 = .tup vs
        · obtain ⟨vs, rfl⟩ := ht
          obtain ⟨us', hu, hA⟩ := hrv
          obtain ⟨I2, H2, h1, h2, h3⟩ := tups hfr (hA.imp fun _ _ h => RV1_RV h)
          exact ⟨I2, H2, h1, h2, by rw [show resV [u] = u from rfl, hu]; exact h3⟩
        · exact one (fun vs hv => ht ⟨vs, hv⟩) hfr hrv
      · rw [hv]
        exact tups hfr hA
    obtain ⟨I2, H2, hC2, hs2, hrv⟩ := key
    refine ⟨I2, fun _ => none, ⟨by simp, hC2.lt, by simp, by simp⟩, hrv, ?_, ?_⟩
    · have := hE.trans hs2.ext
      exact ⟨this.os, this.tape, this.output, this.size, this.same, this.cap, this.imm, this.new, fun b hb => by obtain ⟨id, o, _, h⟩ := hb; cases h⟩
    · intro hl id hid
      have hl' : H0.length ≤ 0 := hl
      exact (Nat.not_lt_zero _ (Nat.lt_of_lt_of_le hid hl')).elim
def FnsOk (P : Program) (G : Pg) : Prop := ∀ f fd, G.fn f = some fd → ∃ fn : Func, P.funcs[f]? = some fn ∧ (∃ ob, comp G.tb ob fn = some fd) ∧ (fn.name == "runtime.NumGoroutine") = false
theorem comp_inv {tb : Tab} {ob : OB} {fn : Func} {fd : Fun} (h : comp tb ob fn = some fd) : ∃ c, fn.body = some c ∧ fd.ntmps = fn.ntmps ∧ fd.results = resultRS fn.results.toList ∧ Cm tb ob c fd.body := by
  unfold comp at h
  split at h
  · cases h
  · rename_i c hc
    split at h
    · rename_i cd hcd
      split at h
      · simp only [Option.some.injEq] at h
        subst h
        exact ⟨c, hc, rfl, rfl, dress_ok (comp0_ok hcd) _⟩
      · cases h
    · cases h
theorem pcall_ok {G : Pg} (hP : P.follows .mixedOrders = true) (hT : TabOk P G.tb) (hG : FnsOk P G) (hX : OrcOk P G.ext) : ∀ n, OrcOk P (pcall G n)
  | 0 => fun f vs H r H' h => by simp [pcall] at h
  | n + 1 => fun f vs H r H' h => by
    simp only [pcall] at h
    split at h
    · exact hX f vs H r H' h
    · rename_i fd hfd
      obtain ⟨fn, hf, ⟨ob, hc⟩, hname⟩ := hG f fd hfd
      split at h
      · cases h
      rename_i hiso
      obtain ⟨c, hb, hnt, hres, hcm⟩ := comp_inv hc
      refine fun I ρ w us hC hA => .inl ⟨⟨fn, hf, by rw [hb]; rfl, hname⟩, ?_⟩
      have hO := pcall_ok hP hT hG hX n
      refine calls_of_wp hf hb ?_
      have hS : SR w I ρ H H.length ⟨vs ++ List.replicate (fd.ntmps - vs.length) (.tup []), H⟩ ⟨us.toArray ++ Array.replicate (fn.ntmps - us.toArray.size) undef, []⟩ w := by
        refine ⟨I, ρ, hC, ⟨?_, OwnF.none fun t x hx => ?_⟩, rfl, Ext.refl _ _ _, Nat.le_refl _, fun _ _ => ⟨rfl, fun h => h⟩⟩
        rotate_left
        · rcases List.mem_append.1 (List.mem_of_getElem? hx) with hx | hx
          · simp only [Bool.not_eq_true] at hiso
            exact Bool.eq_false_iff.2 (List.any_eq_false.1 hiso x hx)
          · rw [List.eq_of_mem_replicate hx]; rfl
        intro t x hx
        have hl := hA.length
        rw [List.getElem?_append] at hx
        split at hx
        · rename_i ht
          obtain ⟨u, hu, hr⟩ := hA.get hx
          exact ⟨u, by rw [Array.getElem?_append_left (by simp; omega)]; simpa using hu, hr⟩
        · rename_i ht
          rw [List.getElem?_replicate] at hx
          split at hx
          · rename_i hlt
            cases hx
            refine ⟨undef, ?_, tup_nil⟩
            rw [Array.getElem?_append_right (by simp; omega), Array.getElem?_replicate, if_pos (by simp; omega)]
          · cases hx
      rw [hres] at h
      refine exec_ok (E := ⟨G.tb, G.imp, pcall G n, H.length⟩) hP hT hO rfl hcm h hS ?_
      intro e s' a' w' hS' he
      cases e with
      | norm =>
        obtain ⟨hd, v, hv, I', ρ', hrest⟩ := finish_ok (P := P) hT he hS'
        exact ⟨hd, v, hv, v, rfl, I', ρ', hrest⟩
      | ret =>
        obtain ⟨hd, v, hv, I', ρ', hrest⟩ := finish_ok (P := P) hT he hS'
        exact ⟨hd, v, hv, v, rfl, I', ρ', hrest⟩
      | exit id => cases he
end
end Go.AM
