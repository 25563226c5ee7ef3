/- Regions whose order is open: what is unordered can be exchanged. -/
import Derived.Test.YtmomipeoigffgaaAmExec
set_option linter.unusedVariables false
set_option linter.unusedSimpArgs false
namespace Go.AM

/-- An instruction's value and the objects behind it. -/
def operV (E : Env) (L0 : Nat) (x : Ins) (fr : List V) (H : List Ob) : Option (V × List Ob) :=
  match step E.tb E.imp E.orc x.m.own (getM x.m L0 H) (x.m.nx H.length) x.k (x.xs.map (ev fr)) with
  | none => none
  | some (v, es) => (applyE x.m L0 es H).map fun H' => (v, H')
def oper (E : Env) (L0 : Nat) (x : Ins) (fr : List V) (H : List Ob) : Option (V × List Ob) :=
  match x.g with
  | none => operV E L0 x fr H
  | some (g, want) =>
    match fr.getD g .any with
    | .c (.t (.bool b)) => if b = want then operV E L0 x fr H else some (.tup [], H)
    | .tup [] => some (.tup [], H)
    | _ => none

section
variable {E : Env} {L0 : Nat} {x y : Ins} {fr fr' : List V} {H H' : List Ob} {s : St}

theorem stepIns_oper : stepIns E L0 x s = (oper E L0 x s.fr s.H).map fun p => ⟨put s.fr x.dst p.1, p.2⟩ := by
  have hdo : doIns E L0 x s = (operV E L0 x s.fr s.H).map fun p => ⟨put s.fr x.dst p.1, p.2⟩ := by
    unfold doIns operV
    generalize step E.tb E.imp E.orc x.m.own (getM x.m L0 s.H) (x.m.nx s.H.length) x.k (x.xs.map (ev s.fr)) = r
    cases r with
    | none => rfl
    | some p =>
      obtain ⟨v, es⟩ := p
      simp only
      cases applyE x.m L0 es s.H <;> rfl
  have hskip : skipIns x s = (some (V.tup [], s.H)).map fun p => (⟨put s.fr x.dst p.1, p.2⟩ : St) := rfl
  unfold stepIns oper
  generalize x.g = g
  cases g with
  | none => exact hdo
  | some gw =>
    obtain ⟨g, want⟩ := gw
    simp only
    generalize s.fr.getD g .any = vv
    by_cases hb : ∃ b, vv = .c (.t (.bool b))
    · obtain ⟨b, rfl⟩ := hb
      simp only
      by_cases hw : b = want
      · rw [if_pos hw, if_pos hw]; exact hdo
      · rw [if_neg hw, if_neg hw]; exact hskip
    · by_cases ht : vv = .tup []
      · subst ht; exact hskip
      · split
        · exact (hb ⟨_, rfl⟩).elim
        · exact (ht rfl).elim
        · split
          · exact (hb ⟨_, rfl⟩).elim
          · exact (ht rfl).elim
          · rfl

theorem ev_congr {o : Operand} (h : ∀ t, o = .tmp t → fr.getD t .any = fr'.getD t .any) : ev fr o = ev fr' o := by
  cases o with
  | tmp t => exact h t rfl
  | _ => rfl
theorem mem_tmpsOf {xs : List Operand} {t : Nat} (h : Operand.tmp t ∈ xs) : t ∈ tmpsOf xs := by
  unfold tmpsOf
  exact List.mem_filterMap.2 ⟨.tmp t, h, rfl⟩
theorem oper_congr (h : ∀ u ∈ x.uses, fr.getD u .any = fr'.getD u .any) : oper E L0 x fr H = oper E L0 x fr' H := by
  have hxs : x.xs.map (ev fr) = x.xs.map (ev fr') := List.map_congr_left fun o ho => ev_congr fun t ht => by
    subst ht
    exact h t (List.mem_append_left _ (mem_tmpsOf ho))
  have hV : operV E L0 x fr H = operV E L0 x fr' H := by unfold operV; rw [hxs]
  unfold oper
  cases hg : x.g with
  | none => exact hV
  | some gw =>
    obtain ⟨g, want⟩ := gw
    have : fr.getD g .any = fr'.getD g .any := h g (by unfold Ins.uses; rw [hg]; simp)
    simp only [this, hV]

theorem put_getD {d : Option Nat} {v : V} {u : Nat} (h : d ≠ some u) : (put fr d v).getD u .any = fr.getD u .any := by
  cases d with
  | none => rfl
  | some d =>
    simp only [put, List.getD_eq_getElem?_getD]
    rw [List.getElem?_set_ne (fun e => h (by rw [e]))]
theorem put_comm {d e : Option Nat} {v u : V} (h : ∀ t, d = some t → e ≠ some t) : put (put fr d v) e u = put (put fr e u) d v := by
  cases d with
  | none => rfl
  | some d => cases e with
    | none => rfl
    | some e => exact List.set_comm _ _ (fun he => h d rfl (by rw [he]))

theorem apart_ok (h : apart x y = true) : (∀ d, x.dst = some d → d ∉ y.uses) ∧ (∀ d, x.dst = some d → y.dst ≠ some d) ∧ ∀ d, y.dst = some d → d ∉ x.uses := by
  unfold apart at h
  simp only [Bool.and_eq_true] at h
  refine ⟨fun d hd => ?_, fun d hd => ?_, fun d hd => ?_⟩ <;> simp [hd] at h
  · exact h.1.1
  · exact h.1.2
  · exact h.2

/-- x changes no object, and sees nothing of what y does to them. -/
def Blind (E : Env) (L0 : Nat) (x y : Ins) : Prop :=
  (∀ fr H v H', oper E L0 x fr H = some (v, H') → H' = H) ∧
  ∀ fr fr' H v H', L0 ≤ H.length → oper E L0 y fr' H = some (v, H') → oper E L0 x fr H' = (oper E L0 x fr H).map fun p => (p.1, H')

theorem commute (hb : Blind E L0 x y) (ha : apart x y = true) (hl : L0 ≤ s.H.length) : (stepIns E L0 x s).bind (stepIns E L0 y) = (stepIns E L0 y s).bind (stepIns E L0 x) := by
  obtain ⟨a1, a2, a3⟩ := apart_ok ha
  rw [stepIns_oper, stepIns_oper]
  cases hx : oper E L0 x s.fr s.H with
  | none =>
    simp only [Option.map_none, Option.bind_none]
    cases hy : oper E L0 y s.fr s.H with
    | none => rfl
    | some q =>
      obtain ⟨vy, Hy⟩ := q
      simp only [Option.map_some, Option.bind_some]
      rw [stepIns_oper]
      simp only
      rw [oper_congr (fr' := s.fr) (fun u hu => put_getD fun hd => a3 u hd hu), hb.2 s.fr s.fr s.H vy Hy hl hy, hx]
      rfl
  | some p =>
    obtain ⟨vx, Hx⟩ := p
    have := hb.1 _ _ _ _ hx
    subst this
    simp only [Option.map_some, Option.bind_some]
    rw [stepIns_oper]
    simp only
    rw [oper_congr (x := y) (fr' := s.fr) (fun u hu => put_getD fun hd => a1 u hd hu)]
    cases hy : oper E L0 y s.fr s.H with
    | none => rfl
    | some q =>
      obtain ⟨vy, Hy⟩ := q
      simp only [Option.map_some, Option.bind_some]
      rw [stepIns_oper]
      simp only
      rw [oper_congr (x := x) (fr' := s.fr) (fun u hu => put_getD fun hd => a3 u hd hu), hb.2 s.fr s.fr s.H vy Hy hl hy, hx]
      simp only [Option.map_some]
      rw [put_comm a2]

theorem applyE_still {m : Md} (hm : m = .free ∨ m = .low) {es : List Eff} : applyE m L0 es H = if es.isEmpty then some H else none := by
  cases es with
  | nil => rfl
  | cons e es => rcases hm with rfl | rfl <;> cases e <;> rfl

/-- An instruction that changes nothing sees only what it may see. -/
theorem operV_still (hm : x.m = .free ∨ x.m = .low) (hg : getM x.m L0 H = getM x.m L0 H') : operV E L0 x fr H' = (operV E L0 x fr H).map fun p => (p.1, H') := by
  have hn : ∀ n, x.m.nx n = 0 := fun n => by rcases hm with h | h <;> rw [h] <;> rfl
  unfold operV
  rw [hg, hn, hn]
  generalize step E.tb E.imp E.orc x.m.own (getM x.m L0 H') 0 x.k (x.xs.map (ev fr)) = r
  cases r with
  | none => rfl
  | some p =>
    obtain ⟨v, es⟩ := p
    simp only [applyE_still hm]
    cases es <;> rfl
theorem oper_still (hm : x.m = .free ∨ x.m = .low) (hg : getM x.m L0 H = getM x.m L0 H') : oper E L0 x fr H' = (oper E L0 x fr H).map fun p => (p.1, H') := by
  have hV := operV_still (E := E) (fr := fr) hm hg
  unfold oper
  generalize x.g = g
  cases g with
  | none => exact hV
  | some gw =>
    obtain ⟨g, want⟩ := gw
    simp only
    generalize fr.getD g .any = vv
    by_cases hb : ∃ b, vv = .c (.t (.bool b))
    · obtain ⟨b, rfl⟩ := hb
      simp only
      by_cases hw : b = want
      · rw [if_pos hw, if_pos hw]; exact hV
      · rw [if_neg hw, if_neg hw]; rfl
    · by_cases ht : vv = .tup []
      · subst ht; rfl
      · split
        · exact (hb ⟨_, rfl⟩).elim
        · exact (ht rfl).elim
        · rfl
theorem oper_same (hm : x.m = .free ∨ x.m = .low) {v : V} (h : oper E L0 x fr H = some (v, H')) : H' = H := by
  have := oper_still (E := E) (L0 := L0) (fr := fr) (H := H) (H' := H) hm rfl
  rw [h] at this
  simp at this
  exact this

theorem applyE_al {es : List Eff} : ∀ {H H' : List Ob}, L0 ≤ H.length → applyE .al L0 es H = some H' → ∀ id, id < L0 → H'[id]? = H[id]? := by
  induction es with
  | nil => intro H H' _ h id _; rw [applyE_nil h]
  | cons e es ih =>
    intro H H' hl h id hid
    cases e with
    | push o =>
      rw [ih (by simp; omega) (applyE_push h) id hid, List.getElem?_append_left (by omega)]
    | set j o =>
      have hj : L0 ≤ j := by
        simp only [applyE] at h
        split at h
        · assumption
        · cases h
      rw [ih (by simpa using hl) (applyE_set h) id hid, List.getElem?_set_ne (by omega)]
theorem oper_al (hm : x.m = .al) (hl : L0 ≤ H.length) {v : V} (h : oper E L0 x fr H = some (v, H')) : ∀ id, id < L0 → H'[id]? = H[id]? := by
  have hV : operV E L0 x fr H = some (v, H') → ∀ id, id < L0 → H'[id]? = H[id]? := by
    intro h
    unfold operV at h
    split at h
    · cases h
    · simp only [Option.map_eq_some_iff, Prod.mk.injEq] at h
      obtain ⟨H2, h1, _, rfl⟩ := h
      rw [hm] at h1
      exact applyE_al hl h1
  unfold oper at h
  split at h
  · exact hV h
  · split at h
    · split at h
      · exact hV h
      · cases h; exact fun _ _ => rfl
    · cases h; exact fun _ _ => rfl
    · cases h

theorem getM_low {id : Nat} (h : ∀ id, id < L0 → H'[id]? = H[id]?) : getM .low L0 H = getM .low L0 H' := by
  funext i
  simp only [getM]
  split
  · rename_i hi; exact (h i hi).symm
  · rfl

theorem blind_of (h : compat x.m y.m = true) : Blind E L0 x y ∨ Blind E L0 y x := by
  have free : ∀ {x y : Ins}, x.m = .free → Blind E L0 x y := fun {x y} hm =>
    ⟨fun fr H v H' h => oper_same (.inl hm) h, fun fr fr' H v H' _ _ => oper_still (.inl hm) (by rw [hm]; rfl)⟩
  have low : ∀ {x y : Ins}, x.m = .low → (y.m = .low ∨ y.m = .al) → Blind E L0 x y := fun {x y} hm hy =>
    ⟨fun fr H v H' h => oper_same (.inr hm) h, fun fr fr' H v H' hl h => oper_still (.inr hm) (by
      rw [hm]
      rcases hy with hy | hy
      · rw [oper_same (.inr hy) h]
      · exact getM_low (id := 0) (oper_al hy hl h))⟩
  cases hx : x.m <;> cases hy : y.m <;> rw [hx, hy] at h <;> simp [compat] at h
  · exact .inr (free hy)
  · exact .inr (low hy (.inr hx))
  · exact .inr (free hy)
  · exact .inl (low hx (.inr hy))
  · exact .inl (low hx (.inl hy))
  · exact .inr (free hy)
  · exact .inl (free hx)
  · exact .inl (free hx)
  · exact .inl (free hx)
  · exact .inl (free hx)

theorem apart_symm (h : apart x y = true) : apart y x = true := by
  obtain ⟨a1, a2, a3⟩ := apart_ok h
  unfold apart
  simp only [Bool.and_eq_true]
  constructor
  · split
    · rename_i d hd
      simp only [Bool.and_eq_true, Bool.not_eq_true', bne_iff_ne, ne_eq]
      exact ⟨by simpa using a3 d hd, fun he => a2 d he hd⟩
    · rfl
  · split
    · rename_i d hd
      simpa using a1 d hd
    · rfl

theorem commute' (h : compat x.m y.m = true) (ha : apart x y = true) (hl : L0 ≤ s.H.length) : (stepIns E L0 x s).bind (stepIns E L0 y) = (stepIns E L0 y s).bind (stepIns E L0 x) := by
  rcases blind_of (E := E) (L0 := L0) h with hb | hb
  · exact commute hb ha hl
  · exact (commute hb (apart_symm ha) hl).symm

/-- An instruction moved ahead of others. -/
theorem ahead (l2 : List Ins) : ∀ (l1 : List Ins), (∀ z ∈ l1, compat z.m x.m = true ∧ apart z x = true) → ∀ s : St, L0 ≤ s.H.length → runIs E L0 (l1 ++ x :: l2) s = runIs E L0 (x :: (l1 ++ l2)) s
  | [], _, _, _ => rfl
  | z :: l1, h, s, hl => by
    have hz := h z (by simp)
    have ih := ahead l2 l1 (fun z' hz' => h z' (by simp [hz']))
    simp only [List.cons_append, runIs]
    have h1 : (stepIns E L0 z s).bind (runIs E L0 (l1 ++ x :: l2)) = (stepIns E L0 z s).bind (runIs E L0 (x :: (l1 ++ l2))) := by
      cases hs : stepIns E L0 z s with
      | none => rfl
      | some s1 =>
        simp only [Option.bind_some]
        exact ih s1 (Nat.le_trans hl (stepIns_len hs))
    rw [h1]
    have h2 : (stepIns E L0 z s).bind (runIs E L0 (x :: (l1 ++ l2))) = ((stepIns E L0 z s).bind (stepIns E L0 x)).bind (runIs E L0 (l1 ++ l2)) := by
      cases stepIns E L0 z s <;> rfl
    rw [h2, commute' hz.1 hz.2 hl]
    cases stepIns E L0 x s <;> rfl
end

/-! ### what surely comes before -/
def AncOk (ops : List Oper) (an : List Nat) : Prop :=
  ∀ (i : Nat) (o : Oper), ops[i]? = some o → (∀ p ∈ binding o, p < i) ∧ ∀ j, (an.getD i 0).testBit j = true → ∃ p ∈ binding o, j = p ∨ (an.getD p 0).testBit j = true

theorem fold_bits (acc : List Nat) (j : Nat) : ∀ (b : List Nat) (m : Nat), (b.foldl (fun m p => m ||| 2 ^ p ||| acc.getD p 0) m).testBit j = true → m.testBit j = true ∨ ∃ p ∈ b, j = p ∨ (acc.getD p 0).testBit j = true
  | [], m, h => .inl h
  | p :: b, m, h => by
    rw [List.foldl_cons] at h
    rcases fold_bits acc j b _ h with h | ⟨q, hq, h⟩
    · rw [Nat.testBit_or, Nat.testBit_or, Bool.or_eq_true, Bool.or_eq_true] at h
      rcases h with (h | h) | h
      · exact .inl h
      · rw [Nat.testBit_two_pow] at h
        exact .inr ⟨p, by simp, .inl (by have := of_decide_eq_true h; omega)⟩
      · exact .inr ⟨p, by simp, .inr h⟩
    · exact .inr ⟨q, by simp [hq], h⟩

theorem ancs_ok : ∀ (os : List Oper) (pre : List Oper) (acc an : List Nat), acc.length = pre.length → ancs os acc pre.length = some an →
    (∀ (i : Nat) (o : Oper), pre[i]? = some o → (∀ p ∈ binding o, p < i) ∧ ∀ j, (acc.getD i 0).testBit j = true → ∃ p ∈ binding o, j = p ∨ (acc.getD p 0).testBit j = true) → AncOk (pre ++ os) an ∧ an.length = (pre ++ os).length
  | [], pre, acc, an, hl, h, hp => by
    simp only [ancs, Option.some.injEq] at h
    subst h
    rw [List.append_nil]
    exact ⟨hp, hl⟩
  | o :: os, pre, acc, an, hl, h, hp => by
    simp only [ancs] at h
    split at h
    · rename_i hb
      have hb' : ∀ p ∈ binding o, p < pre.length := fun p hpm => by simpa using List.all_eq_true.1 hb p hpm
      have hlast : (acc ++ [(binding o).foldl (fun m p => m ||| 2 ^ p ||| acc.getD p 0) 0]).length = (pre ++ [o]).length := by simp [hl]
      have hget : ∀ p, p < pre.length → (acc ++ [(binding o).foldl (fun m p => m ||| 2 ^ p ||| acc.getD p 0) 0]).getD p 0 = acc.getD p 0 := fun p hpl => by
        rw [List.getD_eq_getElem?_getD, List.getD_eq_getElem?_getD, List.getElem?_append_left (by omega)]
      have := ancs_ok os (pre ++ [o]) _ an hlast (by simpa using h) (fun i o' ho' => by
        rw [List.getElem?_append] at ho'
        split at ho'
        · rename_i hi
          obtain ⟨h1, h2⟩ := hp i o' ho'
          refine ⟨h1, fun j hj => ?_⟩
          rw [hget i hi] at hj
          obtain ⟨p, hpm, h3⟩ := h2 j hj
          refine ⟨p, hpm, ?_⟩
          rw [hget p (Nat.lt_trans (h1 p hpm) hi)]
          exact h3
        · rename_i hi
          have h0 : i - pre.length = 0 := by
            have := (List.getElem?_eq_some_iff.1 ho').1
            simp at this
            omega
          rw [h0] at ho'
          simp at ho'
          subst ho'
          have hi' : i = pre.length := by omega
          subst hi'
          refine ⟨hb', fun j hj => ?_⟩
          rw [List.getD_eq_getElem?_getD, List.getElem?_append_right (by omega), hl] at hj
          simp only [Nat.sub_self, List.getElem?_cons_zero, Option.getD_some] at hj
          rcases fold_bits acc j _ _ hj with h | ⟨p, hpm, h⟩
          · simp at h
          · refine ⟨p, hpm, ?_⟩
            rw [hget p (hb' p hpm)]
            exact h)
      simpa using this
    · cases h

def Lst (listed : Array Bool) (i : Nat) : Prop := listed.getD i false = true

theorem anc_listed {ops : Array Oper} {an : List Nat} (hA : AncOk ops.toList an) {listed : Array Bool} (hcl : ∀ (i : Nat) (o : Oper), ops[i]? = some o → Lst listed i → ∀ p ∈ binding o, Lst listed p) :
    ∀ (i : Nat) (o : Oper), ops[i]? = some o → (∀ p ∈ binding o, Lst listed p) → ∀ j, (an.getD i 0).testBit j = true → Lst listed j := by
  intro i
  induction i using Nat.strongRecOn with
  | _ i ih =>
    intro o ho hp j hj
    obtain ⟨h1, h2⟩ := hA i o (by simpa using ho)
    obtain ⟨p, hpm, h3⟩ := h2 j hj
    rcases h3 with rfl | h3
    · exact hp _ hpm
    · have hi : i < ops.size := (Array.getElem?_eq_some_iff.1 ho).1
      have hpi := h1 p hpm
      have hop : ops[p]? = some (ops[p]'(by omega)) := Array.getElem?_eq_getElem (by omega)
      exact ih p hpi _ hop (hcl p _ hop (hp p hpm)) j h3

end Go.AM
