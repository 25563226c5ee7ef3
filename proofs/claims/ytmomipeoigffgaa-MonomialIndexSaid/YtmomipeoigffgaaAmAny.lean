/- A region in whatever order. -/
import Derived.Test.YtmomipeoigffgaaAmDraw
set_option linter.unusedVariables false
set_option linter.unnecessarySimpa false
set_option linter.unusedSimpArgs false
namespace Go.AM

section
variable {P : Program} {w0 : World} {I0 : Nat → Prop} {ρ0 : Rho} {H0 : List Ob} {mm : Nat}

theorem compAll_ok {tb : Tab} {ops : Array Oper} : ∀ {l : List Oper} {is : List Ins}, compAll tb ops l = some is → is.length = l.length ∧ ∀ (j : Nat) (o : Oper), l[j]? = some o → ∃ x, is[j]? = some x ∧ compIns tb ops o = some x
  | [], is, h => by simp only [compAll, Option.some.injEq] at h; subst h; simp
  | o :: os, is, h => by
    simp only [compAll] at h
    split at h
    · rename_i i is' h1 h2
      simp only [Option.some.injEq] at h
      subst h
      obtain ⟨hl, hg⟩ := compAll_ok h2
      refine ⟨by simp [hl], fun j o' hj => ?_⟩
      cases j with
      | zero => simp at hj; subst hj; exact ⟨i, rfl, h1⟩
      | succ j => simpa using hg j o' (by simpa using hj)
    · cases h

theorem mem_ready {md : Region.Mode} {ops : Array Oper} {listed : Array Bool} {i : Nat} (h : i ∈ Region.ready .any ops listed) : ∃ o, ops[i]? = some o ∧ listed.getD i true = false ∧ ∀ p ∈ binding o, Lst listed p := by
  unfold Region.ready at h
  rw [List.mem_filter] at h
  obtain ⟨h1, h2⟩ := h
  have hi : i < ops.size := List.mem_range.1 h1
  rw [Array.getElem?_eq_getElem hi] at h2
  simp only [Option.map_some, Option.getD_some, Bool.and_eq_true, Bool.not_eq_true'] at h2
  refine ⟨ops[i], Array.getElem?_eq_getElem hi, h2.1, fun p hp => ?_⟩
  unfold binding at hp
  obtain ⟨e, he, rfl⟩ := List.mem_map.1 hp
  rw [List.mem_filter] at he
  have := Array.all_eq_true_iff_forall_mem.1 h2.2 e (by simpa using he.1)
  simpa [he.2, Lst] using this

theorem ready_mem {ops : Array Oper} {listed : Array Bool} {i : Nat} {o : Oper} (ho : ops[i]? = some o) (hl : listed.getD i true = false) (hp : ∀ p ∈ binding o, Lst listed p) : i ∈ Region.ready .any ops listed := by
  unfold Region.ready
  rw [List.mem_filter]
  have hi := (Array.getElem?_eq_some_iff.1 ho).1
  refine ⟨List.mem_range.2 hi, ?_⟩
  rw [ho]
  simp only [Option.map_some, Option.getD_some, hl, Bool.not_false, Bool.true_and]
  rw [Array.all_eq_true_iff_forall_mem]
  intro e he
  by_cases hb : Region.binds .any e = true
  · have := hp e.on (List.mem_map.2 ⟨e, List.mem_filter.2 ⟨by simpa using he, hb⟩, rfl⟩)
    unfold Lst at this
    simp [this]
  · simp [hb]

/-- What is left, in the order of the text. -/
def left (n : Nat) (listed : Array Bool) : List Nat := (List.range n).filter fun i => !listed.getD i true

theorem left_set {n : Nat} {listed : Array Bool} (hs : listed.size = n) {i : Nat} (hi : i < n) : left n (listed.setIfInBounds i true) = (left n listed).filter fun j => !(j == i) := by
  unfold left
  rw [List.filter_filter]
  apply List.filter_congr
  intro j hj
  have hjn : j < n := List.mem_range.1 hj
  by_cases hij : j = i
  · subst hij
    simp [Array.getD_eq_getD_getElem?, Array.getElem?_setIfInBounds, hs, hjn]
  · have : (j == i) = false := by simpa using hij
    rw [this]
    simp only [Bool.not_false, Bool.true_and, Array.getD_eq_getD_getElem?]
    rw [Array.getElem?_setIfInBounds_ne (fun e => hij e.symm)]

theorem any_ok {E : Env} {ops : Array Oper} {Q : Exit → Act → World → Prop} (hT : TabOk P E.tb) (hO : OrcOk P E.orc) {L0 : Nat} {an : List Nat} (hA : AncOk ops.toList an) {is : List Ins}
    (hlen : is.length = ops.size) (hins : ∀ (j : Nat) (o : Oper), ops[j]? = some o → ∃ x md, is[j]? = some { x with m := md } ∧ compIns E.tb ops o = some x)
    (hloose : ∀ (i j : Nat) (x y : Ins), is[i]? = some x → is[j]? = some y → i < j → (an.getD j 0).testBit i = true ∨ (compat x.m y.m = true ∧ apart x y = true)) {s' : St} (hQ : ∀ a' w', SR w0 I0 ρ0 H0 mm s' a' w' → Q .normal a' w') :
    ∀ (fuel : Nat) (listed : Array Bool), listed.size = ops.size → (left ops.size listed).length ≤ fuel → (∀ (i : Nat) (o : Oper), ops[i]? = some o → Lst listed i → ∀ p ∈ binding o, Lst listed p) →
      ∀ {s : St} {a : Act} {w : World}, L0 ≤ s.H.length → runIs E L0 ((left ops.size listed).map fun i => is.getD i default) s = some s' → SR w0 I0 ρ0 H0 mm s a w → wpAny P .any ops Q fuel listed a w := by
  have hnone : ∀ listed : Array Bool, listed.size = ops.size → left ops.size listed = [] → Region.ready .any ops listed = [] := by
    intro listed hs hl
    apply List.eq_nil_iff_forall_not_mem.2
    intro i hi
    obtain ⟨o, ho, hli, _⟩ := mem_ready (md := .any) hi
    have : i ∈ left ops.size listed := by
      unfold left
      rw [List.mem_filter]
      exact ⟨List.mem_range.2 (Array.getElem?_eq_some_iff.1 ho).1, by rw [hli]; rfl⟩
    rw [hl] at this
    cases this
  intro fuel
  induction fuel with
  | zero =>
    intro listed hs hf hcl s a w hL hr hS
    have hl : left ops.size listed = [] := List.eq_nil_of_length_eq_zero (by omega)
    rw [hl] at hr
    simp only [List.map_nil, runIs, Option.some.injEq] at hr
    subst hr
    exact ⟨hnone listed hs hl, hQ a w hS⟩
  | succ fuel ih =>
    intro listed hs hf hcl s a w hL hr hS
    refine ⟨fun hrd => ?_, fun i hi => ?_⟩
    · -- nothing is ready: nothing is left
      have hl : left ops.size listed = [] := by
        cases hl : left ops.size listed with
        | nil => rfl
        | cons j rest =>
          exfalso
          have hjm : j ∈ left ops.size listed := by rw [hl]; simp
          have hjm' := hjm
          unfold left at hjm
          rw [List.mem_filter] at hjm
          have hjn : j < ops.size := List.mem_range.1 hjm.1
          have hjl : listed.getD j true = false := by simpa using hjm.2
          have hoj : ops[j]? = some ops[j] := Array.getElem?_eq_getElem hjn
          have hpw : (left ops.size listed).Pairwise (· < ·) := List.Pairwise.filter _ List.pairwise_lt_range
          have hfirst : ∀ k ∈ left ops.size listed, j ≤ k := by
            intro k hk
            rw [hl] at hk hpw
            rw [List.pairwise_cons] at hpw
            rcases List.mem_cons.1 hk with rfl | hk
            · exact Nat.le_refl _
            · exact Nat.le_of_lt (hpw.1 k hk)
          have : j ∈ Region.ready .any ops listed := ready_mem hoj hjl fun p hp => by
            have hpj := (hA j _ (by simpa using hoj)).1 p hp
            by_cases hpl : listed.getD p true = false
            · have := hfirst p (by unfold left; rw [List.mem_filter]; exact ⟨List.mem_range.2 (by omega), by rw [hpl]; rfl⟩)
              omega
            · unfold Lst
              rw [Array.getD_eq_getD_getElem?] at hpl ⊢
              rw [Array.getElem?_eq_getElem (by omega)] at hpl ⊢
              simpa using hpl
          rw [hrd] at this
          cases this
      rw [hl] at hr
      simp only [List.map_nil, runIs, Option.some.injEq] at hr
      subst hr
      exact hQ a w hS
    · obtain ⟨o, ho, hli, hpi⟩ := mem_ready (md := .any) hi
      have hin : i < ops.size := (Array.getElem?_eq_some_iff.1 ho).1
      have him : i ∈ left ops.size listed := by
        unfold left
        rw [List.mem_filter]
        exact ⟨List.mem_range.2 hin, by rw [hli]; rfl⟩
      obtain ⟨l1, l2, hsp⟩ := List.append_of_mem him
      have hpw : (left ops.size listed).Pairwise (· < ·) := List.Pairwise.filter _ List.pairwise_lt_range
      rw [hsp] at hpw
      have hlt1 : ∀ j ∈ l1, j < i := fun j hj => (List.pairwise_append.1 hpw).2.2 j hj i (by simp)
      have hlt2 : ∀ j ∈ l2, i < j := by
        have := (List.pairwise_append.1 hpw).2.1
        rw [List.pairwise_cons] at this
        exact this.1
      obtain ⟨x, md, hxi, hxc⟩ := hins i o ho
      have hgi : is.getD i default = { x with m := md } := by rw [List.getD_eq_getElem?_getD, hxi]; rfl
      rw [hsp, List.map_append, List.map_cons, hgi] at hr
      rw [ahead _ _ (fun z hz => by
        obtain ⟨j, hj, rfl⟩ := List.mem_map.1 hz
        have hji := hlt1 j hj
        have hjl : j < is.length := by omega
        have hzj : is[j]? = some (is.getD j default) := by rw [List.getD_eq_getElem?_getD, List.getElem?_eq_getElem hjl]; rfl
        rcases hloose j i _ _ hzj hxi hji with h | h
        · exfalso
          have hlst := anc_listed hA hcl i o ho hpi j h
          have hjm : j ∈ left ops.size listed := by rw [hsp]; simp [hj]
          unfold left at hjm
          rw [List.mem_filter] at hjm
          have : listed.getD j true = false := by simpa using hjm.2
          unfold Lst at hlst
          rw [Array.getD_eq_getD_getElem?] at this hlst
          rw [Array.getElem?_eq_getElem (by omega)] at this hlst
          simp at this hlst
          rw [this] at hlst
          cases hlst
        · exact h) s hL] at hr
      simp only [runIs, Option.bind_eq_some_iff] at hr
      obtain ⟨s1, h1, h2⟩ := hr
      refine ins_ok hT hO ho hxc (md := md) h1 hS fun a' w' hS' => ?_
      have hleft : left ops.size (listed.setIfInBounds i true) = l1 ++ l2 := by
        rw [left_set hs hin, hsp, List.filter_append, List.filter_cons]
        have h1 : l1.filter (fun j => !(j == i)) = l1 := List.filter_eq_self.2 fun j hj => by have := hlt1 j hj; simp; omega
        have h2 : l2.filter (fun j => !(j == i)) = l2 := List.filter_eq_self.2 fun j hj => by have := hlt2 j hj; simp; omega
        rw [h1, h2]
        simp
      refine ih _ (by simp [hs]) ?_ ?_ (Nat.le_trans hL (stepIns_len h1)) ?_ hS'
      · rw [hleft]
        rw [hsp] at hf
        simp at hf ⊢
        omega
      · intro j o' ho' hj p hp
        have hset : ∀ q, Lst listed q → Lst (listed.setIfInBounds i true) q := fun q hq => by
          unfold Lst at hq ⊢
          by_cases hqi : q = i
          · subst hqi; simp [Array.getD_eq_getD_getElem?, Array.getElem?_setIfInBounds, hs, hin]
          · rw [Array.getD_eq_getD_getElem?, Array.getElem?_setIfInBounds_ne (fun e => hqi e.symm), ← Array.getD_eq_getD_getElem?]; exact hq
        by_cases hji : j = i
        · subst hji
          rw [ho] at ho'
          cases ho'
          exact hset p (hpi p hp)
        · have : Lst listed j := by
            unfold Lst at hj ⊢
            rw [Array.getD_eq_getD_getElem?, Array.getElem?_setIfInBounds_ne (fun e => hji e.symm), ← Array.getD_eq_getD_getElem?] at hj
            exact hj
          exact hset p (hcl j o' ho' this p hp)
      · rw [hleft, List.map_append]
        exact h2

theorem left_all (n : Nat) : left n (Array.replicate n false) = List.range n := by
  unfold left
  rw [List.filter_eq_self]
  intro i hi
  have := List.mem_range.1 hi
  simp [Array.getD_eq_getD_getElem?, this]

theorem map_getD {α : Type} (d : α) (l : List α) : (List.range l.length).map (fun i => l.getD i d) = l := by
  apply List.ext_getElem?
  intro i
  rw [List.getElem?_map]
  by_cases hi : i < l.length
  · simp [List.getElem?_range hi, List.getElem?_eq_getElem hi, List.getD_eq_getElem?_getD]
  · simp [List.getElem?_eq_none (Nat.le_of_not_lt hi)]
    omega

theorem SR_drew {s : St} {a : Act} {w : World} (h : SR w0 I0 ρ0 H0 mm s a w) : SR w0 I0 ρ0 H0 mm s a w.drew := by
  obtain ⟨I, ρ, hC, hF, hd, hE, hm, hk⟩ := h
  obtain ⟨hC1, hs1⟩ := drew_ok hC
  exact ⟨I, ρ, hC1, RF_stp hC hs1 hF, hd, hE.trans hs1.ext, hm, hk⟩

/-- A region. -/
theorem region_ok {E : Env} (hP : P.follows .mixedOrders = true) (hT : TabOk P E.tb) (hO : OrcOk P E.orc) {ops : Array Oper} {draw : Bool} {is : List Ins} (hc : compReg E.tb ops draw = some is) {id : Nat} {Q : Exit → Act → World → Prop} {s s' : St}
    (hr : runIs E s.H.length is s = some s') {a : Act} {w : World} (hS : SR w0 I0 ρ0 H0 mm s a w) (hQ : ∀ a' w', SR w0 I0 ρ0 H0 mm s' a' w' → Q .normal a' w') : (Code.region id ops draw).wp P Q a w := by
  unfold compReg at hc
  split at hc
  · cases hc
  · rename_i is0 hall
    obtain ⟨hl0, hg0⟩ := compAll_ok hall
    cases draw with
    | false =>
      simp only [Bool.false_eq_true, if_false, Option.some.injEq] at hc
      subst hc
      refine wp_region ?_
      have := wpOps_ok (Q := Q) hT hO ops.toList 0 (by simp) hall hr hS hQ
      rw [List.range_eq_range']
      simpa using this
    | true =>
      simp only [if_true] at hc
      split at hc
      · cases hc
      · rename_i an han
        split at hc
        · rename_i hloose
          simp only [Option.some.injEq] at hc
          subst hc
          have hanc := (ancs_ok ops.toList [] [] an rfl han (by simp)).1
          simp only [List.nil_append] at hanc
          have hlen : (is0.zipIdx.map fun (x, i) => { x with m := modeOf is0 an i x.k }).length = ops.size := by simp [hl0]
          have hins : ∀ (j : Nat) (o : Oper), ops[j]? = some o → ∃ x md, (is0.zipIdx.map fun (x, i) => { x with m := modeOf is0 an i x.k })[j]? = some { x with m := md } ∧ compIns E.tb ops o = some x := by
            intro j o ho
            obtain ⟨x, hx, hxc⟩ := hg0 j o (by simpa using ho)
            refine ⟨x, modeOf is0 an j x.k, ?_, hxc⟩
            rw [List.getElem?_map, List.getElem?_zipIdx, hx]
            simp
          refine wp_region_any hP ?_
          refine any_ok hT hO hanc hlen hins ?_ hQ ops.size _ (by simp) (by rw [left_all]; simp) ?_ (L0 := s.H.length) (Nat.le_refl _) ?_ (SR_drew hS)
          · intro i j x y hx hy hij
            unfold loose at hloose
            have h1 := List.all_eq_true.1 hloose (x, i) (by
              rw [List.mem_iff_getElem?]
              exact ⟨i, by rw [List.getElem?_zipIdx, hx]; simp⟩)
            have h2 := List.all_eq_true.1 h1 (y, j) (by
              rw [List.mem_iff_getElem?]
              exact ⟨j, by rw [List.getElem?_zipIdx, hy]; simp⟩)
            simp only [hij, decide_true, Bool.not_true, Bool.false_or, Bool.or_eq_true, Bool.and_eq_true] at h2
            exact h2
          · intro i o _ hi
            unfold Lst at hi
            rw [Array.getD_eq_getD_getElem?] at hi
            by_cases hin : i < ops.size
            · simp [hin] at hi
            · simp [Nat.le_of_not_lt hin] at hi
          · rw [left_all, ← hlen, map_getD]
            exact hr
        · cases hc
end
end Go.AM
