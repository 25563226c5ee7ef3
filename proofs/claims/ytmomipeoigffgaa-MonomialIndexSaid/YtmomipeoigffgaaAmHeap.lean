/- Objects made, written, frozen, dropped. -/
import Derived.Test.YtmomipeoigffgaaAmOps
import Derived.Laws.AppendOwn
set_option linter.unusedVariables false
set_option linter.unusedSimpArgs false
namespace Go.AM

section
variable {I I' : Nat → Prop} {ρ ρ' : Rho} {H H' : List Ob} {w w' : World}

theorem cell_at {b i : Nat} {arr : Array Value} {e : TypeId} {fz : Nat × Nat} (h : w.heap[b]? = some (.cells arr e fz)) : w.cell? ⟨b, i, none⟩ = arr[i]? := by
  simp [World.cell?, h]
theorem lt_heap {b : Nat} {o : Obj} (h : w.heap[b]? = some o) : b < w.heap.size := (Array.getElem?_eq_some_iff.1 h).1

theorem mine_lt {id : Nat} (h : mine H id) : id < H.length := by
  obtain ⟨o, ho, _⟩ := h
  exact (List.getElem?_eq_some_iff.1 ho).1

theorem Ctx.own (hC : Ctx I ρ H w) {id b o : Nat} (hm : mine H id) (hr : ρ id = some (b, o)) : ¬ I b ∧ ∃ arr e, w.heap[b]? = some (.cells arr e (0, 0)) := by
  obtain ⟨ob, hob, hmi⟩ := hm
  have h := hC.obj id ob hob
  cases ob with
  | flat fr cs =>
    simp only [Ob.mine] at hmi
    subst hmi
    rcases h with ⟨h, _⟩ | ⟨b', o', h1, _, h3⟩
    · rw [h] at hr; cases hr
    · rw [h1] at hr; cases hr; exact h3
  | mix fr cs =>
    simp only [Ob.mine] at hmi
    subst hmi
    obtain ⟨b', o', h1, _, h3⟩ := h
    rw [h1] at hr; cases hr; exact h3
  | gone => exact hmi.elim

theorem ownd_notI (hC : Ctx I ρ H w) {b : Nat} (h : ownd ρ H b) : ¬ I b := by
  obtain ⟨id, o, hm, hr⟩ := h
  exact (hC.own hm hr).1

theorem Own_keep {fr : Bool} {b : Nat} (h : Own w I fr b) (hb : w'.heap[b]? = w.heap[b]?) (hI : I b → I' b) (hn : ¬ I b → ¬ I' b) : Own w' I' fr b := by
  cases fr with
  | true => exact hI h
  | false => obtain ⟨h1, arr, e, h2⟩ := h; exact ⟨hn h1, arr, e, hb.trans h2⟩

theorem RO_keep (hC : Ctx I ρ H w) (hs : Stp I ρ H w I' ρ' H' w') {id : Nat} {o : Ob} (h : RO w I ρ H id o) (hid : id < H.length)
    (hb : ∀ b off, o ≠ .gone → ρ id = some (b, off) → w'.heap[b]? = w.heap[b]? ∧ (¬ I b → ¬ I' b)) : RO w' I' ρ' H' id o := by
  cases o with
  | gone => trivial
  | flat fr cs =>
    rcases h with ⟨h1, h2⟩ | ⟨b, off, h1, h2, h3⟩
    · exact .inl ⟨by rw [hs.rho id hid]; exact h1, h2⟩
    · obtain ⟨hbb, hn⟩ := hb b off (by simp) h1
      refine .inr ⟨b, off, by rw [hs.rho id hid]; exact h1, fun j c hc => ?_, Own_keep h3 hbb (fun hi => (hs.fix b hi).1) hn⟩
      obtain ⟨u, hu, hr⟩ := h2 j c hc
      exact ⟨u, by rw [cell_of_block (w := w) hbb]; exact hu, RT_fix hs.fix c u hr⟩
  | mix fr cs =>
    obtain ⟨b, off, h1, h2, h3⟩ := h
    obtain ⟨hbb, hn⟩ := hb b off (by simp) h1
    refine ⟨b, off, by rw [hs.rho id hid]; exact h1, fun j c hc => ?_, Own_keep h3 hbb (fun hi => (hs.fix b hi).1) hn⟩
    obtain ⟨u, hu, hr⟩ := h2 j c hc
    exact ⟨u, by rw [cell_of_block (w := w) hbb]; exact hu, RC_stp hC hs hr⟩

def upd (ρ : Rho) (id : Nat) (p : Nat × Nat) : Rho := fun i => if i = id then some p else ρ i

/-- What an object's cells say of an array's. -/
def Cont (w : World) (I : Nat → Prop) (ρ : Rho) (H : List Ob) (off : Nat) (arr : Array Value) : Ob → Prop
  | .flat _ cs => ∀ (j : Nat) (c : T), cs[j]? = some c → ∃ u, arr[off + j]? = some u ∧ RT w I c u
  | .mix _ cs => ∀ (j : Nat) (c : C), cs[j]? = some c → ∃ u, arr[off + j]? = some u ∧ RC w I ρ H c u
  | .gone => True

theorem RO_of_cont (hC : Ctx I ρ H w) (hs : Stp I ρ H w I' ρ' H' w') {id b off : Nat} {o : Ob} {arr : Array Value} {e : TypeId} (hm : o.mine) (hr : ρ' id = some (b, off))
    (hb : w'.heap[b]? = some (.cells arr e (0, 0))) (hn : ¬ I' b) (hc : Cont w I ρ H off arr o) : RO w' I' ρ' H' id o := by
  cases o with
  | gone => trivial
  | flat fr cs =>
    simp only [Ob.mine] at hm
    subst hm
    refine .inr ⟨b, off, hr, fun j c hj => ?_, hn, arr, e, hb⟩
    obtain ⟨u, hu, hru⟩ := hc j c hj
    exact ⟨u, by rw [cell_at hb]; exact hu, RT_fix hs.fix c u hru⟩
  | mix fr cs =>
    simp only [Ob.mine] at hm
    subst hm
    refine ⟨b, off, hr, fun j c hj => ?_, hn, arr, e, hb⟩
    obtain ⟨u, hu, hru⟩ := hc j c hj
    exact ⟨u, by rw [cell_at hb]; exact hu, RC_stp hC hs hru⟩

theorem mine_append {o : Ob} {id : Nat} (h : mine (H ++ [o]) id) : mine H id ∨ id = H.length ∧ o.mine := by
  obtain ⟨o', ho, hm⟩ := h
  rw [List.getElem?_append] at ho
  split at ho
  · exact .inl ⟨o', ho, hm⟩
  · rename_i hl
    have : id - H.length = 0 := by
      have := (List.getElem?_eq_some_iff.1 ho).1
      simp at this
      omega
    rw [this] at ho
    simp at ho
    subst ho
    exact .inr ⟨by omega, hm⟩

/-- A new object in a new block. -/
theorem push_ok (hC : Ctx I ρ H w) {o : Ob} {arr : Array Value} {e : TypeId} (hm : o.mine) (hc : Cont w I ρ H 0 arr o) :
    Ctx I (upd ρ H.length (w.heap.size, 0)) (H ++ [o]) (w.alloc (.cells arr e)) ∧ Stp I ρ H w I (upd ρ H.length (w.heap.size, 0)) (H ++ [o]) (w.alloc (.cells arr e)) := by
  have hold : ∀ b, b < w.heap.size → (w.alloc (.cells arr e)).heap[b]? = w.heap[b]? := fun b hb => by simp only [World.alloc, Array.getElem?_push]; rw [if_neg (by omega)]
  have hnew : (w.alloc (.cells arr e)).heap[w.heap.size]? = some (.cells arr e (0, 0)) := heap_alloc_new w _
  have hs : Stp I ρ H w I (upd ρ H.length (w.heap.size, 0)) (H ++ [o]) (w.alloc (.cells arr e)) := by
    refine ⟨by simp, fun id hid => by simp [upd]; omega, fun id hg => ?_, fun b hb => ⟨hb, hold b (hC.lt b hb)⟩, rfl, rfl, rfl, by simp, fun b hb _ => hold b hb, fun b n hcap => ?_, fun _ h => h, fun _ h => .inl h, fun b hb => ?_⟩
    · unfold GN at hg ⊢
      rw [List.getElem?_append_left (List.getElem?_eq_some_iff.1 hg).1]; exact hg
    · obtain ⟨a, e', fz, h1, h2⟩ := hcap
      exact ⟨a, e', fz, (hold b (lt_heap h1)).trans h1, h2⟩
    · obtain ⟨id, off, hmi, hr⟩ := hb
      rcases mine_append hmi with h | ⟨rfl, _⟩
      · left
        have := mine_lt h
        rw [upd, if_neg (by omega)] at hr
        exact ⟨id, off, h, hr⟩
      · right
        simp [upd] at hr
        omega
  refine ⟨⟨fun id ob hob => ?_, fun b hb => by have := hC.lt b hb; simp; omega, fun id p hr => ?_, fun id id' b off off' h1 h2 h3 h4 => ?_⟩, hs⟩
  · rw [List.getElem?_append] at hob
    split at hob
    · rename_i hl
      refine RO_keep hC hs (hC.obj id ob hob) hl fun b off hg hr => ⟨hold b ?_, fun h => h⟩
      have h := hC.obj id ob hob
      cases ob with
      | gone => exact absurd rfl hg
      | flat fr cs =>
        rcases h with ⟨h, _⟩ | ⟨b', o', h1, _, h3⟩
        · rw [h] at hr; cases hr
        · rw [h1] at hr; cases hr
          cases fr with
          | true => exact hC.lt _ h3
          | false => obtain ⟨_, _, _, h4⟩ := h3; exact lt_heap h4
      | mix fr cs =>
        obtain ⟨b', o', h1, _, h3⟩ := h
        rw [h1] at hr; cases hr
        cases fr with
        | true => exact hC.lt _ h3
        | false => obtain ⟨_, _, _, h4⟩ := h3; exact lt_heap h4
    · rename_i hl
      have h0 : id - H.length = 0 := by
        have := (List.getElem?_eq_some_iff.1 hob).1
        simp at this
        omega
      rw [h0] at hob
      simp at hob
      subst hob
      have : id = H.length := by omega
      subst this
      exact RO_of_cont hC hs hm (by simp [upd]) hnew (fun hi => by have := hC.lt _ hi; omega) hc
  · simp only [upd] at hr
    split at hr
    · simp; omega
    · have := hC.dom id p hr; simp; omega
  · have key : ∀ id b off, mine (H ++ [o]) id → upd ρ H.length (w.heap.size, 0) id = some (b, off) → (mine H id ∧ ρ id = some (b, off) ∧ b < w.heap.size) ∨ (id = H.length ∧ b = w.heap.size) := by
      intro id b off hmi hr
      rcases mine_append hmi with h | ⟨rfl, _⟩
      · have hl := mine_lt h
        rw [upd, if_neg (by omega)] at hr
        obtain ⟨_, arr', e', hh⟩ := hC.own h hr
        exact .inl ⟨h, hr, lt_heap hh⟩
      · simp [upd] at hr
        exact .inr ⟨rfl, hr.1.symm⟩
    rcases key _ _ _ h1 h3 with ⟨a1, a2, a3⟩ | ⟨a1, a2⟩ <;> rcases key _ _ _ h2 h4 with ⟨b1, b2, b3⟩ | ⟨b1, b2⟩
    · exact hC.inj _ _ _ _ _ a1 b1 a2 b2
    · omega
    · omega
    · omega

/-- An empty object without memory. -/
theorem phant_ok (hC : Ctx I ρ H w) : Ctx I ρ (H ++ [.flat false []]) w ∧ Stp I ρ H w I ρ (H ++ [.flat false []]) w ∧ ρ H.length = none := by
  have hn : ρ H.length = none := by
    cases h : ρ H.length with
    | none => rfl
    | some p => have := hC.dom _ _ h; omega
  have hmine : ∀ id b off, mine (H ++ [.flat false []]) id → ρ id = some (b, off) → mine H id := by
    intro id b off hm hr
    rcases mine_append hm with h | ⟨rfl, _⟩
    · exact h
    · rw [hn] at hr; cases hr
  have hs : Stp I ρ H w I ρ (H ++ [.flat false []]) w := by
    refine ⟨by simp, fun _ _ => rfl, fun id hg => ?_, fun b hb => ⟨hb, rfl⟩, rfl, rfl, rfl, Nat.le_refl _, fun b _ _ => rfl, fun _ _ h => h, fun _ h => h, fun _ h => .inl h, fun b hb => ?_⟩
    · unfold GN at hg ⊢
      rw [List.getElem?_append_left (List.getElem?_eq_some_iff.1 hg).1]; exact hg
    · obtain ⟨id, off, hmi, hr⟩ := hb
      exact .inl ⟨id, off, hmine _ _ _ hmi hr, hr⟩
  refine ⟨⟨fun id ob hob => ?_, hC.lt, fun id p hr => by have := hC.dom id p hr; simp; omega, fun id id' b o o' h1 h2 h3 h4 => hC.inj id id' b o o' (hmine _ _ _ h1 h3) (hmine _ _ _ h2 h4) h3 h4⟩, hs, hn⟩
  rw [List.getElem?_append] at hob
  split at hob
  · rename_i hl
    exact RO_keep hC hs (hC.obj id ob hob) hl fun b off _ _ => ⟨rfl, fun h => h⟩
  · rename_i hl
    have h0 : id - H.length = 0 := by
      have := (List.getElem?_eq_some_iff.1 hob).1
      simp at this
      omega
    rw [h0] at hob
    simp at hob
    subst hob
    have : id = H.length := by omega
    subst this
    exact .inl ⟨hn, rfl⟩

theorem get_set {id i : Nat} {o o' : Ob} (h : (H.set id o)[i]? = some o') : (i = id ∧ o' = o) ∨ (i ≠ id ∧ H[i]? = some o') := by
  rw [List.getElem?_set] at h
  split at h
  · split at h
    · simp at h; exact .inl ⟨by omega, h.symm⟩
    · simp at h
  · exact .inr ⟨by omega, h⟩

theorem mine_set {id i : Nat} {o : Ob} (h : mine (H.set id o) i) : (i = id ∧ o.mine) ∨ (i ≠ id ∧ mine H i) := by
  obtain ⟨o', ho, hm⟩ := h
  rcases get_set ho with ⟨h1, rfl⟩ | ⟨h1, h2⟩
  · exact .inl ⟨h1, hm⟩
  · exact .inr ⟨h1, o', h2, hm⟩

theorem gone_set {id i : Nat} {o : Ob} (hid : ∃ q, H[id]? = some q ∧ q ≠ .gone) (h : GN H i) : GN (H.set id o) i := by
  obtain ⟨q, hq, hn⟩ := hid
  have : i ≠ id := by
    rintro rfl
    rw [h] at hq
    cases hq
    exact hn rfl
  unfold GN at h ⊢
  rw [List.getElem?_set_ne (by omega)]
  exact h

/-- A block written. -/
structure Wr (w : World) (b : Nat) (w' : World) (arr' : Array Value) : Prop where
  os : w'.os = w.os
  tape : w'.tape = w.tape
  output : w'.output = w.output
  size : w'.heap.size = w.heap.size
  other : ∀ i, i ≠ b → w'.heap[i]? = w.heap[i]?
  here : ∃ arr e, w.heap[b]? = some (.cells arr e (0, 0)) ∧ w'.heap[b]? = some (.cells arr' e (0, 0)) ∧ arr'.size = arr.size

theorem Wr.cap {b : Nat} {arr' : Array Value} (h : Wr w b w' arr') {i n : Nat} (hc : Cap w i n) : Cap w' i n := by
  obtain ⟨arr, e, h1, h2, h3⟩ := h.here
  obtain ⟨a, e', fz, h4, h5⟩ := hc
  by_cases hi : i = b
  · subst hi
    rw [h1] at h4
    cases h4
    exact ⟨arr', e, (0, 0), h2, by omega⟩
  · exact ⟨a, e', fz, (h.other i hi).trans h4, h5⟩

/-- An object that may be written, written. -/
theorem write_ok (hC : Ctx I ρ H w) {id b off : Nat} {o o' : Ob} (ho : H[id]? = some o) (hm : o.mine) (hr : ρ id = some (b, off)) (hm' : o'.mine) {arr' : Array Value} (hw : Wr w b w' arr')
    (hc : Cont w I ρ H off arr' o') : Ctx I ρ (H.set id o') w' ∧ Stp I ρ H w I ρ (H.set id o') w' := by
  have hmi : mine H id := ⟨o, ho, hm⟩
  have hng : o ≠ .gone := by rintro rfl; exact hm.elim
  have hown := hC.own hmi hr
  have hsame : ∀ i, I i → w'.heap[i]? = w.heap[i]? := fun i hi => hw.other i (by rintro rfl; exact hown.1 hi)
  have hs : Stp I ρ H w I ρ (H.set id o') w' := by
    refine ⟨by simp, fun _ _ => rfl, fun i hg => gone_set ⟨o, ho, hng⟩ hg, fun i hi => ⟨hi, hsame i hi⟩, hw.os, hw.tape, hw.output, by rw [hw.size]; exact Nat.le_refl _, fun i _ hi => hw.other i ?_, fun _ _ h => hw.cap h, fun _ h => h, fun _ h => .inl h, fun i hi => ?_⟩
    · rintro rfl; exact hi ⟨id, off, hmi, hr⟩
    · obtain ⟨j, oo, hj, hjr⟩ := hi
      rcases mine_set hj with ⟨rfl, _⟩ | ⟨_, hj⟩
      · exact .inl ⟨_, oo, hmi, hjr⟩
      · exact .inl ⟨j, oo, hj, hjr⟩
  refine ⟨⟨fun i ob hob => ?_, fun i hi => by rw [hw.size]; exact hC.lt i hi, fun i p hp => by simp; exact hC.dom i p hp, fun i j b' o1 o2 h1 h2 h3 h4 => ?_⟩, hs⟩
  · rcases get_set hob with ⟨rfl, rfl⟩ | ⟨hne, hob⟩
    · obtain ⟨arr, e, _, h2, _⟩ := hw.here
      exact RO_of_cont hC hs hm' hr h2 hown.1 hc
    · refine RO_keep hC hs (hC.obj i ob hob) (List.getElem?_eq_some_iff.1 hob).1 fun b' off' hg hr' => ⟨hw.other b' ?_, fun h => h⟩
      rintro rfl
      by_cases hmo : ob.mine
      · exact hne (hC.inj _ _ _ _ _ ⟨ob, hob, hmo⟩ hmi hr' hr)
      · have h := hC.obj i ob hob
        cases ob with
        | gone => exact hg rfl
        | flat fr cs =>
          rcases h with ⟨h, _⟩ | ⟨b', o', h1, _, h3⟩
          · rw [h] at hr'; cases hr'
          · rw [h1] at hr'; cases hr'
            cases fr with
            | true => exact hown.1 h3
            | false => exact hmo rfl
        | mix fr cs =>
          obtain ⟨b', o', h1, _, h3⟩ := h
          rw [h1] at hr'; cases hr'
          cases fr with
          | true => exact hown.1 h3
          | false => exact hmo rfl
  · have f : ∀ i, mine (H.set id o') i → mine H i := fun i hi => by
      rcases mine_set hi with ⟨rfl, _⟩ | ⟨_, h⟩
      · exact hmi
      · exact h
    exact hC.inj i j b' o1 o2 (f i h1) (f j h2) h3 h4

/-- An object made immutable. -/
def Ob.frozen : Ob → Ob
  | .flat _ cs => .flat true cs
  | .mix _ cs => .mix true cs
  | .gone => .gone

theorem freeze_ok (hC : Ctx I ρ H w) {id : Nat} {o : Ob} (ho : H[id]? = some o) (hm : o.mine) :
    Ctx (fun b => I b ∨ ∃ off, ρ id = some (b, off)) ρ (H.set id o.frozen) w ∧ Stp I ρ H w (fun b => I b ∨ ∃ off, ρ id = some (b, off)) ρ (H.set id o.frozen) w := by
  have hmi : mine H id := ⟨o, ho, hm⟩
  have hng : o ≠ .gone := by rintro rfl; exact hm.elim
  have hnm : ¬ o.frozen.mine := by cases o <;> simp [Ob.frozen, Ob.mine]
  have hs : Stp I ρ H w (fun b => I b ∨ ∃ off, ρ id = some (b, off)) ρ (H.set id o.frozen) w := by
    refine ⟨by simp, fun _ _ => rfl, fun i hg => gone_set ⟨o, ho, hng⟩ hg, fun i hi => ⟨.inl hi, rfl⟩, rfl, rfl, rfl, Nat.le_refl _, fun _ _ _ => rfl, fun _ _ h => h, fun _ h => .inl h, fun b hb => ?_, fun i hi => ?_⟩
    · rcases hb with hb | ⟨off, hb⟩
      · exact .inl hb
      · exact .inr (.inl ⟨id, off, hmi, hb⟩)
    · obtain ⟨j, oo, hj, hjr⟩ := hi
      rcases mine_set hj with ⟨rfl, h⟩ | ⟨_, hj⟩
      · exact (hnm h).elim
      · exact .inl ⟨j, oo, hj, hjr⟩
  refine ⟨⟨fun i ob hob => ?_, fun b hb => ?_, fun i p hp => by simp; exact hC.dom i p hp, fun i j b' o1 o2 h1 h2 h3 h4 => ?_⟩, hs⟩
  · rcases get_set hob with ⟨rfl, rfl⟩ | ⟨hne, hob⟩
    · have h := hC.obj _ _ ho
      cases o with
      | gone => trivial
      | flat fr cs =>
        rcases h with h | ⟨b', o', h1, h2, h3⟩
        · exact .inl h
        · refine .inr ⟨b', o', h1, fun j c hj => ?_, .inr ⟨o', h1⟩⟩
          obtain ⟨u, hu, hru⟩ := h2 j c hj
          exact ⟨u, hu, RT_fix hs.fix c u hru⟩
      | mix fr cs =>
        obtain ⟨b', o', h1, h2, h3⟩ := h
        refine ⟨b', o', h1, fun j c hj => ?_, .inr ⟨o', h1⟩⟩
        obtain ⟨u, hu, hru⟩ := h2 j c hj
        exact ⟨u, hu, RC_stp hC hs hru⟩
    · have hol := hC.obj i ob hob
      by_cases hmo : ob.mine
      · refine RO_keep hC hs hol (List.getElem?_eq_some_iff.1 hob).1 fun b' off' hg hr' => ⟨rfl, fun h => ?_⟩
        rintro (hi | ⟨off2, hi⟩)
        · exact h hi
        · exact hne (hC.inj _ _ _ _ _ ⟨ob, hob, hmo⟩ hmi hr' hi)
      · cases ob with
        | gone => trivial
        | flat fr cs =>
          rcases hol with h | ⟨b', o', h1, h2, h3⟩
          · exact .inl h
          · cases fr with
            | true =>
              refine .inr ⟨b', o', h1, fun j c hj => ?_, .inl h3⟩
              obtain ⟨u, hu, hru⟩ := h2 j c hj
              exact ⟨u, hu, RT_fix hs.fix c u hru⟩
            | false => exact (hmo rfl).elim
        | mix fr cs =>
          obtain ⟨b', o', h1, h2, h3⟩ := hol
          cases fr with
          | true =>
            refine ⟨b', o', h1, fun j c hj => ?_, .inl h3⟩
            obtain ⟨u, hu, hru⟩ := h2 j c hj
            exact ⟨u, hu, RC_stp hC hs hru⟩
          | false => exact (hmo rfl).elim
  · rcases hb with hb | ⟨off, hb⟩
    · exact hC.lt b hb
    · obtain ⟨_, arr, e, h⟩ := hC.own hmi hb
      exact lt_heap h
  · have f : ∀ i, mine (H.set id o.frozen) i → mine H i := fun i hi => by
      rcases mine_set hi with ⟨rfl, h⟩ | ⟨_, h⟩
      · exact (hnm h).elim
      · exact h
    exact hC.inj i j b' o1 o2 (f i h1) (f j h2) h3 h4

end
end Go.AM
