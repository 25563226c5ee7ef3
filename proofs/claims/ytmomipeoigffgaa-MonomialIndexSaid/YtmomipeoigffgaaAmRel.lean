/- What the abstract machine's values say of memory. -/
import Derived.Test.YtmomipeoigffgaaAmBase
import Derived.Laws.World
import Derived.Laws.Sem
import Derived.DataElems
set_option linter.unusedVariables false
set_option linter.unusedSimpArgs false
namespace Go.AM

inductive A2 {α β : Type} (R : α → β → Prop) : List α → List β → Prop where
  | nil : A2 R [] []
  | cons {a b as bs} (h : R a b) (t : A2 R as bs) : A2 R (a :: as) (b :: bs)

theorem A2.length {α β : Type} {R : α → β → Prop} {as : List α} {bs : List β} (h : A2 R as bs) : as.length = bs.length := by
  induction h with
  | nil => rfl
  | cons _ _ ih => simp [ih]
theorem A2.get {α β : Type} {R : α → β → Prop} {as : List α} {bs : List β} (h : A2 R as bs) : ∀ {j : Nat} {a : α}, as[j]? = some a → ∃ b, bs[j]? = some b ∧ R a b := by
  induction h with
  | nil => intro j a h; simp at h
  | cons h t ih =>
    intro j a ha
    cases j with
    | zero => simp at ha; subst ha; exact ⟨_, rfl, h⟩
    | succ j => exact ih (j := j) (by simpa using ha)
theorem A2.get' {α β : Type} {R : α → β → Prop} {as : List α} {bs : List β} (h : A2 R as bs) : ∀ {j : Nat} {b : β}, bs[j]? = some b → ∃ a, as[j]? = some a ∧ R a b := by
  induction h with
  | nil => intro j a h; simp at h
  | cons h t ih =>
    intro j a ha
    cases j with
    | zero => simp at ha; subst ha; exact ⟨_, rfl, h⟩
    | succ j => exact ih (j := j) (by simpa using ha)
theorem A2.imp {α β : Type} {R R' : α → β → Prop} {as : List α} {bs : List β} (h : A2 R as bs) (hR : ∀ a b, R a b → R' a b) : A2 R' as bs := by
  induction h with
  | nil => exact .nil
  | cons h t ih => exact .cons (hR _ _ h) ih
theorem A2.imp_mem {α β : Type} {R R' : α → β → Prop} {as : List α} {bs : List β} (h : A2 R as bs) (hR : ∀ a b, a ∈ as → R a b → R' a b) : A2 R' as bs := by
  induction h with
  | nil => exact .nil
  | cons h t ih => exact .cons (hR _ _ (by simp) h) (ih fun a b ha => hR a b (by simp [ha]))
theorem A2.map_left {α β γ : Type} {R : γ → β → Prop} {f : α → γ} {as : List α} {bs : List β} : A2 (fun a b => R (f a) b) as bs → A2 R (as.map f) bs := by
  intro h
  induction h with
  | nil => exact .nil
  | cons h t ih => exact .cons h ih
theorem A2.map_right {α β γ : Type} {R : α → γ → Prop} {f : β → γ} {as : List α} {bs : List β} : A2 (fun a b => R a (f b)) as bs → A2 R as (bs.map f) := by
  intro h
  induction h with
  | nil => exact .nil
  | cons h t ih => exact .cons h ih
theorem A2.append {α β : Type} {R : α → β → Prop} {as as' : List α} {bs bs' : List β} (h : A2 R as bs) (h' : A2 R as' bs') : A2 R (as ++ as') (bs ++ bs') := by
  induction h with
  | nil => exact h'
  | cons h t ih => exact .cons h ih
theorem A2.of_get {α β : Type} {R : α → β → Prop} : ∀ {as : List α} {bs : List β}, as.length = bs.length → (∀ (j : Nat) (a : α) (b : β), as[j]? = some a → bs[j]? = some b → R a b) → A2 R as bs
  | [], [], _, _ => .nil
  | a :: as, b :: bs, hl, h => .cons (h 0 a b rfl rfl) (A2.of_get (by simpa using hl) fun j x y hx hy => h (j + 1) x y (by simpa using hx) (by simpa using hy))
  | [], _ :: _, hl, _ => by simp at hl
  | _ :: _, [], hl, _ => by simp at hl
theorem A2.drop {α β : Type} {R : α → β → Prop} {as : List α} {bs : List β} (h : A2 R as bs) : ∀ n, A2 R (as.drop n) (bs.drop n) := by
  induction h with
  | nil => intro n; simp; exact .nil
  | cons h t ih =>
    intro n
    cases n with
    | zero => exact .cons h t
    | succ n => exact ih n
theorem A2.take {α β : Type} {R : α → β → Prop} {as : List α} {bs : List β} (h : A2 R as bs) : ∀ n, A2 R (as.take n) (bs.take n) := by
  induction h with
  | nil => intro n; simp; exact .nil
  | cons h t ih =>
    intro n
    cases n with
    | zero => exact .nil
    | succ n => exact .cons h (ih n)

theorem add_block (a : Addr) (n : Nat) : (a.add n).block = a.block := by unfold Addr.add; split <;> rfl
theorem add_plain (b o j : Nat) : (⟨b, o, none⟩ : Addr).add j = ⟨b, o + j, none⟩ := by unfold Addr.add; split <;> simp_all

mutual
def RT (w : World) (I : Nat → Prop) : T → Value → Prop
  | .bool b, v => v = .bool b
  | .int k n, v => v = .int k n
  | .str s, v => v = .string s
  | .nilp, v => v = .pointer none
  | .box cs j, v => ∃ ad : Addr, v = .pointer (some (ad.add j)) ∧ RTs w I cs ad 0
  | .sl n cs, v => ∃ A c, v = .slice A n c ∧ n ≤ c ∧ ((n = 0 ∧ cs = []) ∨ ∃ ad : Addr, A = some ad ∧ RTs w I cs ad 0)
  | .nils, v => v = .slice none 0 0
  | .fn f, v => v = .func (.func f) #[] #[]
  | .nilf, v => v = .nilFunc
  | .nili, v => v = .nilIface
def RTs (w : World) (I : Nat → Prop) : List T → Addr → Nat → Prop
  | [], _, _ => True
  | c :: cs, ad, j => (I ad.block ∧ ∃ u, w.cell? (ad.add j) = some u ∧ RT w I c u) ∧ RTs w I cs ad (j + 1)
end

theorem RTs_get {w : World} {I : Nat → Prop} {ad : Addr} : ∀ {cs : List T} {j0 : Nat}, RTs w I cs ad j0 → ∀ {j : Nat} {c : T}, cs[j]? = some c → I ad.block ∧ ∃ u, w.cell? (ad.add (j0 + j)) = some u ∧ RT w I c u
  | [], _, _, j, c, h => by simp at h
  | x :: cs, j0, h, j, c, hc => by
    simp only [RTs] at h
    cases j with
    | zero => simp at hc; subst hc; exact h.1
    | succ j =>
      have := RTs_get h.2 (j := j) (c := c) (by simpa using hc)
      rw [show j0 + (j + 1) = j0 + 1 + j by omega]
      exact this
theorem RTs_mk {w : World} {I : Nat → Prop} {ad : Addr} : ∀ {cs : List T} {j0 : Nat}, (∀ (j : Nat) (c : T), cs[j]? = some c → I ad.block ∧ ∃ u, w.cell? (ad.add (j0 + j)) = some u ∧ RT w I c u) → RTs w I cs ad j0
  | [], _, _ => by simp [RTs]
  | x :: cs, j0, h => by
    simp only [RTs]
    refine ⟨by simpa using h 0 x rfl, RTs_mk fun j c hc => ?_⟩
    have := h (j + 1) c (by simpa using hc)
    rwa [show j0 + (j + 1) = j0 + 1 + j by omega] at this

/-- Immutable memory stays as it is. -/
def Fix (w : World) (I : Nat → Prop) (w' : World) (I' : Nat → Prop) : Prop := ∀ b, I b → I' b ∧ w'.heap[b]? = w.heap[b]?

theorem cell_of_block {w w' : World} {a : Addr} (h : w'.heap[a.block]? = w.heap[a.block]?) : w'.cell? a = w.cell? a := by simp [World.cell?, h]

mutual
theorem RT_fix {w w' : World} {I I' : Nat → Prop} (hf : Fix w I w' I') : ∀ (x : T) (v : Value), RT w I x v → RT w' I' x v
  | .bool _, _, h => by simpa [RT] using h
  | .int _ _, _, h => by simpa [RT] using h
  | .str _, _, h => by simpa [RT] using h
  | .nilp, _, h => by simpa [RT] using h
  | .box cs j, v, h => by
    simp only [RT] at h ⊢
    obtain ⟨ad, hv, hs⟩ := h
    exact ⟨ad, hv, RTs_fix hf cs ad 0 hs⟩
  | .sl n cs, v, h => by
    simp only [RT] at h ⊢
    obtain ⟨A, c, hv, hn, hs⟩ := h
    refine ⟨A, c, hv, hn, ?_⟩
    rcases hs with hs | ⟨ad, ha, hs⟩
    · exact .inl hs
    · exact .inr ⟨ad, ha, RTs_fix hf cs ad 0 hs⟩
  | .nils, _, h => by simpa [RT] using h
  | .fn _, _, h => by simpa [RT] using h
  | .nilf, _, h => by simpa [RT] using h
  | .nili, _, h => by simpa [RT] using h
theorem RTs_fix {w w' : World} {I I' : Nat → Prop} (hf : Fix w I w' I') : ∀ (cs : List T) (ad : Addr) (j : Nat), RTs w I cs ad j → RTs w' I' cs ad j
  | [], _, _, _ => by simp [RTs]
  | c :: cs, ad, j, h => by
    simp only [RTs] at h ⊢
    obtain ⟨⟨hi, u, hu, hr⟩, ht⟩ := h
    obtain ⟨hi', hb⟩ := hf _ hi
    refine ⟨⟨hi', u, ?_, RT_fix hf c u hr⟩, RTs_fix hf cs ad (j + 1) ht⟩
    rw [cell_of_block (w := w) (w' := w') (a := ad.add j) (by rw [add_block]; exact hb)]
    exact hu
end

abbrev Rho := Nat → Option (Nat × Nat)
def GN (H : List Ob) (id : Nat) : Prop := H[id]? = some .gone
def RP (ρ : Rho) (H : List Ob) (id off : Nat) (v : Value) : Prop := (GN H id ∧ ∃ ad, v = .pointer (some ad)) ∨ ∃ b o, ρ id = some (b, o) ∧ v = .pointer (some ⟨b, o + off, none⟩)
def Cap (w : World) (b n : Nat) : Prop := ∃ arr e fz, w.heap[b]? = some (.cells arr e fz) ∧ n ≤ arr.size
def RC (w : World) (I : Nat → Prop) (ρ : Rho) (H : List Ob) : C → Value → Prop
  | .t x, v => RT w I x v
  | .ref id off, v => RP ρ H id off v
  | .osl id off len sz, v => (GN H id ∧ ∃ A c, v = .slice A len c ∧ len ≤ c ∧ (len = 0 ∨ ∃ ad, A = some ad)) ∨ (id < H.length ∧ ρ id = none ∧ len = 0 ∧ v = .slice none 0 0) ∨
      ∃ b o c, ρ id = some (b, o) ∧ v = .slice (some ⟨b, o + off, none⟩) len c ∧ len ≤ c ∧ Cap w b (o + off + c * sz)
  | .fn f caps, v => ∃ us : List Value, v = .func (.func f) #[] us.toArray ∧ A2 (fun p u => RP ρ H p.1 p.2 u) caps us
  | .any, v => v.oneCell' = true

/-- A value that is no tuple. -/
def RV1 (w : World) (I : Nat → Prop) (ρ : Rho) (H : List Ob) : V → Value → Prop
  | .c x, v => RC w I ρ H x v
  | .agg cs, v => ∃ us : List Value, v = .agg us.toArray ∧ A2 (RC w I ρ H) cs us
  | .tup [], v => v = .tuple #[]
  | .tup _, _ => False
  | .any, _ => True
def RV (w : World) (I : Nat → Prop) (ρ : Rho) (H : List Ob) : V → Value → Prop
  | .tup vs, v => ∃ us : List Value, v = .tuple us.toArray ∧ A2 (RV1 w I ρ H) vs us
  | x, v => RV1 w I ρ H x v

def Own (w : World) (I : Nat → Prop) (fr : Bool) (b : Nat) : Prop :=
  match fr with
  | true => I b
  | false => ¬ I b ∧ ∃ arr e, w.heap[b]? = some (.cells arr e (0, 0))

def RO (w : World) (I : Nat → Prop) (ρ : Rho) (H : List Ob) (id : Nat) : Ob → Prop
  | .gone => True
  | .flat fr cs => (ρ id = none ∧ cs = []) ∨ ∃ b o, ρ id = some (b, o) ∧ (∀ (j : Nat) (c : T), cs[j]? = some c → ∃ u, w.cell? ⟨b, o + j, none⟩ = some u ∧ RT w I c u) ∧ Own w I fr b
  | .mix fr cs => ∃ b o, ρ id = some (b, o) ∧ (∀ (j : Nat) (c : C), cs[j]? = some c → ∃ u, w.cell? ⟨b, o + j, none⟩ = some u ∧ RC w I ρ H c u) ∧ Own w I fr b

def Ob.mine : Ob → Prop
  | .flat fr _ => fr = false
  | .mix fr _ => fr = false
  | .gone => False
def mine (H : List Ob) (id : Nat) : Prop := ∃ o, H[id]? = some o ∧ o.mine
/-- The blocks that may be written. -/
def ownd (ρ : Rho) (H : List Ob) (b : Nat) : Prop := ∃ id o, mine H id ∧ ρ id = some (b, o)

structure Ctx (I : Nat → Prop) (ρ : Rho) (H : List Ob) (w : World) : Prop where
  obj : ∀ id o, H[id]? = some o → RO w I ρ H id o
  lt : ∀ b, I b → b < w.heap.size
  dom : ∀ id p, ρ id = some p → id < H.length
  inj : ∀ id id' b o o', mine H id → mine H id' → ρ id = some (b, o) → ρ id' = some (b, o') → id = id'

/-- How the world may have changed since a moment, by blocks. -/
structure Ext (w : World) (I own : Nat → Prop) (w' : World) (I' own' : Nat → Prop) : Prop where
  os : w'.os = w.os
  tape : w'.tape = w.tape
  output : w'.output = w.output
  size : w.heap.size ≤ w'.heap.size
  same : ∀ b, b < w.heap.size → ¬ own b → w'.heap[b]? = w.heap[b]?
  cap : ∀ b n, Cap w b n → Cap w' b n
  imm : ∀ b, I b → I' b
  new : ∀ b, I' b → I b ∨ own b ∨ w.heap.size ≤ b
  own : ∀ b, own' b → own b ∨ w.heap.size ≤ b

theorem Ext.refl (w : World) (I own : Nat → Prop) : Ext w I own w I own :=
  ⟨rfl, rfl, rfl, Nat.le_refl _, fun _ _ _ => rfl, fun _ _ h => h, fun _ h => h, fun _ h => .inl h, fun _ h => .inl h⟩
theorem Ext.trans {w w1 w2 : World} {I I1 I2 own own1 own2 : Nat → Prop} (h : Ext w I own w1 I1 own1) (k : Ext w1 I1 own1 w2 I2 own2) : Ext w I own w2 I2 own2 where
  os := k.os.trans h.os
  tape := k.tape.trans h.tape
  output := k.output.trans h.output
  size := Nat.le_trans h.size k.size
  same b hb ho := by
    rw [k.same b (Nat.lt_of_lt_of_le hb h.size) (fun ho1 => (h.own b ho1).elim ho fun h1 => by omega), h.same b hb ho]
  cap b n hc := k.cap b n (h.cap b n hc)
  imm b hb := k.imm b (h.imm b hb)
  new b hb := by
    rcases k.new b hb with h1 | h1 | h1
    · exact h.new b h1
    · rcases h.own b h1 with h2 | h2
      · exact .inr (.inl h2)
      · exact .inr (.inr h2)
    · exact .inr (.inr (Nat.le_trans h.size h1))
  own b hb := by
    rcases k.own b hb with h1 | h1
    · exact h.own b h1
    · exact .inr (Nat.le_trans h.size h1)

/-- How objects may have changed in a step. -/
structure Stp (I : Nat → Prop) (ρ : Rho) (H : List Ob) (w : World) (I' : Nat → Prop) (ρ' : Rho) (H' : List Ob) (w' : World) : Prop where
  len : H.length ≤ H'.length
  rho : ∀ id, id < H.length → ρ' id = ρ id
  gone : ∀ id, GN H id → GN H' id
  fix : Fix w I w' I'
  ext : Ext w I (ownd ρ H) w' I' (ownd ρ' H')

theorem Stp.refl (I : Nat → Prop) (ρ : Rho) (H : List Ob) (w : World) : Stp I ρ H w I ρ H w :=
  ⟨Nat.le_refl _, fun _ _ => rfl, fun _ h => h, fun _ h => ⟨h, rfl⟩, Ext.refl _ _ _⟩
theorem Fix.trans {w w1 w2 : World} {I I1 I2 : Nat → Prop} (h : Fix w I w1 I1) (k : Fix w1 I1 w2 I2) : Fix w I w2 I2 := fun b hb =>
  ⟨(k b (h b hb).1).1, (k b (h b hb).1).2.trans (h b hb).2⟩
theorem Stp.trans {I I1 I2 : Nat → Prop} {ρ ρ1 ρ2 : Rho} {H H1 H2 : List Ob} {w w1 w2 : World} (h : Stp I ρ H w I1 ρ1 H1 w1) (k : Stp I1 ρ1 H1 w1 I2 ρ2 H2 w2) : Stp I ρ H w I2 ρ2 H2 w2 :=
  ⟨Nat.le_trans h.len k.len, fun id hid => (k.rho id (Nat.lt_of_lt_of_le hid h.len)).trans (h.rho id hid), fun id hg => k.gone id (h.gone id hg), h.fix.trans k.fix, h.ext.trans k.ext⟩

section
variable {I I' : Nat → Prop} {ρ ρ' : Rho} {H H' : List Ob} {w w' : World}

theorem RP_stp (hc : Ctx I ρ H w) (hs : Stp I ρ H w I' ρ' H' w') {id off : Nat} {v : Value} (h : RP ρ H id off v) : RP ρ' H' id off v := by
  rcases h with ⟨h, h'⟩ | ⟨b, o, hr, hv⟩
  · exact .inl ⟨hs.gone id h, h'⟩
  · exact .inr ⟨b, o, by rw [hs.rho id (hc.dom id _ hr)]; exact hr, hv⟩

theorem RC_stp (hc : Ctx I ρ H w) (hs : Stp I ρ H w I' ρ' H' w') {x : C} {v : Value} (h : RC w I ρ H x v) : RC w' I' ρ' H' x v := by
  cases x with
  | t x => exact RT_fix hs.fix x v h
  | ref id off => exact RP_stp hc hs h
  | osl id off len sz =>
    rcases h with ⟨h, h'⟩ | ⟨h1, h2, h3⟩ | ⟨b, o, c, h1, h2, h3, h4⟩
    · exact .inl ⟨hs.gone id h, h'⟩
    · exact .inr (.inl ⟨Nat.lt_of_lt_of_le h1 hs.len, by rw [hs.rho id h1]; exact h2, h3⟩)
    · exact .inr (.inr ⟨b, o, c, by rw [hs.rho id (hc.dom id _ h1)]; exact h1, h2, h3, hs.ext.cap _ _ h4⟩)
  | fn f caps =>
    obtain ⟨us, h1, h2⟩ := h
    exact ⟨us, h1, h2.imp fun p u hp => RP_stp hc hs hp⟩
  | any => exact h

theorem RV1_stp (hc : Ctx I ρ H w) (hs : Stp I ρ H w I' ρ' H' w') {x : V} {v : Value} (h : RV1 w I ρ H x v) : RV1 w' I' ρ' H' x v := by
  cases x with
  | c x => exact RC_stp hc hs h
  | agg cs =>
    obtain ⟨us, h1, h2⟩ := h
    exact ⟨us, h1, h2.imp fun p u hp => RC_stp hc hs hp⟩
  | tup vs => cases vs <;> exact h
  | any => trivial

theorem RV_stp (hc : Ctx I ρ H w) (hs : Stp I ρ H w I' ρ' H' w') {x : V} {v : Value} (h : RV w I ρ H x v) : RV w' I' ρ' H' x v := by
  cases x with
  | c x => exact RC_stp hc hs h
  | agg cs => exact RV1_stp hc hs (x := .agg cs) h
  | tup vs =>
    obtain ⟨us, h1, h2⟩ := h
    exact ⟨us, h1, h2.imp fun p u hp => RV1_stp hc hs hp⟩
  | any => trivial
end

theorem RT_one {w : World} {I : Nat → Prop} {x : T} {v : Value} (h : RT w I x v) : v.oneCell' = true := by
  cases x <;> simp only [RT] at h
  case box => obtain ⟨_, rfl, _⟩ := h; rfl
  case sl => obtain ⟨_, _, rfl, _⟩ := h; rfl
  all_goals (subst h; rfl)
theorem RP_one {ρ : Rho} {H : List Ob} {id off : Nat} {v : Value} (h : RP ρ H id off v) : v.oneCell' = true := by
  rcases h with ⟨_, ad, rfl⟩ | ⟨b, o, _, rfl⟩
  · rfl
  · rfl
theorem RC_one {w : World} {I : Nat → Prop} {ρ : Rho} {H : List Ob} {x : C} {v : Value} (h : RC w I ρ H x v) : v.oneCell' = true := by
  cases x with
  | t x => exact RT_one h
  | ref id off => exact RP_one h
  | osl id off len sz =>
    rcases h with ⟨_, A, c, rfl, _⟩ | ⟨_, _, _, rfl⟩ | ⟨b, o, c, _, rfl, _⟩
    · rfl
    · rfl
    · rfl
  | fn f caps => obtain ⟨us, rfl, _⟩ := h; rfl
  | any => exact h

/-- The frame. -/
def RF (w : World) (I : Nat → Prop) (ρ : Rho) (H : List Ob) (fr : List V) (tmps : Array Value) : Prop :=
  ∀ (t : Nat) (v : V), fr[t]? = some v → ∃ u, tmps[t]? = some u ∧ RV w I ρ H v u

end Go.AM
