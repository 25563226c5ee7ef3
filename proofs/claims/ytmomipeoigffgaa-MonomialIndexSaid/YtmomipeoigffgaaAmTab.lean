/- The table of types holds. -/
import Derived.Test.YtmomipeoigffgaaAmRel
import Derived.Test.YtmomipeoigffgaaAmComp
set_option linter.unusedVariables false
set_option linter.unusedSimpArgs false
namespace Go.AM

def valT : T → Value
  | .bool b => .bool b
  | .int k n => .int k n
  | .str s => .string s
  | .nilp => .pointer none
  | .nils => .slice none 0 0
  | .nilf => .nilFunc
  | _ => .nilIface

def scalT : T → Bool
  | .bool _ | .int _ _ | .str _ | .nilp | .nils | .nilf | .nili => true
  | _ => false

def eqZero : Value → T → Bool
  | .bool b, .bool c => b == c
  | .int k n, .int k' n' => k == k' && n == n'
  | .string s, .str s' => s.data == s'.data
  | .pointer none, .nilp => true
  | .slice none 0 0, .nils => true
  | .nilFunc, .nilf => true
  | .nilIface, .nili => true
  | _, _ => false

theorem eqZero_ok {v : Value} {x : T} (h : eqZero v x = true) : v = valT x := by
  unfold eqZero at h
  split at h <;> simp_all [valT]
  rename_i s s'
  cases s; cases s'; simp_all

def eqZeros : List Value → List T → Bool
  | [], [] => true
  | v :: vs, x :: xs => eqZero v x && eqZeros vs xs
  | _, _ => false
theorem eqZeros_ok : ∀ {vs : List Value} {xs : List T}, eqZeros vs xs = true → vs = xs.map valT
  | [], [], _ => rfl
  | v :: vs, x :: xs, h => by
    simp only [eqZeros, Bool.and_eq_true] at h
    simp [← eqZero_ok h.1, ← eqZeros_ok h.2]
  | [], _ :: _, h => by simp [eqZeros] at h
  | _ :: _, [], h => by simp [eqZeros] at h

def dOk : TK → TypeDesc → Bool
  | .slice e, .slice e' => e == e'
  | .array n e, .array n' e' => n == n' && e == e'
  | .struct fs, .struct gs => gs.toList.map (fun g => (g.offset, g.type)) == fs
  | .ptr e, .pointer e' => e == e'
  | .str, .string => true
  | .int k, .int k' => k == k'
  | .bool, .bool => true
  | .func, .func _ _ _ => true
  | _, _ => false

def isAggV : Value → Bool | .agg _ => true | _ => false
def tyChk (P : Program) (t : TypeId) (i : TI) : Bool :=
  match i.k with
  | .other => true
  | k => (match P.underlying t with | some d => dOk k d | none => false) &&
    (match P.info? t with
     | some inf => inf.size == i.size && inf.bytes == i.bytes && i.zeros.length == i.size && (match inf.zero with | some z => eqZeros z.cells.toList i.zeros && isAggV z == i.isAgg | none => false)
     | none => false)

def tabChk (P : Program) : Nat → Tab → Bool
  | _, [] => true
  | t, i :: is => tyChk P t i && tabChk P (t + 1) is

structure TyOk (P : Program) (t : TypeId) (i : TI) : Prop where
  desc : ∃ d, P.underlying t = some d ∧ dOk i.k d = true
  info : ∃ inf z, P.info? t = some inf ∧ inf.size = i.size ∧ inf.bytes = i.bytes ∧ inf.zero = some z ∧ z.cells.toList = i.zeros.map valT ∧ isAggV z = i.isAgg
  len : i.zeros.length = i.size

def TabOk (P : Program) (tb : Tab) : Prop := ∀ t, isOther (tb.at t).k = true ∨ TyOk P t (tb.at t)

theorem tyChk_ok {P : Program} {t : TypeId} {i : TI} (h : tyChk P t i = true) : isOther i.k = true ∨ TyOk P t i := by
  by_cases ho : isOther i.k = true
  · exact .inl ho
  right
  have hk : tyChk P t i = ((match P.underlying t with | some d => dOk i.k d | none => false) &&
    (match P.info? t with
     | some inf => inf.size == i.size && inf.bytes == i.bytes && i.zeros.length == i.size && (match inf.zero with | some z => eqZeros z.cells.toList i.zeros && isAggV z == i.isAgg | none => false)
     | none => false)) := by
    unfold tyChk
    split
    · rename_i hk; simp [hk, isOther] at ho
    · rfl
  rw [hk] at h
  simp only [Bool.and_eq_true] at h
  obtain ⟨h1, h2⟩ := h
  cases hd : P.underlying t with
  | none => simp [hd] at h1
  | some d =>
    rw [hd] at h1
    cases hi : P.info? t with
    | none => simp [hi] at h2
    | some inf =>
      rw [hi] at h2
      simp only [Bool.and_eq_true, beq_iff_eq] at h2
      obtain ⟨⟨⟨h3, h4⟩, h5⟩, h6⟩ := h2
      cases hz : inf.zero with
      | none => simp [hz] at h6
      | some z =>
        rw [hz] at h6
        simp only [Bool.and_eq_true, beq_iff_eq] at h6
        exact ⟨⟨d, hd, h1⟩, ⟨inf, z, hi, h3, h4, hz, eqZeros_ok h6.1, h6.2⟩, h5⟩

theorem tabChk_ok {P : Program} : ∀ {is : Tab} {t0 : Nat}, tabChk P t0 is = true → ∀ {j : Nat} {i : TI}, is[j]? = some i → isOther i.k = true ∨ TyOk P (t0 + j) i
  | [], _, _, j, i, hj => by simp at hj
  | x :: is, t0, h, j, i, hj => by
    simp only [tabChk, Bool.and_eq_true] at h
    cases j with
    | zero => simp at hj; subst hj; exact tyChk_ok h.1
    | succ j =>
      have := tabChk_ok h.2 (j := j) (i := i) (by simpa using hj)
      rwa [show t0 + 1 + j = t0 + (j + 1) by omega] at this

theorem TabOk.of {P : Program} {tb : Tab} (h : tabChk P 0 tb = true) : TabOk P tb := by
  intro t
  unfold Tab.at
  rw [List.getD_eq_getElem?_getD]
  cases hj : tb[t]? with
  | none => exact .inl rfl
  | some i =>
    have := tabChk_ok h hj
    rwa [Nat.zero_add] at this

/-- What the type of a slice says. -/
theorem TabOk.slice {P : Program} {tb : Tab} (h : TabOk P tb) {t : TypeId} {e : TypeId} (hk : (tb.at t).k = .slice e) : P.underlying t = some (.slice e) := by
  rcases h t with h | h
  · simp [hk, isOther] at h
  · obtain ⟨d, hd, ho⟩ := h.desc
    rw [hk] at ho
    unfold dOk at ho
    split at ho <;> simp_all
theorem TabOk.array {P : Program} {tb : Tab} (h : TabOk P tb) {t : TypeId} {n : Nat} {e : TypeId} (hk : (tb.at t).k = .array n e) : P.underlying t = some (.array n e) := by
  rcases h t with h | h
  · simp [hk, isOther] at h
  · obtain ⟨d, hd, ho⟩ := h.desc
    rw [hk] at ho
    unfold dOk at ho
    split at ho <;> simp_all
theorem TabOk.str {P : Program} {tb : Tab} (h : TabOk P tb) {t : TypeId} (hk : (tb.at t).k = .str) : P.underlying t = some .string := by
  rcases h t with h | h
  · simp [hk, isOther] at h
  · obtain ⟨d, hd, ho⟩ := h.desc
    rw [hk] at ho
    unfold dOk at ho
    split at ho <;> simp_all
theorem TabOk.bool {P : Program} {tb : Tab} (h : TabOk P tb) {t : TypeId} (hk : (tb.at t).k = .bool) : P.underlying t = some .bool := by
  rcases h t with h | h
  · simp [hk, isOther] at h
  · obtain ⟨d, hd, ho⟩ := h.desc
    rw [hk] at ho
    unfold dOk at ho
    split at ho <;> simp_all
theorem TabOk.ptr {P : Program} {tb : Tab} (h : TabOk P tb) {t : TypeId} {e : TypeId} (hk : (tb.at t).k = .ptr e) : P.underlying t = some (.pointer e) := by
  rcases h t with h | h
  · simp [hk, isOther] at h
  · obtain ⟨d, hd, ho⟩ := h.desc
    rw [hk] at ho
    unfold dOk at ho
    split at ho <;> simp_all
theorem TabOk.int {P : Program} {tb : Tab} (h : TabOk P tb) {t : TypeId} {k : IntKind} (hk : (tb.at t).k = .int k) : P.underlying t = some (.int k) := by
  rcases h t with h | h
  · simp [hk, isOther] at h
  · obtain ⟨d, hd, ho⟩ := h.desc
    rw [hk] at ho
    unfold dOk at ho
    split at ho <;> simp_all

end Go.AM
