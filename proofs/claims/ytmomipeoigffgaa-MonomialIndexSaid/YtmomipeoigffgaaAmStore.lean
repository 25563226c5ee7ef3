/- Zero cells, literals, stores. -/
import Derived.Test.YtmomipeoigffgaaAmFrz
import Derived.Test.YtmomipeoigffgaaAmInv
set_option linter.unusedVariables false
set_option linter.unusedSimpArgs false
namespace Go.AM

section
variable {P : Program} {I I' : Nat → Prop} {ρ ρ' : Rho} {H H' H0 H1 : List Ob} {w w' : World} {tb : Tab}

theorem ok_of {t : TypeId} (h : isOther (tb.at t).k = false) : tb.ok t = true := by simp [Tab.ok, h]

theorem applyE_phants {m : Md} {L0 : Nat} {rest : List Eff} : ∀ {n : Nat} {H : List Ob}, applyE m L0 (phants n ++ rest) H = some H' → applyE m L0 rest (H ++ List.replicate n (.flat false [])) = some H'
  | 0, H, h => by simpa [phants] using h
  | n + 1, H, h => by
    have h' : applyE m L0 (.push (.flat false []) :: (phants n ++ rest)) H = some H' := by simpa [phants, List.replicate_succ] using h
    have := applyE_phants (applyE_push h')
    simpa [List.replicate_succ] using this

theorem own_of_push {m : Md} {L0 : Nat} {o : Ob} {es : List Eff} {H : List Ob} (h : applyE m L0 (.push o :: es) H = some H') : m.own = true := by
  simp only [applyE] at h
  split at h
  · assumption
  · cases h
theorem own_of_last {m : Md} {L0 : Nat} {o : Ob} : ∀ {es : List Eff} {H : List Ob}, applyE m L0 (es ++ [.push o]) H = some H' → m.own = true
  | [], H, h => own_of_push h
  | .push _ :: es, H, h => own_of_push h
  | .set _ _ :: es, H, h => own_of_last (applyE_set h)
theorem nx_own {m : Md} (h : m.own = true) (n : Nat) : m.nx n = n := by cases m <;> simp [Md.own] at h <;> rfl

theorem applyE_nil {m : Md} {L0 : Nat} (h : applyE m L0 [] H = some H') : H' = H := by simpa [applyE] using h.symm

theorem nils_ok : ∀ {ks : List CK} {cs : List C} {us : List Value} {H : List Ob}, Ctx I ρ H w → A2 (RC w I ρ H) cs us →
    Ctx I ρ (H ++ List.replicate (nilsOf H.length ks cs).2 (.flat false [])) w ∧ Stp I ρ H w I ρ (H ++ List.replicate (nilsOf H.length ks cs).2 (.flat false [])) w ∧
      A2 (RC w I ρ (H ++ List.replicate (nilsOf H.length ks cs).2 (.flat false []))) (nilsOf H.length ks cs).1 us := by
  intro ks
  induction ks with
  | nil =>
    intro cs us H hC hr
    simp only [nilsOf, List.replicate_zero, List.append_nil]
    exact ⟨hC, Stp.refl _ _ _ _, hr⟩
  | cons k ks ih =>
    intro cs us H hC hr
    cases hr with
    | nil =>
      have : nilsOf H.length (k :: ks) [] = ([], 0) := by cases k <;> rfl
      rw [this]
      simp only [List.replicate_zero, List.append_nil]
      exact ⟨hC, Stp.refl _ _ _ _, .nil⟩
    | cons hr1 hr2 =>
      rename_i c u cs us
      by_cases hk : (∃ sz, k = .sl sz) ∧ c = .t .nils
      · obtain ⟨⟨sz, rfl⟩, rfl⟩ := hk
        obtain ⟨hC1, hs1, hn⟩ := phant_ok hC
        obtain ⟨hC2, hs2, hr3⟩ := ih hC1 (hr2.imp fun a b hab => RC_stp hC hs1 hab)
        have hlen : (H ++ [Ob.flat false []]).length = H.length + 1 := by simp
        rw [hlen] at hC2 hs2 hr3
        simp only [nilsOf]
        have happ : ∀ n, H ++ List.replicate (n + 1) (Ob.flat false []) = H ++ [Ob.flat false []] ++ List.replicate n (Ob.flat false []) := by
          intro n; simp [List.replicate_succ]
        rw [happ]
        refine ⟨hC2, hs1.trans hs2, .cons ?_ hr3⟩
        refine .inr (.inl ⟨by simp, hn, rfl, ?_⟩)
        simpa [RC, RT] using hr1
      · have : nilsOf H.length (k :: ks) (c :: cs) = (c :: (nilsOf H.length ks cs).1, (nilsOf H.length ks cs).2) := by
          cases k <;> first | rfl | skip
          cases c <;> first | rfl | skip
          rename_i x
          cases x <;> first | rfl | skip
          exact (hk ⟨⟨_, rfl⟩, rfl⟩).elim
        rw [this]
        obtain ⟨hC2, hs2, hr3⟩ := ih hC hr2
        exact ⟨hC2, hs2, .cons (RC_stp hC hs2 hr1) hr3⟩

theorem putCells_length {α : Type} : ∀ {xs cs : List α} {j : Nat}, (putCells cs j xs).length = cs.length
  | [], cs, j => rfl
  | x :: xs, cs, j => by simp only [putCells]; rw [putCells_length]; simp
theorem putCells_get {α : Type} : ∀ {xs cs : List α} {j : Nat}, j + xs.length ≤ cs.length → ∀ i, (putCells cs j xs)[i]? = if j ≤ i ∧ i < j + xs.length then xs[i - j]? else cs[i]?
  | [], cs, j, _, i => by
    simp only [putCells, List.length_nil, Nat.add_zero]
    rw [if_neg (by omega)]
  | x :: xs, cs, j, h, i => by
    simp only [putCells]
    simp only [List.length_cons] at h ⊢
    rw [putCells_get (by simp; omega) i]
    by_cases h1 : j + 1 ≤ i ∧ i < j + 1 + xs.length
    · rw [if_pos h1, if_pos (by omega), show i - j = (i - (j + 1)) + 1 by omega]
      simp
    · rw [if_neg h1, List.getElem?_set]
      by_cases h2 : j = i
      · subst h2
        rw [if_pos rfl, if_pos (by omega), if_pos (by omega)]
        simp
      · rw [if_neg h2, if_neg (by omega)]

theorem splice_get (cur : Array Value) (p : Nat) (vs : List Value) (h : p + vs.length ≤ cur.size) (i : Nat) :
    (cur.toList.take p ++ vs ++ cur.toList.drop (p + vs.length)).toArray[i]? = if p ≤ i ∧ i < p + vs.length then vs[i - p]? else cur[i]? := by
  have hl : (cur.toList.take p).length = p := by simp; omega
  simp only [List.getElem?_toArray]
  by_cases h1 : i < p
  · rw [List.append_assoc, List.getElem?_append_left (by omega), List.getElem?_take, if_pos h1, if_neg (by omega)]
    simp
  · by_cases h2 : i < p + vs.length
    · rw [if_pos ⟨by omega, h2⟩, List.append_assoc, List.getElem?_append_right (by omega), hl, List.getElem?_append_left (by omega)]
    · rw [if_neg (by omega), List.getElem?_append_right (by simp; omega), List.length_append, hl, List.getElem?_drop]
      rw [show p + vs.length + (i - (p + vs.length)) = i by omega]
      simp

theorem wr_setRow {b : Nat} {cur : Array Value} {e : TypeId} (hb : w.heap[b]? = some (.cells cur e (0, 0))) {p : Nat} {vs : List Value} (h : p + vs.length ≤ cur.size) :
    Wr w b (w.setRow b (cur.toList.take p ++ vs ++ cur.toList.drop (p + vs.length)).toArray) (cur.toList.take p ++ vs ++ cur.toList.drop (p + vs.length)).toArray := by
  refine ⟨rfl, rfl, rfl, by simp [World.setRow], fun i hi => ?_, cur, e, hb, ?_, ?_⟩
  · exact setRow_other w b i _ hi
  · exact setRow_heap w b cur _ e (0, 0) hb
  · simp; omega

theorem storeAt_run (hT : TabOk P tb) {t : TypeId} (ho : tb.ok t = true) {b o : Nat} {cur : Array Value} {e : TypeId} (hb : w.heap[b]? = some (.cells cur e (0, 0))) {v : Value} (hl : v.cells.size = (tb.at t).size)
    (h1 : ∀ x ∈ v.cells.toList, x.oneCell' = true) (hfit : o + v.cells.toList.length ≤ cur.size) :
    (Instr.storeAt t (.pointer (some ⟨b, o, none⟩)) v).run P w = .ok () (w.setRow b (cur.toList.take o ++ v.cells.toList ++ cur.toList.drop (o + v.cells.toList.length)).toArray) := by
  have hst := run_storeCells_at P b o e v.cells.toList 0 cur w hb (by simpa using hfit) h1
  simp only [Nat.add_zero] at hst
  simp [Instr.storeAt, Instr.sureAddr, storeVar, sizeOf_run hT ho, hl, hst]

theorem rep_get {zs : List T} : ∀ (n j : Nat), (List.replicate n zs).flatten[j]? = if j < n * zs.length then zs[j % zs.length]? else none
  | 0, j => by simp
  | n + 1, j => by
    rw [List.replicate_succ, List.flatten_cons, List.getElem?_append]
    by_cases h : j < zs.length
    · rw [if_pos h, if_pos (by rw [Nat.succ_mul]; omega), Nat.mod_eq_of_lt h]
    · rw [if_neg h, rep_get n (j - zs.length)]
      have hm : (j - zs.length) % zs.length = j % zs.length := by
        rw [← Nat.mod_eq_sub_mod (by omega)]
      rw [hm, Nat.succ_mul]
      by_cases h2 : j - zs.length < n * zs.length
      · rw [if_pos h2, if_pos (by omega)]
      · rw [if_neg h2, if_neg (by omega)]

theorem zeroRow_get {i : TI} {n j : Nat} : (zeroRow i n)[j]? = if j < n * i.zeros.length then i.zeros[j % i.zeros.length]? else none := by
  unfold zeroRow
  split
  · rename_i z hz
    rw [hz]
    simp only [List.length_singleton, Nat.mul_one, Nat.mod_one, List.getElem?_replicate]
    split <;> simp
  · exact rep_get n j
theorem zeroRow_length {i : TI} {n : Nat} : (zeroRow i n).length = n * i.zeros.length := by
  unfold zeroRow
  split
  · rename_i z hz; rw [hz]; simp
  · simp

theorem CK.zero_ok (k : CK) : RT w I k.zero (valT k.zero) := by cases k <;> simp [CK.zero, RT, valT]

theorem made_get (z : Array Value) (n j : Nat) (h : 0 < z.size) : (madeCells z n)[j]? = if j < n then z[j % z.size]? else none := by
  unfold madeCells
  simp only [Array.getElem?_map, Array.getElem?_range]
  by_cases hj : j < n
  · simp [hj, getElem!_def, Nat.mod_lt j h]
  · simp [hj]

/-- Zero cells, made. -/
theorem made_cont (hT : TabOk P tb) {e : TypeId} (ho : tb.ok e = true) {inf : TypeInfo} {z : Value} (hi : P.info? e = some inf) (hz : inf.zero = some z) {n c : Nat} (hn : n ≤ c) :
    ∀ (j : Nat) (x : T), (zeroRow (tb.at e) n)[j]? = some x → ∃ u, (madeCells z.cells (c * (tb.at e).size))[j]? = some u ∧ RT w I x u := by
  intro j x hx
  rcases hT e with h | h
  · simp [Tab.ok, h] at ho
  obtain ⟨inf', z', hi', hs, _, hz', hzs, _⟩ := h.info
  rw [hi] at hi'
  cases hi'
  rw [hz] at hz'
  cases hz'
  have hlen := h.len
  rw [zeroRow_get] at hx
  split at hx
  · rename_i hj
    have hpos : 0 < (tb.at e).zeros.length := by
      rcases Nat.eq_zero_or_pos (tb.at e).zeros.length with h0 | h0
      · rw [h0] at hj; omega
      · exact h0
    have hzsz : z.cells.size = (tb.at e).zeros.length := by rw [← Array.length_toList, hzs]; simp
    rw [made_get _ _ _ (by omega), if_pos (by
      rw [← hlen]; exact Nat.lt_of_lt_of_le hj (Nat.mul_le_mul_right _ hn)), hzsz]
    refine ⟨valT x, ?_, ?_⟩
    · have : z.cells.toList[j % (tb.at e).zeros.length]? = some (valT x) := by rw [hzs, List.getElem?_map, hx]; rfl
      simpa using this
    · have hmem := List.mem_of_getElem? hx
      unfold TI.zeros at hmem
      obtain ⟨k, _, rfl⟩ := List.mem_map.1 hmem
      exact CK.zero_ok k
  · cases hx

theorem zeros_A2 (hT : TabOk P tb) {t : TypeId} (ho : tb.ok t = true) : ∃ inf z, P.info? t = some inf ∧ inf.zero = some z ∧ A2 (RC w I ρ H) ((tb.at t).zeros.map .t) z.cells.toList := by
  rcases hT t with h | h
  · simp [Tab.ok, h] at ho
  obtain ⟨inf, z, hi, hs, _, hz, hzs, _⟩ := h.info
  refine ⟨inf, z, hi, hz, ?_⟩
  rw [hzs]
  refine A2.of_get (by simp) fun j a b ha hb => ?_
  rw [List.getElem?_map] at ha hb
  cases hx : (tb.at t).zeros[j]? with
  | none => rw [hx] at ha; simp at ha
  | some x =>
    rw [hx] at ha hb
    simp only [Option.map_some, Option.some.injEq] at ha hb
    subst ha hb
    have hmem := List.mem_of_getElem? hx
    unfold TI.zeros at hmem
    obtain ⟨k, _, rfl⟩ := List.mem_map.1 hmem
    exact CK.zero_ok k

theorem cellsC_ok {v : V} {u : Value} (hr : RV w I ρ H v u) {cs : List C} (h : cellsC v = some cs) : A2 (RC w I ρ H) cs u.cells.toList ∧ ∀ x ∈ u.cells.toList, x.oneCell' = true := by
  have hone : ∀ {cs : List C} {us : List Value}, A2 (RC w I ρ H) cs us → ∀ x ∈ us, x.oneCell' = true := by
    intro cs us h x hx
    obtain ⟨j, hj⟩ := List.getElem?_of_mem hx
    obtain ⟨a, _, hr⟩ := h.get' hj
    exact RC_one hr
  cases v with
  | c x =>
    simp only [cellsC, Option.some.injEq] at h
    subst h
    have hr' : RC w I ρ H x u := hr
    have hcell : u.cells.toList = [u] := by
      have := RC_one hr'
      cases u <;> simp [Value.oneCell'] at this <;> rfl
    rw [hcell]
    exact ⟨.cons hr' .nil, by intro x hx; simp at hx; subst hx; exact RC_one hr'⟩
  | agg cs' =>
    simp only [cellsC, Option.some.injEq] at h
    subst h
    obtain ⟨us, rfl, hrs⟩ := hr
    exact ⟨by simpa [Value.cells] using hrs, by simpa [Value.cells] using hone hrs⟩
  | tup vs => simp [cellsC] at h
  | any => simp [cellsC] at h

end
end Go.AM
