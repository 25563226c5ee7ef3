/- What an operation of the abstract machine has seen, if it came to something. -/
import Derived.Test.YtmomipeoigffgaaAmBase
set_option linter.unusedVariables false
set_option linter.unusedSimpArgs false
namespace Go.AM
section
variable {tb : Tab} {imp : FuncId → Bool} {orc : Orc} {own : Bool} {get : Nat → Option Ob} {nx : Nat} {vs : List V} {v : V} {es : List Eff} {i : TI}

theorem inv_mv (h : sMv vs = some (v, es)) : vs = [v] ∧ es = [] := by
  unfold sMv at h
  split at h <;> simp only [Option.some.injEq, Prod.mk.injEq, reduceCtorEq] at h
  obtain ⟨rfl, rfl⟩ := h
  exact ⟨rfl, rfl⟩

theorem inv_pick (h : sPick vs = some (v, es)) : ∃ c a b, vs = [.c (.t (.bool c)), a, b] ∧ v = (if c then a else b) ∧ es = [] := by
  unfold sPick at h
  split at h <;> simp only [Option.some.injEq, Prod.mk.injEq, reduceCtorEq] at h
  obtain ⟨rfl, rfl⟩ := h
  exact ⟨_, _, _, rfl, rfl, rfl⟩

theorem inv_bin {k : TK} {op : BinOp} (h : sBin k op vs = some (v, es)) : ∃ x y r, vs = [.c (.t x), .c (.t y)] ∧ bin k op x y = some r ∧ v = .c (.t r) ∧ es = [] := by
  unfold sBin at h
  split at h
  · split at h <;> simp only [Option.some.injEq, Prod.mk.injEq, reduceCtorEq] at h
    obtain ⟨rfl, rfl⟩ := h
    exact ⟨_, _, _, rfl, by assumption, rfl, rfl⟩
  · cases h

theorem inv_not (h : sNot vs = some (v, es)) : ∃ b, vs = [.c (.t (.bool b))] ∧ v = .c (.t (.bool (!b))) ∧ es = [] := by
  unfold sNot at h
  split at h <;> simp only [Option.some.injEq, Prod.mk.injEq, reduceCtorEq] at h
  obtain ⟨rfl, rfl⟩ := h
  exact ⟨_, rfl, rfl, rfl⟩
theorem inv_neg (h : sNeg vs = some (v, es)) : ∃ k n, vs = [.c (.t (.int k n))] ∧ v = .c (.t (.int k (k.wrap (0 - n)))) ∧ es = [] := by
  unfold sNeg at h
  split at h <;> simp only [Option.some.injEq, Prod.mk.injEq, reduceCtorEq] at h
  obtain ⟨rfl, rfl⟩ := h
  exact ⟨_, _, rfl, rfl, rfl⟩
theorem inv_conv {d : IntKind} (h : sConv d vs = some (v, es)) : ∃ k n, vs = [.c (.t (.int k n))] ∧ v = .c (.t (.int d (d.wrap n))) ∧ es = [] := by
  unfold sConv at h
  split at h <;> simp only [Option.some.injEq, Prod.mk.injEq, reduceCtorEq] at h
  obtain ⟨rfl, rfl⟩ := h
  exact ⟨_, _, rfl, rfl, rfl⟩
theorem inv_alloc (h : sAlloc i nx vs = some (v, es)) : vs = [] ∧ isOther i.k = false ∧ v = .c (.ref (nx + (nilsOf nx i.cks (i.zeros.map .t)).2) 0) ∧
    es = phants (nilsOf nx i.cks (i.zeros.map .t)).2 ++ [.push (.mix false (nilsOf nx i.cks (i.zeros.map .t)).1)] := by
  unfold sAlloc at h
  split at h
  · split at h <;> simp only [Option.some.injEq, Prod.mk.injEq, reduceCtorEq] at h
    obtain ⟨rfl, rfl⟩ := h
    exact ⟨rfl, by simp_all, rfl, rfl⟩
  · cases h
theorem inv_box (h : sBox i nx vs = some (v, es)) : ∃ x cs, vs = [x] ∧ cellsC x = some cs ∧ v = .c (.ref (nx + (nilsOf nx i.cks cs).2) 0) ∧
    es = phants (nilsOf nx i.cks cs).2 ++ [.push (.mix false (nilsOf nx i.cks cs).1)] := by
  unfold sBox at h
  split at h
  · split at h <;> simp only [Option.some.injEq, Prod.mk.injEq, reduceCtorEq] at h
    obtain ⟨rfl, rfl⟩ := h
    exact ⟨_, _, rfl, by assumption, rfl, rfl⟩
  · cases h
theorem inv_mkslice {sl : Bool} {n : Nat} {idx : List Nat} (h : sMkslice own get nx sl i n idx vs = some (v, es)) : sl = true ∧ isOther i.k = false ∧ n * i.size ≤ 16777216 ∧
    ∃ cs fs, lit get i.zeros idx vs (zeroRow i n) = some (cs, fs) ∧
      ((own = true ∧ v = .c (.osl nx 0 n i.size) ∧ es = fs ++ [.push (.flat false cs)]) ∨ (own = false ∧ v = .c (.t (.sl n cs)) ∧ es = fs)) := by
  unfold sMkslice at h
  split at h
  · rename_i hc
    simp at hc
    split at h
    · cases h
    · rename_i cs fs heq
      refine ⟨hc.1.1, hc.1.2, hc.2, cs, fs, heq, ?_⟩
      split at h <;> simp only [Option.some.injEq, Prod.mk.injEq] at h <;> obtain ⟨rfl, rfl⟩ := h
      · exact .inl ⟨by assumption, rfl, rfl⟩
      · exact .inr ⟨by simp_all, rfl, rfl⟩
  · cases h
theorem inv_make {sl : Bool} (h : sMake nx sl i vs = some (v, es)) : ∃ l c, vs = [.c (.t (.int .i64 l)), .c (.t (.int .i64 c))] ∧ sl = true ∧ isOther i.k = false ∧ 0 ≤ l ∧ l ≤ c ∧
    c * i.bytes ≤ 281474976710656 ∧ c ≤ 281474976710656 ∧ v = .c (.osl nx 0 l.toNat i.size) ∧ es = [.push (.flat false (zeroRow i l.toNat))] := by
  unfold sMake at h
  split at h
  · split at h
    · rename_i hc
      simp at hc
      split at h
      · rename_i hd
        simp only [Option.some.injEq, Prod.mk.injEq] at h
        obtain ⟨rfl, rfl⟩ := h
        exact ⟨_, _, rfl, hc.1, hc.2, hd.1, hd.2.1, hd.2.2.1, hd.2.2.2, rfl, rfl⟩
      · cases h
    · cases h
  · cases h
theorem inv_load (h : sLoad get i vs = some (v, es)) : es = [] ∧ isOther i.k = false ∧ ((∃ p, vs = [.c (.t p)] ∧ p.isBox = true ∧ loadT i p.bCs p.bJ = some v) ∨
    ∃ id off, vs = [.c (.ref id off)] ∧ ((∃ fr cs, get id = some (.flat fr cs) ∧ loadT i cs off = some v) ∨ ∃ fr cs, get id = some (.mix fr cs) ∧ loadC i cs off = some v)) := by
  unfold sLoad at h
  split at h
  · cases h
  · rename_i ho
    simp at ho
    split at h
    · split at h
      · split at h <;> simp only [Option.some.injEq, Prod.mk.injEq, reduceCtorEq] at h
        obtain ⟨rfl, rfl⟩ := h
        exact ⟨rfl, ho, .inl ⟨_, rfl, by assumption, by assumption⟩⟩
      · cases h
    · split at h
      · split at h <;> simp only [Option.some.injEq, Prod.mk.injEq, reduceCtorEq] at h
        obtain ⟨rfl, rfl⟩ := h
        exact ⟨rfl, ho, .inr ⟨_, _, rfl, .inl ⟨_, _, by assumption, by assumption⟩⟩⟩
      · split at h <;> simp only [Option.some.injEq, Prod.mk.injEq, reduceCtorEq] at h
        obtain ⟨rfl, rfl⟩ := h
        exact ⟨rfl, ho, .inr ⟨_, _, rfl, .inr ⟨_, _, by assumption, by assumption⟩⟩⟩
      · cases h
    · cases h
theorem inv_store (h : sStore get nx i vs = some (v, es)) : ∃ id off x, vs = [.c (.ref id off), x] ∧ v = .tup [] ∧ isOther i.k = false ∧
    ((∃ cs xs fs, get id = some (.flat false cs) ∧ cellsT get x = some (xs, fs) ∧ noSet id fs = true ∧ (xs.length = i.size ∧ 1 ≤ xs.length) ∧ off + xs.length ≤ cs.length ∧ es = fs ++ [.set id (.flat false (putCells cs off xs))]) ∨
     ∃ cs xs, get id = some (.mix false cs) ∧ cellsC x = some xs ∧ (xs.length = i.size ∧ 1 ≤ xs.length) ∧ off + xs.length ≤ cs.length ∧ es = phants (nilsOf nx i.cks xs).2 ++ [.set id (.mix false (putCells cs off (nilsOf nx i.cks xs).1))]) := by
  unfold sStore at h
  split at h
  · cases h
  · rename_i ho
    simp at ho
    split at h
    · split at h
      · split at h
        · split at h <;> simp only [Option.some.injEq, Prod.mk.injEq, reduceCtorEq] at h
          rename_i hc
          obtain ⟨rfl, rfl⟩ := h
          exact ⟨_, _, _, rfl, rfl, ho, .inl ⟨_, _, _, by assumption, by assumption, hc.1, hc.2.1, hc.2.2, rfl⟩⟩
        · cases h
      · split at h
        · split at h <;> simp only [Option.some.injEq, Prod.mk.injEq, reduceCtorEq] at h
          rename_i hc
          obtain ⟨rfl, rfl⟩ := h
          exact ⟨_, _, _, rfl, rfl, ho, .inr ⟨_, _, by assumption, by assumption, hc.1, hc.2, rfl⟩⟩
        · cases h
      · cases h
    · cases h
theorem inv_iaddr {k : TK} (h : sIaddr tb k vs = some (v, es)) : es = [] ∧ ∃ x ik j, vs = [x, .c (.t (.int ik j))] ∧ 0 ≤ j ∧
    ((∃ e n cs, k = .slice e ∧ x = .c (.t (.sl n cs)) ∧ tb.ok e = true ∧ j < n ∧ v = .c (.t (.box cs (j.toNat * (tb.at e).size)))) ∨
     (∃ e id off len sz, k = .slice e ∧ x = .c (.osl id off len sz) ∧ j < len ∧ tb.ok e = true ∧ sz = (tb.at e).size ∧ v = .c (.ref id (off + j.toNat * sz))) ∨
     ∃ e n id off, k = .array n e ∧ x = .c (.ref id off) ∧ j < n ∧ tb.ok e = true ∧ 2 ≤ n ∧ v = .c (.ref id (off + j.toNat * (tb.at e).size))) := by
  unfold sIaddr at h
  split at h
  · split at h
    · split at h
      · split at h <;> simp only [Option.some.injEq, Prod.mk.injEq, reduceCtorEq] at h
        rename_i ho hc
        obtain ⟨rfl, rfl⟩ := h
        exact ⟨rfl, _, _, _, rfl, hc.1, .inl ⟨_, _, _, rfl, rfl, ho, hc.2, rfl⟩⟩
      · cases h
    · split at h
      · split at h <;> simp only [Option.some.injEq, Prod.mk.injEq, reduceCtorEq] at h
        rename_i ho hc
        simp at ho
        obtain ⟨rfl, rfl⟩ := h
        exact ⟨rfl, _, _, _, rfl, hc.1, .inr (.inl ⟨_, _, _, _, _, rfl, rfl, hc.2, ho.1, ho.2, rfl⟩)⟩
      · cases h
    · split at h
      · split at h <;> simp only [Option.some.injEq, Prod.mk.injEq, reduceCtorEq] at h
        rename_i ho hc
        simp at ho
        obtain ⟨rfl, rfl⟩ := h
        exact ⟨rfl, _, _, _, rfl, hc.1, .inr (.inr ⟨_, _, _, _, rfl, rfl, hc.2, ho.1, ho.2, rfl⟩)⟩
      · cases h
    · cases h
  · cases h
theorem inv_mkfn {f : FuncId} (h : sMkfn f vs = some (v, es)) : ∃ l, capsOf vs = some l ∧ v = .c (.fn f l) ∧ es = [] := by
  unfold sMkfn at h
  split at h <;> simp only [Option.some.injEq, Prod.mk.injEq, reduceCtorEq] at h
  obtain ⟨rfl, rfl⟩ := h
  exact ⟨_, by assumption, rfl, rfl⟩
theorem inv_ext {j : Nat} (h : sExt j vs = some (v, es)) : ∃ l, vs = [.tup l] ∧ l[j]? = some v ∧ es = [] := by
  unfold sExt at h
  split at h
  · split at h <;> simp only [Option.some.injEq, Prod.mk.injEq, reduceCtorEq] at h
    obtain ⟨rfl, rfl⟩ := h
    exact ⟨_, rfl, by assumption, rfl⟩
  · cases h
theorem inv_len {k : TK} (h : sLen k vs = some (v, es)) : es = [] ∧ ∃ x, vs = [x] ∧
    ((∃ e, k = .slice e ∧ ((x = .c (.t .nils) ∧ v = .c (.t (.int .i64 0))) ∨ (∃ n cs, x = .c (.t (.sl n cs)) ∧ v = .c (.t (.int .i64 n))) ∨ ∃ id off n sz, x = .c (.osl id off n sz) ∧ v = .c (.t (.int .i64 n)))) ∨
     (∃ s, k = .str ∧ x = .c (.t (.str s)) ∧ v = .c (.t (.int .i64 s.size))) ∨
     ∃ n e, k = .array n e ∧ v = .c (.t (.int .i64 n))) := by
  unfold sLen at h
  split at h
  · split at h <;> simp only [Option.some.injEq, Prod.mk.injEq, reduceCtorEq] at h <;> obtain ⟨rfl, rfl⟩ := h
    · exact ⟨rfl, _, rfl, .inl ⟨_, rfl, .inl ⟨rfl, rfl⟩⟩⟩
    · exact ⟨rfl, _, rfl, .inl ⟨_, rfl, .inr (.inl ⟨_, _, rfl, rfl⟩)⟩⟩
    · exact ⟨rfl, _, rfl, .inl ⟨_, rfl, .inr (.inr ⟨_, _, _, _, rfl, rfl⟩)⟩⟩
    · exact ⟨rfl, _, rfl, .inr (.inl ⟨_, rfl, rfl, rfl⟩)⟩
    · exact ⟨rfl, _, rfl, .inr (.inr ⟨_, _, rfl, rfl⟩)⟩
  · cases h
theorem inv_max (h : sMax vs = some (v, es)) : ∃ k a k' b, vs = [.c (.t (.int k a)), .c (.t (.int k' b))] ∧ v = .c (.t (.int k (if b > a then b else a))) ∧ es = [] := by
  unfold sMax at h
  split at h <;> simp only [Option.some.injEq, Prod.mk.injEq, reduceCtorEq] at h
  obtain ⟨rfl, rfl⟩ := h
  exact ⟨_, _, _, _, rfl, rfl, rfl⟩
theorem inv_min (h : sMin vs = some (v, es)) : ∃ k a k' b, vs = [.c (.t (.int k a)), .c (.t (.int k' b))] ∧ v = .c (.t (.int k (if b < a then b else a))) ∧ es = [] := by
  unfold sMin at h
  split at h <;> simp only [Option.some.injEq, Prod.mk.injEq, reduceCtorEq] at h
  obtain ⟨rfl, rfl⟩ := h
  exact ⟨_, _, _, _, rfl, rfl, rfl⟩
theorem inv_append {sl : Bool} (h : sAppend get nx sl i vs = some (v, es)) : ∃ s x m new, vs = [s, x] ∧ rowOf get x = some (m, new) ∧ sl = true ∧ isOther i.k = false ∧ 1 ≤ i.bytes ∧ new.length = m * i.size ∧
    ((s = .c (.t .nils) ∧ m * i.bytes ≤ 140737488355328 ∧ v = .c (.osl nx 0 m i.size) ∧ es = [.push (.flat false new)]) ∨
     ∃ id off len cs, s = .c (.osl id off len i.size) ∧ get id = some (.flat false cs) ∧ off + len * i.size ≤ cs.length ∧ (len + m) * i.bytes ≤ 140737488355328 ∧
       v = .c (.osl nx 0 (len + m) i.size) ∧ es = [.set id .gone, .push (.flat false (sub cs off (len * i.size) ++ new))]) := by
  unfold sAppend at h
  split at h
  · split at h
    · rename_i hg
      simp at hg
      split at h
      · cases h
      · split at h
        · split at h <;> simp only [Option.some.injEq, Prod.mk.injEq, reduceCtorEq] at h
          rename_i hc
          obtain ⟨rfl, rfl⟩ := h
          exact ⟨_, _, _, _, rfl, by assumption, hg.1.1, hg.1.2, hg.2, hc.1, .inl ⟨rfl, hc.2, rfl, rfl⟩⟩
        · split at h
          · split at h
            · rename_i hsz
              subst hsz
              split at h <;> simp only [Option.some.injEq, Prod.mk.injEq, reduceCtorEq] at h
              rename_i hc
              obtain ⟨rfl, rfl⟩ := h
              exact ⟨_, _, _, _, rfl, by assumption, hg.1.1, hg.1.2, hg.2, hc.1, .inr ⟨_, _, _, _, rfl, by assumption, hc.2.1, hc.2.2, rfl, rfl⟩⟩
            · cases h
          · cases h
        · cases h
    · cases h
  · cases h
theorem inv_callv (h : sCallv imp orc get nx vs = some (v, es)) : ∃ x ys, vs = x :: ys ∧ ((∃ f, x = .c (.t (.fn f)) ∧ callF imp orc get nx f ys = some (v, es)) ∨
    ∃ f caps, x = .c (.fn f caps) ∧ callF imp orc get nx f (ys ++ caps.map fun p => V.c (.ref p.1 p.2)) = some (v, es)) := by
  unfold sCallv at h
  split at h
  · exact ⟨_, _, rfl, .inl ⟨_, rfl, h⟩⟩
  · exact ⟨_, _, rfl, .inr ⟨_, _, rfl, h⟩⟩
  · cases h
end
end Go.AM
