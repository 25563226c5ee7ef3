import Derived.Test.YthjmbppofgadaaaA1
set_option linter.unusedVariables false
set_option linter.unusedSimpArgs false
set_option linter.defProp false
namespace Go.AM
section
variable {P : Program} {I I' : Nat → Prop} {ρ ρ' : Rho} {H H' : List Ob} {w w' : World} {tb : Tab}
structure Src (P : Program) (w : World) (sz : Nat) (xv : Value) (m : Nat) (news : List Value) : Prop where
  slice : ∃ A c, xv = .slice A m c
  first : ∀ W : World, W.heap = w.heap → (Builtin.firstCells sz m xv).run P W = .ok news.toArray W
  len : news.length = m * sz
  one : ∀ u ∈ news, u.oneCell' = true
theorem cell_heap {w W : World} (h : W.heap = w.heap) (a : Addr) : W.cell? a = w.cell? a := by simp [World.cell?, h]
theorem src_of {sz m : Nat} {A : Option Addr} {c : Nat} {news : List Value} (hl : news.length = m * sz) (h1 : ∀ u ∈ news, u.oneCell' = true) (h : news = [] ∨ ∃ ad, A = some ad ∧ ∀ j v, news[j]? = some v → w.cell? (ad.add j) = some v) :
    Src P w sz (.slice A m c) m news := by
  refine ⟨⟨A, c, rfl⟩, fun W hW => ?_, hl, h1⟩
  rcases h with rfl | ⟨ad, rfl, hc⟩
  · cases A with
    | none => exact run_firstCells_none (P := P) W sz m 0 c ▸ by simp [Builtin.firstCells]
    | some ad => exact run_firstCells_some (P := P) W sz m ad m c [] hl (by simp)
  · exact run_firstCells_some (P := P) W sz m ad m c news hl fun j v hv => by rw [cell_heap hW]; exact hc j v hv
theorem run_app_grow {t u ty e f : TypeId} {i : TypeInfo} {z : Value} (ht : P.underlying t = some (.slice e)) (hu : P.underlying u = some (.slice f)) (hi : P.info? e = some i) (hz : i.zero = some z) (hby : 1 ≤ i.bytes)
    {A : Option Addr} {sLen sCap : Nat} {olds : List Value} (hold : Src P w i.size (.slice A sLen sCap) sLen olds)
    {xv : Value} {n : Nat} {news : List Value} (hnew : Src P w i.size xv n news)
    (hg : sCap < sLen + n) (hb : (sLen + n) * i.bytes ≤ 140737488355328) :
    (Builtin.append_ #[t, u] ty #[.slice A sLen sCap, xv]).run P w =
      .ok (.slice (some ⟨w.heap.size, 0, none⟩) (sLen + n) (grownCap w (sLen + n) sCap e))
        (w.drew.alloc (.cells (olds.toArray ++ news.toArray ++ Builtin.zeroCells z.cells (grownCap w (sLen + n) sCap e - (sLen + n))) e)) := by
  have hn : ¬ (sLen + n ≤ sCap) := by omega
  have hle : sLen + n ≤ 140737488355328 := Nat.le_trans (Nat.le_mul_of_pos_right _ hby) hb
  have h63' : ¬ (9223372036854775807 < ((sLen : Int) + (n : Int))) := by omega
  have h48 := growslice_fits (old := sCap) (need := sLen + n) (by omega) hb
  have h48' : ¬ (281474976710656 < Builtin.nextslicecap (sLen + n) sCap * i.bytes) := by omega
  have hf := hnew.first w.drew rfl
  have hfo := hold.first w.drew rfl
  have hlen : (Builtin.lenOf xv).run P w = .ok n w := by obtain ⟨A', c', rfl⟩ := hnew.slice; simp [Builtin.lenOf]
  simp [Builtin.append_, run_underlying ht, run_underlying hu, sizeOf, typeInfo, zeroValue, hi, hz, hlen, hn, h63', h48', Question.forced, hf, hfo, newRow, grownCap]
  congr 2
  apply Array.ext'
  simp [List.append_assoc]
theorem run_app_room {t u ty e f : TypeId} {i : TypeInfo} (ht : P.underlying t = some (.slice e)) (hu : P.underlying u = some (.slice f)) (hi : P.info? e = some i)
    {g o sLen sCap : Nat} {cur : Array Value} {e' : TypeId} (hg : w.heap[g]? = some (.cells cur e' (0, 0)))
    {xv : Value} {m : Nat} {news : List Value} (hnew : Src P w i.size xv m news)
    (hroom : sLen + m ≤ sCap) (hfit : o + sLen * i.size + news.length ≤ cur.size) :
    (Builtin.append_ #[t, u] ty #[.slice (some ⟨g, o, none⟩) sLen sCap, xv]).run P w =
      .ok (.slice (some ⟨g, o, none⟩) (sLen + m) sCap) (w.setRow g (cur.toList.take (o + sLen * i.size) ++ news ++ cur.toList.drop (o + sLen * i.size + news.length)).toArray) := by
  have hf := hnew.first w rfl
  have hst := run_storeCells_at P g (o + sLen * i.size) e' news 0 cur w hg (by simpa using hfit) hnew.one
  simp only [Nat.add_zero] at hst
  have hlen : (Builtin.lenOf xv).run P w = .ok m w := by obtain ⟨A', c', rfl⟩ := hnew.slice; simp [Builtin.lenOf]
  simp [Builtin.append_, run_underlying ht, run_underlying hu, sizeOf, typeInfo, hi, hlen, hroom, hf, add_plain, hst]
theorem run_app_none {t u ty e f : TypeId} {i : TypeInfo} (ht : P.underlying t = some (.slice e)) (hu : P.underlying u = some (.slice f)) (hi : P.info? e = some i)
    {xv : Value} (hnew : Src P w i.size xv 0 []) : (Builtin.append_ #[t, u] ty #[.slice none 0 0, xv]).run P w = .ok (.slice none 0 0) w := by
  have hf := hnew.first w rfl
  have hlen : (Builtin.lenOf xv).run P w = .ok 0 w := by obtain ⟨A', c', rfl⟩ := hnew.slice; simp [Builtin.lenOf]
  simp [Builtin.append_, run_underlying ht, run_underlying hu, sizeOf, typeInfo, hi, hlen, hf]
theorem take_ok (hC : Ctx I ρ H w) {id b off off' : Nat} {o o' : Ob} (ho : H[id]? = some o) (hm : o.mine) (hr : ρ id = some (b, off)) (hm' : o'.mine) {arr' : Array Value} (hw : Wr w b w' arr')
    (hc : Cont w I ρ H off' arr' o') : Ctx I (upd ρ H.length (b, off')) (H.set id .gone ++ [o']) w' ∧ Stp I ρ H w I (upd ρ H.length (b, off')) (H.set id .gone ++ [o']) w' := by
  have hmi : mine H id := ⟨o, ho, hm⟩
  have hng : o ≠ .gone := by rintro rfl; exact hm.elim
  have hown := hC.own hmi hr
  have hsame : ∀ i, I i → w'.heap[i]? = w.heap[i]? := fun i hi => hw.other i (by rintro rfl; exact hown.1 hi)
  have hlen : (H.set id Ob.gone).length = H.length := by simp
  have mine_of : ∀ i, mine (H.set id .gone ++ [o']) i → (i ≠ id ∧ mine H i) ∨ i = H.length := by
    intro i hi
    rcases mine_append hi with h | ⟨h, _⟩
    · rcases mine_set h with ⟨_, h⟩ | h
      · exact h.elim
      · exact .inl h
    · exact .inr (by omega)
  have hs : Stp I ρ H w I (upd ρ H.length (b, off')) (H.set id .gone ++ [o']) w' := by
    refine ⟨by simp, fun i hi => by simp [upd]; omega, fun i hg => ?_, fun i hi => ⟨hi, hsame i hi⟩, hw.os, hw.tape, hw.output, by rw [hw.size]; exact Nat.le_refl _, fun i _ hi => hw.other i ?_, fun _ _ h => hw.cap h, fun _ h => h, fun _ h => .inl h, fun i hi => ?_⟩
    · have := gone_set (o := .gone) ⟨o, ho, hng⟩ hg
      unfold GN at this ⊢
      rw [List.getElem?_append_left (List.getElem?_eq_some_iff.1 this).1]; exact this
    · rintro rfl; exact hi ⟨id, off, hmi, hr⟩
    · obtain ⟨j, oo, hj, hjr⟩ := hi
      rcases mine_of j hj with ⟨_, h⟩ | rfl
      · have := mine_lt h
        rw [upd, if_neg (by omega)] at hjr
        exact .inl ⟨j, oo, h, hjr⟩
      · simp [upd] at hjr
        rw [← hjr.1]
        exact .inl ⟨id, off, hmi, hr⟩
  refine ⟨⟨fun i ob hob => ?_, fun i hi => by rw [hw.size]; exact hC.lt i hi, fun i p hp => ?_, fun i j b' o1 o2 h1 h2 h3 h4 => ?_⟩, hs⟩
  · rw [List.getElem?_append] at hob
    split at hob
    · rename_i hl
      rw [hlen] at hl
      rcases get_set hob with ⟨rfl, rfl⟩ | ⟨hne, hob⟩
      · trivial
      · refine RO_keep hC hs (hC.obj i ob hob) hl fun b' off2 hg hr' => ⟨hw.other b' ?_, fun h => h⟩
        rintro rfl
        by_cases hmo : ob.mine
        · exact hne (hC.inj _ _ _ _ _ ⟨ob, hob, hmo⟩ hmi hr' hr)
        · have h := hC.obj i ob hob
          cases ob with
          | gone => exact hg rfl
          | flat fr cs =>
            rcases h with ⟨h, _⟩ | ⟨b2, o2, h1, _, h3⟩
            · rw [h] at hr'; cases hr'
            · rw [h1] at hr'; cases hr'
              cases fr with
              | true => exact hown.1 h3
              | false => exact hmo rfl
          | mix fr cs =>
            obtain ⟨b2, o2, h1, _, h3⟩ := h
            rw [h1] at hr'; cases hr'
            cases fr with
            | true => exact hown.1 h3
            | false => exact hmo rfl
    · rename_i hl
      have h0 : i - (H.set id Ob.gone).length = 0 := by
        have := (List.getElem?_eq_some_iff.1 hob).1
        simp at this
        omega
      rw [h0] at hob
      simp at hob
      subst hob
      have : i = H.length := by omega
      subst this
      obtain ⟨arr, e, _, h2, _⟩ := hw.here
      exact RO_of_cont hC hs hm' (by simp [upd]) h2 hown.1 hc
  · simp only [upd] at hp
    split at hp
    · simp; omega
    · have := hC.dom i p hp; simp; omega
  · have key : ∀ i b' o1, mine (H.set id .gone ++ [o']) i → upd ρ H.length (b, off') i = some (b', o1) → (i ≠ id ∧ mine H i ∧ ρ i = some (b', o1)) ∨ (i = H.length ∧ b' = b) := by
      intro i b' o1 hi hir
      rcases mine_of i hi with ⟨h1, h2⟩ | rfl
      · have := mine_lt h2
        rw [upd, if_neg (by omega)] at hir
        exact .inl ⟨h1, h2, hir⟩
      · simp [upd] at hir
        exact .inr ⟨rfl, hir.1.symm⟩
    rcases key _ _ _ h1 h3 with ⟨a0, a1, a2⟩ | ⟨a1, a2⟩ <;> rcases key _ _ _ h2 h4 with ⟨b0, b1, b2⟩ | ⟨b1, b2⟩
    · exact hC.inj _ _ _ _ _ a1 b1 a2 b2
    · exact (a0 (hC.inj _ _ _ _ _ a1 hmi a2 (by rw [b2]; exact hr))).elim
    · exact (b0 (hC.inj _ _ _ _ _ b1 hmi b2 (by rw [a2]; exact hr))).elim
    · omega
theorem gone_ok (hC : Ctx I ρ H w) {id : Nat} {o : Ob} (ho : H[id]? = some o) (hm : o.mine) : Ctx I ρ (H.set id .gone) w ∧ Stp I ρ H w I ρ (H.set id .gone) w := by
  have hng : o ≠ .gone := by rintro rfl; exact hm.elim
  have f : ∀ i, mine (H.set id .gone) i → mine H i := fun i hi => by
    rcases mine_set hi with ⟨_, h⟩ | ⟨_, h⟩
    · exact h.elim
    · exact h
  have hs : Stp I ρ H w I ρ (H.set id .gone) w :=
    ⟨by simp, fun _ _ => rfl, fun i hg => gone_set ⟨o, ho, hng⟩ hg, fun i hi => ⟨hi, rfl⟩, rfl, rfl, rfl, Nat.le_refl _, fun _ _ _ => rfl, fun _ _ h => h, fun _ h => h, fun _ h => .inl h, fun i ⟨j, oo, hj, hjr⟩ => .inl ⟨j, oo, f j hj, hjr⟩⟩
  refine ⟨⟨fun i ob hob => ?_, hC.lt, fun i p hp => by simp; exact hC.dom i p hp, fun i j b' o1 o2 h1 h2 h3 h4 => hC.inj i j b' o1 o2 (f i h1) (f j h2) h3 h4⟩, hs⟩
  rcases get_set hob with ⟨rfl, rfl⟩ | ⟨hne, hob⟩
  · trivial
  · exact RO_keep hC hs (hC.obj i ob hob) (List.getElem?_eq_some_iff.1 hob).1 fun b' off2 _ _ => ⟨rfl, fun h => h⟩
theorem drew_ok (hC : Ctx I ρ H w) : Ctx I ρ H w.drew ∧ Stp I ρ H w I ρ H w.drew := by
  have hs : Stp I ρ H w I ρ H w.drew := ⟨Nat.le_refl _, fun _ _ => rfl, fun _ h => h, fun _ h => ⟨h, rfl⟩, rfl, rfl, rfl, Nat.le_refl _, fun _ _ _ => rfl, fun _ _ h => h, fun _ h => h, fun _ h => .inl h, fun _ h => .inl h⟩
  exact ⟨⟨fun id o ho => RO_keep hC hs (hC.obj id o ho) (List.getElem?_eq_some_iff.1 ho).1 fun _ _ _ _ => ⟨rfl, fun h => h⟩, hC.lt, hC.dom, hC.inj⟩, hs⟩
end
end Go.AM

namespace Go.AM
section
variable {P : Program} {I I' : Nat → Prop} {ρ ρ' : Rho} {H H' H0 H1 : List Ob} {w w' : World} {tb : Tab}
structure Frz (H0 H1 : List Ob) : Prop where
  len : H1.length = H0.length
  get : ∀ (id : Nat) (o : Ob), H0[id]? = some o → H1[id]? = some o ∨ H1[id]? = some o.frozen
theorem Frz.refl (H : List Ob) : Frz H H := ⟨rfl, fun _ _ h => .inl h⟩
theorem frozen_frozen (o : Ob) : o.frozen.frozen = o.frozen := by cases o <;> rfl
theorem getM_some {m : Md} {L0 id : Nat} {o : Ob} (h : getM m L0 H id = some o) : H[id]? = some o := by
  cases m <;> simp only [getM] at h
  · exact h
  · exact h
  · split at h
    · exact h
    · cases h
  · cases h
theorem applyE_set {m : Md} {L0 id : Nat} {o : Ob} {es : List Eff} (h : applyE m L0 (.set id o :: es) H1 = some H') : applyE m L0 es (H1.set id o) = some H' := by
  cases m <;> simp only [applyE] at h
  · exact h
  · split at h
    · exact h
    · cases h
  · cases h
  · cases h
theorem applyE_push {m : Md} {L0 : Nat} {o : Ob} {es : List Eff} (h : applyE m L0 (.push o :: es) H1 = some H') : applyE m L0 es (H1 ++ [o]) = some H' := by
  simp only [applyE] at h
  split at h
  · exact h
  · cases h
theorem set_self {id : Nat} {o : Ob} (h : H[id]? = some o) : H.set id o = H := by
  apply List.ext_getElem?
  intro i
  rw [List.getElem?_set]
  split
  · rename_i hi
    subst hi
    rw [h]
    simp [(List.getElem?_eq_some_iff.1 h).1]
  · rfl
theorem frz_one (hC : Ctx I ρ H1 w) (hf : Frz H0 H1) {id : Nat} {o : Ob} (ho : H0[id]? = some o) (hng : o ≠ .gone) :
    ∃ I2, Ctx I2 ρ (H1.set id o.frozen) w ∧ Stp I ρ H1 w I2 ρ (H1.set id o.frozen) w ∧ Frz H0 (H1.set id o.frozen) ∧ ∀ b off, ρ id = some (b, off) → I2 b := by
  have hfz : Frz H0 (H1.set id o.frozen) := by
    refine ⟨by simp [hf.len], ?_⟩
    intro i p hp
    by_cases hi : i = id
    · subst hi
      rw [ho] at hp
      cases hp
      have : i < H1.length := by rcases hf.get i o ho with h | h <;> exact (List.getElem?_eq_some_iff.1 h).1
      right
      rw [List.getElem?_set]
      simp [this]
    · rw [List.getElem?_set_ne (by omega)]
      exact hf.get i p hp
  by_cases hm : ∃ q, H1[id]? = some q ∧ q.mine
  · obtain ⟨q, hq, hqm⟩ := hm
    have hqo : q.frozen = o.frozen := by
      rcases hf.get id o ho with h | h
      · rw [hq] at h; cases h; rfl
      · rw [hq] at h; cases h; exact frozen_frozen o
    have := freeze_ok hC hq hqm
    rw [hqo] at this
    exact ⟨_, this.1, this.2, hfz, fun b off hr => .inr ⟨off, hr⟩⟩
  · have hq : H1[id]? = some o.frozen := by
      rcases hf.get id o ho with h | h
      · have hnm : ¬ o.mine := fun hmm => hm ⟨o, h, hmm⟩
        have : o.frozen = o := by
          cases o with
          | gone => rfl
          | flat fr cs => cases fr with
            | true => rfl
            | false => exact (hnm rfl).elim
          | mix fr cs => cases fr with
            | true => rfl
            | false => exact (hnm rfl).elim
        rw [this]; exact h
      · exact h
    rw [set_self hq]
    refine ⟨I, hC, Stp.refl _ _ _ _, ?_, fun b off hr => ?_⟩
    · rw [set_self hq] at hfz; exact hfz
    · have hro := hC.obj _ _ hq
      cases o with
      | gone => exact (hng rfl).elim
      | flat fr cs =>
        rcases hro with ⟨h, _⟩ | ⟨b', o', h1, _, h3⟩
        · rw [h] at hr; cases hr
        · rw [h1] at hr; cases hr; exact h3
      | mix fr cs =>
        obtain ⟨b', o', h1, _, h3⟩ := hro
        rw [h1] at hr; cases hr; exact h3
theorem allT_get : ∀ {cs : List C} {ts : List T}, allT cs = some ts → cs = ts.map .t
  | [], ts, h => by simp [allT] at h; subst h; rfl
  | c :: cs, ts, h => by
    cases c <;> simp [allT] at h
    obtain ⟨ts', h1, rfl⟩ := h
    simp [← allT_get h1]
theorem frozen_flat (hC : Ctx I ρ H w) {id b o : Nat} {fr : Bool} {cs : List T} (h : H[id]? = some (.flat fr cs)) (hr : ρ id = some (b, o)) (hI : I b) {off n : Nat} : RTs w I (sub cs off n) ⟨b, o + off, none⟩ 0 ∧ RTs w I cs ⟨b, o, none⟩ 0 := by
  have hro := hC.obj _ _ h
  rcases hro with ⟨h, _⟩ | ⟨b', o', h1, h2, _⟩
  · rw [h] at hr; cases hr
  · rw [h1] at hr
    cases hr
    constructor
    · refine RTs_mk fun j c hc => ⟨hI, ?_⟩
      unfold sub at hc
      rw [List.getElem?_take] at hc
      split at hc
      · rw [List.getElem?_drop] at hc
        obtain ⟨u, hu, hru⟩ := h2 _ c hc
        refine ⟨u, ?_, hru⟩
        rw [Nat.zero_add, add_plain, show o + off + j = o + (off + j) by omega]
        exact hu
      · simp at hc
    · refine RTs_mk fun j c hc => ⟨hI, ?_⟩
      obtain ⟨u, hu, hru⟩ := h2 _ c hc
      exact ⟨u, by rw [Nat.zero_add, add_plain]; exact hu, hru⟩
theorem frzC_ok (hC : Ctx I ρ H1 w) {m : Md} {L0 : Nat} (hf : Frz H0 H1) {c : C} {u : Value} (hr : RC w I ρ H1 c u) {x : T} {es rest : List Eff} (h : frzC (getM m L0 H0) c = some (x, es))
    (ha : applyE m L0 (es ++ rest) H1 = some H') : ∃ I2 H2, Ctx I2 ρ H2 w ∧ Stp I ρ H1 w I2 ρ H2 w ∧ Frz H0 H2 ∧ RT w I2 x u ∧ applyE m L0 rest H2 = some H' := by
  have now : ∀ {id : Nat} {o : Ob}, getM m L0 H0 id = some o → o ≠ .gone → ¬ GN H1 id := by
    intro id o hg hng hgn
    rcases hf.get id o (getM_some hg) with h | h
    · unfold GN at hgn; rw [h] at hgn; cases hgn; exact hng rfl
    · unfold GN at hgn; rw [h] at hgn; cases o <;> simp [Ob.frozen] at hgn; exact hng rfl
  have osl : ∀ {id off len sz : Nat} {fr : Bool} {cs : List T}, getM m L0 H0 id = some (.flat fr cs) → RC w I ρ H1 (.osl id off len sz) u →
      ∃ I2, Ctx I2 ρ (H1.set id (.flat true cs)) w ∧ Stp I ρ H1 w I2 ρ (H1.set id (.flat true cs)) w ∧ Frz H0 (H1.set id (.flat true cs)) ∧ RT w I2 (.sl len (sub cs off (len * sz))) u := by
    intro id off len sz fr cs hg hr
    obtain ⟨I2, h1, h2, h3, h4⟩ := frz_one hC hf (getM_some hg) (by simp)
    simp only [Ob.frozen] at h1 h2 h3
    refine ⟨I2, h1, h2, h3, ?_⟩
    rcases hr with ⟨h, _⟩ | ⟨_, h5, rfl, rfl⟩ | ⟨b, o, c, h5, rfl, h6, _⟩
    · exact (now hg (by simp) h).elim
    · simp only [RT]
      refine ⟨none, 0, rfl, Nat.le_refl _, ?_⟩
      simp [sub]
    · simp only [RT]
      have hid : (H1.set id (Ob.flat true cs))[id]? = some (.flat true cs) := by
        have : id < H1.length := by rcases hf.get _ _ (getM_some hg) with h | h <;> exact (List.getElem?_eq_some_iff.1 h).1
        rw [List.getElem?_set]; simp [this]
      exact ⟨_, c, rfl, h6, .inr ⟨_, rfl, (frozen_flat h1 hid h5 (h4 b o h5)).1⟩⟩
  have refF : ∀ {id off : Nat} {fr : Bool} {cs : List T}, getM m L0 H0 id = some (.flat fr cs) → RP ρ H1 id off u →
      ∃ I2, Ctx I2 ρ (H1.set id (.flat true cs)) w ∧ Stp I ρ H1 w I2 ρ (H1.set id (.flat true cs)) w ∧ Frz H0 (H1.set id (.flat true cs)) ∧ RT w I2 (.box cs off) u := by
    intro id off fr cs hg hr
    obtain ⟨I2, h1, h2, h3, h4⟩ := frz_one hC hf (getM_some hg) (by simp)
    simp only [Ob.frozen] at h1 h2 h3
    refine ⟨I2, h1, h2, h3, ?_⟩
    rcases hr with ⟨h, _⟩ | ⟨b, o, h5, rfl⟩
    · exact (now hg (by simp) h).elim
    · simp only [RT]
      have hid : (H1.set id (Ob.flat true cs))[id]? = some (.flat true cs) := by
        have : id < H1.length := by rcases hf.get _ _ (getM_some hg) with h | h <;> exact (List.getElem?_eq_some_iff.1 h).1
        rw [List.getElem?_set]; simp [this]
      exact ⟨⟨b, o, none⟩, by rw [add_plain], (frozen_flat h1 hid h5 (h4 b o h5) (off := 0) (n := 0)).2⟩
  have refM : ∀ {id off : Nat} {fr : Bool} {cs : List C} {ts : List T}, getM m L0 H0 id = some (.mix fr cs) → allT cs = some ts → RP ρ H1 id off u →
      ∃ I2, Ctx I2 ρ (H1.set id (.mix true cs)) w ∧ Stp I ρ H1 w I2 ρ (H1.set id (.mix true cs)) w ∧ Frz H0 (H1.set id (.mix true cs)) ∧ RT w I2 (.box ts off) u := by
    intro id off fr cs ts hg hts hr
    obtain ⟨I2, h1, h2, h3, h4⟩ := frz_one hC hf (getM_some hg) (by simp)
    simp only [Ob.frozen] at h1 h2 h3
    refine ⟨I2, h1, h2, h3, ?_⟩
    rcases hr with ⟨h, _⟩ | ⟨b, o, h5, rfl⟩
    · exact (now hg (by simp) h).elim
    · simp only [RT]
      have hid : (H1.set id (Ob.mix true cs))[id]? = some (.mix true cs) := by
        have : id < H1.length := by rcases hf.get _ _ (getM_some hg) with h | h <;> exact (List.getElem?_eq_some_iff.1 h).1
        rw [List.getElem?_set]; simp [this]
      refine ⟨⟨b, o, none⟩, by rw [add_plain], RTs_mk fun j t ht => ⟨h4 b o h5, ?_⟩⟩
      obtain ⟨b', o', h5', h6, _⟩ := h1.obj _ _ hid
      rw [h5] at h5'; cases h5'
      have := allT_get hts
      subst this
      obtain ⟨v, hv, hrv⟩ := h6 j (.t t) (by simp [ht])
      exact ⟨v, by rw [Nat.zero_add, add_plain]; exact hv, hrv⟩
  have same : ∀ {id : Nat} {o : Ob}, getM m L0 H0 id = some o → o.frozen = o → H1.set id o = H1 := by
    intro id o hg ho
    refine set_self ?_
    rcases hf.get _ _ (getM_some hg) with h | h
    · exact h
    · rw [ho] at h; exact h
  cases c with
  | t y =>
    simp only [frzC, Option.some.injEq, Prod.mk.injEq] at h
    obtain ⟨rfl, rfl⟩ := h
    exact ⟨I, H1, hC, Stp.refl _ _ _ _, hf, RT_wk hr, ha⟩
  | osl id off len sz =>
    simp only [frzC] at h
    split at h
    · rename_i cs hg
      simp only [Option.some.injEq, Prod.mk.injEq] at h
      obtain ⟨rfl, rfl⟩ := h
      obtain ⟨I2, h1, h2, h3, h4⟩ := osl hg hr
      rw [same hg rfl] at h1 h2 h3
      exact ⟨I2, H1, h1, h2, h3, h4, ha⟩
    · rename_i cs hg
      simp only [Option.some.injEq, Prod.mk.injEq] at h
      obtain ⟨rfl, rfl⟩ := h
      obtain ⟨I2, h1, h2, h3, h4⟩ := osl hg hr
      exact ⟨I2, _, h1, h2, h3, h4, applyE_set ha⟩
    · simp at h
  | ref id off =>
    simp only [frzC] at h
    split at h
    · rename_i cs hg
      simp only [Option.some.injEq, Prod.mk.injEq] at h
      obtain ⟨rfl, rfl⟩ := h
      obtain ⟨I2, h1, h2, h3, h4⟩ := refF hg hr
      rw [same hg rfl] at h1 h2 h3
      exact ⟨I2, H1, h1, h2, h3, h4, ha⟩
    · rename_i cs hg
      simp only [Option.some.injEq, Prod.mk.injEq] at h
      obtain ⟨rfl, rfl⟩ := h
      obtain ⟨I2, h1, h2, h3, h4⟩ := refF hg hr
      exact ⟨I2, _, h1, h2, h3, h4, applyE_set ha⟩
    · rename_i cs hg
      simp only [Option.map_eq_some_iff, Prod.mk.injEq] at h
      obtain ⟨ts, hts, rfl, rfl⟩ := h
      obtain ⟨I2, h1, h2, h3, h4⟩ := refM hg hts hr
      rw [same hg rfl] at h1 h2 h3
      exact ⟨I2, H1, h1, h2, h3, h4, ha⟩
    · rename_i cs hg
      simp only [Option.map_eq_some_iff, Prod.mk.injEq] at h
      obtain ⟨ts, hts, rfl, rfl⟩ := h
      obtain ⟨I2, h1, h2, h3, h4⟩ := refM hg hts hr
      exact ⟨I2, _, h1, h2, h3, h4, applyE_set ha⟩
    · simp at h
  | fn f caps =>
    cases caps with
    | nil =>
      simp only [frzC, Option.some.injEq, Prod.mk.injEq] at h
      obtain ⟨rfl, rfl⟩ := h
      obtain ⟨us, rfl, hu⟩ := hr
      cases hu
      exact ⟨I, H1, hC, Stp.refl _ _ _ _, hf, by simp [RT], ha⟩
    | cons _ _ => simp [frzC] at h
  | any => simp [frzC] at h
theorem frzCs_ok {m : Md} {L0 : Nat} : ∀ {cs : List C} {us : List Value} {I : Nat → Prop} {H1 : List Ob} (_ : Ctx I ρ H1 w) (_ : Frz H0 H1) (_ : A2 (RC w I ρ H1) cs us) {xs : List T} {es rest : List Eff} (_ : frzCs (getM m L0 H0) cs = some (xs, es))
    (_ : applyE m L0 (es ++ rest) H1 = some H'), ∃ I2 H2, Ctx I2 ρ H2 w ∧ Stp I ρ H1 w I2 ρ H2 w ∧ Frz H0 H2 ∧ A2 (RT w I2) xs us ∧ applyE m L0 rest H2 = some H'
  | [], us, I, H1, hC, hf, hr, xs, es, rest, h, ha => by
    simp only [frzCs, Option.some.injEq, Prod.mk.injEq] at h
    obtain ⟨rfl, rfl⟩ := h
    cases hr
    exact ⟨I, H1, hC, Stp.refl _ _ _ _, hf, .nil, ha⟩
  | c :: cs, us, I, H1, hC, hf, hr, xs, es, rest, h, ha => by
    cases hr with
    | cons hr1 hr2 =>
      simp only [frzCs] at h
      split at h
      · simp at h
      · rename_i x es1 h1
        split at h
        · simp at h
        · rename_i xs2 es2 h2
          simp only [Option.some.injEq, Prod.mk.injEq] at h
          obtain ⟨rfl, rfl⟩ := h
          rw [List.append_assoc] at ha
          obtain ⟨I2, H2, hC2, hs2, hf2, hx, ha2⟩ := frzC_ok hC hf hr1 h1 ha
          obtain ⟨I3, H3, hC3, hs3, hf3, hxs, ha3⟩ := frzCs_ok hC2 hf2 (hr2.imp fun a b hab => RC_stp hC hs2 hab) h2 ha2
          exact ⟨I3, H3, hC3, hs2.trans hs3, hf3, .cons (RT_fix hs3.fix _ _ hx) hxs, ha3⟩
theorem cellsT_ok {m : Md} {L0 : Nat} (hC : Ctx I ρ H1 w) (hf : Frz H0 H1) {v : V} {u : Value} (hr : RV w I ρ H1 v u) {xs : List T} {es rest : List Eff} (h : cellsT (getM m L0 H0) v = some (xs, es))
    (ha : applyE m L0 (es ++ rest) H1 = some H') : ∃ I2 H2, Ctx I2 ρ H2 w ∧ Stp I ρ H1 w I2 ρ H2 w ∧ Frz H0 H2 ∧ A2 (RT w I2) xs u.cells.toList ∧ (∀ x ∈ u.cells.toList, x.oneCell' = true) ∧ applyE m L0 rest H2 = some H' := by
  have hone : ∀ {I2 : Nat → Prop} {xs : List T} {us : List Value}, A2 (RT w I2) xs us → ∀ x ∈ us, x.oneCell' = true := by
    intro I2 xs us h x hx
    obtain ⟨j, hj⟩ := List.getElem?_of_mem hx
    obtain ⟨a, _, hr⟩ := h.get' hj
    exact RT_one hr
  cases v with
  | c x =>
    simp only [cellsT, Option.map_eq_some_iff] at h
    obtain ⟨⟨y, es'⟩, hy, he⟩ := h
    simp only [Prod.mk.injEq] at he
    obtain ⟨rfl, rfl⟩ := he
    obtain ⟨I2, H2, h1, h2, h3, h4, h5⟩ := frzC_ok hC hf hr hy ha
    have hcell : u.cells.toList = [u] := by
      have := RC_one hr
      cases u <;> simp [Value.oneCell'] at this <;> rfl
    refine ⟨I2, H2, h1, h2, h3, ?_, ?_, h5⟩
    · rw [hcell]; exact .cons h4 .nil
    · rw [hcell]; intro x hx; simp at hx; subst hx; exact RT_one h4
  | agg cs =>
    simp only [cellsT] at h
    obtain ⟨us, rfl, hrs⟩ := hr
    obtain ⟨I2, H2, h1, h2, h3, h4, h5⟩ := frzCs_ok hC hf hrs h ha
    exact ⟨I2, H2, h1, h2, h3, by simpa [Value.cells] using h4, by simpa [Value.cells] using hone h4, h5⟩
  | tup vs => simp [cellsT] at h
  | any => simp [cellsT] at h
  | own _ => simp [cellsT] at h
  | oref _ _ => simp [cellsT] at h
theorem cellsK_ok {m : Md} {L0 : Nat} (hC : Ctx I ρ H1 w) (hf : Frz H0 H1) {v : V} {u : Value} (hr : RV w I ρ H1 v u) {xs : List T} {es rest : List Eff} (h : cellsK (getM m L0 H0) v = some (xs, es))
    (ha : applyE m L0 (es ++ rest) H1 = some H') : ∃ I2 H2, Ctx I2 ρ H2 w ∧ Stp I ρ H1 w I2 ρ H2 w ∧ Frz H0 H2 ∧ A2 (RT w I2) xs u.cells.toList ∧ (∀ x ∈ u.cells.toList, x.oneCell' = true) ∧ applyE m L0 rest H2 = some H' := by
  unfold cellsK at h
  split at h
  · rename_i hn
    simp only [Option.some.injEq, Prod.mk.injEq] at h
    obtain ⟨rfl, rfl⟩ := h
    have hv : v = .c (.t .nils) := by
      unfold isNilsV at hn
      split at hn
      · rfl
      · cases hn
    subst hv
    have hu : u = .slice none 0 0 := by simpa [RV, RV1, RC, RT] using hr
    subst hu
    refine ⟨I, H1, hC, Stp.refl _ _ _ _, hf, ?_, ?_, by simpa using ha⟩
    · simp only [Value.cells]
      exact .cons (by simp [RT]) .nil
    · intro x hx
      simp [Value.cells] at hx
      subst hx
      rfl
  · exact cellsT_ok hC hf hr h ha
theorem frzV_ok {m : Md} {L0 : Nat} (hC : Ctx I ρ H1 w) (hf : Frz H0 H1) {v x : V} {u : Value} (hr : RV w I ρ H1 v u) {es rest : List Eff} (h : frzV (getM m L0 H0) v = some (x, es))
    (ha : applyE m L0 (es ++ rest) H1 = some H') : ∃ I2 H2, Ctx I2 ρ H2 w ∧ Stp I ρ H1 w I2 ρ H2 w ∧ Frz H0 H2 ∧ (∀ ρ3 H3, RV1 w I2 ρ3 H3 x u) ∧ (∀ vs, x ≠ .tup vs) ∧ applyE m L0 rest H2 = some H' := by
  cases v with
  | c x' =>
    simp only [frzV, Option.map_eq_some_iff] at h
    obtain ⟨⟨y, es'⟩, hy, he⟩ := h
    simp only [Prod.mk.injEq] at he
    obtain ⟨rfl, rfl⟩ := he
    obtain ⟨I2, H2, h1, h2, h3, h4, h5⟩ := frzC_ok hC hf hr hy ha
    exact ⟨I2, H2, h1, h2, h3, fun _ _ => h4, by simp, h5⟩
  | agg cs =>
    simp only [frzV, Option.map_eq_some_iff] at h
    obtain ⟨⟨y, es'⟩, hy, he⟩ := h
    simp only [Prod.mk.injEq] at he
    obtain ⟨rfl, rfl⟩ := he
    obtain ⟨us, rfl, hrs⟩ := hr
    obtain ⟨I2, H2, h1, h2, h3, h4, h5⟩ := frzCs_ok hC hf hrs hy ha
    exact ⟨I2, H2, h1, h2, h3, fun ρ3 H3 => ⟨us, rfl, A2.map_left (R := RC w I2 ρ3 H3) (f := C.t) h4⟩, by simp, h5⟩
  | tup vs => simp [frzV] at h
  | own _ => simp [frzV] at h
  | oref _ _ => simp [frzV] at h
  | any =>
    simp only [frzV, Option.some.injEq, Prod.mk.injEq] at h
    obtain ⟨rfl, rfl⟩ := h
    exact ⟨I, H1, hC, Stp.refl _ _ _ _, hf, fun _ _ => trivial, by simp, ha⟩
def plainC : C → Bool | .t _ => true | _ => false
def plainV : V → Bool
  | .c x => plainC x
  | .agg cs => cs.all plainC
  | .any => true
  | .tup _ => false
  | .own _ => false
  | .oref _ _ => false
theorem plainC_fix {w' : World} {I I' : Nat → Prop} (hf : Fix w I w' I') {ρ ρ' : Rho} {H H' : List Ob} {x : C} {u : Value} (hp : plainC x = true) (h : RC w I ρ H x u) : RC w' I' ρ' H' x u := by
  cases x <;> simp [plainC] at hp
  exact RT_fix hf _ _ h
theorem plainV_fix {w' : World} {I I' : Nat → Prop} (hf : Fix w I w' I') {ρ ρ' : Rho} {H H' : List Ob} {x : V} {u : Value} (hp : plainV x = true) (h : RV1 w I ρ H x u) : RV1 w' I' ρ' H' x u := by
  cases x with
  | c x => exact plainC_fix hf hp h
  | agg cs =>
    obtain ⟨us, rfl, hr⟩ := h
    refine ⟨us, rfl, hr.imp_mem fun a b ha hab => plainC_fix hf ?_ hab⟩
    exact List.all_eq_true.1 hp a ha
  | tup vs => simp [plainV] at hp
  | own _ => simp [plainV] at hp
  | oref _ _ => simp [plainV] at hp
  | any => trivial
theorem frzV_plain {get : Nat → Option Ob} {v x : V} {es : List Eff} (h : frzV get v = some (x, es)) : plainV x = true := by
  cases v with
  | c x' =>
    simp only [frzV, Option.map_eq_some_iff] at h
    obtain ⟨⟨y, es'⟩, hy, he⟩ := h
    simp only [Prod.mk.injEq] at he
    obtain ⟨rfl, rfl⟩ := he
    rfl
  | agg cs =>
    simp only [frzV, Option.map_eq_some_iff] at h
    obtain ⟨⟨y, es'⟩, hy, he⟩ := h
    simp only [Prod.mk.injEq] at he
    obtain ⟨rfl, rfl⟩ := he
    simp [plainV, plainC]
  | tup vs => simp [frzV] at h
  | own _ => simp [frzV] at h
  | oref _ _ => simp [frzV] at h
  | any =>
    simp only [frzV, Option.some.injEq, Prod.mk.injEq] at h
    obtain ⟨rfl, rfl⟩ := h
    rfl
theorem frzVs_ok {m : Md} {L0 : Nat} : ∀ {vs : List V} {us : List Value} {I : Nat → Prop} {H1 : List Ob} (_ : Ctx I ρ H1 w) (_ : Frz H0 H1) (_ : A2 (RV w I ρ H1) vs us) {xs : List V} {es rest : List Eff} (_ : frzVs (getM m L0 H0) vs = some (xs, es))
    (_ : applyE m L0 (es ++ rest) H1 = some H'), ∃ I2 H2, Ctx I2 ρ H2 w ∧ Stp I ρ H1 w I2 ρ H2 w ∧ Frz H0 H2 ∧ (∀ ρ3 H3, A2 (RV1 w I2 ρ3 H3) xs us) ∧ (∀ x ∈ xs, plainV x = true) ∧ applyE m L0 rest H2 = some H'
  | [], us, I, H1, hC, hf, hr, xs, es, rest, h, ha => by
    simp only [frzVs, Option.some.injEq, Prod.mk.injEq] at h
    obtain ⟨rfl, rfl⟩ := h
    cases hr
    exact ⟨I, H1, hC, Stp.refl _ _ _ _, hf, fun _ _ => .nil, by simp, ha⟩
  | c :: cs, us, I, H1, hC, hf, hr, xs, es, rest, h, ha => by
    cases hr with
    | cons hr1 hr2 =>
      simp only [frzVs] at h
      split at h
      · simp at h
      · rename_i x es1 h1
        split at h
        · simp at h
        · rename_i xs2 es2 h2
          simp only [Option.some.injEq, Prod.mk.injEq] at h
          obtain ⟨rfl, rfl⟩ := h
          rw [List.append_assoc] at ha
          obtain ⟨I2, H2, hC2, hs2, hf2, hx, _, ha2⟩ := frzV_ok hC hf hr1 h1 ha
          obtain ⟨I3, H3, hC3, hs3, hf3, hxs, hp, ha3⟩ := frzVs_ok hC2 hf2 (hr2.imp fun a b hab => RV_stp hC hs2 hab) h2 ha2
          refine ⟨I3, H3, hC3, hs2.trans hs3, hf3, fun ρ3 H3 => .cons (plainV_fix hs3.fix (frzV_plain h1) (hx ρ3 H3)) (hxs ρ3 H3), ?_, ha3⟩
          intro y hy
          rcases List.mem_cons.1 hy with rfl | hy
          · exact frzV_plain h1
          · exact hp y hy
end
end Go.AM

namespace Go.AM
section
variable {tb : Tab} {imp : FuncId → Bool} {orc : Orc} {own : Bool} {get : Nat → Option Ob} {nx : Nat} {vs : List V} {v : V} {es : List Eff} {i : TI}
theorem inv_mv (h : sMv vs = some (v, es)) : vs = [v] ∧ es = [] := by
  unfold sMv at h
  split at h <;> simp only [Option.some.injEq, Prod.mk.injEq, reduceCtorEq] at h
  obtain ⟨rfl, rfl⟩ := h
  exact ⟨rfl, rfl⟩
theorem inv_pick (h : sPick vs = some (v, es)) : ∃ c a b, vs = [.c (.t (.bool c)), a, b] ∧ v = (if c then a else b) ∧ es = [] := by
  unfold sPick at h
  split at h <;> simp only [Option.some.injEq, Prod.mk.injEq, reduceCtorEq] at h
  obtain ⟨rfl, rfl⟩ := h
  exact ⟨_, _, _, rfl, rfl, rfl⟩
theorem inv_bin {k : TK} {op : BinOp} (h : sBin k op vs = some (v, es)) : ∃ x y r, vs = [.c (.t x), .c (.t y)] ∧ bin k op x y = some r ∧ v = .c (.t r) ∧ es = [] := by
  unfold sBin at h
  split at h
  · split at h <;> simp only [Option.some.injEq, Prod.mk.injEq, reduceCtorEq] at h
    obtain ⟨rfl, rfl⟩ := h
    exact ⟨_, _, _, rfl, by assumption, rfl, rfl⟩
  · cases h
theorem inv_not (h : sNot vs = some (v, es)) : ∃ b, vs = [.c (.t (.bool b))] ∧ v = .c (.t (.bool (!b))) ∧ es = [] := by
  unfold sNot at h
  split at h <;> simp only [Option.some.injEq, Prod.mk.injEq, reduceCtorEq] at h
  obtain ⟨rfl, rfl⟩ := h
  exact ⟨_, rfl, rfl, rfl⟩
theorem inv_neg (h : sNeg vs = some (v, es)) : ∃ k n, vs = [.c (.t (.int k n))] ∧ v = .c (.t (.int k (k.wrap (0 - n)))) ∧ es = [] := by
  unfold sNeg at h
  split at h <;> simp only [Option.some.injEq, Prod.mk.injEq, reduceCtorEq] at h
  obtain ⟨rfl, rfl⟩ := h
  exact ⟨_, _, rfl, rfl, rfl⟩
theorem inv_conv {d : IntKind} (h : sConv d vs = some (v, es)) : ∃ k n, vs = [.c (.t (.int k n))] ∧ v = .c (.t (.int d (d.wrap n))) ∧ es = [] := by
  unfold sConv at h
  split at h <;> simp only [Option.some.injEq, Prod.mk.injEq, reduceCtorEq] at h
  obtain ⟨rfl, rfl⟩ := h
  exact ⟨_, _, rfl, rfl, rfl⟩
theorem inv_alloc (h : sAlloc i nx vs = some (v, es)) : vs = [] ∧ isOther i.k = false ∧ v = .c (.ref (nx + (nilsOf nx i.cks (i.zeros.map .t)).2) 0) ∧
    es = phants (nilsOf nx i.cks (i.zeros.map .t)).2 ++ [.push (.mix false (nilsOf nx i.cks (i.zeros.map .t)).1)] := by
  unfold sAlloc at h
  split at h
  · split at h <;> simp only [Option.some.injEq, Prod.mk.injEq, reduceCtorEq] at h
    obtain ⟨rfl, rfl⟩ := h
    exact ⟨rfl, by simp_all, rfl, rfl⟩
  · cases h
theorem inv_box (h : sBox i nx vs = some (v, es)) : ∃ x cs, vs = [x] ∧ cellsC x = some cs ∧ v = .c (.ref (nx + (nilsOf nx i.cks cs).2) 0) ∧
    es = phants (nilsOf nx i.cks cs).2 ++ [.push (.mix false (nilsOf nx i.cks cs).1)] := by
  unfold sBox at h
  split at h
  · split at h <;> simp only [Option.some.injEq, Prod.mk.injEq, reduceCtorEq] at h
    obtain ⟨rfl, rfl⟩ := h
    exact ⟨_, _, rfl, by assumption, rfl, rfl⟩
  · cases h
theorem inv_mkslice {sl : Bool} {n : Nat} {idx : List Nat} (h : sMkslice own get nx sl i n idx vs = some (v, es)) : sl = true ∧ isOther i.k = false ∧ n * i.size ≤ 16777216 ∧
    ∃ cs fs, lit get i.zeros idx vs (zeroRow i n) = some (cs, fs) ∧
      ((own = true ∧ v = .c (.osl nx 0 n i.size) ∧ es = fs ++ [.push (.flat false cs)]) ∨ (own = false ∧ v = .c (.t (.sl n cs)) ∧ es = fs)) := by
  unfold sMkslice at h
  split at h
  · rename_i hc
    simp at hc
    split at h
    · cases h
    · rename_i cs fs heq
      refine ⟨hc.1.1, hc.1.2, hc.2, cs, fs, heq, ?_⟩
      split at h <;> simp only [Option.some.injEq, Prod.mk.injEq] at h <;> obtain ⟨rfl, rfl⟩ := h
      · exact .inl ⟨by assumption, rfl, rfl⟩
      · exact .inr ⟨by simp_all, rfl, rfl⟩
  · cases h
theorem inv_make {sl : Bool} (h : sMake nx sl i vs = some (v, es)) : ∃ l c, vs = [.c (.t (.int .i64 l)), .c (.t (.int .i64 c))] ∧ sl = true ∧ isOther i.k = false ∧ 0 ≤ l ∧ l ≤ c ∧
    c * i.bytes ≤ 281474976710656 ∧ c ≤ 281474976710656 ∧ v = .c (.osl nx 0 l.toNat i.size) ∧ es = [.push (.flat false (zeroRow i l.toNat))] := by
  unfold sMake at h
  split at h
  · split at h
    · rename_i hc
      simp at hc
      split at h
      · rename_i hd
        simp only [Option.some.injEq, Prod.mk.injEq] at h
        obtain ⟨rfl, rfl⟩ := h
        exact ⟨_, _, rfl, hc.1, hc.2, hd.1, hd.2.1, hd.2.2.1, hd.2.2.2, rfl, rfl⟩
      · cases h
    · cases h
  · cases h
theorem inv_load (h : sLoad get i vs = some (v, es)) : es = [] ∧ isOther i.k = false ∧ ((∃ p, vs = [.c (.t p)] ∧ p.isBox = true ∧ loadT i p.bCs p.bJ = some v) ∨
    ∃ id off, vs = [.c (.ref id off)] ∧ ((∃ fr cs, get id = some (.flat fr cs) ∧ loadT i cs off = some v) ∨ ∃ fr cs, get id = some (.mix fr cs) ∧ loadC i cs off = some v)) := by
  unfold sLoad at h
  split at h
  · cases h
  · rename_i ho
    simp at ho
    split at h
    · split at h
      · split at h <;> simp only [Option.some.injEq, Prod.mk.injEq, reduceCtorEq] at h
        obtain ⟨rfl, rfl⟩ := h
        exact ⟨rfl, ho, .inl ⟨_, rfl, by assumption, by assumption⟩⟩
      · cases h
    · split at h
      · split at h <;> simp only [Option.some.injEq, Prod.mk.injEq, reduceCtorEq] at h
        obtain ⟨rfl, rfl⟩ := h
        exact ⟨rfl, ho, .inr ⟨_, _, rfl, .inl ⟨_, _, by assumption, by assumption⟩⟩⟩
      · split at h <;> simp only [Option.some.injEq, Prod.mk.injEq, reduceCtorEq] at h
        obtain ⟨rfl, rfl⟩ := h
        exact ⟨rfl, ho, .inr ⟨_, _, rfl, .inr ⟨_, _, by assumption, by assumption⟩⟩⟩
      · cases h
    · cases h
theorem inv_store (h : sStore get nx i vs = some (v, es)) : ∃ id off x, vs = [.c (.ref id off), x] ∧ v = .tup [] ∧ isOther i.k = false ∧
    ((∃ cs xs fs, get id = some (.flat false cs) ∧ cellsT get x = some (xs, fs) ∧ noSet id fs = true ∧ (xs.length = i.size ∧ 1 ≤ xs.length) ∧ off + xs.length ≤ cs.length ∧ es = fs ++ [.set id (.flat false (putCells cs off xs))]) ∨
     ∃ cs xs, get id = some (.mix false cs) ∧ cellsC x = some xs ∧ (xs.length = i.size ∧ 1 ≤ xs.length) ∧ off + xs.length ≤ cs.length ∧ es = phants (nilsOf nx i.cks xs).2 ++ [.set id (.mix false (putCells cs off (nilsOf nx i.cks xs).1))]) := by
  unfold sStore at h
  split at h
  · cases h
  · rename_i ho
    simp at ho
    split at h
    · split at h
      · split at h
        · split at h <;> simp only [Option.some.injEq, Prod.mk.injEq, reduceCtorEq] at h
          rename_i hc
          obtain ⟨rfl, rfl⟩ := h
          exact ⟨_, _, _, rfl, rfl, ho, .inl ⟨_, _, _, by assumption, by assumption, hc.1, hc.2.1, hc.2.2, rfl⟩⟩
        · cases h
      · split at h
        · split at h <;> simp only [Option.some.injEq, Prod.mk.injEq, reduceCtorEq] at h
          rename_i hc
          obtain ⟨rfl, rfl⟩ := h
          exact ⟨_, _, _, rfl, rfl, ho, .inr ⟨_, _, by assumption, by assumption, hc.1, hc.2, rfl⟩⟩
        · cases h
      · cases h
    · cases h
theorem inv_iaddr {k : TK} (h : sIaddr tb k vs = some (v, es)) : es = [] ∧ ∃ x ik j, vs = [x, .c (.t (.int ik j))] ∧ 0 ≤ j ∧
    ((∃ e n cs, k = .slice e ∧ x = .c (.t (.sl n cs)) ∧ tb.ok e = true ∧ j < n ∧ v = .c (.t (.box cs (j.toNat * (tb.at e).size)))) ∨
     (∃ e id off len sz, k = .slice e ∧ x = .c (.osl id off len sz) ∧ j < len ∧ tb.ok e = true ∧ sz = (tb.at e).size ∧ v = .c (.ref id (off + j.toNat * sz))) ∨
     ∃ e n id off, k = .array n e ∧ x = .c (.ref id off) ∧ j < n ∧ tb.ok e = true ∧ 2 ≤ n ∧ v = .c (.ref id (off + j.toNat * (tb.at e).size))) := by
  unfold sIaddr at h
  split at h
  · split at h
    · split at h
      · split at h <;> simp only [Option.some.injEq, Prod.mk.injEq, reduceCtorEq] at h
        rename_i ho hc
        obtain ⟨rfl, rfl⟩ := h
        exact ⟨rfl, _, _, _, rfl, hc.1, .inl ⟨_, _, _, rfl, rfl, ho, hc.2, rfl⟩⟩
      · cases h
    · split at h
      · split at h <;> simp only [Option.some.injEq, Prod.mk.injEq, reduceCtorEq] at h
        rename_i ho hc
        simp at ho
        obtain ⟨rfl, rfl⟩ := h
        exact ⟨rfl, _, _, _, rfl, hc.1, .inr (.inl ⟨_, _, _, _, _, rfl, rfl, hc.2, ho.1, ho.2, rfl⟩)⟩
      · cases h
    · split at h
      · split at h <;> simp only [Option.some.injEq, Prod.mk.injEq, reduceCtorEq] at h
        rename_i ho hc
        simp at ho
        obtain ⟨rfl, rfl⟩ := h
        exact ⟨rfl, _, _, _, rfl, hc.1, .inr (.inr ⟨_, _, _, _, rfl, rfl, hc.2, ho.1, ho.2, rfl⟩)⟩
      · cases h
    · cases h
  · cases h
theorem inv_mkfn {f : FuncId} (h : sMkfn f vs = some (v, es)) : ∃ l, capsOf vs = some l ∧ v = .c (.fn f l) ∧ es = [] := by
  unfold sMkfn at h
  split at h <;> simp only [Option.some.injEq, Prod.mk.injEq, reduceCtorEq] at h
  obtain ⟨rfl, rfl⟩ := h
  exact ⟨_, by assumption, rfl, rfl⟩
theorem inv_ext {j : Nat} (h : sExt j vs = some (v, es)) : ∃ l, vs = [.tup l] ∧ l[j]? = some v ∧ es = [] := by
  unfold sExt at h
  split at h
  · split at h <;> simp only [Option.some.injEq, Prod.mk.injEq, reduceCtorEq] at h
    obtain ⟨rfl, rfl⟩ := h
    exact ⟨_, rfl, by assumption, rfl⟩
  · cases h
theorem inv_len {k : TK} (h : sLen k vs = some (v, es)) : es = [] ∧ ∃ x, vs = [x] ∧
    ((∃ e, k = .slice e ∧ ((x = .c (.t .nils) ∧ v = .c (.t (.int .i64 0))) ∨ (∃ n cs, x = .c (.t (.sl n cs)) ∧ v = .c (.t (.int .i64 n))) ∨ ∃ id off n sz, x = .c (.osl id off n sz) ∧ v = .c (.t (.int .i64 n)))) ∨
     (∃ s, k = .str ∧ x = .c (.t (.str s)) ∧ v = .c (.t (.int .i64 s.size))) ∨
     ∃ n e, k = .array n e ∧ v = .c (.t (.int .i64 n))) := by
  unfold sLen at h
  split at h
  · split at h <;> simp only [Option.some.injEq, Prod.mk.injEq, reduceCtorEq] at h <;> obtain ⟨rfl, rfl⟩ := h
    · exact ⟨rfl, _, rfl, .inl ⟨_, rfl, .inl ⟨rfl, rfl⟩⟩⟩
    · exact ⟨rfl, _, rfl, .inl ⟨_, rfl, .inr (.inl ⟨_, _, rfl, rfl⟩)⟩⟩
    · exact ⟨rfl, _, rfl, .inl ⟨_, rfl, .inr (.inr ⟨_, _, _, _, rfl, rfl⟩)⟩⟩
    · exact ⟨rfl, _, rfl, .inr (.inl ⟨_, rfl, rfl, rfl⟩)⟩
    · exact ⟨rfl, _, rfl, .inr (.inr ⟨_, _, rfl, rfl⟩)⟩
  · cases h
theorem inv_max (h : sMax vs = some (v, es)) : ∃ k a k' b, vs = [.c (.t (.int k a)), .c (.t (.int k' b))] ∧ v = .c (.t (.int k (if b > a then b else a))) ∧ es = [] := by
  unfold sMax at h
  split at h <;> simp only [Option.some.injEq, Prod.mk.injEq, reduceCtorEq] at h
  obtain ⟨rfl, rfl⟩ := h
  exact ⟨_, _, _, _, rfl, rfl, rfl⟩
theorem inv_min (h : sMin vs = some (v, es)) : ∃ k a k' b, vs = [.c (.t (.int k a)), .c (.t (.int k' b))] ∧ v = .c (.t (.int k (if b < a then b else a))) ∧ es = [] := by
  unfold sMin at h
  split at h <;> simp only [Option.some.injEq, Prod.mk.injEq, reduceCtorEq] at h
  obtain ⟨rfl, rfl⟩ := h
  exact ⟨_, _, _, _, rfl, rfl, rfl⟩
theorem inv_append {sl : Bool} (h : sAppend get nx sl i vs = some (v, es)) : ∃ s x m new, vs = [s, x] ∧ rowOf get x = some (m, new) ∧ sl = true ∧ isOther i.k = false ∧ 1 ≤ i.bytes ∧ new.length = m * i.size ∧
    ((s = .c (.t .nils) ∧ m * i.bytes ≤ 140737488355328 ∧ v = .c (.osl nx 0 m i.size) ∧ es = [.push (.flat false new)]) ∨
     (∃ id off len cs, s = .c (.osl id off len i.size) ∧ get id = some (.flat false cs) ∧ off + len * i.size ≤ cs.length ∧ (len + m) * i.bytes ≤ 140737488355328 ∧
       v = .c (.osl nx 0 (len + m) i.size) ∧ es = [.set id .gone, .push (if nilRow new then .mix false ((sub cs off (len * i.size) ++ new).map .t) else .flat false (sub cs off (len * i.size) ++ new))]) ∨
     ∃ id off len cs, s = .c (.osl id off len i.size) ∧ get id = some (.mix false cs) ∧ off + len * i.size ≤ cs.length ∧ (len + m) * i.bytes ≤ 140737488355328 ∧
       v = .c (.osl nx 0 (len + m) i.size) ∧ es = [.set id .gone, .push (.mix false ((cs.drop off).take (len * i.size) ++ new.map .t))]) := by
  unfold sAppend at h
  split at h
  · split at h
    · rename_i hg
      simp only [Bool.and_eq_true, Bool.not_eq_true', decide_eq_true_eq] at hg
      split at h
      · cases h
      · split at h
        · split at h <;> simp only [Option.some.injEq, Prod.mk.injEq, reduceCtorEq] at h
          rename_i hc
          obtain ⟨rfl, rfl⟩ := h
          exact ⟨_, _, _, _, rfl, by assumption, hg.1.1, hg.1.2, hg.2, hc.1, .inl ⟨rfl, hc.2, rfl, rfl⟩⟩
        · split at h
          · split at h
            · rename_i hsz
              subst hsz
              split at h <;> simp only [Option.some.injEq, Prod.mk.injEq, reduceCtorEq] at h
              rename_i hc
              obtain ⟨rfl, rfl⟩ := h
              exact ⟨_, _, _, _, rfl, by assumption, hg.1.1, hg.1.2, hg.2, hc.1, .inr (.inl ⟨_, _, _, _, rfl, by assumption, hc.2.1, hc.2.2, rfl, rfl⟩)⟩
            · cases h
          · split at h
            · rename_i hsz
              subst hsz
              split at h <;> simp only [Option.some.injEq, Prod.mk.injEq, reduceCtorEq] at h
              rename_i hc
              obtain ⟨rfl, rfl⟩ := h
              exact ⟨_, _, _, _, rfl, by assumption, hg.1.1, hg.1.2, hg.2, hc.1, .inr (.inr ⟨_, _, _, _, rfl, by assumption, hc.2.1, hc.2.2, rfl, rfl⟩)⟩
            · cases h
          · cases h
        · cases h
    · cases h
  · cases h
theorem inv_callv (h : sCallv imp orc get nx vs = some (v, es)) : ∃ x ys, vs = x :: ys ∧ ((∃ f, x = .c (.t (.fn f)) ∧ callF imp orc get nx f ys = some (v, es)) ∨
    ∃ f caps, x = .c (.fn f caps) ∧ callF imp orc get nx f (ys ++ caps.map fun p => V.c (.ref p.1 p.2)) = some (v, es)) := by
  unfold sCallv at h
  split at h
  · exact ⟨_, _, rfl, .inl ⟨_, rfl, h⟩⟩
  · exact ⟨_, _, rfl, .inr ⟨_, _, rfl, h⟩⟩
  · cases h
end
end Go.AM

namespace Go.AM
section
variable {P : Program} {I I' : Nat → Prop} {ρ ρ' : Rho} {H H' H0 H1 : List Ob} {w w' : World} {tb : Tab}
theorem ok_of {t : TypeId} (h : isOther (tb.at t).k = false) : tb.ok t = true := by simp [Tab.ok, h]
theorem applyE_phants {m : Md} {L0 : Nat} {rest : List Eff} : ∀ {n : Nat} {H : List Ob}, applyE m L0 (phants n ++ rest) H = some H' → applyE m L0 rest (H ++ List.replicate n (.flat false [])) = some H'
  | 0, H, h => by simpa [phants] using h
  | n + 1, H, h => by
    have h' : applyE m L0 (.push (.flat false []) :: (phants n ++ rest)) H = some H' := by simpa [phants, List.replicate_succ] using h
    have := applyE_phants (applyE_push h')
    simpa [List.replicate_succ] using this
theorem own_of_push {m : Md} {L0 : Nat} {o : Ob} {es : List Eff} {H : List Ob} (h : applyE m L0 (.push o :: es) H = some H') : m.own = true := by
  simp only [applyE] at h
  split at h
  · assumption
  · cases h
theorem own_of_last {m : Md} {L0 : Nat} {o : Ob} : ∀ {es : List Eff} {H : List Ob}, applyE m L0 (es ++ [.push o]) H = some H' → m.own = true
  | [], H, h => own_of_push h
  | .push _ :: es, H, h => own_of_push h
  | .set _ _ :: es, H, h => own_of_last (applyE_set h)
theorem nx_own {m : Md} (h : m.own = true) (n : Nat) : m.nx n = n := by cases m <;> simp [Md.own] at h <;> rfl
theorem applyE_nil {m : Md} {L0 : Nat} (h : applyE m L0 [] H = some H') : H' = H := by simpa [applyE] using h.symm
theorem nils_ok : ∀ {ks : List CK} {cs : List C} {us : List Value} {H : List Ob}, Ctx I ρ H w → A2 (RC w I ρ H) cs us →
    Ctx I ρ (H ++ List.replicate (nilsOf H.length ks cs).2 (.flat false [])) w ∧ Stp I ρ H w I ρ (H ++ List.replicate (nilsOf H.length ks cs).2 (.flat false [])) w ∧
      A2 (RC w I ρ (H ++ List.replicate (nilsOf H.length ks cs).2 (.flat false []))) (nilsOf H.length ks cs).1 us := by
  intro ks
  induction ks with
  | nil =>
    intro cs us H hC hr
    simp only [nilsOf, List.replicate_zero, List.append_nil]
    exact ⟨hC, Stp.refl _ _ _ _, hr⟩
  | cons k ks ih =>
    intro cs us H hC hr
    cases hr with
    | nil =>
      have : nilsOf H.length (k :: ks) [] = ([], 0) := by cases k <;> rfl
      rw [this]
      simp only [List.replicate_zero, List.append_nil]
      exact ⟨hC, Stp.refl _ _ _ _, .nil⟩
    | cons hr1 hr2 =>
      rename_i c u cs us
      by_cases hk : (∃ sz, k = .sl sz) ∧ c = .t .nils
      · obtain ⟨⟨sz, rfl⟩, rfl⟩ := hk
        obtain ⟨hC1, hs1, hn⟩ := phant_ok hC
        obtain ⟨hC2, hs2, hr3⟩ := ih hC1 (hr2.imp fun a b hab => RC_stp hC hs1 hab)
        have hlen : (H ++ [Ob.flat false []]).length = H.length + 1 := by simp
        rw [hlen] at hC2 hs2 hr3
        simp only [nilsOf]
        have happ : ∀ n, H ++ List.replicate (n + 1) (Ob.flat false []) = H ++ [Ob.flat false []] ++ List.replicate n (Ob.flat false []) := by
          intro n; simp [List.replicate_succ]
        rw [happ]
        refine ⟨hC2, hs1.trans hs2, .cons ?_ hr3⟩
        refine .inr (.inl ⟨by simp, hn, rfl, ?_⟩)
        simpa [RC, RT] using hr1
      · have : nilsOf H.length (k :: ks) (c :: cs) = (c :: (nilsOf H.length ks cs).1, (nilsOf H.length ks cs).2) := by
          cases k <;> first | rfl | skip
          cases c <;> first | rfl | skip
          rename_i x
          cases x <;> first | rfl | skip
          exact (hk ⟨⟨_, rfl⟩, rfl⟩).elim
        rw [this]
        obtain ⟨hC2, hs2, hr3⟩ := ih hC hr2
        exact ⟨hC2, hs2, .cons (RC_stp hC hs2 hr1) hr3⟩
theorem putCells_length {α : Type} : ∀ {xs cs : List α} {j : Nat}, (putCells cs j xs).length = cs.length
  | [], cs, j => rfl
  | x :: xs, cs, j => by simp only [putCells]; rw [putCells_length]; simp
theorem putCells_get {α : Type} : ∀ {xs cs : List α} {j : Nat}, j + xs.length ≤ cs.length → ∀ i, (putCells cs j xs)[i]? = if j ≤ i ∧ i < j + xs.length then xs[i - j]? else cs[i]?
  | [], cs, j, _, i => by
    simp only [putCells, List.length_nil, Nat.add_zero]
    rw [if_neg (by omega)]
  | x :: xs, cs, j, h, i => by
    simp only [putCells]
    simp only [List.length_cons] at h ⊢
    rw [putCells_get (by simp; omega) i]
    by_cases h1 : j + 1 ≤ i ∧ i < j + 1 + xs.length
    · rw [if_pos h1, if_pos (by omega), show i - j = (i - (j + 1)) + 1 by omega]
      simp
    · rw [if_neg h1, List.getElem?_set]
      by_cases h2 : j = i
      · subst h2
        rw [if_pos rfl, if_pos (by omega), if_pos (by omega)]
        simp
      · rw [if_neg h2, if_neg (by omega)]
theorem splice_get (cur : Array Value) (p : Nat) (vs : List Value) (h : p + vs.length ≤ cur.size) (i : Nat) :
    (cur.toList.take p ++ vs ++ cur.toList.drop (p + vs.length)).toArray[i]? = if p ≤ i ∧ i < p + vs.length then vs[i - p]? else cur[i]? := by
  have hl : (cur.toList.take p).length = p := by simp; omega
  simp only [List.getElem?_toArray]
  by_cases h1 : i < p
  · rw [List.append_assoc, List.getElem?_append_left (by omega), List.getElem?_take, if_pos h1, if_neg (by omega)]
    simp
  · by_cases h2 : i < p + vs.length
    · rw [if_pos ⟨by omega, h2⟩, List.append_assoc, List.getElem?_append_right (by omega), hl, List.getElem?_append_left (by omega)]
    · rw [if_neg (by omega), List.getElem?_append_right (by simp; omega), List.length_append, hl, List.getElem?_drop]
      rw [show p + vs.length + (i - (p + vs.length)) = i by omega]
      simp
theorem wr_setRow {b : Nat} {cur : Array Value} {e : TypeId} (hb : w.heap[b]? = some (.cells cur e (0, 0))) {p : Nat} {vs : List Value} (h : p + vs.length ≤ cur.size) :
    Wr w b (w.setRow b (cur.toList.take p ++ vs ++ cur.toList.drop (p + vs.length)).toArray) (cur.toList.take p ++ vs ++ cur.toList.drop (p + vs.length)).toArray := by
  refine ⟨rfl, rfl, rfl, by simp [World.setRow], fun i hi => ?_, cur, e, hb, ?_, ?_⟩
  · exact setRow_other w b i _ hi
  · exact setRow_heap w b cur _ e (0, 0) hb
  · simp; omega
theorem storeAt_run (hT : TabOk P tb) {t : TypeId} (ho : tb.ok t = true) {b o : Nat} {cur : Array Value} {e : TypeId} (hb : w.heap[b]? = some (.cells cur e (0, 0))) {v : Value} (hl : v.cells.size = (tb.at t).size)
    (h1 : ∀ x ∈ v.cells.toList, x.oneCell' = true) (hfit : o + v.cells.toList.length ≤ cur.size) :
    (Instr.storeAt t (.pointer (some ⟨b, o, none⟩)) v).run P w = .ok () (w.setRow b (cur.toList.take o ++ v.cells.toList ++ cur.toList.drop (o + v.cells.toList.length)).toArray) := by
  have hst := run_storeCells_at P b o e v.cells.toList 0 cur w hb (by simpa using hfit) h1
  simp only [Nat.add_zero] at hst
  simp [Instr.storeAt, Instr.sureAddr, storeVar, sizeOf_run hT ho, hl, hst]
theorem rep_get {zs : List T} : ∀ (n j : Nat), (List.replicate n zs).flatten[j]? = if j < n * zs.length then zs[j % zs.length]? else none
  | 0, j => by simp
  | n + 1, j => by
    rw [List.replicate_succ, List.flatten_cons, List.getElem?_append]
    by_cases h : j < zs.length
    · rw [if_pos h, if_pos (by rw [Nat.succ_mul]; omega), Nat.mod_eq_of_lt h]
    · rw [if_neg h, rep_get n (j - zs.length)]
      have hm : (j - zs.length) % zs.length = j % zs.length := by
        rw [← Nat.mod_eq_sub_mod (by omega)]
      rw [hm, Nat.succ_mul]
      by_cases h2 : j - zs.length < n * zs.length
      · rw [if_pos h2, if_pos (by omega)]
      · rw [if_neg h2, if_neg (by omega)]
theorem zeroRow_get {i : TI} {n j : Nat} : (zeroRow i n)[j]? = if j < n * i.zeros.length then i.zeros[j % i.zeros.length]? else none := by
  unfold zeroRow
  split
  · rename_i z hz
    rw [hz]
    simp only [List.length_singleton, Nat.mul_one, Nat.mod_one, List.getElem?_replicate]
    split <;> simp
  · exact rep_get n j
theorem zeroRow_length {i : TI} {n : Nat} : (zeroRow i n).length = n * i.zeros.length := by
  unfold zeroRow
  split
  · rename_i z hz; rw [hz]; simp
  · simp
theorem CK.zero_ok (k : CK) : RT w I k.zero (valT k.zero) := by cases k <;> simp [CK.zero, RT, valT]
theorem made_get (z : Array Value) (n j : Nat) (h : 0 < z.size) : (madeCells z n)[j]? = if j < n then z[j % z.size]? else none := by
  unfold madeCells
  simp only [Array.getElem?_map, Array.getElem?_range]
  by_cases hj : j < n
  · simp [hj, getElem!_def, Nat.mod_lt j h]
  · simp [hj]
theorem made_cont (hT : TabOk P tb) {e : TypeId} (ho : tb.ok e = true) {inf : TypeInfo} {z : Value} (hi : P.info? e = some inf) (hz : inf.zero = some z) {n c : Nat} (hn : n ≤ c) :
    ∀ (j : Nat) (x : T), (zeroRow (tb.at e) n)[j]? = some x → ∃ u, (madeCells z.cells (c * (tb.at e).size))[j]? = some u ∧ RT w I x u := by
  intro j x hx
  rcases hT e with h | h
  · simp [Tab.ok, h] at ho
  obtain ⟨inf', z', hi', hs, _, hz', hzs, _⟩ := h.info
  rw [hi] at hi'
  cases hi'
  rw [hz] at hz'
  cases hz'
  have hlen := h.len
  rw [zeroRow_get] at hx
  split at hx
  · rename_i hj
    have hpos : 0 < (tb.at e).zeros.length := by
      rcases Nat.eq_zero_or_pos (tb.at e).zeros.length with h0 | h0
      · rw [h0] at hj; omega
      · exact h0
    have hzsz : z.cells.size = (tb.at e).zeros.length := by rw [← Array.length_toList, hzs]; simp
    rw [made_get _ _ _ (by omega), if_pos (by
      rw [← hlen]; exact Nat.lt_of_lt_of_le hj (Nat.mul_le_mul_right _ hn)), hzsz]
    refine ⟨valT x, ?_, ?_⟩
    · have : z.cells.toList[j % (tb.at e).zeros.length]? = some (valT x) := by rw [hzs, List.getElem?_map, hx]; rfl
      simpa using this
    · have hmem := List.mem_of_getElem? hx
      unfold TI.zeros at hmem
      obtain ⟨k, _, rfl⟩ := List.mem_map.1 hmem
      exact CK.zero_ok k
  · cases hx
theorem zeros_A2 (hT : TabOk P tb) {t : TypeId} (ho : tb.ok t = true) : ∃ inf z, P.info? t = some inf ∧ inf.zero = some z ∧ A2 (RC w I ρ H) ((tb.at t).zeros.map .t) z.cells.toList := by
  rcases hT t with h | h
  · simp [Tab.ok, h] at ho
  obtain ⟨inf, z, hi, hs, _, hz, hzs, _⟩ := h.info
  refine ⟨inf, z, hi, hz, ?_⟩
  rw [hzs]
  refine A2.of_get (by simp) fun j a b ha hb => ?_
  rw [List.getElem?_map] at ha hb
  cases hx : (tb.at t).zeros[j]? with
  | none => rw [hx] at ha; simp at ha
  | some x =>
    rw [hx] at ha hb
    simp only [Option.map_some, Option.some.injEq] at ha hb
    subst ha hb
    have hmem := List.mem_of_getElem? hx
    unfold TI.zeros at hmem
    obtain ⟨k, _, rfl⟩ := List.mem_map.1 hmem
    exact CK.zero_ok k
theorem cellsC_ok {v : V} {u : Value} (hr : RV w I ρ H v u) {cs : List C} (h : cellsC v = some cs) : A2 (RC w I ρ H) cs u.cells.toList ∧ ∀ x ∈ u.cells.toList, x.oneCell' = true := by
  have hone : ∀ {cs : List C} {us : List Value}, A2 (RC w I ρ H) cs us → ∀ x ∈ us, x.oneCell' = true := by
    intro cs us h x hx
    obtain ⟨j, hj⟩ := List.getElem?_of_mem hx
    obtain ⟨a, _, hr⟩ := h.get' hj
    exact RC_one hr
  cases v with
  | c x =>
    simp only [cellsC, Option.some.injEq] at h
    subst h
    have hr' : RC w I ρ H x u := hr
    have hcell : u.cells.toList = [u] := by
      have := RC_one hr'
      cases u <;> simp [Value.oneCell'] at this <;> rfl
    rw [hcell]
    exact ⟨.cons hr' .nil, by intro x hx; simp at hx; subst hx; exact RC_one hr'⟩
  | agg cs' =>
    simp only [cellsC, Option.some.injEq] at h
    subst h
    obtain ⟨us, rfl, hrs⟩ := hr
    exact ⟨by simpa [Value.cells] using hrs, by simpa [Value.cells] using hone hrs⟩
  | tup vs => simp [cellsC] at h
  | any => simp [cellsC] at h
  | own _ => simp [cellsC] at h
  | oref _ _ => simp [cellsC] at h
end
end Go.AM

namespace Go.AM
section
variable {P : Program} {I I' : Nat → Prop} {ρ ρ' : Rho} {H H' H0 H1 : List Ob} {w w' : World} {tb : Tab}
theorem alloc_imm (hC : Ctx I ρ H w) {arr : Array Value} {e : TypeId} :
    Ctx (fun b => I b ∨ b = w.heap.size) ρ H (w.alloc (.cells arr e)) ∧ Stp I ρ H w (fun b => I b ∨ b = w.heap.size) ρ H (w.alloc (.cells arr e)) := by
  have hold : ∀ b, b < w.heap.size → (w.alloc (.cells arr e)).heap[b]? = w.heap[b]? := fun b hb => by simp only [World.alloc, Array.getElem?_push]; rw [if_neg (by omega)]
  have hs : Stp I ρ H w (fun b => I b ∨ b = w.heap.size) ρ H (w.alloc (.cells arr e)) := by
    refine ⟨Nat.le_refl _, fun _ _ => rfl, fun _ h => h, fun b hb => ⟨.inl hb, hold b (hC.lt b hb)⟩, rfl, rfl, rfl, by simp, fun b hb _ => hold b hb, fun b n hcap => ?_, fun _ h => .inl h, fun b hb => ?_, fun _ h => .inl h⟩
    · obtain ⟨a, e', fz, h1, h2⟩ := hcap
      exact ⟨a, e', fz, (hold b (lt_heap h1)).trans h1, h2⟩
    · rcases hb with hb | hb
      · exact .inl hb
      · exact .inr (.inr (by omega))
  refine ⟨⟨fun id ob hob => ?_, fun b hb => ?_, hC.dom, hC.inj⟩, hs⟩
  · have h := hC.obj id ob hob
    have hlt : ∀ b off, ob ≠ .gone → ρ id = some (b, off) → b < w.heap.size := by
      intro b off hg hr
      cases ob with
      | gone => exact absurd rfl hg
      | flat fr cs =>
        rcases h with ⟨h, _⟩ | ⟨b', o', h1, _, h3⟩
        · rw [h] at hr; cases hr
        · rw [h1] at hr; cases hr
          cases fr with
          | true => exact hC.lt _ h3
          | false => obtain ⟨_, _, _, h4⟩ := h3; exact lt_heap h4
      | mix fr cs =>
        obtain ⟨b', o', h1, _, h3⟩ := h
        rw [h1] at hr; cases hr
        cases fr with
        | true => exact hC.lt _ h3
        | false => obtain ⟨_, _, _, h4⟩ := h3; exact lt_heap h4
    refine RO_keep hC hs h (List.getElem?_eq_some_iff.1 hob).1 fun b off hg hr => ?_
    have := hlt b off hg hr
    exact ⟨hold b this, fun hn hh => by rcases hh with hh | hh; exact hn hh; omega⟩
  · rcases hb with hb | hb
    · have := hC.lt b hb; simp; omega
    · simp; omega
theorem A2.set {α β : Type} {R : α → β → Prop} {as : List α} {bs : List β} (h : A2 R as bs) {x : α} {y : β} (hr : R x y) : ∀ j, A2 R (as.set j x) (bs.set j y) := by
  induction h with
  | nil => intro j; simp; exact .nil
  | cons h t ih =>
    intro j
    cases j with
    | zero => exact .cons hr t
    | succ j => exact .cons h (ih j)
theorem A2.put {α β : Type} {R : α → β → Prop} {xs : List α} {ys : List β} (h : A2 R xs ys) : ∀ {as : List α} {bs : List β} (_ : A2 R as bs) (j : Nat), A2 R (putCells as j xs) (putCells bs j ys) := by
  induction h with
  | nil => intro as bs h j; exact h
  | cons h t ih => intro as bs hab j; exact ih (hab.set h j) (j + 1)
theorem fold_put (off : Nat) : ∀ (xs : List Value) (k : Nat) (cs : Array Value), ((xs.zipIdx k).foldl (fun (cs : Array Value) (p : Value × Nat) => cs.setIfInBounds (off + p.2) p.1) cs).toList = putCells cs.toList (off + k) xs
  | [], k, cs => rfl
  | x :: xs, k, cs => by
    simp only [List.zipIdx_cons, List.foldl_cons, putCells]
    rw [fold_put off xs (k + 1)]
    simp [Nat.add_assoc]
theorem lit_ok {m : Md} {L0 : Nat} {zs : List T} {size : Nat} (hz : zs.length = size) {H0 : List Ob} : ∀ {idx : List Nat} {vs : List V} {us : List Value} {I : Nat → Prop} {H1 : List Ob} {acc : List T} {arr : Array Value} (_ : Ctx I ρ H1 w) (_ : Frz H0 H1) (_ : A2 (RV w I ρ H1) vs us)
    (_ : A2 (RT w I) acc arr.toList) {cs : List T} {es rest : List Eff} (_ : lit (getM m L0 H0) zs idx vs acc = some (cs, es)) (_ : applyE m L0 (es ++ rest) H1 = some H'),
    ∃ I2 H2 arr', Ctx I2 ρ H2 w ∧ Stp I ρ H1 w I2 ρ H2 w ∧ Frz H0 H2 ∧ Instr.fill (fun i => some (i * size, size)) arr (idx.zip us) = some arr' ∧ A2 (RT w I2) cs arr'.toList ∧ applyE m L0 rest H2 = some H'
  | [], [], us, I, H1, acc, arr, hC, hf, hr, ha, cs, es, rest, h, he => by
    simp only [lit, Option.some.injEq, Prod.mk.injEq] at h
    obtain ⟨rfl, rfl⟩ := h
    cases hr
    exact ⟨I, H1, arr, hC, Stp.refl _ _ _ _, hf, by simp [Instr.fill], ha, he⟩
  | i :: idx, v :: vs, us, I, H1, acc, arr, hC, hf, hr, ha, cs, es, rest, h, he => by
    cases hr with
    | cons hr1 hr2 =>
      rename_i u us
      simp only [lit] at h
      split at h
      · cases h
      · rename_i ts es1 hts
        split at h
        · rename_i hl
          split at h
          · cases h
          · rename_i r fs hlit
            simp only [Option.some.injEq, Prod.mk.injEq] at h
            obtain ⟨rfl, rfl⟩ := h
            rw [List.append_assoc] at he
            obtain ⟨I2, H2, hC2, hs2, hf2, hx, h1, he2⟩ := cellsK_ok hC hf hr1 hts he
            have hul : u.cells.size = size := by rw [← Array.length_toList, ← hx.length, hl.1, hz]
            have hfold := fold_put (i * size) u.cells.toList 0 arr
            have hacc : A2 (RT w I2) (putCells acc (i * zs.length) ts) (u.cells.zipIdx.foldl (fun (cs : Array Value) (p : Value × Nat) => cs.setIfInBounds (i * size + p.2) p.1) arr).toList := by
              have : (u.cells.zipIdx.foldl (fun (cs : Array Value) (p : Value × Nat) => cs.setIfInBounds (i * size + p.2) p.1) arr).toList = putCells arr.toList (i * size) u.cells.toList := by
                rw [← Array.foldl_toList, Array.toList_zipIdx]
                simpa using hfold
              rw [this, hz]
              exact hx.put (ha.imp fun a b h => RT_fix hs2.fix a b h) _
            obtain ⟨I3, H3, arr', hC3, hs3, hf3, hfill, hcs, he3⟩ := lit_ok hz hC2 hf2 (hr2.imp fun a b hab => RV_stp hC hs2 hab) hacc hlit he2
            refine ⟨I3, H3, arr', hC3, hs2.trans hs3, hf3, ?_, hcs, he3⟩
            have hal : acc.length = arr.size := by rw [ha.length]; simp
            simp only [List.zip_cons_cons, Instr.fill]
            rw [if_neg (by
              have := hl.2
              rw [hz, hal] at this
              simp [hul]; omega)]
            exact hfill
        · cases h
  | [], _ :: _, _, _, _, _, _, _, _, _, _, _, _, _, h, _ => by simp [lit] at h
  | _ :: _, [], _, _, _, _, _, _, _, _, _, _, _, _, h, _ => by simp [lit] at h
theorem lit_length {get : Nat → Option Ob} {zs : List T} : ∀ {idx : List Nat} {vs : List V} {acc cs : List T} {es : List Eff}, lit get zs idx vs acc = some (cs, es) → cs.length = acc.length
  | [], [], acc, cs, es, h => by simp only [lit, Option.some.injEq, Prod.mk.injEq] at h; rw [← h.1]
  | i :: idx, v :: vs, acc, cs, es, h => by
    simp only [lit] at h
    split at h
    · cases h
    · split at h
      · split at h
        · cases h
        · rename_i hl
          simp only [Option.some.injEq, Prod.mk.injEq] at h
          rw [← h.1, lit_length hl, putCells_length]
      · cases h
  | [], _ :: _, _, _, _, h => by simp [lit] at h
  | _ :: _, [], _, _, _, h => by simp [lit] at h
theorem A2.map_ev {fr : List V} {a : Act} (hF : RF w I ρ H fr a.tmps) : ∀ xs : List Operand, A2 (RV w I ρ H) (xs.map (ev fr)) (xs.map a.eval)
  | [] => .nil
  | x :: xs => .cons (RV_ev hF x) (A2.map_ev hF xs)
abbrev Goal (P : Program) (I : Nat → Prop) (ρ : Rho) (H : List Ob) (w : World) (o : Oper) (a : Act) (v : V) (H' : List Ob) : Prop :=
  Res P o a w (Post I ρ H w v H')
section
variable {o : Oper} {a : Act} {fr : List V} {m : Md} {L0 : Nat} {v : V} {es : List Eff}
theorem go_value {u : Value} {w' : World} (h : (execOp a.eval o).run P w = .ok (.value u) w') (hp : Post I ρ H w v H' u w') : Goal P I ρ H w o a v H' := Res.value h hp
theorem st_mv (hC : Ctx I ρ H w) (hF : RF w I ρ H fr a.tmps) {x : Operand} (ho : o.op = .move x ∨ o.op = .assign x) (h : sMv [ev fr x] = some (v, es)) (he : applyE m L0 es H = some H') : Goal P I ρ H w o a v H' := by
  obtain ⟨h1, rfl⟩ := inv_mv h
  cases applyE_nil he
  simp only [List.cons.injEq, and_true] at h1
  subst h1
  refine go_value (u := a.eval x) (w' := w) ?_ (Post.same hC (RV_ev hF x))
  rcases ho with ho | ho <;> simp [execOp, ho]
theorem st_pick (hC : Ctx I ρ H w) (hF : RF w I ρ H fr a.tmps) {c x y : Operand} (ho : o.op = .pick c x y) (h : sPick [ev fr c, ev fr x, ev fr y] = some (v, es)) (he : applyE m L0 es H = some H') : Goal P I ρ H w o a v H' := by
  obtain ⟨b, p, q, h1, rfl, rfl⟩ := inv_pick h
  cases applyE_nil he
  simp only [List.cons.injEq, and_true] at h1
  obtain ⟨h1, rfl, rfl⟩ := h1
  have hc := RV_ev hF c
  rw [h1] at hc
  have hc' : a.eval c = .bool b := hc
  refine go_value (u := if b then a.eval x else a.eval y) (w' := w) ?_ (Post.same hC ?_)
  · simp only [execOp, ho, hc']
    cases b <;> simp [asBool]
  · cases b
    · exact RV_ev hF y
    · exact RV_ev hF x
theorem st_bin (hT : TabOk P tb) (hC : Ctx I ρ H w) (hF : RF w I ρ H fr a.tmps) {op : BinOp} {t t' : TypeId} {x y : Operand} (ho : o.op = .binOp op t x y t') (h : sBin (tb.at t).k op [ev fr x, ev fr y] = some (v, es)) (he : applyE m L0 es H = some H') : Goal P I ρ H w o a v H' := by
  obtain ⟨p, q, r, h1, h2, rfl, rfl⟩ := inv_bin h
  cases applyE_nil he
  simp only [List.cons.injEq, and_true] at h1
  have hx := RV_ev hF x
  have hy := RV_ev hF y
  rw [h1.1] at hx
  rw [h1.2] at hy
  obtain ⟨hr, hs⟩ := bin_ok hT rfl (show RT w I p _ from hx) (show RT w I q _ from hy) h2 (xo := x) (yo := y)
  refine go_value (u := valT r) (w' := w) ?_ (Post.same hC (RT_valT hs))
  simp only [Sem.run_bind] at hr
  simp only [execOp, ho, Sem.run_bind, hr]
  rfl
theorem st_not (hC : Ctx I ρ H w) (hF : RF w I ρ H fr a.tmps) {t : TypeId} {x : Operand} (ho : o.op = .unOp .not t x) (h : sNot [ev fr x] = some (v, es)) (he : applyE m L0 es H = some H') : Goal P I ρ H w o a v H' := by
  obtain ⟨b, h1, rfl, rfl⟩ := inv_not h
  cases applyE_nil he
  simp only [List.cons.injEq, and_true] at h1
  have hx := RV_ev hF x
  rw [h1] at hx
  have hx' : a.eval x = .bool b := hx
  refine go_value (u := .bool (!b)) (w' := w) ?_ (Post.same hC (show RT w I (.bool (!b)) _ by simp [RT]))
  simp [execOp, ho, hx', Op.unary]
theorem st_neg (hC : Ctx I ρ H w) (hF : RF w I ρ H fr a.tmps) {t : TypeId} {x : Operand} (ho : o.op = .unOp .neg t x) (h : sNeg [ev fr x] = some (v, es)) (he : applyE m L0 es H = some H') : Goal P I ρ H w o a v H' := by
  obtain ⟨k, n, h1, rfl, rfl⟩ := inv_neg h
  cases applyE_nil he
  simp only [List.cons.injEq, and_true] at h1
  have hx := RV_ev hF x
  rw [h1] at hx
  have hx' : a.eval x = .int k n := hx
  refine go_value (u := .int k (k.wrap (0 - n))) (w' := w) ?_ (Post.same hC (show RT w I (.int k (k.wrap (0 - n))) _ by simp [RT]))
  simp [execOp, ho, hx', Op.unary, Op.intArith]
theorem st_conv (hT : TabOk P tb) (hC : Ctx I ρ H w) (hF : RF w I ρ H fr a.tmps) {s d : TypeId} {k k' : IntKind} {x : Operand} (ho : o.op = .convert s d x) (hs : (tb.at s).k = .int k') (hd : (tb.at d).k = .int k) (h : sConv k [ev fr x] = some (v, es)) (he : applyE m L0 es H = some H') : Goal P I ρ H w o a v H' := by
  obtain ⟨k2, n, h1, rfl, rfl⟩ := inv_conv h
  cases applyE_nil he
  simp only [List.cons.injEq, and_true] at h1
  have hx := RV_ev hF x
  rw [h1] at hx
  have hx' : a.eval x = .int k2 n := hx
  refine go_value (u := .int k (k.wrap n)) (w' := w) ?_ (Post.same hC (show RT w I (.int k (k.wrap n)) _ by simp [RT]))
  simp [execOp, ho, hx', Go.convert, run_underlying (hT.int hs), run_underlying (hT.int hd), Conv.intToInt]
theorem mix_cont {w : World} {I : Nat → Prop} {ρ : Rho} {H : List Ob} {cs : List C} {arr : Array Value} (h : A2 (RC w I ρ H) cs arr.toList) : Cont w I ρ H 0 arr (.mix false cs) := fun j c hj => by
  obtain ⟨u, hu, hr⟩ := h.get hj
  exact ⟨u, by simpa using hu, hr⟩
theorem flat_cont {w : World} {I : Nat → Prop} {ρ : Rho} {H : List Ob} {cs : List T} {arr : Array Value} (h : A2 (RT w I) cs arr.toList) : Cont w I ρ H 0 arr (.flat false cs) := fun j c hj => by
  obtain ⟨u, hu, hr⟩ := h.get hj
  exact ⟨u, by simpa using hu, hr⟩
theorem var_ok (hC : Ctx I ρ H w) {cs : List C} {arr : Array Value} {e : TypeId} (hr : A2 (RC w I ρ H) cs arr.toList) {ks : List CK}
    (he : applyE m L0 (phants (nilsOf (m.nx H.length) ks cs).2 ++ [.push (.mix false (nilsOf (m.nx H.length) ks cs).1)]) H = some H') :
    Post I ρ H w (.c (.ref (m.nx H.length + (nilsOf (m.nx H.length) ks cs).2) 0)) H' (.pointer (some ⟨w.heap.size, 0, none⟩)) (w.alloc (.cells arr e)) := by
  have hown := own_of_last he
  rw [nx_own hown] at he ⊢
  obtain ⟨hC1, hs1, hr1⟩ := nils_ok (ks := ks) hC hr
  have he1 := applyE_phants he
  have he2 := applyE_nil (applyE_push he1)
  subst he2
  obtain ⟨hC2, hs2⟩ := push_ok (e := e) hC1 (o := .mix false (nilsOf H.length ks cs).1) (arr := arr) rfl (mix_cont hr1)
  refine ⟨_, _, hC2, hs1.trans hs2, ?_⟩
  refine .inr ⟨w.heap.size, 0, ?_, rfl⟩
  simp [upd]
theorem st_alloc (hT : TabOk P tb) (hC : Ctx I ρ H w) {t : TypeId} (ho : o.op = .alloc t) (h : sAlloc (tb.at t) (m.nx H.length) [] = some (v, es)) (he : applyE m L0 es H = some H') : Goal P I ρ H w o a v H' := by
  obtain ⟨_, hk, rfl, rfl⟩ := inv_alloc h
  obtain ⟨inf, z, hi, hz, hA⟩ := zeros_A2 (w := w) (I := I) (ρ := ρ) (H := H) hT (ok_of hk)
  refine go_value (u := .pointer (some ⟨w.heap.size, 0, none⟩)) (w' := w.alloc (.cells z.cells t)) ?_ (var_ok hC hA he)
  simp [execOp, ho, Instr.alloc, zeroValue, typeInfo, hi, hz, newVar, newRow]
theorem st_box (hC : Ctx I ρ H w) (hF : RF w I ρ H fr a.tmps) {t : TypeId} {x : Operand} (ho : o.op = .box t x) (h : sBox (tb.at t) (m.nx H.length) [ev fr x] = some (v, es)) (he : applyE m L0 es H = some H') : Goal P I ρ H w o a v H' := by
  obtain ⟨y, cs, h1, h2, rfl, rfl⟩ := inv_box h
  simp only [List.cons.injEq, and_true] at h1
  subst h1
  obtain ⟨hA, _⟩ := cellsC_ok (RV_ev hF x) h2
  refine go_value (u := .pointer (some ⟨w.heap.size, 0, none⟩)) (w' := w.alloc (.cells (a.eval x).cells t)) ?_ (var_ok hC hA he)
  simp [execOp, ho, Instr.box, newVar, newRow]
theorem st_make (hT : TabOk P tb) (hC : Ctx I ρ H w) (hF : RF w I ρ H fr a.tmps) {t : TypeId} {x y : Operand} (ho : o.op = .makeSlice t x y) (h : sMake (m.nx H.length) (tb.at t).k.isSlice (tb.at (tb.at t).elem) [ev fr x, ev fr y] = some (v, es)) (he : applyE m L0 es H = some H') : Goal P I ρ H w o a v H' := by
  obtain ⟨l, c, h1, h2, h3, h4, h5, h6, h7, rfl, rfl⟩ := inv_make h
  simp only [List.cons.injEq, and_true] at h1
  have hx := RV_ev hF x
  have hy := RV_ev hF y
  rw [h1.1] at hx
  rw [h1.2] at hy
  have hx' : a.eval x = .int .i64 l := hx
  have hy' : a.eval y = .int .i64 c := hy
  have hown := own_of_push he
  rw [nx_own hown]
  have he2 := applyE_nil (applyE_push he)
  subst he2
  obtain ⟨e, hk⟩ : ∃ e, (tb.at t).k = .slice e := by cases hk : (tb.at t).k <;> simp [hk, TK.isSlice] at h2; exact ⟨_, rfl⟩
  have hel : (tb.at t).elem = e := by simp [TI.elem, hk]
  rw [hel] at h3 h6 ⊢
  obtain ⟨inf, z, hi, hsz, hby, hz, hzs, _⟩ : ∃ inf z, P.info? e = some inf ∧ inf.size = (tb.at e).size ∧ inf.bytes = (tb.at e).bytes ∧ inf.zero = some z ∧ z.cells.toList = (tb.at e).zeros.map valT ∧ isAggV z = (tb.at e).isAgg := by
    rcases hT e with h | h
    · rw [h] at h3; cases h3
    · exact h.info
  have hrun := run_make (P := P) w t e inf z (hT.slice hk) hi hz .i64 .i64 l c h4 h5 (by rw [hby, Int.mul_comm]; exact h6) (by omega)
  obtain ⟨hC2, hs2⟩ := push_ok (e := e) hC (o := .flat false (zeroRow (tb.at e) l.toNat)) (arr := madeCells z.cells (c.toNat * inf.size)) rfl (fun j x hj => by
    rw [hsz, Nat.zero_add]
    exact made_cont (w := w) (I := I) hT (ok_of h3) hi hz (by omega) j x hj)
  refine go_value (u := .slice (some ⟨w.heap.size, 0, none⟩) l.toNat c.toNat) ?_ ⟨_, _, hC2, hs2, ?_⟩
  · simp [execOp, ho, hx', hy', hrun]
  · refine .inr (.inr ⟨w.heap.size, 0, c.toNat, by simp [upd], rfl, by omega, madeCells z.cells (c.toNat * inf.size), e, (0, 0), heap_alloc_new w _, ?_⟩)
    rw [size_madeCells, hsz]; omega
theorem st_load (hT : TabOk P tb) (hC : Ctx I ρ H w) (hF : RF w I ρ H fr a.tmps) {t : TypeId} {x : Operand} (ho : o.op = .load t x) (h : sLoad (getM m L0 H) (tb.at t) [ev fr x] = some (v, es)) (he : applyE m L0 es H = some H') : Goal P I ρ H w o a v H' := by
  obtain ⟨rfl, hk, hc⟩ := inv_load h
  cases applyE_nil he
  have hx := RV_ev hF x
  have key : ∀ u, (Instr.loadAt t (a.eval x)).run P w = .ok u w → RV w I ρ H v u → Goal P I ρ H w o a v H := fun u hu hr =>
    go_value (u := u) (w' := w) (by simp [execOp, ho, hu]) (Post.same hC hr)
  rcases hc with ⟨p, h1, h2, h3⟩ | ⟨id, off, h1, h2⟩
  · simp only [List.cons.injEq, and_true] at h1
    rw [h1] at hx
    have hx' : RT w I p (a.eval x) := hx
    cases p <;> simp [T.isBox] at h2
    rename_i cs j
    simp only [RT] at hx'
    obtain ⟨ad, hv, hs⟩ := hx'
    simp only [T.bCs, T.bJ] at h3
    obtain ⟨u, hu, hr⟩ := loadT_ok (ρ := ρ) (H := H) hT (ok_of hk) (MemT.of_RTs hs) h3
    rw [← hv] at hu
    exact key u hu hr
  · simp only [List.cons.injEq, and_true] at h1
    rw [h1] at hx
    have hx' : RP ρ H id off (a.eval x) := hx
    rcases h2 with ⟨f, cs, hg, h3⟩ | ⟨f, cs, hg, h3⟩
    · have hH := getM_some hg
      rcases hx' with ⟨h, _⟩ | ⟨b, o', hr, hv⟩
      · unfold GN at h; rw [hH] at h; cases h
      · have hro := hC.obj _ _ hH
        rcases hro with ⟨h, _⟩ | ⟨b', o'', h1', h2', _⟩
        · rw [h] at hr; cases hr
        · rw [hr] at h1'; cases h1'
          obtain ⟨u, hu, hru⟩ := loadT_ok (ρ := ρ) (H := H) hT (ok_of hk) (ad := ⟨b, o', none⟩) (fun j c hc => by rw [add_plain]; exact h2' j c hc) h3
          rw [add_plain, ← hv] at hu
          exact key u hu hru
    · have hH := getM_some hg
      rcases hx' with ⟨h, _⟩ | ⟨b, o', hr, hv⟩
      · unfold GN at h; rw [hH] at h; cases h
      · obtain ⟨b', o'', h1', h2', _⟩ := hC.obj _ _ hH
        rw [hr] at h1'; cases h1'
        obtain ⟨u, hu, hru⟩ := loadC_ok hT (ok_of hk) h2' h3
        rw [← hv] at hu
        exact key u hu hru
theorem noSet_get {id : Nat} : ∀ {es : List Eff} {rest : List Eff} {H H' H2 : List Ob} {L0 : Nat} {m : Md}, noSet id es = true → applyE m L0 (es ++ rest) H = some H' → ∀ {o : Ob}, H[id]? = some o → (∃ H2, applyE m L0 rest H2 = some H' ∧ H2[id]? = some o)
  | [], rest, H, H', H2, L0, m, _, h, o, ho => ⟨H, h, ho⟩
  | .push o' :: es, rest, H, H', H2, L0, m, hn, h, o, ho => by
    refine noSet_get (H2 := H2) (by simpa [noSet] using hn) (applyE_push h) ?_
    rw [List.getElem?_append_left (List.getElem?_eq_some_iff.1 ho).1]; exact ho
  | .set j o' :: es, rest, H, H', H2, L0, m, hn, h, o, ho => by
    simp only [noSet, Bool.and_eq_true, Bool.not_eq_true', beq_eq_false_iff_ne, ne_eq] at hn
    refine noSet_get (H2 := H2) hn.2 (applyE_set h) ?_
    rw [List.getElem?_set_ne hn.1]; exact ho
end
end
end Go.AM

namespace Go.AM
section
variable {P : Program} {I I' : Nat → Prop} {ρ ρ' : Rho} {H H' H0 H1 : List Ob} {w w' : World} {tb : Tab}
variable {o : Oper} {a : Act} {fr : List V} {m : Md} {L0 : Nat} {v : V} {es : List Eff}
theorem go_skip {w' : World} (h : (execOp a.eval o).run P w = .ok .skip w') (hp : Post I ρ H w v H' (.tuple #[]) w') : Goal P I ρ H w o a v H' := Res.skip h hp
theorem tup_nil {w : World} {I : Nat → Prop} {ρ : Rho} {H : List Ob} : RV w I ρ H (.tup []) (.tuple #[]) := ⟨[], rfl, .nil⟩
theorem applyE_split {m : Md} {L0 : Nat} {rest : List Eff} : ∀ {es : List Eff} {H : List Ob}, applyE m L0 (es ++ rest) H = some H' → ∃ H2, applyE m L0 es H = some H2 ∧ applyE m L0 rest H2 = some H'
  | [], H, h => ⟨H, rfl, h⟩
  | .push o :: es, H, h => by
    have hown := own_of_push h
    obtain ⟨H2, h1, h2⟩ := applyE_split (applyE_push h)
    exact ⟨H2, by simp only [applyE, hown, if_true]; exact h1, h2⟩
  | .set id o :: es, H, h => by
    obtain ⟨H2, h1, h2⟩ := applyE_split (applyE_set h)
    refine ⟨H2, ?_, h2⟩
    cases m with
    | sync => exact h1
    | al =>
      simp only [List.cons_append, applyE] at h
      split at h
      · rename_i hl; simp only [applyE, hl, if_true]; exact h1
      · cases h
    | low => simp [applyE] at h
    | free => simp [applyE] at h
theorem st_store (hT : TabOk P tb) (hC : Ctx I ρ H w) (hF : RF w I ρ H fr a.tmps) {t : TypeId} {x y : Operand} (ho : o.op = .store t x y) (h : sStore (getM m L0 H) (m.nx H.length) (tb.at t) [ev fr x, ev fr y] = some (v, es)) (he : applyE m L0 es H = some H') : Goal P I ρ H w o a v H' := by
  obtain ⟨id, off, x', h1, rfl, hk, hc⟩ := inv_store h
  simp only [List.cons.injEq, and_true] at h1
  obtain ⟨h1, rfl⟩ := h1
  have hx := RV_ev hF x
  have hy := RV_ev hF y
  rw [h1] at hx
  have hx' : RP ρ H id off (a.eval x) := hx
  have key : ∀ {I1 : Nat → Prop} {ρ1 : Rho} {H1 : List Ob} {ob ob' : Ob} {b o' : Nat}, Ctx I1 ρ1 H1 w → Stp I ρ H w I1 ρ1 H1 w → H1[id]? = some ob → ob.mine → ob'.mine → ρ1 id = some (b, o') → a.eval x = .pointer (some ⟨b, o' + off, none⟩) →
      (a.eval y).cells.toList.length = (tb.at t).size → (∀ z ∈ (a.eval y).cells.toList, z.oneCell' = true) → (∀ cur e, w.heap[b]? = some (.cells cur e (0, 0)) → o' + off + (a.eval y).cells.toList.length ≤ cur.size ∧
        (o' + off + (a.eval y).cells.toList.length ≤ cur.size → Cont w I1 ρ1 H1 o' (cur.toList.take (o' + off) ++ (a.eval y).cells.toList ++ cur.toList.drop (o' + off + (a.eval y).cells.toList.length)).toArray ob')) → H' = H1.set id ob' → Goal P I ρ H w o a (.tup []) H' := by
    intro I1 ρ1 H1 ob ob' b o' hC1 hs1 hH1 hm hm' hr hp hsz hone hcont hH'
    obtain ⟨_, cur, e, hb⟩ := hC1.own ⟨ob, hH1, hm⟩ hr
    obtain ⟨hfit, hc⟩ := hcont cur e hb
    have hrun := storeAt_run (w := w) hT (ok_of hk) hb (by rw [← Array.length_toList]; exact hsz) hone hfit
    obtain ⟨hC2, hs2⟩ := write_ok hC1 hH1 hm hr hm' (wr_setRow hb hfit) (hc hfit)
    subst hH'
    refine go_skip ?_ ⟨I1, ρ1, hC2, hs1.trans hs2, tup_nil⟩
    rw [← hp] at hrun
    simp [execOp, ho, hrun]
  have fit : ∀ {H2 : List Ob} {I2 : Nat → Prop} {cs : List C} {b o' n : Nat} {cur : Array Value} {e : TypeId}, MemC w I2 ρ H2 b o' cs → w.heap[b]? = some (.cells cur e (0, 0)) → 1 ≤ n → off + n ≤ cs.length → o' + off + n ≤ cur.size := by
    intro H2 I2 cs b o' n cur e hm hb h1 h2
    obtain ⟨u, hu, _⟩ := hm (off + n - 1) _ (List.getElem?_eq_getElem (by omega))
    rw [cell_at hb] at hu
    have := (Array.getElem?_eq_some_iff.1 hu).1
    omega
  rcases hc with ⟨cs, xs, fs, hg, hct, hno, ⟨hl, hl1⟩, hfit, rfl⟩ | ⟨cs, xs, hg, hct, ⟨hl, hl1⟩, hfit, rfl⟩
  · have hH := getM_some hg
    rcases hx' with ⟨hgn, _⟩ | ⟨b, o', hr, hp⟩
    · unfold GN at hgn; rw [hH] at hgn; cases hgn
    · obtain ⟨H2', he1, he2⟩ := applyE_split he
      have he1' : applyE m L0 (fs ++ []) H = some H2' := by simpa using he1
      obtain ⟨I2, H2, hC2, hs2, _, hA, hone, he3⟩ := cellsT_ok hC (Frz.refl H) hy hct he1'
      cases applyE_nil he3
      obtain ⟨H3, he4, hH2⟩ := noSet_get (H2 := H) hno he1' hH
      cases applyE_nil he4
      have hlen : (a.eval y).cells.toList.length = xs.length := hA.length.symm
      refine key hC2 hs2 hH2 rfl (ob' := .flat false (putCells cs off xs)) rfl hr hp (by rw [hlen, hl]) hone (fun cur e hb => ⟨?_, fun hfit' j c hj => ?_⟩) (applyE_nil (applyE_set he2))
      · rcases hC2.obj _ _ hH2 with ⟨h, _⟩ | ⟨b', o'', h1', h2', _⟩
        · rw [h] at hr; cases hr
        · rw [hr] at h1'; cases h1'
          rw [hlen]
          obtain ⟨u, hu, _⟩ := h2' (off + xs.length - 1) _ (List.getElem?_eq_getElem (by omega))
          rw [cell_at hb] at hu
          have := (Array.getElem?_eq_some_iff.1 hu).1
          omega
      · rw [putCells_get hfit] at hj
        rw [splice_get _ _ _ hfit', hlen]
        split at hj
        · rename_i hin
          rw [if_pos (by omega)]
          obtain ⟨u, hu, hru⟩ := hA.get hj
          exact ⟨u, by rw [show o' + j - (o' + off) = j - off by omega]; exact hu, hru⟩
        · rename_i hin
          rw [if_neg (by omega)]
          rcases hC2.obj _ _ hH2 with ⟨h, _⟩ | ⟨b', o'', h1', h2', _⟩
          · rw [h] at hr; cases hr
          · rw [hr] at h1'; cases h1'
            obtain ⟨u, hu, hru⟩ := h2' j c hj
            rw [cell_at hb] at hu
            exact ⟨u, hu, hru⟩
  · have hH := getM_some hg
    rcases hx' with ⟨hgn, _⟩ | ⟨b, o', hr, hp⟩
    · unfold GN at hgn; rw [hH] at hgn; cases hgn
    · obtain ⟨hA, hone⟩ := cellsC_ok hy hct
      have hown : m.own = true := by
        obtain ⟨H2, _, h2⟩ := applyE_split he
        cases m with
        | sync => rfl
        | al => rfl
        | low => simp [applyE] at h2
        | free => simp [applyE] at h2
      rw [nx_own hown] at he
      have he1 := applyE_phants he
      obtain ⟨hC1, hs1, hr1⟩ := nils_ok (ks := (tb.at t).cks) hC hA
      have hlen : (a.eval y).cells.toList.length = xs.length := hA.length.symm
      have hlen1 : (nilsOf H.length (tb.at t).cks xs).1.length = xs.length := by rw [hr1.length, hlen]
      have hH1 : (H ++ List.replicate (nilsOf H.length (tb.at t).cks xs).2 (Ob.flat false []))[id]? = some (.mix false cs) := by
        rw [List.getElem?_append_left (List.getElem?_eq_some_iff.1 hH).1]; exact hH
      have hm1 : MemC w I ρ (H ++ List.replicate (nilsOf H.length (tb.at t).cks xs).2 (Ob.flat false [])) b o' cs := by
        obtain ⟨b', o'', h1', h2', _⟩ := hC1.obj _ _ hH1
        rw [hr] at h1'; cases h1'
        exact h2'
      refine key hC1 hs1 hH1 rfl (ob' := .mix false (putCells cs off (nilsOf H.length (tb.at t).cks xs).1)) rfl hr hp (by rw [hlen, hl]) hone (fun cur e hb => ⟨?_, fun hfit' j c hj => ?_⟩) (applyE_nil (applyE_set he1))
      · rw [hlen]; exact fit hm1 hb hl1 hfit
      · rw [putCells_get (by rw [hlen1]; exact hfit), hlen1] at hj
        rw [splice_get _ _ _ hfit', hlen]
        split at hj
        · rename_i hin
          rw [if_pos (by omega)]
          obtain ⟨u, hu, hru⟩ := hr1.get hj
          exact ⟨u, by rw [show o' + j - (o' + off) = j - off by omega]; exact hu, hru⟩
        · rename_i hin
          rw [if_neg (by omega)]
          obtain ⟨u, hu, hru⟩ := hm1 j c hj
          rw [cell_at hb] at hu
          exact ⟨u, hu, hru⟩
theorem st_iaddr (hT : TabOk P tb) (hC : Ctx I ρ H w) (hF : RF w I ρ H fr a.tmps) {t : TypeId} {x y : Operand} (ho : o.op = .indexAddr t x y) (h : sIaddr tb (tb.at t).k [ev fr x, ev fr y] = some (v, es)) (he : applyE m L0 es H = some H') : Goal P I ρ H w o a v H' := by
  obtain ⟨rfl, x', ik, j, h1, h0, hc⟩ := inv_iaddr h
  cases applyE_nil he
  simp only [List.cons.injEq, and_true] at h1
  obtain ⟨rfl, h1⟩ := h1
  have hx := RV_ev hF x
  have hy := RV_ev hF y
  rw [h1] at hy
  have hy' : a.eval y = .int ik j := hy
  rcases hc with ⟨e, n, cs, hk, hxe, hoe, hj, rfl⟩ | ⟨e, id, off, len, sz, hk, hxe, hj, hoe, rfl, rfl⟩ | ⟨e, n, id, off, hk, hxe, hj, hoe, hn, rfl⟩
  · rw [hxe] at hx
    simp only [RV, RV1, RC, RT] at hx
    obtain ⟨A, c, hv, hnc, hs⟩ := hx
    rcases hs with ⟨h, _⟩ | ⟨ad, rfl, hs⟩
    · omega
    · refine go_value (u := .pointer (some (ad.add (j.toNat * (tb.at e).size)))) (w' := w) ?_ (Post.same hC ?_)
      · simp [execOp, ho, hy', hv, Instr.indexAt, asIntOf, run_underlying (hT.slice hk), h0, hj, sizeOf_run hT hoe]
      · simp only [RV, RV1, RC, RT]
        exact ⟨ad, rfl, hs⟩
  · rw [hxe] at hx
    simp only [RV, RV1, RC] at hx
    rcases hx with ⟨hgn, A, c, hv, hnc, hA⟩ | ⟨_, _, rfl, _⟩ | ⟨b, o', c, hr, hv, hnc, _⟩
    · rcases hA with rfl | ⟨ad, rfl⟩
      · omega
      · refine go_value (u := .pointer (some (ad.add (j.toNat * (tb.at e).size)))) (w' := w) ?_ (Post.same hC (.inl ⟨hgn, _, rfl⟩))
        simp [execOp, ho, hy', hv, Instr.indexAt, asIntOf, run_underlying (hT.slice hk), h0, hj, sizeOf_run hT hoe]
    · omega
    · refine go_value (u := .pointer (some ⟨b, o' + (off + j.toNat * (tb.at e).size), none⟩)) (w' := w) ?_ (Post.same hC (.inr ⟨b, o', hr, rfl⟩))
      simp [execOp, ho, hy', hv, Instr.indexAt, asIntOf, run_underlying (hT.slice hk), h0, hj, sizeOf_run hT hoe, add_plain, Nat.add_assoc]
  · rw [hxe] at hx
    simp only [RV, RV1, RC] at hx
    rcases hx with ⟨hgn, ad, hv⟩ | ⟨b, o', hr, hv⟩
    · refine go_value (u := .pointer (some (ad.add (j.toNat * (tb.at e).size)))) (w' := w) ?_ (Post.same hC (.inl ⟨hgn, _, rfl⟩))
      simp [execOp, ho, hy', hv, Instr.indexAt, asIntOf, Instr.sureAddr, run_underlying (hT.array hk), h0, hj, sizeOf_run hT hoe]
    · refine go_value (u := .pointer (some ⟨b, o' + (off + j.toNat * (tb.at e).size), none⟩)) (w' := w) ?_ (Post.same hC (.inr ⟨b, o', hr, rfl⟩))
      simp [execOp, ho, hy', hv, Instr.indexAt, asIntOf, Instr.sureAddr, run_underlying (hT.array hk), h0, hj, sizeOf_run hT hoe, add_plain, Nat.add_assoc]
theorem capsOf_ok {vs : List V} {us : List Value} (hr : A2 (RV w I ρ H) vs us) : ∀ {l : List (Nat × Nat)}, capsOf vs = some l → A2 (fun p u => RP ρ H p.1 p.2 u) l us := by
  induction hr with
  | nil => intro l h; simp [capsOf] at h; subst h; exact .nil
  | cons h t ih =>
    intro l hl
    unfold capsOf at hl
    split at hl
    · rename_i heq; cases heq
    · rename_i id off vs' heq
      cases heq
      simp only [Option.map_eq_some_iff] at hl
      obtain ⟨l', h1, rfl⟩ := hl
      exact .cons h (ih h1)
    · cases hl
theorem st_mkfn (hC : Ctx I ρ H w) (hF : RF w I ρ H fr a.tmps) {f : FuncId} {first caps : Array Operand} (hfi : first = #[]) (ho : o.op = .makeFunc (.func f) first caps) (h : sMkfn f (caps.toList.map (ev fr)) = some (v, es)) (he : applyE m L0 es H = some H') : Goal P I ρ H w o a v H' := by
  obtain ⟨l, h1, rfl, rfl⟩ := inv_mkfn h
  cases applyE_nil he
  subst hfi
  refine go_value (u := .func (.func f) #[] (caps.map a.eval)) (w' := w) ?_ (Post.same hC ⟨caps.toList.map a.eval, ?_, capsOf_ok (A2.map_ev hF caps.toList) h1⟩)
  · simp [execOp, ho, Instr.makeFunc]
  · congr 1
    apply Array.ext'
    simp
theorem st_ext (hC : Ctx I ρ H w) (hF : RF w I ρ H fr a.tmps) {x : Operand} {i : Nat} (ho : o.op = .extract x i) (h : sExt i [ev fr x] = some (v, es)) (he : applyE m L0 es H = some H') : Goal P I ρ H w o a v H' := by
  obtain ⟨l, h1, h2, rfl⟩ := inv_ext h
  cases applyE_nil he
  simp only [List.cons.injEq, and_true] at h1
  have hx := RV_ev hF x
  rw [h1] at hx
  obtain ⟨us, hv, hA⟩ := hx
  obtain ⟨u, hu, hr⟩ := hA.get h2
  refine go_value (u := u) (w' := w) ?_ (Post.same hC ?_)
  · simp [execOp, ho, hv, Instr.extract, hu]
  · cases v with
    | tup vs =>
      cases vs with
      | nil => exact ⟨[], hr, .nil⟩
      | cons _ _ => exact hr.elim
    | c _ => exact hr
    | agg _ => exact hr
    | any => exact hr
    | own _ => exact hr
    | oref _ _ => exact hr
theorem st_len (hT : TabOk P tb) (hC : Ctx I ρ H w) (hF : RF w I ρ H fr a.tmps) {t : TypeId} {x : Operand} {c : Call} (hcal : c.callee = .builtin .len) (hty : c.argTypes.toList = [t]) (harg : c.args.toList = [x]) (ho : o.op = .call c) (h : sLen (tb.at t).k [ev fr x] = some (v, es)) (he : applyE m L0 es H = some H') : Goal P I ρ H w o a v H' := by
  obtain ⟨rfl, x', h1, hc⟩ := inv_len h
  cases applyE_nil he
  simp only [List.cons.injEq, and_true] at h1
  subst h1
  have hx := RV_ev hF x
  have harg' : c.args = #[x] := by apply Array.ext'; simpa using harg
  have hty' : c.argTypes = #[t] := by apply Array.ext'; simpa using hty
  have key : ∀ {n : Int}, (Builtin.len_ #[t] o.type #[a.eval x]).run P w = .ok (.int .i64 n) w → v = .c (.t (.int .i64 n)) → Goal P I ρ H w o a v H := by
    rintro n hn rfl
    refine go_value (u := .int .i64 n) (w' := w) ?_ (Post.same hC (show RT w I (.int .i64 n) _ by simp [RT]))
    simp [execOp, ho, resolve, hcal, harg', hty', invoke, builtin, hn]
  rcases hc with ⟨e, hk, hc⟩ | ⟨s, hk, hxe, rfl⟩ | ⟨n, e, hk, rfl⟩
  · rcases hc with ⟨hxe, rfl⟩ | ⟨n, cs, hxe, rfl⟩ | ⟨id, off, n, sz, hxe, rfl⟩
    · rw [hxe] at hx
      have hv : a.eval x = .slice none 0 0 := by simpa [RV, RV1, RC, RT] using hx
      exact key (by simp [Builtin.len_, run_underlying (hT.slice hk), hv, goInt]) rfl
    · rw [hxe] at hx
      simp only [RV, RV1, RC, RT] at hx
      obtain ⟨A, c', hv, _⟩ := hx
      exact key (by simp [Builtin.len_, run_underlying (hT.slice hk), hv, goInt]) rfl
    · rw [hxe] at hx
      simp only [RV, RV1, RC] at hx
      have hv : ∃ A c', a.eval x = .slice A n c' := by
        rcases hx with ⟨_, A, c', hv, _⟩ | ⟨_, _, rfl, hv⟩ | ⟨b, o', c', _, hv, _⟩
        · exact ⟨_, _, hv⟩
        · exact ⟨_, _, hv⟩
        · exact ⟨_, _, hv⟩
      obtain ⟨A, c', hv⟩ := hv
      exact key (by simp [Builtin.len_, run_underlying (hT.slice hk), hv, goInt]) rfl
  · rw [hxe] at hx
    have hv : a.eval x = .string s := hx
    exact key (by simp [Builtin.len_, run_underlying (hT.str hk), hv, goInt]) rfl
  · exact key (by simp [Builtin.len_, run_underlying (hT.array hk), goInt]) rfl
theorem st_max (hC : Ctx I ρ H w) (hF : RF w I ρ H fr a.tmps) {x y : Operand} {c : Call} (hcal : c.callee = .builtin .max) (harg : c.args.toList = [x, y]) (ho : o.op = .call c) (h : sMax [ev fr x, ev fr y] = some (v, es)) (he : applyE m L0 es H = some H') : Goal P I ρ H w o a v H' := by
  obtain ⟨k, p, k', q, h1, rfl, rfl⟩ := inv_max h
  cases applyE_nil he
  simp only [List.cons.injEq, and_true] at h1
  have hx := RV_ev hF x
  have hy := RV_ev hF y
  rw [h1.1] at hx
  rw [h1.2] at hy
  have hx' : a.eval x = .int k p := hx
  have hy' : a.eval y = .int k' q := hy
  have harg' : c.args = #[x, y] := by apply Array.ext'; simpa using harg
  refine go_value (u := .int k (if q > p then q else p)) (w' := w) ?_ (Post.same hC (show RT w I (.int k (if q > p then q else p)) _ by simp [RT]))
  have hr := run_max_int2 (P := P) w c.argTypes o.type k k' p q
  simp only [execOp, ho, resolve, hcal, harg']
  simp [invoke, builtin, hx', hy', hr]
theorem st_min (hC : Ctx I ρ H w) (hF : RF w I ρ H fr a.tmps) {x y : Operand} {c : Call} (hcal : c.callee = .builtin .min) (harg : c.args.toList = [x, y]) (ho : o.op = .call c) (h : sMin [ev fr x, ev fr y] = some (v, es)) (he : applyE m L0 es H = some H') : Goal P I ρ H w o a v H' := by
  obtain ⟨k, p, k', q, h1, rfl, rfl⟩ := inv_min h
  cases applyE_nil he
  simp only [List.cons.injEq, and_true] at h1
  have hx := RV_ev hF x
  have hy := RV_ev hF y
  rw [h1.1] at hx
  rw [h1.2] at hy
  have hx' : a.eval x = .int k p := hx
  have hy' : a.eval y = .int k' q := hy
  have harg' : c.args = #[x, y] := by apply Array.ext'; simpa using harg
  refine go_value (u := .int k (if q < p then q else p)) (w' := w) ?_ (Post.same hC (show RT w I (.int k (if q < p then q else p)) _ by simp [RT]))
  have hr := run_min_int2 (P := P) w c.argTypes o.type k k' p q
  simp only [execOp, ho, resolve, hcal, harg']
  simp [invoke, builtin, hx', hy', hr]
theorem isSlice_elem {k : TK} (h : k.isSlice = true) : ∃ e, k = .slice e := by
  cases k <;> simp [TK.isSlice] at h
  exact ⟨_, rfl⟩
theorem info_of (hT : TabOk P tb) {e : TypeId} (h : isOther (tb.at e).k = false) : ∃ inf z, P.info? e = some inf ∧ inf.size = (tb.at e).size ∧ inf.bytes = (tb.at e).bytes ∧ inf.zero = some z ∧ z.cells.size = (tb.at e).size ∧ (tb.at e).zeros.length = (tb.at e).size := by
  rcases hT e with h' | h'
  · rw [h'] at h; cases h
  · obtain ⟨inf, z, h1, h2, h3, h4, h5, _⟩ := h'.info
    exact ⟨inf, z, h1, h2, h3, h4, by rw [← Array.length_toList, h5]; simp [h'.len], h'.len⟩
theorem run_lit (hT : TabOk P tb) {t e : TypeId} (hk : (tb.at t).k = .slice e) (h2 : isOther (tb.at e).k = false) {inf : TypeInfo} {z : Value} (hi : P.info? e = some inf) (hz : inf.zero = some z) {n : Nat} (h3 : n * (tb.at e).size ≤ 16777216)
    {parts : Array (Nat × Value)} {arr' : Array Value} (hf : Instr.fill (fun i => some (i * (tb.at e).size, (tb.at e).size)) (madeCells z.cells (n * (tb.at e).size)) parts.toList = some arr') :
    (Instr.buildSlice t n parts).run P w = .ok (.slice (some ⟨w.heap.size, 0, none⟩) n n) (w.alloc (.cells arr' e)) := by
  have hzv : (zeroValue e).run P w = .ok z w := by simp [zeroValue, typeInfo, hi, hz]
  have hu := run_underlying (hT.slice hk) w
  have hs := sizeOf_run (w := w) hT (ok_of h2)
  unfold Instr.buildSlice
  simp only [Sem.run_bind, hu, hs, Result.andThen]
  generalize hN : n * (tb.at e).size = N at *
  rw [if_neg (by omega)]
  by_cases h0 : N = 0
  · subst h0
    have hm : ∀ f : Nat → Value, (Array.range 0).map f = #[] := fun f => by simp
    unfold madeCells at hf
    rw [hm] at hf
    simp [hm, hf, newRow]
  · unfold madeCells at hf
    simp [h0, hzv, hf, newRow]
theorem st_mkslice (hT : TabOk P tb) (hC : Ctx I ρ H w) (hF : RF w I ρ H fr a.tmps) {t : TypeId} {n : Nat} {ps : Array (Nat × Operand)} (ho : o.op = .buildSlice t n ps) (h : sMkslice m.own (getM m L0 H) (m.nx H.length) (tb.at t).k.isSlice (tb.at (tb.at t).elem) n (pairsFst ps) ((pairsSnd ps).map (ev fr)) = some (v, es)) (he : applyE m L0 es H = some H') : Goal P I ρ H w o a v H' := by
  obtain ⟨h1, h2, h3, cs, fs, hl, hc⟩ := inv_mkslice h
  obtain ⟨e, hk⟩ := isSlice_elem h1
  have hel : (tb.at t).elem = e := by simp [TI.elem, hk]
  rw [hel] at h2 h3 hl hc
  obtain ⟨inf, z, hi, hsz, hby, hz, hzs, hzl⟩ := info_of hT h2
  have hacc : A2 (RT w I) (zeroRow (tb.at e) n) (madeCells z.cells (n * (tb.at e).size)).toList := by
    refine A2.of_get (by rw [zeroRow_length, hzl, Array.length_toList, size_madeCells]) fun j x u hx hu => ?_
    obtain ⟨u', hu', hr⟩ := made_cont (w := w) (I := I) hT (ok_of h2) hi hz (Nat.le_refl n) j x hx
    have : some u' = some u := by rw [← hu', ← hu]; simp
    cases this
    exact hr
  have hzip : (pairsFst ps).zip ((pairsSnd ps).map a.eval) = (ps.map fun p => (p.1, a.eval p.2)).toList := by
    apply List.ext_getElem?
    intro j
    unfold pairsFst pairsSnd
    simp only [List.map_map, List.getElem?_zip_eq_some, Array.toList_map]
    rw [List.zip_map', List.getElem?_map, List.getElem?_map]
    rfl
  have hrun : ∀ arr', Instr.fill (fun i => some (i * (tb.at e).size, (tb.at e).size)) (madeCells z.cells (n * (tb.at e).size)) ((pairsFst ps).zip ((pairsSnd ps).map a.eval)) = some arr' →
      (execOp a.eval o).run P w = .ok (.value (.slice (some ⟨w.heap.size, 0, none⟩) n n)) (w.alloc (.cells arr' e)) := by
    intro arr' hf
    rw [hzip] at hf
    have := run_lit (w := w) hT hk h2 hi hz h3 hf
    simp [execOp, ho, this]
  rcases hc with ⟨hown, rfl, rfl⟩ | ⟨hown, rfl, rfl⟩
  · obtain ⟨I2, H2, arr', hC2, hs2, hf2, hfill, hA, he2⟩ := lit_ok hzl hC (Frz.refl H) (A2.map_ev hF _) hacc hl he
    have he3 := applyE_nil (applyE_push he2)
    subst he3
    have hH2 : H2.length = H.length := hf2.len
    rw [nx_own hown, ← hH2]
    obtain ⟨hC3, hs3⟩ := push_ok (e := e) hC2 (o := .flat false cs) (arr := arr') rfl (flat_cont hA)
    refine go_value (hrun _ hfill) ⟨_, _, hC3, hs2.trans hs3, ?_⟩
    refine .inr (.inr ⟨w.heap.size, 0, n, by simp [upd], rfl, Nat.le_refl _, arr', e, (0, 0), heap_alloc_new w _, ?_⟩)
    rw [← Array.length_toList, ← hA.length, lit_length hl, zeroRow_length, hzl]
    omega
  · have he' : applyE m L0 (es ++ []) H = some H' := by simpa using he
    obtain ⟨I2, H2, arr', hC2, hs2, hf2, hfill, hA, he2⟩ := lit_ok hzl hC (Frz.refl H) (A2.map_ev hF _) hacc hl he'
    cases applyE_nil he2
    obtain ⟨hC3, hs3⟩ := alloc_imm (arr := arr') (e := e) hC2
    refine go_value (hrun _ hfill) ⟨_, _, hC3, hs2.trans hs3, ?_⟩
    simp only [RV, RV1, RC, RT]
    refine ⟨_, _, rfl, Nat.le_refl _, .inr ⟨_, rfl, RTs_mk fun j c hj => ?_⟩⟩
    obtain ⟨u, hu, hr⟩ := hA.get hj
    refine ⟨.inr rfl, u, ?_, RT_fix hs3.fix c u hr⟩
    rw [Nat.zero_add, add_plain, cell_at (heap_alloc_new w _)]
    simpa using hu
end
end Go.AM

namespace Go.AM
section
variable {P : Program} {I I' : Nat → Prop} {ρ ρ' : Rho} {H H' H0 H1 : List Ob} {w w' : World} {tb : Tab}
variable {o : Oper} {a : Act} {fr : List V} {m : Md} {L0 : Nat} {v : V} {es : List Eff}
theorem A2_one {w : World} {I : Nat → Prop} {xs : List T} {us : List Value} (h : A2 (RT w I) xs us) : ∀ x ∈ us, x.oneCell' = true := by
  intro x hx
  obtain ⟨j, hj⟩ := List.getElem?_of_mem hx
  obtain ⟨a, _, hr⟩ := h.get' hj
  exact RT_one hr
theorem A2.append' {α β : Type} {R : α → β → Prop} {as as' : List α} {bs bs' : List β} (h : A2 R as bs) (h' : A2 R as' bs') : A2 R (as ++ as') (bs ++ bs') := h.append h'
theorem grown_ok (hT : TabOk P tb) (hC : Ctx I ρ H w) {e : TypeId} (h2 : isOther (tb.at e).k = false) {inf : TypeInfo} {z : Value} (hsz : inf.size = (tb.at e).size) (hzs : z.cells.size = (tb.at e).size)
    {old new : List T} {olds news : List Value} (ho : A2 (RT w I) old olds) (hn : A2 (RT w I) new news) {n mm cap : Nat} (hlo : olds.length = n * (tb.at e).size) (hln : news.length = mm * (tb.at e).size) (hcap : n + mm ≤ cap) :
    Post I ρ H w (.c (.osl H.length 0 (n + mm) (tb.at e).size)) (H ++ [.flat false (old ++ new)]) (.slice (some ⟨w.heap.size, 0, none⟩) (n + mm) cap)
      (w.drew.alloc (.cells (olds.toArray ++ news.toArray ++ Builtin.zeroCells z.cells (cap - (n + mm))) e)) := by
  obtain ⟨hC1, hs1⟩ := drew_ok hC
  obtain ⟨hC2, hs2⟩ := push_ok (e := e) hC1 (o := .flat false (old ++ new)) (arr := olds.toArray ++ news.toArray ++ Builtin.zeroCells z.cells (cap - (n + mm))) rfl (fun j c hj => by
    obtain ⟨u, hu, hr⟩ := (ho.append hn).get hj
    refine ⟨u, ?_, RT_fix hs1.fix c u hr⟩
    have hlt := (List.getElem?_eq_some_iff.1 hu).1
    rw [Nat.zero_add, Array.getElem?_append_left (by simp at hlt ⊢; omega)]
    simpa using hu)
  refine ⟨_, _, hC2, hs1.trans hs2, .inr (.inr ⟨w.heap.size, 0, cap, ?_, rfl, hcap, _, e, (0, 0), heap_alloc_new w.drew _, ?_⟩)⟩
  · simp [upd]
  · simp only [Array.size_append, List.size_toArray, size_zeroCells, hzs, hlo, hln, Nat.zero_add]
    rw [← Nat.add_mul, ← Nat.add_mul]
    exact Nat.mul_le_mul_right _ (by omega)
theorem Post.trans {w1 : World} {I1 : Nat → Prop} {ρ1 : Rho} {H1 : List Ob} (hs : Stp I ρ H w I1 ρ1 H1 w1) {v : V} {u : Value} (h : Post I1 ρ1 H1 w1 v H' u w') : Post I ρ H w v H' u w' := by
  obtain ⟨I2, ρ2, hC2, hs2, hr⟩ := h
  exact ⟨I2, ρ2, hC2, hs.trans hs2, hr⟩
theorem grown_okC (hC : Ctx I ρ H w) {e : TypeId} {sz : Nat} {z : Value} (hzs : z.cells.size = sz)
    {old : List C} {new : List T} {olds news : List Value} (ho : A2 (RC w I ρ H) old olds) (hn : A2 (RT w I) new news) {n mm cap : Nat} (hlo : olds.length = n * sz) (hln : news.length = mm * sz) (hcap : n + mm ≤ cap) :
    Post I ρ H w (.c (.osl H.length 0 (n + mm) sz)) (H ++ [.mix false (old ++ new.map .t)]) (.slice (some ⟨w.heap.size, 0, none⟩) (n + mm) cap)
      (w.drew.alloc (.cells (olds.toArray ++ news.toArray ++ Builtin.zeroCells z.cells (cap - (n + mm))) e)) := by
  obtain ⟨hC1, hs1⟩ := drew_ok hC
  have hn' : A2 (RC w I ρ H) (new.map .t) news := by
    clear hln
    induction hn with
    | nil => exact .nil
    | cons h _ ih => exact .cons h ih
  obtain ⟨hC2, hs2⟩ := push_ok (e := e) hC1 (o := .mix false (old ++ new.map .t)) (arr := olds.toArray ++ news.toArray ++ Builtin.zeroCells z.cells (cap - (n + mm))) rfl (fun j c hj => by
    obtain ⟨u, hu, hr⟩ := (ho.append hn').get hj
    refine ⟨u, ?_, RC_stp hC hs1 hr⟩
    have hlt := (List.getElem?_eq_some_iff.1 hu).1
    rw [Nat.zero_add, Array.getElem?_append_left (by simp at hlt ⊢; omega)]
    simpa using hu)
  refine ⟨_, _, hC2, hs1.trans hs2, .inr (.inr ⟨w.heap.size, 0, cap, ?_, rfl, hcap, _, e, (0, 0), heap_alloc_new w.drew _, ?_⟩)⟩
  · simp [upd]
  · simp only [Array.size_append, List.size_toArray, size_zeroCells, hzs, hlo, hln, Nat.zero_add]
    rw [← Nat.add_mul, ← Nat.add_mul]
    exact Nat.mul_le_mul_right _ (by omega)
theorem post_mix {X : List T} {u : Value} (hX : X ≠ []) (h : Post I ρ H w v (H0 ++ [.flat false X]) u w') : Post I ρ H w v (H0 ++ [.mix false (X.map .t)]) u w' := by
  obtain ⟨I', ρ', hC, hs, hr⟩ := h
  have get : ∀ id, (id ≠ H0.length → (H0 ++ [Ob.mix false (X.map .t)])[id]? = (H0 ++ [Ob.flat false X])[id]?) := by
    intro id hid
    by_cases hl : id < H0.length
    · rw [List.getElem?_append_left hl, List.getElem?_append_left hl]
    · rw [List.getElem?_eq_none (by simp; omega), List.getElem?_eq_none (by simp; omega)]
  have getF : (H0 ++ [Ob.flat false X])[H0.length]? = some (.flat false X) := by simp
  have getM' : (H0 ++ [Ob.mix false (X.map .t)])[H0.length]? = some (.mix false (X.map .t)) := by simp
  have hmine : ∀ id, mine (H0 ++ [Ob.mix false (X.map .t)]) id → mine (H0 ++ [Ob.flat false X]) id := by
    rintro id ⟨o, ho, hm⟩
    by_cases hid : id = H0.length
    · subst hid; exact ⟨_, getF, rfl⟩
    · rw [get id hid] at ho; exact ⟨o, ho, hm⟩
  have hs2 : Stp I' ρ' (H0 ++ [.flat false X]) w' I' ρ' (H0 ++ [.mix false (X.map .t)]) w' := by
    refine ⟨by simp, fun _ _ => rfl, fun id hg => ?_, fun b hb => ⟨hb, rfl⟩, rfl, rfl, rfl, Nat.le_refl _, fun _ _ _ => rfl, fun _ _ h => h, fun _ h => h, fun _ h => .inl h, fun b hb => ?_⟩
    · unfold GN at hg ⊢
      by_cases hid : id = H0.length
      · subst hid; rw [getF] at hg; cases hg
      · rw [get id hid]; exact hg
    · obtain ⟨id, o, hm, hr'⟩ := hb
      exact .inl ⟨id, o, hmine id hm, hr'⟩
  refine ⟨I', ρ', ⟨fun id o ho => ?_, hC.lt, fun id p hp => by have := hC.dom id p hp; simpa using this, fun i j b o1 o2 h1 h2 h3 h4 => hC.inj i j b o1 o2 (hmine i h1) (hmine j h2) h3 h4⟩, hs.trans hs2, RV_stp hC hs2 hr⟩
  by_cases hid : id = H0.length
  · subst hid
    rw [getM'] at ho
    cases ho
    rcases hC.obj _ _ getF with ⟨_, h⟩ | ⟨b, o, h1, h2, h3⟩
    · exact absurd h hX
    · refine ⟨b, o, h1, fun j c hj => ?_, h3⟩
      rw [List.getElem?_map] at hj
      cases hx : X[j]? with
      | none => rw [hx] at hj; cases hj
      | some x =>
        rw [hx] at hj
        cases hj
        exact h2 j x hx
  · have ho' := ho
    rw [get id hid] at ho'
    exact RO_keep hC hs2 (hC.obj id o ho') (by have := (List.getElem?_eq_some_iff.1 ho').1; exact this) fun _ _ _ _ => ⟨rfl, fun h => h⟩
theorem nilRow_ne {new : List T} (h : nilRow new = true) : new ≠ [] := by rintro rfl; cases h
theorem run_append {c : Call} {x y : Operand} {t u : TypeId} (hcal : c.callee = .builtin .append) (hty : c.argTypes.toList = [t, u]) (harg : c.args.toList = [x, y]) (ho : o.op = .call c) {r : Value} {w' : World}
    (h : (Builtin.append_ #[t, u] o.type #[a.eval x, a.eval y]).run P w = .ok r w') : (execOp a.eval o).run P w = .ok (.value r) w' := by
  have harg' : c.args = #[x, y] := by apply Array.ext'; simpa using harg
  have hty' : c.argTypes = #[t, u] := by apply Array.ext'; simpa using hty
  simp [execOp, ho, resolve, hcal, harg', hty', invoke, builtin, h]
theorem st_append (hT : TabOk P tb) (hC : Ctx I ρ H w) (hF : RF w I ρ H fr a.tmps) {t u : TypeId} {x y : Operand} {c : Call} (hcal : c.callee = .builtin .append) (hty : c.argTypes.toList = [t, u]) (harg : c.args.toList = [x, y])
    (hu : (tb.at u).k.isSlice = true) (ho : o.op = .call c) (h : sAppend (getM m L0 H) (m.nx H.length) (tb.at t).k.isSlice (tb.at (tb.at t).elem) [ev fr x, ev fr y] = some (v, es)) (he : applyE m L0 es H = some H') : Goal P I ρ H w o a v H' := by
  obtain ⟨s, y', mm, new, h1, hrow, h3, h4, h5, h6, hc⟩ := inv_append h
  simp only [List.cons.injEq, and_true] at h1
  obtain ⟨rfl, rfl⟩ := h1
  obtain ⟨e, hk⟩ := isSlice_elem h3
  obtain ⟨f, hk'⟩ := isSlice_elem hu
  have hel : (tb.at t).elem = e := by simp [TI.elem, hk]
  rw [hel] at h4 h5 h6 hc
  obtain ⟨inf, z, hi, hsz, hby, hz, hzs, hzl⟩ := info_of hT h4
  have hx := RV_ev hF x
  have hy := RV_ev hF y
  obtain ⟨A, c', news, hyv, _, hA, hsrc⟩ := row_ok hC (fun id ob hg => getM_some hg) hy hrow h6
  have hln : news.length = mm * (tb.at e).size := by rw [← hA.length]; exact h6
  have hnew : Src P w inf.size (a.eval y) mm news := by rw [hyv, hsz]; exact src_of hln (A2_one hA) hsrc
  have htn := hT.slice hk
  have hun := hT.slice hk'
  rcases hc with ⟨hs, hb, rfl, rfl⟩ | ⟨id, off, len, cs, hs, hg, hfit, hb, rfl, rfl⟩ | ⟨id, off, len, cs, hs, hg, hfit, hb, rfl, rfl⟩
  · have hown := own_of_push he
    rw [nx_own hown]
    have he1 := applyE_nil (applyE_push he)
    subst he1
    rw [hs] at hx
    have hxv : a.eval x = .slice none 0 0 := by simpa [RV, RV1, RC, RT] using hx
    rcases Nat.eq_zero_or_pos mm with rfl | hpos
    · have hn0 : news = [] := List.eq_nil_of_length_eq_zero (by simpa using hln)
      subst hn0
      have hn1 : new = [] := List.eq_nil_of_length_eq_zero (by simpa using h6)
      subst hn1
      obtain ⟨hC1, hs1, hn⟩ := phant_ok hC
      refine go_value (u := .slice none 0 0) (w' := w) (run_append hcal hty harg ho ?_) ⟨_, _, hC1, hs1, .inr (.inl ⟨by simp, hn, rfl, rfl⟩)⟩
      rw [hxv]
      exact run_app_none htn hun hi hnew
    · have hold : Src P w inf.size (.slice none 0 0) 0 [] := src_of (by simp) (by simp) (.inl rfl)
      have hb' : (0 + mm) * inf.bytes ≤ 140737488355328 := by rw [Nat.zero_add, hby]; exact hb
      have hrun := run_app_grow (ty := o.type) htn hun hi hz (by rw [hby]; exact h5) hold hnew (by omega) hb'
      have hp := grown_ok (old := []) (olds := []) (n := 0) (mm := mm) (cap := grownCap w (0 + mm) 0 e) hT hC h4 hsz hzs .nil hA (by simp) hln (grownCap_ge _ _ _ _)
      simp only [Nat.zero_add, List.nil_append] at hp hrun
      refine go_value (run_append hcal hty harg ho ?_) hp
      rw [hxv]
      exact hrun
  · have hH := getM_some hg
    have hown : m.own = true := by
      cases m with
      | sync => rfl
      | al => rfl
      | low => simp [applyE] at he
      | free => simp [applyE] at he
    rw [nx_own hown]
    have he1 := applyE_nil (applyE_push (applyE_set he))
    subst he1
    suffices hgoal : ∃ u w', (execOp a.eval o).run P w = .ok (.value u) w' ∧ Post I ρ H w (.c (.osl H.length 0 (len + mm) (tb.at e).size)) (H.set id Ob.gone ++ [.flat false (sub cs off (len * (tb.at e).size) ++ new)]) u w' by
      obtain ⟨u, w', h1, h2⟩ := hgoal
      by_cases hnr : nilRow new = true
      · rw [if_pos hnr]
        exact go_value h1 (post_mix (by
          intro h
          exact nilRow_ne hnr (List.append_eq_nil_iff.1 h).2) h2)
      · rw [if_neg hnr]
        exact go_value h1 h2
    have hlen : (sub cs off (len * (tb.at e).size)).length = len * (tb.at e).size := by simp [sub]; omega
    have hrowx : rowOf (getM m L0 H) (ev fr x) = some (len, sub cs off (len * (tb.at e).size)) := by
      rw [hs]; simp [rowOf, hg, slot?]
    obtain ⟨A0, c0, olds, hxv, hlc, hA0, hsrc0⟩ := row_ok hC (fun id ob hg => getM_some hg) hx hrowx hlen
    have hlo : olds.length = len * (tb.at e).size := by rw [← hA0.length]; exact hlen
    have hold : Src P w inf.size (a.eval x) len olds := by rw [hxv, hsz]; exact src_of hlo (A2_one hA0) hsrc0
    obtain ⟨hCg, hsg⟩ := gone_ok hC hH rfl
    have hglen : (H.set id Ob.gone).length = H.length := by simp
    have hb' : (len + mm) * inf.bytes ≤ 140737488355328 := by rw [hby]; exact hb
    rw [hs] at hx
    simp only [RV, RV1, RC] at hx
    rcases hx with ⟨hgn, _⟩ | ⟨_, hr, rfl, hv⟩ | ⟨b, o', cc, hr, hv, hnc, hcapx⟩
    · unfold GN at hgn; rw [hH] at hgn; cases hgn
    · -- nil
      rw [hv] at hxv hold
      have ho0 : olds = [] := List.eq_nil_of_length_eq_zero (by simpa using hlo)
      have hs0 : sub cs off (0 * (tb.at e).size) = [] := List.eq_nil_of_length_eq_zero (by simpa using hlen)
      rcases Nat.eq_zero_or_pos mm with rfl | hpos
      · have hn0 : news = [] := List.eq_nil_of_length_eq_zero (by simpa using hln)
        subst hn0
        have hn1 : new = [] := List.eq_nil_of_length_eq_zero (by simpa using h6)
        subst hn1
        obtain ⟨hC1, hs1, hn⟩ := phant_ok hCg
        rw [hs0, List.append_nil]
        rw [hglen] at hn
        refine ⟨.slice none 0 0, w, run_append hcal hty harg ho ?_, ⟨_, _, hC1, hsg.trans hs1, .inr (.inl ⟨by simp, hn, rfl, rfl⟩)⟩⟩
        rw [hv]
        exact run_app_none htn hun hi hnew
      · have hrun := run_app_grow (ty := o.type) htn hun hi hz (by rw [hby]; exact h5) hold hnew (by omega) hb'
        have hp := grown_ok (old := sub cs off (0 * (tb.at e).size)) (olds := olds) (n := 0) (mm := mm) (cap := grownCap w (0 + mm) 0 e) hT hCg h4 hsz hzs hA0 hA hlo hln (grownCap_ge _ _ _ _)
        rw [hglen] at hp
        refine ⟨_, _, run_append hcal hty harg ho ?_, hp.trans hsg⟩
        rw [hv]
        exact hrun
    · by_cases hroom : len + mm ≤ cc
      · obtain ⟨cur, e', hb0⟩ := (hC.own ⟨_, hH, rfl⟩ hr).2
        have hcap0 : o' + off + cc * (tb.at e).size ≤ cur.size := by
          obtain ⟨arr, e2, fz, h7, h8⟩ := hcapx
          rw [hb0] at h7
          cases h7
          exact h8
        have hmul : len * (tb.at e).size + news.length ≤ cc * (tb.at e).size := by rw [hln, ← Nat.add_mul]; exact Nat.mul_le_mul_right _ hroom
        have hfit' : o' + off + len * inf.size + news.length ≤ cur.size := by rw [hsz]; omega
        have hrun := run_app_room (ty := o.type) htn hun hi hb0 hnew hroom hfit'
        obtain ⟨hC2, hs2⟩ := take_ok (off' := o' + off) (o' := .flat false (sub cs off (len * (tb.at e).size) ++ new)) hC hH rfl hr rfl (wr_setRow hb0 hfit') (fun j t hj => by
          rw [splice_get _ _ _ hfit', hsz]
          rw [List.getElem?_append, hlen] at hj
          split at hj
          · rename_i hlt
            rw [if_neg (by omega)]
            unfold sub at hj
            rw [List.getElem?_take, if_pos hlt, List.getElem?_drop] at hj
            rcases hC.obj _ _ hH with ⟨h, _⟩ | ⟨b', o'', h1', h2', _⟩
            · rw [h] at hr; cases hr
            · rw [hr] at h1'; cases h1'
              obtain ⟨q, hq, hrq⟩ := h2' _ t hj
              rw [cell_at hb0] at hq
              exact ⟨q, by rw [show o' + off + j = o' + (off + j) by omega]; exact hq, hrq⟩
          · rename_i hge
            obtain ⟨q, hq, hrq⟩ := hA.get hj
            have := (List.getElem?_eq_some_iff.1 hq).1
            rw [if_pos (by omega)]
            exact ⟨q, by rw [show o' + off + j - (o' + off + len * (tb.at e).size) = j - len * (tb.at e).size by omega]; exact hq, hrq⟩)
        refine ⟨_, _, run_append hcal hty harg ho ?_, ⟨_, _, hC2, hs2, .inr (.inr ⟨b, o' + off, cc, by simp [upd], rfl, hroom, _, e', (0, 0), setRow_heap w b cur _ e' (0, 0) hb0, ?_⟩)⟩⟩
        · rw [hv]; exact hrun
        · simp only [List.size_toArray, List.length_append, List.length_take, List.length_drop, Array.length_toList]
          omega
      · have hxv' : A0 = some ⟨b, o' + off, none⟩ ∧ c0 = cc := by rw [hv] at hxv; cases hxv; exact ⟨rfl, rfl⟩
        obtain ⟨rfl, rfl⟩ := hxv'
        rw [hv] at hold
        have hrun := run_app_grow (ty := o.type) htn hun hi hz (by rw [hby]; exact h5) hold hnew (by omega) hb'
        have hp := grown_ok (n := len) (mm := mm) (cap := grownCap w (len + mm) c0 e) hT hCg h4 hsz hzs hA0 hA hlo hln (grownCap_ge _ _ _ _)
        rw [hglen] at hp
        refine ⟨_, _, run_append hcal hty harg ho ?_, hp.trans hsg⟩
        rw [hv]
        exact hrun
  · have hH := getM_some hg
    have hown : m.own = true := by
      cases m with
      | sync => rfl
      | al => rfl
      | low => simp [applyE] at he
      | free => simp [applyE] at he
    rw [nx_own hown]
    have he1 := applyE_nil (applyE_push (applyE_set he))
    subst he1
    obtain ⟨b0, o0, hr0, hcells, hownb⟩ := hC.obj _ _ hH
    have hlen : ((cs.drop off).take (len * (tb.at e).size)).length = len * (tb.at e).size := by simp; omega
    obtain ⟨hCg, hsg⟩ := gone_ok hC hH rfl
    have hglen : (H.set id Ob.gone).length = H.length := by simp
    have hb' : (len + mm) * inf.bytes ≤ 140737488355328 := by rw [hby]; exact hb
    rw [hs] at hx
    simp only [RV, RV1, RC] at hx
    rcases hx with ⟨hgn, _⟩ | ⟨_, hr, _, _⟩ | ⟨b, o', cc, hr, hv, hnc, hcapx⟩
    · unfold GN at hgn; rw [hH] at hgn; cases hgn
    · rw [hr0] at hr; cases hr
    · obtain ⟨hb1, ho1⟩ : b0 = b ∧ o0 = o' := by rw [hr] at hr0; cases hr0; exact ⟨rfl, rfl⟩
      rw [hb1, ho1] at hcells
      have hget : ∀ (j : Nat) (c : C), ((cs.drop off).take (len * (tb.at e).size))[j]? = some c → cs[off + j]? = some c := by
        intro j c hj
        rw [List.getElem?_take] at hj
        split at hj
        · rwa [List.getElem?_drop] at hj
        · cases hj
      have hmem : MemC w I ρ H b (o' + off) ((cs.drop off).take (len * (tb.at e).size)) := by
        intro j c hj
        obtain ⟨u, hu, hru⟩ := hcells _ c (hget j c hj)
        exact ⟨u, by rw [show o' + off + j = o' + (off + j) by omega]; exact hu, hru⟩
      obtain ⟨olds, hA0, hcell0⟩ := memC_list hmem
      have hlo : olds.length = len * (tb.at e).size := by rw [← hA0.length]; exact hlen
      have hold : Src P w inf.size (a.eval x) len olds := by
        rw [hv, hsz]
        refine src_of hlo (fun u hu => ?_) (.inr ⟨_, rfl, fun j u hj => by rw [add_plain]; exact hcell0 j u hj⟩)
        obtain ⟨j, hj⟩ := List.getElem?_of_mem hu
        obtain ⟨c, _, hrc⟩ := hA0.get' hj
        exact RC_one hrc
      by_cases hroom : len + mm ≤ cc
      · obtain ⟨cur, e', hb0⟩ := (hC.own ⟨_, hH, rfl⟩ hr).2
        have hcap0 : o' + off + cc * (tb.at e).size ≤ cur.size := by
          obtain ⟨arr, e2, fz, h7, h8⟩ := hcapx
          rw [hb0] at h7
          cases h7
          exact h8
        have hmul : len * (tb.at e).size + news.length ≤ cc * (tb.at e).size := by rw [hln, ← Nat.add_mul]; exact Nat.mul_le_mul_right _ hroom
        have hfit' : o' + off + len * inf.size + news.length ≤ cur.size := by rw [hsz]; omega
        have hrun := run_app_room (ty := o.type) htn hun hi hb0 hnew hroom hfit'
        obtain ⟨hC2, hs2⟩ := take_ok (off' := o' + off) (o' := .mix false ((cs.drop off).take (len * (tb.at e).size) ++ new.map .t)) hC hH rfl hr rfl (wr_setRow hb0 hfit') (fun j t hj => by
          rw [splice_get _ _ _ hfit', hsz]
          rw [List.getElem?_append, hlen] at hj
          split at hj
          · rename_i hlt
            rw [if_neg (by omega)]
            obtain ⟨q, hq, hrq⟩ := hmem j t hj
            rw [cell_at hb0] at hq
            exact ⟨q, hq, hrq⟩
          · rename_i hge
            rw [List.getElem?_map] at hj
            cases hnj : new[j - len * (tb.at e).size]? with
            | none => rw [hnj] at hj; cases hj
            | some t0 =>
              rw [hnj] at hj
              cases hj
              obtain ⟨q, hq, hrq⟩ := hA.get hnj
              have := (List.getElem?_eq_some_iff.1 hq).1
              rw [if_pos (by omega)]
              exact ⟨q, by rw [show o' + off + j - (o' + off + len * (tb.at e).size) = j - len * (tb.at e).size by omega]; exact hq, hrq⟩)
        refine go_value (run_append hcal hty harg ho ?_) ⟨_, _, hC2, hs2, .inr (.inr ⟨b, o' + off, cc, by simp [upd], rfl, hroom, _, e', (0, 0), setRow_heap w b cur _ e' (0, 0) hb0, ?_⟩)⟩
        · rw [hv]; exact hrun
        · simp only [List.size_toArray, List.length_append, List.length_take, List.length_drop, Array.length_toList]
          omega
      · rw [hv] at hold
        have hrun := run_app_grow (ty := o.type) htn hun hi hz (by rw [hby]; exact h5) hold hnew (by omega) hb'
        have hp := grown_okC (e := e) (sz := (tb.at e).size) (n := len) (mm := mm) (cap := grownCap w (len + mm) cc e) hCg hzs (hA0.imp fun c u h => RC_stp hC hsg h) hA hlo hln (grownCap_ge _ _ _ _)
        rw [hglen] at hp
        refine go_value (run_append hcal hty harg ho ?_) (hp.trans hsg)
        rw [hv]
        exact hrun
end
end Go.AM
