/- Appending. -/
import Derived.Test.YtmomipeoigffgaaAmMem
set_option linter.unusedVariables false
set_option linter.unusedSimpArgs false
namespace Go.AM

section
variable {P : Program} {I I' : Nat → Prop} {ρ ρ' : Rho} {H H' : List Ob} {w w' : World} {tb : Tab}

/-- Where the appended cells come from. -/
structure Src (P : Program) (w : World) (sz : Nat) (xv : Value) (m : Nat) (news : List Value) : Prop where
  slice : ∃ A c, xv = .slice A m c
  first : ∀ W : World, W.heap = w.heap → (Builtin.firstCells sz m xv).run P W = .ok news.toArray W
  len : news.length = m * sz
  one : ∀ u ∈ news, u.oneCell' = true

theorem cell_heap {w W : World} (h : W.heap = w.heap) (a : Addr) : W.cell? a = w.cell? a := by simp [World.cell?, h]

theorem src_of {sz m : Nat} {A : Option Addr} {c : Nat} {news : List Value} (hl : news.length = m * sz) (h1 : ∀ u ∈ news, u.oneCell' = true) (h : news = [] ∨ ∃ ad, A = some ad ∧ ∀ j v, news[j]? = some v → w.cell? (ad.add j) = some v) :
    Src P w sz (.slice A m c) m news := by
  refine ⟨⟨A, c, rfl⟩, fun W hW => ?_, hl, h1⟩
  rcases h with rfl | ⟨ad, rfl, hc⟩
  · cases A with
    | none => exact run_firstCells_none (P := P) W sz m 0 c ▸ by simp [Builtin.firstCells]
    | some ad => exact run_firstCells_some (P := P) W sz m ad m c [] hl (by simp)
  · exact run_firstCells_some (P := P) W sz m ad m c news hl fun j v hv => by rw [cell_heap hW]; exact hc j v hv

theorem run_app_grow {t u ty e f : TypeId} {i : TypeInfo} {z : Value} (ht : P.underlying t = some (.slice e)) (hu : P.underlying u = some (.slice f)) (hi : P.info? e = some i) (hz : i.zero = some z) (hby : 1 ≤ i.bytes)
    {A : Option Addr} {sLen sCap : Nat} {olds : List Value} (hold : Src P w i.size (.slice A sLen sCap) sLen olds)
    {xv : Value} {n : Nat} {news : List Value} (hnew : Src P w i.size xv n news)
    (hg : sCap < sLen + n) (hb : (sLen + n) * i.bytes ≤ 140737488355328) :
    (Builtin.append_ #[t, u] ty #[.slice A sLen sCap, xv]).run P w =
      .ok (.slice (some ⟨w.heap.size, 0, none⟩) (sLen + n) (grownCap w (sLen + n) sCap e))
        (w.drew.alloc (.cells (olds.toArray ++ news.toArray ++ Builtin.zeroCells z.cells (grownCap w (sLen + n) sCap e - (sLen + n))) e)) := by
  have hn : ¬ (sLen + n ≤ sCap) := by omega
  have hle : sLen + n ≤ 140737488355328 := Nat.le_trans (Nat.le_mul_of_pos_right _ hby) hb
  have h63' : ¬ (9223372036854775807 < ((sLen : Int) + (n : Int))) := by omega
  have h48 := growslice_fits (old := sCap) (need := sLen + n) (by omega) hb
  have h48' : ¬ (281474976710656 < Builtin.nextslicecap (sLen + n) sCap * i.bytes) := by omega
  have hf := hnew.first w.drew rfl
  have hfo := hold.first w.drew rfl
  have hlen : (Builtin.lenOf xv).run P w = .ok n w := by obtain ⟨A', c', rfl⟩ := hnew.slice; simp [Builtin.lenOf]
  simp [Builtin.append_, run_underlying ht, run_underlying hu, sizeOf, typeInfo, zeroValue, hi, hz, hlen, hn, h63', h48', Question.forced, hf, hfo, newRow, grownCap]
  congr 2
  apply Array.ext'
  simp [List.append_assoc]

theorem run_app_room {t u ty e f : TypeId} {i : TypeInfo} (ht : P.underlying t = some (.slice e)) (hu : P.underlying u = some (.slice f)) (hi : P.info? e = some i)
    {g o sLen sCap : Nat} {cur : Array Value} {e' : TypeId} (hg : w.heap[g]? = some (.cells cur e' (0, 0)))
    {xv : Value} {m : Nat} {news : List Value} (hnew : Src P w i.size xv m news)
    (hroom : sLen + m ≤ sCap) (hfit : o + sLen * i.size + news.length ≤ cur.size) :
    (Builtin.append_ #[t, u] ty #[.slice (some ⟨g, o, none⟩) sLen sCap, xv]).run P w =
      .ok (.slice (some ⟨g, o, none⟩) (sLen + m) sCap) (w.setRow g (cur.toList.take (o + sLen * i.size) ++ news ++ cur.toList.drop (o + sLen * i.size + news.length)).toArray) := by
  have hf := hnew.first w rfl
  have hst := run_storeCells_at P g (o + sLen * i.size) e' news 0 cur w hg (by simpa using hfit) hnew.one
  simp only [Nat.add_zero] at hst
  have hlen : (Builtin.lenOf xv).run P w = .ok m w := by obtain ⟨A', c', rfl⟩ := hnew.slice; simp [Builtin.lenOf]
  simp [Builtin.append_, run_underlying ht, run_underlying hu, sizeOf, typeInfo, hi, hlen, hroom, hf, add_plain, hst]

theorem run_app_none {t u ty e f : TypeId} {i : TypeInfo} (ht : P.underlying t = some (.slice e)) (hu : P.underlying u = some (.slice f)) (hi : P.info? e = some i)
    {xv : Value} (hnew : Src P w i.size xv 0 []) : (Builtin.append_ #[t, u] ty #[.slice none 0 0, xv]).run P w = .ok (.slice none 0 0) w := by
  have hf := hnew.first w rfl
  have hlen : (Builtin.lenOf xv).run P w = .ok 0 w := by obtain ⟨A', c', rfl⟩ := hnew.slice; simp [Builtin.lenOf]
  simp [Builtin.append_, run_underlying ht, run_underlying hu, sizeOf, typeInfo, hi, hlen, hf]

/-- A new object in a block that was another's: the other is gone. -/
theorem take_ok (hC : Ctx I ρ H w) {id b off off' : Nat} {o o' : Ob} (ho : H[id]? = some o) (hm : o.mine) (hr : ρ id = some (b, off)) (hm' : o'.mine) {arr' : Array Value} (hw : Wr w b w' arr')
    (hc : Cont w I ρ H off' arr' o') : Ctx I (upd ρ H.length (b, off')) (H.set id .gone ++ [o']) w' ∧ Stp I ρ H w I (upd ρ H.length (b, off')) (H.set id .gone ++ [o']) w' := by
  have hmi : mine H id := ⟨o, ho, hm⟩
  have hng : o ≠ .gone := by rintro rfl; exact hm.elim
  have hown := hC.own hmi hr
  have hsame : ∀ i, I i → w'.heap[i]? = w.heap[i]? := fun i hi => hw.other i (by rintro rfl; exact hown.1 hi)
  have hlen : (H.set id Ob.gone).length = H.length := by simp
  have mine_of : ∀ i, mine (H.set id .gone ++ [o']) i → (i ≠ id ∧ mine H i) ∨ i = H.length := by
    intro i hi
    rcases mine_append hi with h | ⟨h, _⟩
    · rcases mine_set h with ⟨_, h⟩ | h
      · exact h.elim
      · exact .inl h
    · exact .inr (by omega)
  have hs : Stp I ρ H w I (upd ρ H.length (b, off')) (H.set id .gone ++ [o']) w' := by
    refine ⟨by simp, fun i hi => by simp [upd]; omega, fun i hg => ?_, fun i hi => ⟨hi, hsame i hi⟩, hw.os, hw.tape, hw.output, by rw [hw.size]; exact Nat.le_refl _, fun i _ hi => hw.other i ?_, fun _ _ h => hw.cap h, fun _ h => h, fun _ h => .inl h, fun i hi => ?_⟩
    · have := gone_set (o := .gone) ⟨o, ho, hng⟩ hg
      unfold GN at this ⊢
      rw [List.getElem?_append_left (List.getElem?_eq_some_iff.1 this).1]; exact this
    · rintro rfl; exact hi ⟨id, off, hmi, hr⟩
    · obtain ⟨j, oo, hj, hjr⟩ := hi
      rcases mine_of j hj with ⟨_, h⟩ | rfl
      · have := mine_lt h
        rw [upd, if_neg (by omega)] at hjr
        exact .inl ⟨j, oo, h, hjr⟩
      · simp [upd] at hjr
        rw [← hjr.1]
        exact .inl ⟨id, off, hmi, hr⟩
  refine ⟨⟨fun i ob hob => ?_, fun i hi => by rw [hw.size]; exact hC.lt i hi, fun i p hp => ?_, fun i j b' o1 o2 h1 h2 h3 h4 => ?_⟩, hs⟩
  · rw [List.getElem?_append] at hob
    split at hob
    · rename_i hl
      rw [hlen] at hl
      rcases get_set hob with ⟨rfl, rfl⟩ | ⟨hne, hob⟩
      · trivial
      · refine RO_keep hC hs (hC.obj i ob hob) hl fun b' off2 hg hr' => ⟨hw.other b' ?_, fun h => h⟩
        rintro rfl
        by_cases hmo : ob.mine
        · exact hne (hC.inj _ _ _ _ _ ⟨ob, hob, hmo⟩ hmi hr' hr)
        · have h := hC.obj i ob hob
          cases ob with
          | gone => exact hg rfl
          | flat fr cs =>
            rcases h with ⟨h, _⟩ | ⟨b2, o2, h1, _, h3⟩
            · rw [h] at hr'; cases hr'
            · rw [h1] at hr'; cases hr'
              cases fr with
              | true => exact hown.1 h3
              | false => exact hmo rfl
          | mix fr cs =>
            obtain ⟨b2, o2, h1, _, h3⟩ := h
            rw [h1] at hr'; cases hr'
            cases fr with
            | true => exact hown.1 h3
            | false => exact hmo rfl
    · rename_i hl
      have h0 : i - (H.set id Ob.gone).length = 0 := by
        have := (List.getElem?_eq_some_iff.1 hob).1
        simp at this
        omega
      rw [h0] at hob
      simp at hob
      subst hob
      have : i = H.length := by omega
      subst this
      obtain ⟨arr, e, _, h2, _⟩ := hw.here
      exact RO_of_cont hC hs hm' (by simp [upd]) h2 hown.1 hc
  · simp only [upd] at hp
    split at hp
    · simp; omega
    · have := hC.dom i p hp; simp; omega
  · have key : ∀ i b' o1, mine (H.set id .gone ++ [o']) i → upd ρ H.length (b, off') i = some (b', o1) → (i ≠ id ∧ mine H i ∧ ρ i = some (b', o1)) ∨ (i = H.length ∧ b' = b) := by
      intro i b' o1 hi hir
      rcases mine_of i hi with ⟨h1, h2⟩ | rfl
      · have := mine_lt h2
        rw [upd, if_neg (by omega)] at hir
        exact .inl ⟨h1, h2, hir⟩
      · simp [upd] at hir
        exact .inr ⟨rfl, hir.1.symm⟩
    rcases key _ _ _ h1 h3 with ⟨a0, a1, a2⟩ | ⟨a1, a2⟩ <;> rcases key _ _ _ h2 h4 with ⟨b0, b1, b2⟩ | ⟨b1, b2⟩
    · exact hC.inj _ _ _ _ _ a1 b1 a2 b2
    · exact (a0 (hC.inj _ _ _ _ _ a1 hmi a2 (by rw [b2]; exact hr))).elim
    · exact (b0 (hC.inj _ _ _ _ _ b1 hmi b2 (by rw [a2]; exact hr))).elim
    · omega

theorem gone_ok (hC : Ctx I ρ H w) {id : Nat} {o : Ob} (ho : H[id]? = some o) (hm : o.mine) : Ctx I ρ (H.set id .gone) w ∧ Stp I ρ H w I ρ (H.set id .gone) w := by
  have hng : o ≠ .gone := by rintro rfl; exact hm.elim
  have f : ∀ i, mine (H.set id .gone) i → mine H i := fun i hi => by
    rcases mine_set hi with ⟨_, h⟩ | ⟨_, h⟩
    · exact h.elim
    · exact h
  have hs : Stp I ρ H w I ρ (H.set id .gone) w :=
    ⟨by simp, fun _ _ => rfl, fun i hg => gone_set ⟨o, ho, hng⟩ hg, fun i hi => ⟨hi, rfl⟩, rfl, rfl, rfl, Nat.le_refl _, fun _ _ _ => rfl, fun _ _ h => h, fun _ h => h, fun _ h => .inl h, fun i ⟨j, oo, hj, hjr⟩ => .inl ⟨j, oo, f j hj, hjr⟩⟩
  refine ⟨⟨fun i ob hob => ?_, hC.lt, fun i p hp => by simp; exact hC.dom i p hp, fun i j b' o1 o2 h1 h2 h3 h4 => hC.inj i j b' o1 o2 (f i h1) (f j h2) h3 h4⟩, hs⟩
  rcases get_set hob with ⟨rfl, rfl⟩ | ⟨hne, hob⟩
  · trivial
  · exact RO_keep hC hs (hC.obj i ob hob) (List.getElem?_eq_some_iff.1 hob).1 fun b' off2 _ _ => ⟨rfl, fun h => h⟩

/-- The same world but for what was drawn. -/
theorem drew_ok (hC : Ctx I ρ H w) : Ctx I ρ H w.drew ∧ Stp I ρ H w I ρ H w.drew := by
  have hs : Stp I ρ H w I ρ H w.drew := ⟨Nat.le_refl _, fun _ _ => rfl, fun _ h => h, fun _ h => ⟨h, rfl⟩, rfl, rfl, rfl, Nat.le_refl _, fun _ _ _ => rfl, fun _ _ h => h, fun _ h => h, fun _ h => .inl h, fun _ h => .inl h⟩
  exact ⟨⟨fun id o ho => RO_keep hC hs (hC.obj id o ho) (List.getElem?_eq_some_iff.1 ho).1 fun _ _ _ _ => ⟨rfl, fun h => h⟩, hC.lt, hC.dom, hC.inj⟩, hs⟩

end
end Go.AM
