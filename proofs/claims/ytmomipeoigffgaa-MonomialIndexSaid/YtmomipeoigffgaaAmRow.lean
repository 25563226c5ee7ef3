/- From the abstract machine's answer to a row: the arguments read, the world below as it was. -/
import Derived.Test.YtmomipeoigffgaaAmCalls
import Derived.Test.YtmomipeoigffgaaAmSym
import Derived.ProofKit
import Derived.SizedLaws
set_option linter.unusedVariables false
namespace Go.AM
open Go.ChangeShapes Go.WideShapes Go.ChangeAt Go.RowKit


theorem law_calls {P : Program} {orc : Orc} (hO : OrcOk P orc) {f : FuncId} {vs : List V} {H' : List Ob} (h : orc f vs [] = some (tru, H')) {w : World} {us : List Value} (hA : A2 (RV w (· < w.heap.size) (fun _ => none) []) vs us) :
    Calls P f us.toArray w fun e w' => e = .returned (.bool true) ∧ Below w.heap.size w w' := by
  have hC : Ctx (· < w.heap.size) (fun _ => none) [] w := ⟨by simp, fun _ h => h, by simp, by simp⟩
  refine ((hO f vs [] tru H' h).2 _ _ w us hC hA).mono ?_
  rintro e w' ⟨v', I', ρ', rfl, _, hv, hE, _⟩
  have hv' : v' = .bool true := hv
  subst hv'
  exact ⟨rfl, hE.os, hE.tape, hE.output, hE.size, fun b hb => hE.same b hb (by rintro ⟨id, off, ⟨o, h, _⟩, _⟩; simp at h)⟩

/-- A slice of integers among the arguments. -/
theorem open_nums {H : Type} {enc : TypeId × Value → H} {P : Program} {W : World} {b0 t e : Nat} {v : Value} {d : DataW H} {ps : List MemPlace} (ht : P.underlying t = some (.slice e)) (he : P.underlying e = some (.int .i64)) (hc : P.cellsOf e = 1)
    (hval : Value.okWide P W .any b0 t v) (h : DataW.Trod enc P W 0 (fun _ => true) true t v d ps) (hlt : ∀ x ∈ ps, x.block < W.heap.size) :
    ∃ xs : List Int, RV W (· < W.heap.size) (fun _ => none) [] (nums xs) v ∧ (∀ n ∈ xs, (Lit.int .i64 n).wf = true) ∧ xs.length ≤ maxLen := by
  obtain ⟨a0, len, cap, rfl⟩ := okWide_slice ht hval
  obtain ⟨fuel, hf⟩ := h
  rcases open_ints ht he hc hf with ⟨hcs, hx⟩ | ⟨a, len', cap', zs, hcs, _, hl, hm, hz, hx, hcell, hwz⟩
  · simp [Value.cells] at hcs
    obtain ⟨rfl, rfl, rfl⟩ := hcs
    exact ⟨[], ⟨none, 0, rfl, Nat.le_refl _, .inl ⟨rfl, rfl⟩⟩, by simp, by simp⟩
  · simp [Value.cells] at hcs
    obtain ⟨rfl, rfl, rfl⟩ := hcs
    simp only [if_true] at hz
    have hlen : (zs.take len).length = len := by simp; omega
    refine ⟨zs.take len, ⟨some a, cap, by rw [hlen], by rw [hlen]; exact hl, .inr ⟨a, rfl, RTs_mk fun j c hj => ?_⟩⟩, fun n hn => hwz n (List.mem_of_mem_take hn), by omega⟩
    rw [List.getElem?_map] at hj
    cases hz' : (zs.take len)[j]? with
    | none => rw [hz'] at hj; cases hj
    | some z =>
      rw [hz'] at hj
      simp only [Option.map_some, Option.some.injEq] at hj
      subst hj
      have hjl := (List.getElem?_eq_some_iff.1 hz').1
      rw [hlen] at hjl
      have hce := hcell j (by omega)
      rw [List.getElem?_take, if_pos hjl] at hz'
      rw [List.getD_eq_getElem?_getD, hz'] at hce
      simp only [Option.getD_some] at hce
      refine ⟨?_, _, by rw [Nat.zero_add]; exact hce, rfl⟩
      by_cases hb : a.block < W.heap.size
      · exact hb
      · have hn : W.heap[a.block]? = none := by simp; omega
        have : (a.add j).block = a.block := by unfold Addr.add; split <;> rfl
        simp [World.cell?, this, hn] at hce

theorem open_num {H : Type} {enc : TypeId × Value → H} {P : Program} {W : World} {b0 t : Nat} {v : Value} {d : DataW H} {ps : List MemPlace} (ht : P.underlying t = some (.int .i64))
    (hval : Value.okWide P W .any b0 t v) (h : DataW.Trod enc P W 0 (fun _ => true) true t v d ps) :
    ∃ n : Int, RV W (· < W.heap.size) (fun _ => none) [] (num n) v ∧ (Lit.int .i64 n).wf = true := by
  obtain ⟨n, rfl, _, _, hw⟩ := open_int ht hval h
  exact ⟨n, rfl, hw⟩

end Go.AM
