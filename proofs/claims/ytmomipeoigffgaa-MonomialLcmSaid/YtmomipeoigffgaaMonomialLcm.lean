/- MonomialLcm: for all slices a, b and c the law returns true, and the arguments read as they did. No condition. -/
import Derived.Test.YtmomipeoigffgaaOrc
import Derived.Test.YtmomipeoigffgaaWalkj
set_option linter.unusedVariables false
namespace Go.Proofs.Ytmomipeoigffgaa
open Go Go.AM Go.ChangeShapes Go.WideShapes Go.ChangeAt Go.RowKit
theorem monomialLcmCells3 : Try.prog.cellsOf 3 = 1 := by kernel_rfl
set_option maxRecDepth 100000 in
theorem monomialLcm_lifted (os : Os) (started : os.Started) (H : Type) (enc : TypeId × Value → H) :
    ReturnsInHanded {} Try.checked os 9 .any (Rows.monomialLcmSpec.pre6 enc Try.prog Try.f9 Rows.monomialLcmRow.domain false) (Rows.monomialLcmSpec.post enc Try.prog Try.f9 false true false false) := by
  refine returnsInHanded_of_change (C := Try.checked) Try.own started (by kernel_rfl) Try.func9
    (ChangeSpec.witness6 (enc := enc) (C := Try.checked) false ⟨#[], #[.slice none 0 0, .slice none 0 0, .slice none 0 0], []⟩ 8 (by kernel_rfl) (by kernel_rfl) (by kernel_rfl) (by kernel_rfl)) ?_
  intro W base args ds gs before hval0 hW hcnd _
  have hval : ∀ (j : Nat) t v, Try.f9.params[j]? = some t → args[j]? = some v → Value.okWide Try.prog W .any base t v := hval0
  have hW' := hW
  obtain ⟨p, q, hA0, hV, rfl, hfz, hnd⟩ := hW
  have hA : DataW.TrodAll enc Try.prog W 0 (fun _ => true) true Try.f9.params.toList args.toList ds p := hA0
  rw [Try.params9] at hA hval
  obtain ⟨v0, v1, v2, d0, d1, d2, p0, p1, p2, rfl, rfl, rfl, h0, h1, h2⟩ := trodAll_three hA
  obtain ⟨rfl, rfl⟩ := trodVars_none hV
  simp only [List.append_nil] at hW'
  have hlt : ∀ x ∈ p0 ++ p1 ++ p2, x.block < W.heap.size := fun x hx => by simpa using hW'.lt x hx
  have hl0 : ∀ x ∈ p0, x.block < W.heap.size := fun x hx => hlt x (by simp [hx])
  obtain ⟨a0, r0, w0, m0⟩ := open_nums Try.underlying31 Try.underlying3 monomialLcmCells3 (hval 0 31 v0 rfl rfl) h0 hl0
  have hl1 : ∀ x ∈ p1, x.block < W.heap.size := fun x hx => hlt x (by simp [hx])
  obtain ⟨a1, r1, w1, m1⟩ := open_nums Try.underlying31 Try.underlying3 monomialLcmCells3 (hval 1 31 v1 rfl rfl) h1 hl1
  have hl2 : ∀ x ∈ p2, x.block < W.heap.size := fun x hx => hlt x (by simp [hx])
  obtain ⟨a2, r2, w2, m2⟩ := open_nums Try.underlying31 Try.underlying3 monomialLcmCells3 (hval 2 31 v2 rfl rfl) h2 hl2
  refine (law_calls (orcOk 100) (ev9 a0 a1 a2 100 (by omega)) (.cons r0 (.cons r1 (.cons r2 .nil)))).mono ?_
  rintro e W' ⟨rfl, hnx⟩
  have ha0 := Below.trod Try.laidOut (by kernel_rfl) (of_decide_eq_true (by kernel_rfl)) h0 hnx hl0
  have ha1 := Below.trod Try.laidOut (by kernel_rfl) (of_decide_eq_true (by kernel_rfl)) h1 hnx hl1
  have ha2 := Below.trod Try.laidOut (by kernel_rfl) (of_decide_eq_true (by kernel_rfl)) h2 hnx hl2
  rw [List.append_assoc] at hW'
  exact ⟨_, rfl, _, _, _, [], p0 ++ (p1 ++ p2), [], hW', trodAll_mk1 (shut_bool Try.underlying4 true), trodAll_mk3 ha0 ha1 ha2, rfl, hnx.frame _, fun h => by cases h⟩

theorem monomialLcm_holds : Rows.MonomialLcmSaid :=
  OpenClaim.holds_of_wide 9 Try.f9 rfl rfl rfl rfl rfl rfl rfl ⟨rfl, rfl, rfl, rfl, rfl⟩ rfl rfl rfl rfl rfl (by kernel_rfl) Try.func9 (by kernel_rfl)
    (of_decide_eq_true (by kernel_rfl)) (by unfold Func.isWrapper; first | (rw [if_pos (by decide +kernel)]; kernel_rfl) | (rw [if_neg (by decide +kernel)]; exact ⟨rfl, rfl⟩))
    (fun os started H enc _ => monomialLcm_lifted os started H enc)
end Go.Proofs.Ytmomipeoigffgaa
