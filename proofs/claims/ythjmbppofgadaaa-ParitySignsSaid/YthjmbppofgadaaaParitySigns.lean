/- ParitySigns: for every list of polynomials the law returns true, and the argument reads as it did. No condition. -/
import Derived.Test.YthjmbppofgadaaaX1
import Derived.Test.YthjmbppofgadaaaW12
set_option linter.unusedVariables false
set_option linter.unnecessarySimpa false
set_option linter.all false
set_option linter.unusedSimpArgs false
set_option linter.defProp false
namespace Go.Proofs.Ythjmbppofgadaaa
open Go Go.AM Go.ChangeShapes Go.WideShapes Go.ChangeAt Go.RowKit
theorem paritySignsArg0 : Opn Try.prog 22 (fun t => ∃ l : List Po, t = [.sl l.length (rows encPo l)]) :=
  opn_polys (tp := 41) (tt := 48) (tts := 39) (ti := 3) (tis := 31) (ts := 9) Try.underlying22 Try.underlying41 rfl rfl rfl rfl Try.underlying39 Try.underlying48 rfl rfl rfl rfl Try.underlying9 Try.underlying31 Try.underlying3 (by kernel_rfl) (by kernel_rfl) (by kernel_rfl) (by kernel_rfl) (by kernel_rfl) (by kernel_rfl)
set_option maxRecDepth 100000 in
theorem paritySigns_lifted (os : Os) (started : os.Started) (H : Type) (enc : TypeId × Value → H) :
    ReturnsInHanded {} Try.checked os 3 .any (Rows.paritySignsSpec.pre6 enc Try.prog Try.f3 Rows.paritySignsRow.domain false) (Rows.paritySignsSpec.post enc Try.prog Try.f3 false true false false) := by
  refine returnsInHanded_of_change (C := Try.checked) Try.own started (by kernel_rfl) Try.func3
    (ChangeSpec.witness6 (enc := enc) (C := Try.checked) false ⟨#[], #[.slice none 0 0], []⟩ 8 (by kernel_rfl) (by kernel_rfl) (by kernel_rfl) (by kernel_rfl)) ?_
  intro W base args ds gs before hval0 hW hcnd _
  have hval : ∀ (j : Nat) t v, Try.f3.params[j]? = some t → args[j]? = some v → Value.okWide Try.prog W .any base t v := hval0
  have hW' := hW
  obtain ⟨p, q, hA0, hV, rfl, hfz, hnd⟩ := hW
  have hA : DataW.TrodAll enc Try.prog W 0 (fun _ => true) true Try.f3.params.toList args.toList ds p := hA0
  rw [Try.params3] at hA hval
  obtain ⟨v0, d0, rfl, rfl, h0⟩ := trodAll_one hA
  obtain ⟨rfl, rfl⟩ := trodVars_none hV
  simp only [List.append_nil] at hW'
  have hlt : ∀ x ∈ p, x.block < W.heap.size := fun x hx => by simpa using hW'.lt x hx
  have hl0 := hlt
  have c0 : v0.cells = #[v0] := by obtain ⟨_, _, _, rfl⟩ := okWide_slice Try.underlying22 (hval 0 22 v0 rfl rfl); rfl
  obtain ⟨a0, r0⟩ := open_slot paritySignsArg0 c0 h0 hl0
  refine (law_calls (orcOk 400000000000) (f := 3) ⟨Try.f3, Try.func3, by kernel_rfl, by kernel_rfl⟩ (ev_law a0 400000000000 rfl) (.cons r0 .nil)).mono ?_
  rintro e W' ⟨rfl, hnx⟩
  have ha0 := Below.trod Try.laidOut (by kernel_rfl) (of_decide_eq_true (by kernel_rfl)) h0 hnx hl0
  exact ⟨_, rfl, _, _, _, [], p, [], hW', trodAll_mk1 (shut_bool Try.underlying4 true), trodAll_mk1 ha0, rfl, hnx.frame _, fun h => by cases h⟩
theorem paritySigns_holds : Rows.ParitySignsSaid :=
  OpenClaim.holds_of_wide 3 Try.f3 rfl rfl rfl rfl rfl rfl rfl ⟨rfl, rfl, rfl, rfl, rfl⟩ rfl rfl rfl rfl rfl (by kernel_rfl) Try.func3 (by kernel_rfl)
    (of_decide_eq_true (by kernel_rfl)) (by unfold Func.isWrapper; first | (rw [if_pos (by decide +kernel)]; kernel_rfl) | (rw [if_neg (by decide +kernel)]; exact ⟨rfl, rfl⟩))
    (fun os started H enc _ => paritySigns_lifted os started H enc)
end Go.Proofs.Ythjmbppofgadaaa
