/- The machine's answers are the program's: what is owed of each function. -/
import Derived.Test.YtmomipeoigffgaaRows
import Derived.Test.YtmomipeoigffgaaComp
import Derived.Test.YtmomipeoigffgaaWalk
import Derived.Test.YtmomipeoigffgaaAmRow
set_option linter.unusedVariables false
namespace Go.Proofs.Ytmomipeoigffgaa
open Go Go.AM

theorem Try.own : ownKnob Try.prog.godebug = none := by kernel_rfl
theorem Try.laidOut : laidOutB Try.prog = true := by kernel_rfl
theorem mixed : Try.prog.follows .mixedOrders = true := by kernel_rfl
theorem tbOk : TabOk Try.prog tb := TabOk.of (by kernel_rfl)
def Good (f : FuncId) (fd : Fun) : Prop := ∃ fn : Func, Try.prog.funcs[f]? = some fn ∧ comp tb fn = some fd ∧ (fn.name == "runtime.NumGoroutine") = false
theorem good3 : Good 3 F3 := ⟨Try.f3, Try.func3, comp3, by kernel_rfl⟩
theorem good4 : Good 4 F4 := ⟨Try.f4, Try.func4, comp4, by kernel_rfl⟩
theorem good5 : Good 5 F5 := ⟨Try.f5, Try.func5, comp5, by kernel_rfl⟩
theorem good6 : Good 6 F6 := ⟨Try.f6, Try.func6, comp6, by kernel_rfl⟩
theorem good7 : Good 7 F7 := ⟨Try.f7, Try.func7, comp7, by kernel_rfl⟩
theorem good8 : Good 8 F8 := ⟨Try.f8, Try.func8, comp8, by kernel_rfl⟩
theorem good9 : Good 9 F9 := ⟨Try.f9, Try.func9, comp9, by kernel_rfl⟩
theorem good10 : Good 10 F10 := ⟨Try.f10, Try.func10, comp10, by kernel_rfl⟩
theorem good11 : Good 11 F11 := ⟨Try.f11, Try.func11, comp11, by kernel_rfl⟩
theorem good12 : Good 12 F12 := ⟨Try.f12, Try.func12, comp12, by kernel_rfl⟩
theorem good13 : Good 13 F13 := ⟨Try.f13, Try.func13, comp13, by kernel_rfl⟩
theorem good14 : Good 14 F14 := ⟨Try.f14, Try.func14, comp14, by kernel_rfl⟩
theorem good15 : Good 15 F15 := ⟨Try.f15, Try.func15, comp15, by kernel_rfl⟩
theorem good16 : Good 16 F16 := ⟨Try.f16, Try.func16, comp16, by kernel_rfl⟩
theorem good17 : Good 17 F17 := ⟨Try.f17, Try.func17, comp17, by kernel_rfl⟩
theorem good18 : Good 18 F18 := ⟨Try.f18, Try.func18, comp18, by kernel_rfl⟩
theorem good19 : Good 19 F19 := ⟨Try.f19, Try.func19, comp19, by kernel_rfl⟩
theorem good20 : Good 20 F20 := ⟨Try.f20, Try.func20, comp20, by kernel_rfl⟩
theorem good21 : Good 21 F21 := ⟨Try.f21, Try.func21, comp21, by kernel_rfl⟩
theorem good22 : Good 22 F22 := ⟨Try.f22, Try.func22, comp22, by kernel_rfl⟩
theorem good23 : Good 23 F23 := ⟨Try.f23, Try.func23, comp23, by kernel_rfl⟩
theorem good24 : Good 24 F24 := ⟨Try.f24, Try.func24, comp24, by kernel_rfl⟩
theorem good25 : Good 25 F25 := ⟨Try.f25, Try.func25, comp25, by kernel_rfl⟩
theorem good26 : Good 26 F26 := ⟨Try.f26, Try.func26, comp26, by kernel_rfl⟩
theorem good27 : Good 27 F27 := ⟨Try.f27, Try.func27, comp27, by kernel_rfl⟩
theorem good28 : Good 28 F28 := ⟨Try.f28, Try.func28, comp28, by kernel_rfl⟩
theorem good29 : Good 29 F29 := ⟨Try.f29, Try.func29, comp29, by kernel_rfl⟩
theorem good30 : Good 30 F30 := ⟨Try.f30, Try.func30, comp30, by kernel_rfl⟩
theorem good31 : Good 31 F31 := ⟨Try.f31, Try.func31, comp31, by kernel_rfl⟩
theorem good32 : Good 32 F32 := ⟨Try.f32, Try.func32, comp32, by kernel_rfl⟩
theorem good33 : Good 33 F33 := ⟨Try.f33, Try.func33, comp33, by kernel_rfl⟩
theorem good34 : Good 34 F34 := ⟨Try.f34, Try.func34, comp34, by kernel_rfl⟩
theorem good35 : Good 35 F35 := ⟨Try.f35, Try.func35, comp35, by kernel_rfl⟩
theorem good36 : Good 36 F36 := ⟨Try.f36, Try.func36, comp36, by kernel_rfl⟩
theorem good37 : Good 37 F37 := ⟨Try.f37, Try.func37, comp37, by kernel_rfl⟩
theorem good38 : Good 38 F38 := ⟨Try.f38, Try.func38, comp38, by kernel_rfl⟩
theorem good39 : Good 39 F39 := ⟨Try.f39, Try.func39, comp39, by kernel_rfl⟩
theorem good40 : Good 40 F40 := ⟨Try.f40, Try.func40, comp40, by kernel_rfl⟩
theorem good41 : Good 41 F41 := ⟨Try.f41, Try.func41, comp41, by kernel_rfl⟩
theorem good42 : Good 42 F42 := ⟨Try.f42, Try.func42, comp42, by kernel_rfl⟩
theorem good43 : Good 43 F43 := ⟨Try.f43, Try.func43, comp43, by kernel_rfl⟩
theorem good44 : Good 44 F44 := ⟨Try.f44, Try.func44, comp44, by kernel_rfl⟩
theorem good45 : Good 45 F45 := ⟨Try.f45, Try.func45, comp45, by kernel_rfl⟩
theorem good46 : Good 46 F46 := ⟨Try.f46, Try.func46, comp46, by kernel_rfl⟩
theorem look_mem : ∀ {l : List (FuncId × Fun)} {f : FuncId} {fd : Fun}, Go.AM.look f l = some fd → (f, fd) ∈ l
  | (g, x) :: l, f, fd, h => by
    simp only [Go.AM.look] at h
    split at h
    · rename_i hg
      cases h
      subst hg
      exact List.mem_cons_self ..
    · exact List.mem_cons_of_mem _ (look_mem h)
theorem allGood : ∀ p ∈ fns, Good p.1 p.2 := by
  unfold fns
  simp only [List.forall_mem_cons]
  exact ⟨good3, good4, good5, good6, good7, good8, good9, good10, good11, good12, good13, good14, good15, good16, good17, good18, good19, good20, good21, good22, good23, good24, good25, good26, good27, good28, good29, good30, good31, good32, good33, good34, good35, good36, good37, good38, good39, good40, good41, good42, good43, good44, good45, good46, by simp⟩
theorem fnsOk : FnsOk Try.prog G := fun f fd h => allGood (f, fd) (look_mem h)
theorem orcOk (n : Nat) : OrcOk Try.prog (pcall G n) := pcall_ok mixed tbOk fnsOk n
end Go.Proofs.Ytmomipeoigffgaa
