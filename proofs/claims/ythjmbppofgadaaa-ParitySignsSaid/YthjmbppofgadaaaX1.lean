import Derived.Test.YthjmbppofgadaaaRows
import Derived.Test.YthjmbppofgadaaaT3
import Derived.Test.YthjmbppofgadaaaB1
import Derived.Test.YthjmbppofgadaaaA5
import Derived.Test.YthjmbppofgadaaaW12
set_option linter.unusedVariables false
set_option linter.unnecessarySimpa false
set_option linter.all false
set_option linter.unusedSimpArgs false
set_option linter.defProp false
namespace Go.Proofs.Ythjmbppofgadaaa
open Go Go.AM
theorem Try.own : ownKnob Try.prog.godebug = none := by kernel_rfl
theorem Try.laidOut : laidOutB Try.prog = true := by kernel_rfl
theorem mixed : Try.prog.follows .mixedOrders = true := by kernel_rfl
theorem tbOk : TabOk Try.prog tb := TabOk.of (by kernel_rfl)
def Good (f : FuncId) (fd : Fun) : Prop := ∃ fn : Func, Try.prog.funcs[f]? = some fn ∧ (∃ ob, comp tb ob fn = some fd) ∧ (fn.name == "runtime.NumGoroutine") = false
theorem good3 : Good 3 F3 := ⟨Try.f3, Try.func3, ⟨_, comp3⟩, by kernel_rfl⟩
theorem good6 : Good 6 F6 := ⟨Try.f6, Try.func6, ⟨_, comp6⟩, by kernel_rfl⟩
theorem good7 : Good 7 F7 := ⟨Try.f7, Try.func7, ⟨_, comp7⟩, by kernel_rfl⟩
theorem good8 : Good 8 F8 := ⟨Try.f8, Try.func8, ⟨_, comp8⟩, by kernel_rfl⟩
theorem good9 : Good 9 F9 := ⟨Try.f9, Try.func9, ⟨_, comp9⟩, by kernel_rfl⟩
theorem good10 : Good 10 F10 := ⟨Try.f10, Try.func10, ⟨_, comp10⟩, by kernel_rfl⟩
theorem good14 : Good 14 F14 := ⟨Try.f14, Try.func14, ⟨_, comp14⟩, by kernel_rfl⟩
theorem good16 : Good 16 F16 := ⟨Try.f16, Try.func16, ⟨_, comp16⟩, by kernel_rfl⟩
theorem good17 : Good 17 F17 := ⟨Try.f17, Try.func17, ⟨_, comp17⟩, by kernel_rfl⟩
theorem good20 : Good 20 F20 := ⟨Try.f20, Try.func20, ⟨_, comp20⟩, by kernel_rfl⟩
theorem good21 : Good 21 F21 := ⟨Try.f21, Try.func21, ⟨_, comp21⟩, by kernel_rfl⟩
theorem good22 : Good 22 F22 := ⟨Try.f22, Try.func22, ⟨_, comp22⟩, by kernel_rfl⟩
theorem good23 : Good 23 F23 := ⟨Try.f23, Try.func23, ⟨_, comp23⟩, by kernel_rfl⟩
theorem good24 : Good 24 F24 := ⟨Try.f24, Try.func24, ⟨_, comp24⟩, by kernel_rfl⟩
theorem good25 : Good 25 F25 := ⟨Try.f25, Try.func25, ⟨_, comp25⟩, by kernel_rfl⟩
theorem good26 : Good 26 F26 := ⟨Try.f26, Try.func26, ⟨_, comp26⟩, by kernel_rfl⟩
theorem good27 : Good 27 F27 := ⟨Try.f27, Try.func27, ⟨_, comp27⟩, by kernel_rfl⟩
theorem good28 : Good 28 F28 := ⟨Try.f28, Try.func28, ⟨_, comp28⟩, by kernel_rfl⟩
theorem good29 : Good 29 F29 := ⟨Try.f29, Try.func29, ⟨_, comp29⟩, by kernel_rfl⟩
theorem good32 : Good 32 F32 := ⟨Try.f32, Try.func32, ⟨_, comp32⟩, by kernel_rfl⟩
theorem good33 : Good 33 F33 := ⟨Try.f33, Try.func33, ⟨_, comp33⟩, by kernel_rfl⟩
theorem good34 : Good 34 F34 := ⟨Try.f34, Try.func34, ⟨_, comp34⟩, by kernel_rfl⟩
theorem good36 : Good 36 F36 := ⟨Try.f36, Try.func36, ⟨_, comp36⟩, by kernel_rfl⟩
theorem good40 : Good 40 F40 := ⟨Try.f40, Try.func40, ⟨_, comp40⟩, by kernel_rfl⟩
theorem good42 : Good 42 F42 := ⟨Try.f42, Try.func42, ⟨_, comp42⟩, by kernel_rfl⟩
theorem good43 : Good 43 F43 := ⟨Try.f43, Try.func43, ⟨_, comp43⟩, by kernel_rfl⟩
theorem good44 : Good 44 F44 := ⟨Try.f44, Try.func44, ⟨_, comp44⟩, by kernel_rfl⟩
theorem good45 : Good 45 F45 := ⟨Try.f45, Try.func45, ⟨_, comp45⟩, by kernel_rfl⟩
theorem good46 : Good 46 F46 := ⟨Try.f46, Try.func46, ⟨_, comp46⟩, by kernel_rfl⟩
theorem good47 : Good 47 F47 := ⟨Try.f47, Try.func47, ⟨_, comp47⟩, by kernel_rfl⟩
theorem good49 : Good 49 F49 := ⟨Try.f49, Try.func49, ⟨_, comp49⟩, by kernel_rfl⟩
theorem good50 : Good 50 F50 := ⟨Try.f50, Try.func50, ⟨_, comp50⟩, by kernel_rfl⟩
theorem good51 : Good 51 F51 := ⟨Try.f51, Try.func51, ⟨_, comp51⟩, by kernel_rfl⟩
theorem good52 : Good 52 F52 := ⟨Try.f52, Try.func52, ⟨_, comp52⟩, by kernel_rfl⟩
theorem good53 : Good 53 F53 := ⟨Try.f53, Try.func53, ⟨_, comp53⟩, by kernel_rfl⟩
theorem good54 : Good 54 F54 := ⟨Try.f54, Try.func54, ⟨_, comp54⟩, by kernel_rfl⟩
theorem good55 : Good 55 F55 := ⟨Try.f55, Try.func55, ⟨_, comp55⟩, by kernel_rfl⟩
theorem good56 : Good 56 F56 := ⟨Try.f56, Try.func56, ⟨_, comp56⟩, by kernel_rfl⟩
theorem good57 : Good 57 F57 := ⟨Try.f57, Try.func57, ⟨_, comp57⟩, by kernel_rfl⟩
theorem good58 : Good 58 F58 := ⟨Try.f58, Try.func58, ⟨_, comp58⟩, by kernel_rfl⟩
theorem good59 : Good 59 F59 := ⟨Try.f59, Try.func59, ⟨_, comp59⟩, by kernel_rfl⟩
theorem good60 : Good 60 F60 := ⟨Try.f60, Try.func60, ⟨_, comp60⟩, by kernel_rfl⟩
theorem good61 : Good 61 F61 := ⟨Try.f61, Try.func61, ⟨_, comp61⟩, by kernel_rfl⟩
theorem good62 : Good 62 F62 := ⟨Try.f62, Try.func62, ⟨_, comp62⟩, by kernel_rfl⟩
theorem good63 : Good 63 F63 := ⟨Try.f63, Try.func63, ⟨_, comp63⟩, by kernel_rfl⟩
theorem good64 : Good 64 F64 := ⟨Try.f64, Try.func64, ⟨_, comp64⟩, by kernel_rfl⟩
theorem good65 : Good 65 F65 := ⟨Try.f65, Try.func65, ⟨_, comp65⟩, by kernel_rfl⟩
theorem good66 : Good 66 F66 := ⟨Try.f66, Try.func66, ⟨_, comp66⟩, by kernel_rfl⟩
theorem good67 : Good 67 F67 := ⟨Try.f67, Try.func67, ⟨_, comp67⟩, by kernel_rfl⟩
theorem good68 : Good 68 F68 := ⟨Try.f68, Try.func68, ⟨_, comp68⟩, by kernel_rfl⟩
theorem good69 : Good 69 F69 := ⟨Try.f69, Try.func69, ⟨_, comp69⟩, by kernel_rfl⟩
theorem good70 : Good 70 F70 := ⟨Try.f70, Try.func70, ⟨_, comp70⟩, by kernel_rfl⟩
theorem good71 : Good 71 F71 := ⟨Try.f71, Try.func71, ⟨_, comp71⟩, by kernel_rfl⟩
theorem good72 : Good 72 F72 := ⟨Try.f72, Try.func72, ⟨_, comp72⟩, by kernel_rfl⟩
theorem good73 : Good 73 F73 := ⟨Try.f73, Try.func73, ⟨_, comp73⟩, by kernel_rfl⟩
theorem good74 : Good 74 F74 := ⟨Try.f74, Try.func74, ⟨_, comp74⟩, by kernel_rfl⟩
theorem good75 : Good 75 F75 := ⟨Try.f75, Try.func75, ⟨_, comp75⟩, by kernel_rfl⟩
theorem good76 : Good 76 F76 := ⟨Try.f76, Try.func76, ⟨_, comp76⟩, by kernel_rfl⟩
theorem good77 : Good 77 F77 := ⟨Try.f77, Try.func77, ⟨_, comp77⟩, by kernel_rfl⟩
theorem good79 : Good 79 F79 := ⟨Try.f79, Try.func79, ⟨_, comp79⟩, by kernel_rfl⟩
theorem good80 : Good 80 F80 := ⟨Try.f80, Try.func80, ⟨_, comp80⟩, by kernel_rfl⟩
theorem good81 : Good 81 F81 := ⟨Try.f81, Try.func81, ⟨_, comp81⟩, by kernel_rfl⟩
theorem good82 : Good 82 F82 := ⟨Try.f82, Try.func82, ⟨_, comp82⟩, by kernel_rfl⟩
theorem good83 : Good 83 F83 := ⟨Try.f83, Try.func83, ⟨_, comp83⟩, by kernel_rfl⟩
theorem good84 : Good 84 F84 := ⟨Try.f84, Try.func84, ⟨_, comp84⟩, by kernel_rfl⟩
theorem good85 : Good 85 F85 := ⟨Try.f85, Try.func85, ⟨_, comp85⟩, by kernel_rfl⟩
theorem good86 : Good 86 F86 := ⟨Try.f86, Try.func86, ⟨_, comp86⟩, by kernel_rfl⟩
theorem good89 : Good 89 F89 := ⟨Try.f89, Try.func89, ⟨_, comp89⟩, by kernel_rfl⟩
theorem good97 : Good 97 F97 := ⟨Try.f97, Try.func97, ⟨_, comp97⟩, by kernel_rfl⟩
theorem good98 : Good 98 F98 := ⟨Try.f98, Try.func98, ⟨_, comp98⟩, by kernel_rfl⟩
theorem good102 : Good 102 F102 := ⟨Try.f102, Try.func102, ⟨_, comp102⟩, by kernel_rfl⟩
theorem look_mem : ∀ {l : List (FuncId × Fun)} {f : FuncId} {fd : Fun}, Go.AM.look f l = some fd → (f, fd) ∈ l
  | (g, x) :: l, f, fd, h => by
    simp only [Go.AM.look] at h
    split at h
    · rename_i hg
      cases h
      subst hg
      exact List.mem_cons_self ..
    · exact List.mem_cons_of_mem _ (look_mem h)
theorem allGood : ∀ p ∈ fns, Good p.1 p.2 := by
  unfold fns
  simp only [List.forall_mem_cons]
  exact ⟨good3, good6, good7, good8, good9, good10, good14, good16, good17, good20, good21, good22, good23, good24, good25, good26, good27, good28, good29, good32, good33, good34, good36, good40, good42, good43, good44, good45, good46, good47, good49, good50, good51, good52, good53, good54, good55, good56, good57, good58, good59, good60, good61, good62, good63, good64, good65, good66, good67, good68, good69, good70, good71, good72, good73, good74, good75, good76, good77, good79, good80, good81, good82, good83, good84, good85, good86, good89, good97, good98, good102, by simp⟩
theorem fnsOk : FnsOk Try.prog G := fun f fd h => allGood (f, fd) (look_mem h)
theorem extOk : OrcOk Try.prog ext := by
  intro f vs H r H' h
  unfold ext at h
  split at h
  · rename_i hf
    subst hf
    cases H with
    | nil =>
      simp only [onNil, Option.map_eq_some_iff] at h
      obtain ⟨v, hv, hr⟩ := h
      cases hr
      exact add_ok Try.func87 (by kernel_rfl) (by kernel_rfl) (by kernel_rfl) (by kernel_rfl) hv
    | cons o H => cases h
  split at h
  · rename_i hf
    subst hf
    cases H with
    | nil =>
      simp only [onNil, Option.map_eq_some_iff] at h
      obtain ⟨v, hv, hr⟩ := h
      cases hr
      exact sub_ok Try.func101 (by kernel_rfl) (by kernel_rfl) (by kernel_rfl) (by kernel_rfl) hv
    | cons o H => cases h
  cases h
theorem orcOk (n : Nat) : OrcOk Try.prog (pcall G n) := pcall_ok mixed tbOk fnsOk extOk n
end Go.Proofs.Ythjmbppofgadaaa
