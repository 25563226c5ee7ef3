import Derived.Test.YtmomipeoigffgaaTab
namespace Go.Proofs.Ytmomipeoigffgaa
open Go.AM
theorem comp3 : comp tb Try.f3 = some F3 := by kernel_rfl
theorem comp4 : comp tb Try.f4 = some F4 := by kernel_rfl
theorem comp5 : comp tb Try.f5 = some F5 := by kernel_rfl
theorem comp6 : comp tb Try.f6 = some F6 := by kernel_rfl
theorem comp7 : comp tb Try.f7 = some F7 := by kernel_rfl
theorem comp8 : comp tb Try.f8 = some F8 := by kernel_rfl
theorem comp9 : comp tb Try.f9 = some F9 := by kernel_rfl
theorem comp10 : comp tb Try.f10 = some F10 := by kernel_rfl
theorem comp11 : comp tb Try.f11 = some F11 := by kernel_rfl
theorem comp12 : comp tb Try.f12 = some F12 := by kernel_rfl
theorem comp13 : comp tb Try.f13 = some F13 := by kernel_rfl
theorem comp14 : comp tb Try.f14 = some F14 := by kernel_rfl
theorem comp15 : comp tb Try.f15 = some F15 := by kernel_rfl
theorem comp16 : comp tb Try.f16 = some F16 := by kernel_rfl
theorem comp17 : comp tb Try.f17 = some F17 := by kernel_rfl
theorem comp18 : comp tb Try.f18 = some F18 := by kernel_rfl
theorem comp19 : comp tb Try.f19 = some F19 := by kernel_rfl
theorem comp20 : comp tb Try.f20 = some F20 := by kernel_rfl
theorem comp21 : comp tb Try.f21 = some F21 := by kernel_rfl
theorem comp22 : comp tb Try.f22 = some F22 := by kernel_rfl
theorem comp23 : comp tb Try.f23 = some F23 := by kernel_rfl
theorem comp24 : comp tb Try.f24 = some F24 := by kernel_rfl
theorem comp25 : comp tb Try.f25 = some F25 := by kernel_rfl
theorem comp26 : comp tb Try.f26 = some F26 := by kernel_rfl
theorem comp27 : comp tb Try.f27 = some F27 := by kernel_rfl
theorem comp28 : comp tb Try.f28 = some F28 := by kernel_rfl
theorem comp29 : comp tb Try.f29 = some F29 := by kernel_rfl
theorem comp30 : comp tb Try.f30 = some F30 := by kernel_rfl
theorem comp31 : comp tb Try.f31 = some F31 := by kernel_rfl
theorem comp32 : comp tb Try.f32 = some F32 := by kernel_rfl
theorem comp33 : comp tb Try.f33 = some F33 := by kernel_rfl
theorem comp34 : comp tb Try.f34 = some F34 := by kernel_rfl
theorem comp35 : comp tb Try.f35 = some F35 := by kernel_rfl
theorem comp36 : comp tb Try.f36 = some F36 := by kernel_rfl
theorem comp37 : comp tb Try.f37 = some F37 := by kernel_rfl
theorem comp38 : comp tb Try.f38 = some F38 := by kernel_rfl
theorem comp39 : comp tb Try.f39 = some F39 := by kernel_rfl
theorem comp40 : comp tb Try.f40 = some F40 := by kernel_rfl
theorem comp41 : comp tb Try.f41 = some F41 := by kernel_rfl
theorem comp42 : comp tb Try.f42 = some F42 := by kernel_rfl
theorem comp43 : comp tb Try.f43 = some F43 := by kernel_rfl
theorem comp44 : comp tb Try.f44 = some F44 := by kernel_rfl
theorem comp45 : comp tb Try.f45 = some F45 := by kernel_rfl
theorem comp46 : comp tb Try.f46 = some F46 := by kernel_rfl
end Go.Proofs.Ytmomipeoigffgaa
