import Derived.Test.YthjmbppofgadaaaT4
import Derived.Test.YthjmbppofgadaaaB1
set_option linter.unusedVariables false
set_option linter.unnecessarySimpa false
set_option linter.all false
set_option linter.unusedSimpArgs false
set_option linter.defProp false
namespace Go.Proofs.Ythjmbppofgadaaa
open Go Go.AM
set_option maxHeartbeats 4000000
theorem ev_trim (xs : List Int) (off len : Nat) (fz : Bool) (h : off + len ≤ xs.length) (hx : xs.length ≤ 1000000000) (n : Nat) (hn : len + 10 ≤ n) :
    pcall G n 81 [.c (.osl 0 off len 1)] [.flat fz (ks .u32 xs)] = some (.c (.osl 0 off (trimL ((xs.drop off).take len)).length 1), [.flat fz (ks .u32 xs)]) := by
  obtain ⟨n, rfl⟩ : ∃ m, n = m + 1 := ⟨n - 1, by omega⟩; rw [pcall_at fn81 rfl, imp81, G_tb]
  simp -implicitDefEqProofs (disch := (first | omega | assumption | fail)) only [QB, QL, Nat.reduceSub, Nat.reduceAdd, Nat.reduceLeDiff, Nat.reduceEqDiff, reduceCtorEq, ↓reduceIte, Int.reduceAdd, Int.reduceSub, Int.reduceToNat, Int.reduceLT, Int.reduceLE, Int.reduceEq, Int.reduceNeg, Nat.reduceLT, QT3, QT4, QT85, QT93]
  refine loop_up len (fun i fr H => ∃ l : Nat, fr = [.c (.osl 0 off l 1), .any, .c (.t (.sl 0 [])), .any, .any, .any, .any, .any, .any, .any, .any, .any, .any, .any, .any, .any, .any, .any, .any, .any, .any] ∧ H = [.flat fz (ks .u32 xs)] ∧ l ≤ len ∧ i + l = len ∧ trimL ((xs.drop off).take len) = trimL ((xs.drop off).take l)) ?_ ?_ ?_
  · rintro i fr H n hi ⟨l, rfl, rfl, h1, h2, hT⟩ IH
    simp -implicitDefEqProofs (disch := (first | omega | assumption | fail)) only [QB, QL, Nat.reduceSub, Nat.reduceAdd, Nat.reduceLeDiff, Nat.reduceEqDiff, reduceCtorEq, ↓reduceIte, Int.reduceAdd, Int.reduceSub, Int.reduceToNat, Int.reduceLT, Int.reduceLE, Int.reduceEq, Int.reduceNeg, Nat.reduceLT, QT3, QT4, QT85, QT93]
    by_cases h3 : (0 : Int) < l <;> simp (disch := omega) only [h3, decide_true, decide_false, Bool.not_true, Bool.not_false, reduceCtorEq, ↓reduceIte, Option.bind_some]
    · simp -implicitDefEqProofs (disch := (first | omega | assumption | fail)) only [QB, QL, Nat.reduceSub, Nat.reduceAdd, Nat.reduceLeDiff, Nat.reduceEqDiff, reduceCtorEq, ↓reduceIte, Int.reduceAdd, Int.reduceSub, Int.reduceToNat, Int.reduceLT, Int.reduceLE, Int.reduceEq, Int.reduceNeg, Nat.reduceLT, QT3, QT4, QT85, QT93, ldO_f]
      have e : off + ((l : Int) - 1).toNat = off + (l - 1) := by omega
      have e2 : ((l : Int) - 1).toNat = l - 1 := by omega
      rw [e]
      by_cases h4 : xs.getD (off + (l - 1)) 0 = 0 <;> simp (disch := omega) only [h4, decide_true, decide_false, Bool.not_true, Bool.not_false, reduceCtorEq, ↓reduceIte, Option.bind_some]
      · simp -implicitDefEqProofs (disch := (first | omega | assumption | fail)) only [QB, QL, Nat.reduceSub, Nat.reduceAdd, Nat.reduceLeDiff, Nat.reduceEqDiff, reduceCtorEq, ↓reduceIte, Int.reduceAdd, Int.reduceSub, Int.reduceToNat, Int.reduceLT, Int.reduceLE, Int.reduceEq, Int.reduceNeg, Nat.reduceLT, QT3, QT4, QT85, QT93, h4]
        rw [e2]
        refine IH _ (by omega) ⟨_, _, ?_, l - 1, rfl, rfl, by omega, by omega, ?_⟩
        · kernel_rfl
        · rw [hT, take_last (by omega) (by omega), h4, trimL_zero]
      · simp -implicitDefEqProofs (disch := (first | omega | assumption | fail)) only [QB, QL, Nat.reduceSub, Nat.reduceAdd, Nat.reduceLeDiff, Nat.reduceEqDiff, reduceCtorEq, ↓reduceIte, Int.reduceAdd, Int.reduceSub, Int.reduceToNat, Int.reduceLT, Int.reduceLE, Int.reduceEq, Int.reduceNeg, Nat.reduceLT, QT3, QT4, QT85, QT93]
        rw [hT, take_last (by omega) (by omega), trimL_last h4, ← take_last (by omega) (by omega)]
        simp
        omega
    · have : l = 0 := by omega
      subst this
      simp -implicitDefEqProofs (disch := (first | omega | assumption | fail)) only [QB, QL, Nat.reduceSub, Nat.reduceAdd, Nat.reduceLeDiff, Nat.reduceEqDiff, reduceCtorEq, ↓reduceIte, Int.reduceAdd, Int.reduceSub, Int.reduceToNat, Int.reduceLT, Int.reduceLE, Int.reduceEq, Int.reduceNeg, Nat.reduceLT, QT3, QT4, QT85, QT93]
      rw [hT]
      rfl
  · omega
  · refine ⟨_, _, ?_, len, rfl, rfl, Nat.le_refl _, by omega, rfl⟩
    kernel_rfl
end Go.Proofs.Ythjmbppofgadaaa

namespace Go.Proofs.Ythjmbppofgadaaa
open Go Go.AM
set_option maxHeartbeats 4000000
abbrev row (xs : List Int) : V := .c (.t (rowK .u32 xs))
theorem ev_addL (xs ys : List Int) (wxs : Ws 4294967296 xs) (wys : Ws 4294967296 ys) (hx : xs.length ≤ 100000000) (hy : ys.length ≤ 100000000) (n : Nat) (hn : xs.length + ys.length + 20 ≤ n) :
    pcall G n 79 [row xs, row ys] [] = some (row (dig 4294967296 (val 4294967296 xs + val 4294967296 ys).toNat), []) := by
  obtain ⟨n, rfl⟩ : ∃ m, n = m + 1 := ⟨n - 1, by omega⟩; rw [pcall_at fn79 rfl, imp79, G_tb]
  simp -implicitDefEqProofs (disch := first | omega | assumption | (simp only [QN] <;> omega)) only [QB, QL, Nat.reduceSub, Nat.reduceAdd, Nat.reduceLeDiff, Nat.reduceEqDiff, reduceCtorEq, ↓reduceIte, Int.reduceAdd, Int.reduceSub, Int.reduceToNat, Int.reduceLT, Int.reduceLE, Int.reduceEq, Int.reduceNeg, Nat.reduceLT, QT3, QT4, QT85, QT93, QT87, t_cz1 imp81, t_cz2 imp81, t_cj1 imp81, t_cj2 imp81, t_cj3 imp81]
  by_cases h1 : (xs.length : Int) < ys.length <;> simp (disch := omega) only [h1, decide_true, decide_false, Bool.not_true, Bool.not_false, reduceCtorEq, ↓reduceIte, Option.bind_some]
  · simp -implicitDefEqProofs (disch := first | omega | assumption | (simp only [QN] <;> omega)) only [QB, QL, Nat.reduceSub, Nat.reduceAdd, Nat.reduceLeDiff, Nat.reduceEqDiff, reduceCtorEq, ↓reduceIte, Int.reduceAdd, Int.reduceSub, Int.reduceToNat, Int.reduceLT, Int.reduceLE, Int.reduceEq, Int.reduceNeg, Nat.reduceLT, QT3, QT4, QT85, QT93, QT87, t_cz1 imp81, t_cz2 imp81, t_cj1 imp81, t_cj2 imp81, t_cj3 imp81]
    refine loop_up ys.length (fun i fr H => ∃ (c : Int) (zs : List Int), fr = [row ys, row xs, .any, .any, .c (.t (.sl 0 [])), .c (.osl 0 0 (ys.length + 1) 1), wd c, num i, .any, .any, .any, .any, .any, .any, .any, .any, .any, .any, .any, .any, .any, .any, .any, .any, .any, .any, .any, .any, .any, .any, .any, .any, .any, .any, .any, .any, .any, .any, .any, .any, .any, .any, .any, .any, .any, .any, .any, .any, .any, .any, .any, .any, .any, .any, .any, .any, .any, .any] ∧ H = [objK .u32 (zs ++ List.replicate (ys.length + 1 - i) 0)] ∧
      zs.length = i ∧ Ws 4294967296 zs ∧ 0 ≤ c ∧ c ≤ 1 ∧ val 4294967296 zs + 4294967296 ^ i * c = val 4294967296 (ys.take i) + val 4294967296 (xs.take i)) ?_ ?_ ?_
    · rintro i fr H n hi ⟨c, zs, rfl, rfl, hl, hz, hc0, hc1, hv⟩ IH
      have hA := Ws.getD (by decide) wys i
      have hB := Ws.getD (by decide) wxs i
      simp -implicitDefEqProofs (disch := first | omega | assumption | (simp only [QN] <;> omega)) only [QB, QL, Nat.reduceSub, Nat.reduceAdd, Nat.reduceLeDiff, Nat.reduceEqDiff, reduceCtorEq, ↓reduceIte, Int.reduceAdd, Int.reduceSub, Int.reduceToNat, Int.reduceLT, Int.reduceLE, Int.reduceEq, Int.reduceNeg, Nat.reduceLT, QT3, QT4, QT85, QT93, QT87, t_cz1 imp81, t_cz2 imp81, t_cj1 imp81, t_cj2 imp81, t_cj3 imp81]
      by_cases h3 : (i : Int) < ys.length <;> simp (disch := omega) only [h3, decide_true, decide_false, Bool.not_true, Bool.not_false, reduceCtorEq, ↓reduceIte, Option.bind_some]
      · simp -implicitDefEqProofs (disch := first | omega | assumption | (simp only [QN] <;> omega)) only [QB, QL, Nat.reduceSub, Nat.reduceAdd, Nat.reduceLeDiff, Nat.reduceEqDiff, reduceCtorEq, ↓reduceIte, Int.reduceAdd, Int.reduceSub, Int.reduceToNat, Int.reduceLT, Int.reduceLE, Int.reduceEq, Int.reduceNeg, Nat.reduceLT, QT3, QT4, QT85, QT93, QT87, t_cz1 imp81, t_cz2 imp81, t_cj1 imp81, t_cj2 imp81, t_cj3 imp81, wu64', wu32]
        by_cases h4 : (i : Int) < xs.length <;> simp (disch := omega) only [h4, decide_true, decide_false, Bool.not_true, Bool.not_false, reduceCtorEq, ↓reduceIte, Option.bind_some]
        · simp -implicitDefEqProofs (disch := first | omega | assumption | (simp only [QN] <;> omega)) only [QB, QL, Nat.reduceSub, Nat.reduceAdd, Nat.reduceLeDiff, Nat.reduceEqDiff, reduceCtorEq, ↓reduceIte, Int.reduceAdd, Int.reduceSub, Int.reduceToNat, Int.reduceLT, Int.reduceLE, Int.reduceEq, Int.reduceNeg, Nat.reduceLT, QT3, QT4, QT85, QT93, QT87, t_cz1 imp81, t_cz2 imp81, t_cj1 imp81, t_cj2 imp81, t_cj3 imp81, wu64', wu32]
          rw [set_fill hl (by omega)]
          refine IH _ (by omega) ⟨_, _, ?_, (c + ys.getD i 0 + xs.getD i 0) / 4294967296, zs ++ [(c + ys.getD i 0 + xs.getD i 0) % 4294967296], rfl, rfl, by simp [hl], Ws.append.2 ⟨hz, Ws.cons.2 ⟨by omega, Ws.nil⟩⟩, by omega, by omega, ?_⟩
          · rw [show ys.length + 1 - i - 1 = ys.length + 1 - (i + 1) by omega]
            kernel_rfl
          · rw [val_take, val_take, val_append, hl]
            exact add_step hv (by omega)
        · simp -implicitDefEqProofs (disch := first | omega | assumption | (simp only [QN] <;> omega)) only [QB, QL, Nat.reduceSub, Nat.reduceAdd, Nat.reduceLeDiff, Nat.reduceEqDiff, reduceCtorEq, ↓reduceIte, Int.reduceAdd, Int.reduceSub, Int.reduceToNat, Int.reduceLT, Int.reduceLE, Int.reduceEq, Int.reduceNeg, Nat.reduceLT, QT3, QT4, QT85, QT93, QT87, t_cz1 imp81, t_cz2 imp81, t_cj1 imp81, t_cj2 imp81, t_cj3 imp81, wu64', wu32]
          rw [set_fill hl (by omega)]
          have hB0 : xs.getD i 0 = 0 := by rw [List.getD_eq_getElem?_getD, List.getElem?_eq_none (by omega)]; rfl
          refine IH _ (by omega) ⟨_, _, ?_, (c + ys.getD i 0) / 4294967296, zs ++ [(c + ys.getD i 0) % 4294967296], rfl, rfl, by simp [hl], Ws.append.2 ⟨hz, Ws.cons.2 ⟨by omega, Ws.nil⟩⟩, by omega, by omega, ?_⟩
          · rw [show ys.length + 1 - i - 1 = ys.length + 1 - (i + 1) by omega]
            kernel_rfl
          · rw [val_take, val_take, val_append, hl]
            exact add_step hv (by omega)
      · simp -implicitDefEqProofs (disch := first | omega | assumption | (simp only [QN] <;> omega)) only [QB, QL, Nat.reduceSub, Nat.reduceAdd, Nat.reduceLeDiff, Nat.reduceEqDiff, reduceCtorEq, ↓reduceIte, Int.reduceAdd, Int.reduceSub, Int.reduceToNat, Int.reduceLT, Int.reduceLE, Int.reduceEq, Int.reduceNeg, Nat.reduceLT, QT3, QT4, QT85, QT93, QT87, t_cz1 imp81, t_cz2 imp81, t_cj1 imp81, t_cj2 imp81, t_cj3 imp81, wu64', wu32]
        have hi' : i = ys.length := by omega
        subst hi'
        rw [set_fill hl (by omega)]
        simp -implicitDefEqProofs (disch := first | omega | assumption | (simp only [QN] <;> omega)) only [QB, QL, Nat.reduceSub, Nat.reduceAdd, Nat.reduceLeDiff, Nat.reduceEqDiff, reduceCtorEq, ↓reduceIte, Int.reduceAdd, Int.reduceSub, Int.reduceToNat, Int.reduceLT, Int.reduceLE, Int.reduceEq, Int.reduceNeg, Nat.reduceLT, QT3, QT4, QT85, QT93, QT87, t_cz1 imp81, t_cz2 imp81, t_cj1 imp81, t_cj2 imp81, t_cj3 imp81, ev_trim]
        rw [trim_row (b := 4294967296) (by decide) (by simp [hl] <;> omega) (Ws.append.2 ⟨Ws.append.2 ⟨hz, Ws.cons.2 ⟨by omega, Ws.nil⟩⟩, by rw [Nat.add_sub_cancel_left]; exact Ws.nil⟩) (v := val 4294967296 xs + val 4294967296 ys)]
        rw [Nat.add_sub_cancel_left, Nat.sub_self, List.replicate_zero, List.append_nil, val_append, hl]
        rw [val_take_all _ (Nat.le_refl _), val_take_all _ (by omega)] at hv
        have : c % 4294967296 = c := by omega
        rw [this]
        simp only [val, Int.mul_zero, Int.add_zero]
        first | exact hv | exact hv.trans (Int.add_comm _ _)
    · omega
    · have e : ((ys.length : Int) + 1).toNat = ys.length + 1 := by omega
      refine ⟨_, _, ?_, 0, [], rfl, rfl, rfl, Ws.nil, by omega, by omega, by simp [val]⟩
      rw [e]
      kernel_rfl
  · simp -implicitDefEqProofs (disch := first | omega | assumption | (simp only [QN] <;> omega)) only [QB, QL, Nat.reduceSub, Nat.reduceAdd, Nat.reduceLeDiff, Nat.reduceEqDiff, reduceCtorEq, ↓reduceIte, Int.reduceAdd, Int.reduceSub, Int.reduceToNat, Int.reduceLT, Int.reduceLE, Int.reduceEq, Int.reduceNeg, Nat.reduceLT, QT3, QT4, QT85, QT93, QT87, t_cz1 imp81, t_cz2 imp81, t_cj1 imp81, t_cj2 imp81, t_cj3 imp81]
    refine loop_up xs.length (fun i fr H => ∃ (c : Int) (zs : List Int), fr = [row xs, row ys, .any, .any, .c (.t (.sl 0 [])), .c (.osl 0 0 (xs.length + 1) 1), wd c, num i, .any, .any, .any, .any, .any, .any, .any, .any, .any, .any, .any, .any, .any, .any, .any, .any, .any, .any, .any, .any, .any, .any, .any, .any, .any, .any, .any, .any, .any, .any, .any, .any, .any, .any, .any, .any, .any, .any, .any, .any, .any, .any, .any, .any, .any, .any, .any, .any, .any, .any] ∧ H = [objK .u32 (zs ++ List.replicate (xs.length + 1 - i) 0)] ∧
      zs.length = i ∧ Ws 4294967296 zs ∧ 0 ≤ c ∧ c ≤ 1 ∧ val 4294967296 zs + 4294967296 ^ i * c = val 4294967296 (xs.take i) + val 4294967296 (ys.take i)) ?_ ?_ ?_
    · rintro i fr H n hi ⟨c, zs, rfl, rfl, hl, hz, hc0, hc1, hv⟩ IH
      have hA := Ws.getD (by decide) wxs i
      have hB := Ws.getD (by decide) wys i
      simp -implicitDefEqProofs (disch := first | omega | assumption | (simp only [QN] <;> omega)) only [QB, QL, Nat.reduceSub, Nat.reduceAdd, Nat.reduceLeDiff, Nat.reduceEqDiff, reduceCtorEq, ↓reduceIte, Int.reduceAdd, Int.reduceSub, Int.reduceToNat, Int.reduceLT, Int.reduceLE, Int.reduceEq, Int.reduceNeg, Nat.reduceLT, QT3, QT4, QT85, QT93, QT87, t_cz1 imp81, t_cz2 imp81, t_cj1 imp81, t_cj2 imp81, t_cj3 imp81]
      by_cases h3 : (i : Int) < xs.length <;> simp (disch := omega) only [h3, decide_true, decide_false, Bool.not_true, Bool.not_false, reduceCtorEq, ↓reduceIte, Option.bind_some]
      · simp -implicitDefEqProofs (disch := first | omega | assumption | (simp only [QN] <;> omega)) only [QB, QL, Nat.reduceSub, Nat.reduceAdd, Nat.reduceLeDiff, Nat.reduceEqDiff, reduceCtorEq, ↓reduceIte, Int.reduceAdd, Int.reduceSub, Int.reduceToNat, Int.reduceLT, Int.reduceLE, Int.reduceEq, Int.reduceNeg, Nat.reduceLT, QT3, QT4, QT85, QT93, QT87, t_cz1 imp81, t_cz2 imp81, t_cj1 imp81, t_cj2 imp81, t_cj3 imp81, wu64', wu32]
        by_cases h4 : (i : Int) < ys.length <;> simp (disch := omega) only [h4, decide_true, decide_false, Bool.not_true, Bool.not_false, reduceCtorEq, ↓reduceIte, Option.bind_some]
        · simp -implicitDefEqProofs (disch := first | omega | assumption | (simp only [QN] <;> omega)) only [QB, QL, Nat.reduceSub, Nat.reduceAdd, Nat.reduceLeDiff, Nat.reduceEqDiff, reduceCtorEq, ↓reduceIte, Int.reduceAdd, Int.reduceSub, Int.reduceToNat, Int.reduceLT, Int.reduceLE, Int.reduceEq, Int.reduceNeg, Nat.reduceLT, QT3, QT4, QT85, QT93, QT87, t_cz1 imp81, t_cz2 imp81, t_cj1 imp81, t_cj2 imp81, t_cj3 imp81, wu64', wu32]
          rw [set_fill hl (by omega)]
          refine IH _ (by omega) ⟨_, _, ?_, (c + xs.getD i 0 + ys.getD i 0) / 4294967296, zs ++ [(c + xs.getD i 0 + ys.getD i 0) % 4294967296], rfl, rfl, by simp [hl], Ws.append.2 ⟨hz, Ws.cons.2 ⟨by omega, Ws.nil⟩⟩, by omega, by omega, ?_⟩
          · rw [show xs.length + 1 - i - 1 = xs.length + 1 - (i + 1) by omega]
            kernel_rfl
          · rw [val_take, val_take, val_append, hl]
            exact add_step hv (by omega)
        · simp -implicitDefEqProofs (disch := first | omega | assumption | (simp only [QN] <;> omega)) only [QB, QL, Nat.reduceSub, Nat.reduceAdd, Nat.reduceLeDiff, Nat.reduceEqDiff, reduceCtorEq, ↓reduceIte, Int.reduceAdd, Int.reduceSub, Int.reduceToNat, Int.reduceLT, Int.reduceLE, Int.reduceEq, Int.reduceNeg, Nat.reduceLT, QT3, QT4, QT85, QT93, QT87, t_cz1 imp81, t_cz2 imp81, t_cj1 imp81, t_cj2 imp81, t_cj3 imp81, wu64', wu32]
          rw [set_fill hl (by omega)]
          have hB0 : ys.getD i 0 = 0 := by rw [List.getD_eq_getElem?_getD, List.getElem?_eq_none (by omega)]; rfl
          refine IH _ (by omega) ⟨_, _, ?_, (c + xs.getD i 0) / 4294967296, zs ++ [(c + xs.getD i 0) % 4294967296], rfl, rfl, by simp [hl], Ws.append.2 ⟨hz, Ws.cons.2 ⟨by omega, Ws.nil⟩⟩, by omega, by omega, ?_⟩
          · rw [show xs.length + 1 - i - 1 = xs.length + 1 - (i + 1) by omega]
            kernel_rfl
          · rw [val_take, val_take, val_append, hl]
            exact add_step hv (by omega)
      · simp -implicitDefEqProofs (disch := first | omega | assumption | (simp only [QN] <;> omega)) only [QB, QL, Nat.reduceSub, Nat.reduceAdd, Nat.reduceLeDiff, Nat.reduceEqDiff, reduceCtorEq, ↓reduceIte, Int.reduceAdd, Int.reduceSub, Int.reduceToNat, Int.reduceLT, Int.reduceLE, Int.reduceEq, Int.reduceNeg, Nat.reduceLT, QT3, QT4, QT85, QT93, QT87, t_cz1 imp81, t_cz2 imp81, t_cj1 imp81, t_cj2 imp81, t_cj3 imp81, wu64', wu32]
        have hi' : i = xs.length := by omega
        subst hi'
        rw [set_fill hl (by omega)]
        simp -implicitDefEqProofs (disch := first | omega | assumption | (simp only [QN] <;> omega)) only [QB, QL, Nat.reduceSub, Nat.reduceAdd, Nat.reduceLeDiff, Nat.reduceEqDiff, reduceCtorEq, ↓reduceIte, Int.reduceAdd, Int.reduceSub, Int.reduceToNat, Int.reduceLT, Int.reduceLE, Int.reduceEq, Int.reduceNeg, Nat.reduceLT, QT3, QT4, QT85, QT93, QT87, t_cz1 imp81, t_cz2 imp81, t_cj1 imp81, t_cj2 imp81, t_cj3 imp81, ev_trim]
        rw [trim_row (b := 4294967296) (by decide) (by simp [hl] <;> omega) (Ws.append.2 ⟨Ws.append.2 ⟨hz, Ws.cons.2 ⟨by omega, Ws.nil⟩⟩, by rw [Nat.add_sub_cancel_left]; exact Ws.nil⟩) (v := val 4294967296 xs + val 4294967296 ys)]
        rw [Nat.add_sub_cancel_left, Nat.sub_self, List.replicate_zero, List.append_nil, val_append, hl]
        rw [val_take_all _ (Nat.le_refl _), val_take_all _ (by omega)] at hv
        have : c % 4294967296 = c := by omega
        rw [this]
        simp only [val, Int.mul_zero, Int.add_zero]
        first | exact hv | exact hv.trans (Int.add_comm _ _)
    · omega
    · have e : ((xs.length : Int) + 1).toNat = xs.length + 1 := by omega
      refine ⟨_, _, ?_, 0, [], rfl, rfl, rfl, Ws.nil, by omega, by omega, by simp [val]⟩
      rw [e]
      kernel_rfl
end Go.Proofs.Ythjmbppofgadaaa

namespace Go.Proofs.Ythjmbppofgadaaa
open Go Go.AM
set_option maxHeartbeats 4000000
theorem ev_mulL (xs ys : List Int) (wxs : Ws 4294967296 xs) (wys : Ws 4294967296 ys) (hx : xs.length ≤ 100000000) (hy : ys.length ≤ 100000000) (n : Nat) (hn : xs.length + ys.length + 20 ≤ n) :
    pcall G n 80 [row xs, row ys] [] = some (row (dig 4294967296 (val 4294967296 xs * val 4294967296 ys).toNat), []) := by
  obtain ⟨n, rfl⟩ : ∃ m, n = m + 1 := ⟨n - 1, by omega⟩; rw [pcall_at fn80 rfl, imp80, G_tb]
  simp -implicitDefEqProofs (disch := first | omega | assumption | (simp only [QN] <;> omega)) only [QB, QL, Nat.reduceSub, Nat.reduceAdd, Nat.reduceLeDiff, Nat.reduceEqDiff, reduceCtorEq, ↓reduceIte, Int.reduceAdd, Int.reduceSub, Int.reduceToNat, Int.reduceLT, Int.reduceLE, Int.reduceEq, Int.reduceNeg, Nat.reduceLT, QT3, QT4, QT85, QT93, QT87, t_cz1 imp81, t_cz2 imp81, t_cj1 imp81, t_cj2 imp81, t_cj3 imp81]
  by_cases h1 : (xs.length : Int) = 0 <;> simp (disch := omega) only [h1, decide_true, decide_false, Bool.not_true, Bool.not_false, reduceCtorEq, ↓reduceIte, Option.bind_some]
  · simp -implicitDefEqProofs (disch := first | omega | assumption | (simp only [QN] <;> omega)) only [QB, QL, Nat.reduceSub, Nat.reduceAdd, Nat.reduceLeDiff, Nat.reduceEqDiff, reduceCtorEq, ↓reduceIte, Int.reduceAdd, Int.reduceSub, Int.reduceToNat, Int.reduceLT, Int.reduceLE, Int.reduceEq, Int.reduceNeg, Nat.reduceLT, QT3, QT4, QT85, QT93, QT87, t_cz1 imp81, t_cz2 imp81, t_cj1 imp81, t_cj2 imp81, t_cj3 imp81]
    have : xs = [] := List.eq_nil_of_length_eq_zero (by omega)
    subst this
    simp [val, dig_zero, ks]
  simp -implicitDefEqProofs (disch := first | omega | assumption | (simp only [QN] <;> omega)) only [QB, QL, Nat.reduceSub, Nat.reduceAdd, Nat.reduceLeDiff, Nat.reduceEqDiff, reduceCtorEq, ↓reduceIte, Int.reduceAdd, Int.reduceSub, Int.reduceToNat, Int.reduceLT, Int.reduceLE, Int.reduceEq, Int.reduceNeg, Nat.reduceLT, QT3, QT4, QT85, QT93, QT87, t_cz1 imp81, t_cz2 imp81, t_cj1 imp81, t_cj2 imp81, t_cj3 imp81]
  by_cases h2 : (ys.length : Int) = 0 <;> simp (disch := omega) only [h2, decide_true, decide_false, Bool.not_true, Bool.not_false, reduceCtorEq, ↓reduceIte, Option.bind_some]
  · simp -implicitDefEqProofs (disch := first | omega | assumption | (simp only [QN] <;> omega)) only [QB, QL, Nat.reduceSub, Nat.reduceAdd, Nat.reduceLeDiff, Nat.reduceEqDiff, reduceCtorEq, ↓reduceIte, Int.reduceAdd, Int.reduceSub, Int.reduceToNat, Int.reduceLT, Int.reduceLE, Int.reduceEq, Int.reduceNeg, Nat.reduceLT, QT3, QT4, QT85, QT93, QT87, t_cz1 imp81, t_cz2 imp81, t_cj1 imp81, t_cj2 imp81, t_cj3 imp81]
    have : ys = [] := List.eq_nil_of_length_eq_zero (by omega)
    subst this
    simp [val, dig_zero, ks]
  simp -implicitDefEqProofs (disch := first | omega | assumption | (simp only [QN] <;> omega)) only [QB, QL, Nat.reduceSub, Nat.reduceAdd, Nat.reduceLeDiff, Nat.reduceEqDiff, reduceCtorEq, ↓reduceIte, Int.reduceAdd, Int.reduceSub, Int.reduceToNat, Int.reduceLT, Int.reduceLE, Int.reduceEq, Int.reduceNeg, Nat.reduceLT, QT3, QT4, QT85, QT93, QT87, t_cz1 imp81, t_cz2 imp81, t_cj1 imp81, t_cj2 imp81, t_cj3 imp81]
  refine loop_up xs.length (fun i fr H => ∃ L : List Int, fr = [row xs, row ys, .any, .any, .c (.t (.sl 0 [])), .c (.osl 0 0 (xs.length + ys.length) 1), num i, .any, .any, .any, .any, .any, .any, .any, .any, .any, .any, .any, .any, .any, .any, .any, .any, .any, .any, .any, .any, .any, .any, .any, .any, .any, .any, .any, .any, .any, .any, .any, .any, .any, .any, .any, .any, .any, .any, .any, .any, .any, .any, .any, .any, .any, .any, .any, .any, .any, .any, .any, .any, .any, .any, .any, .any, .any, .any, .any, .any, .any, .any, .any, .any, .any, .any, .any, .any] ∧ H = [objK .u32 L] ∧
    L.length = xs.length + ys.length ∧ Ws 4294967296 L ∧ val 4294967296 L = val 4294967296 (xs.take i) * val 4294967296 ys ∧ ∀ j, i + ys.length ≤ j → L.getD j 0 = 0) ?_ ?_ ?_
  · rintro i fr H n hi ⟨L, rfl, rfl, hl, hw, hv, hz⟩ IH
    have hX := Ws.getD (by decide) wxs i
    simp -implicitDefEqProofs (disch := first | omega | assumption | (simp only [QN] <;> omega)) only [QB, QL, Nat.reduceSub, Nat.reduceAdd, Nat.reduceLeDiff, Nat.reduceEqDiff, reduceCtorEq, ↓reduceIte, Int.reduceAdd, Int.reduceSub, Int.reduceToNat, Int.reduceLT, Int.reduceLE, Int.reduceEq, Int.reduceNeg, Nat.reduceLT, QT3, QT4, QT85, QT93, QT87, t_cz1 imp81, t_cz2 imp81, t_cj1 imp81, t_cj2 imp81, t_cj3 imp81]
    by_cases h3 : (i : Int) < xs.length <;> simp (disch := omega) only [h3, decide_true, decide_false, Bool.not_true, Bool.not_false, reduceCtorEq, ↓reduceIte, Option.bind_some]
    · simp -implicitDefEqProofs (disch := first | omega | assumption | (simp only [QN] <;> omega)) only [QB, QL, Nat.reduceSub, Nat.reduceAdd, Nat.reduceLeDiff, Nat.reduceEqDiff, reduceCtorEq, ↓reduceIte, Int.reduceAdd, Int.reduceSub, Int.reduceToNat, Int.reduceLT, Int.reduceLE, Int.reduceEq, Int.reduceNeg, Nat.reduceLT, QT3, QT4, QT85, QT93, QT87, t_cz1 imp81, t_cz2 imp81, t_cj1 imp81, t_cj2 imp81, t_cj3 imp81]
      refine loop_up ys.length (fun k fr H => ∃ (c : Int) (M : List Int), fr = [row xs, row ys, .any, .any, .c (.t (.sl 0 [])), .c (.osl 0 0 (xs.length + ys.length) 1), num i, wd c, num k, .any, .any, .any, .any, .any, .any, .any, .any, .any, .any, .any, .any, .any, .any, .any, .any, .any, .any, .any, .any, .any, .any, .any, .any, .any, .any, .any, .any, .any, .any, .any, .any, .any, .any, .any, .any, .any, .any, .any, .any, .any, .any, .any, .any, .any, .any, .any, .any, .any, .any, .any, .any, .any, .any, .any, .any, .any, .any, .any, .any, .any, .any, .any, .any, .any, .any] ∧ H = [objK .u32 M] ∧
        M.length = xs.length + ys.length ∧ Ws 4294967296 M ∧ 0 ≤ c ∧ c < 4294967296 ∧ val 4294967296 M + 4294967296 ^ (i + k) * c = val 4294967296 L + 4294967296 ^ i * (xs.getD i 0 * val 4294967296 (ys.take k)) ∧ ∀ j, i + k ≤ j → M.getD j 0 = L.getD j 0) ?_ ?_ ?_
      · rintro k fr H n' hk ⟨c, M, rfl, rfl, ml, mw, hc0, hc1, mv, mz⟩ IK
        have hY := Ws.getD (by decide) wys k
        have hM := Ws.getD (by decide) mw (i + k)
        have hXY := mul_bound hX hY
        have ek : ((i : Int) + k).toNat = i + k := by omega
        simp -implicitDefEqProofs (disch := first | omega | assumption | (simp only [QN] <;> omega)) only [QB, QL, Nat.reduceSub, Nat.reduceAdd, Nat.reduceLeDiff, Nat.reduceEqDiff, reduceCtorEq, ↓reduceIte, Int.reduceAdd, Int.reduceSub, Int.reduceToNat, Int.reduceLT, Int.reduceLE, Int.reduceEq, Int.reduceNeg, Nat.reduceLT, QT3, QT4, QT85, QT93, QT87, t_cz1 imp81, t_cz2 imp81, t_cj1 imp81, t_cj2 imp81, t_cj3 imp81]
        by_cases h4 : (k : Int) < ys.length <;> simp (disch := omega) only [h4, decide_true, decide_false, Bool.not_true, Bool.not_false, reduceCtorEq, ↓reduceIte, Option.bind_some]
        · simp -implicitDefEqProofs (disch := first | omega | assumption | (simp only [QN] <;> omega)) only [QB, QL, Nat.reduceSub, Nat.reduceAdd, Nat.reduceLeDiff, Nat.reduceEqDiff, reduceCtorEq, ↓reduceIte, Int.reduceAdd, Int.reduceSub, Int.reduceToNat, Int.reduceLT, Int.reduceLE, Int.reduceEq, Int.reduceNeg, Nat.reduceLT, QT3, QT4, QT85, QT93, QT87, t_cz1 imp81, t_cz2 imp81, t_cj1 imp81, t_cj2 imp81, t_cj3 imp81, wu64', wu32, ek]
          refine IK _ (by omega) ⟨_, _, ?_, (c + (xs.getD i 0 * ys.getD k 0 + M.getD (i + k) 0)) / 4294967296, M.set (i + k) ((c + (xs.getD i 0 * ys.getD k 0 + M.getD (i + k) 0)) % 4294967296), rfl, rfl, by simp [ml], mw.set (by omega), by omega, by omega, ?_, ?_⟩
          · kernel_rfl
          · rw [val_set _ (by omega), mz _ (Nat.le_refl _), val_take]
            generalize hT : c + (xs.getD i 0 * ys.getD k 0 + L.getD (i + k) 0) = T
            exact mul_step (B := 4294967296) (d := T % 4294967296) (e := T / 4294967296) mv (hT.trans (by omega)) (Int.pow_add _ _ _)
          · intro j hj
            rw [getD_set (by omega), if_neg (by omega)]
            exact mz j (by omega)
        · have hk' : k = ys.length := by omega
          subst hk'
          simp -implicitDefEqProofs (disch := first | omega | assumption | (simp only [QN] <;> omega)) only [QB, QL, Nat.reduceSub, Nat.reduceAdd, Nat.reduceLeDiff, Nat.reduceEqDiff, reduceCtorEq, ↓reduceIte, Int.reduceAdd, Int.reduceSub, Int.reduceToNat, Int.reduceLT, Int.reduceLE, Int.reduceEq, Int.reduceNeg, Nat.reduceLT, QT3, QT4, QT85, QT93, QT87, t_cz1 imp81, t_cz2 imp81, t_cj1 imp81, t_cj2 imp81, t_cj3 imp81, wu64', wu32, ek]
          refine IH _ (by omega) ⟨_, _, ?_, M.set (i + ys.length) (c % 4294967296), rfl, rfl, by simp [ml], mw.set (by omega), ?_, ?_⟩
          · kernel_rfl
          · rw [val_take_all _ (Nat.le_refl _)] at mv
            rw [val_set _ (by omega), mz _ (Nat.le_refl _), hz _ (Nat.le_refl _), val_take, Int.add_mul, ← hv, Int.mul_assoc, ← mv]
            rw [show c % 4294967296 = c by omega, Int.sub_zero]
          · intro j hj
            rw [getD_set (by omega), if_neg (by omega), mz j (by omega)]
            exact hz j (by omega)
      · omega
      · refine ⟨_, _, ?_, 0, L, rfl, rfl, hl, hw, by omega, by omega, by simp [val], fun _ _ => rfl⟩
        kernel_rfl
    · simp -implicitDefEqProofs (disch := first | omega | assumption | (simp only [QN] <;> omega)) only [QB, QL, Nat.reduceSub, Nat.reduceAdd, Nat.reduceLeDiff, Nat.reduceEqDiff, reduceCtorEq, ↓reduceIte, Int.reduceAdd, Int.reduceSub, Int.reduceToNat, Int.reduceLT, Int.reduceLE, Int.reduceEq, Int.reduceNeg, Nat.reduceLT, QT3, QT4, QT85, QT93, QT87, t_cz1 imp81, t_cz2 imp81, t_cj1 imp81, t_cj2 imp81, t_cj3 imp81, ev_trim]
      rw [trim_row (b := 4294967296) (by decide) (by omega) hw (v := val 4294967296 xs * val 4294967296 ys)]
      show val 4294967296 L = _
      rw [hv, val_take_all _ (by omega)]
  · omega
  · have e : ((xs.length : Int) + ys.length).toNat = xs.length + ys.length := by omega
    refine ⟨_, _, ?_, List.replicate (xs.length + ys.length) 0, rfl, rfl, by simp, ?_, by simp [val, val_zeros], fun j _ => by simp [List.getD_eq_getElem?_getD, List.getElem?_replicate]; split <;> rfl⟩
    · rw [e]
      kernel_rfl
    · intro x hx
      have := List.eq_of_mem_replicate hx
      omega
end Go.Proofs.Ythjmbppofgadaaa

namespace Go.Proofs.Ythjmbppofgadaaa
open Go Go.AM
set_option maxHeartbeats 4000000
theorem ev_sdL (xs : List Int) (d : Int) (wxs : Ws 4294967296 xs) (hd : 0 < d ∧ d < 4294967296) (hx : xs.length ≤ 100000000) (n : Nat) (hn : xs.length + 20 ≤ n) :
    pcall G n 98 [row xs, hw d] [] = some (.tup [row (dig 4294967296 (val 4294967296 xs / d).toNat), hw (val 4294967296 xs % d)], []) := by
  obtain ⟨n, rfl⟩ : ∃ m, n = m + 1 := ⟨n - 1, by omega⟩; rw [pcall_at fn98 rfl, imp98, G_tb]
  simp -implicitDefEqProofs (disch := first | omega | assumption | (simp only [QN] <;> omega)) only [QB, QL, Nat.reduceSub, Nat.reduceAdd, Nat.reduceLeDiff, Nat.reduceEqDiff, reduceCtorEq, ↓reduceIte, Int.reduceAdd, Int.reduceSub, Int.reduceToNat, Int.reduceLT, Int.reduceLE, Int.reduceEq, Int.reduceNeg, Nat.reduceLT, QT3, QT4, QT85, QT93, QT87, t_cz1 imp81, t_cz2 imp81, t_cj1 imp81, t_cj2 imp81, t_cj3 imp81]
  refine loop_up xs.length (fun i fr H => ∃ (r : Int) (qs : List Int), fr = [row xs, hw d, .any, .any, .c (.t (.sl 0 [])), hw 0, .c (.osl 0 0 xs.length 1), wd r, num ((xs.length : Int) - 1 - i), .any, .any, .any, .any, .any, .any, .any, .any, .any, .any, .any, .any, .any, .any, .any, .any, .any, .any, .any, .any, .any, .any, .any, .any, .any, .any, .any, .any, .any, .any, .any, .any, .any, .any] ∧ H = [objK .u32 (List.replicate (xs.length - i) 0 ++ qs)] ∧
    qs.length = i ∧ Ws 4294967296 qs ∧ 0 ≤ r ∧ r < d ∧ val 4294967296 (xs.drop (xs.length - i)) = val 4294967296 qs * d + r) ?_ ?_ ?_
  · rintro i fr H n hi ⟨r, qs, rfl, rfl, hl, hw, hr0, hr1, hv⟩ IH
    simp -implicitDefEqProofs (disch := first | omega | assumption | (simp only [QN] <;> omega)) only [QB, QL, Nat.reduceSub, Nat.reduceAdd, Nat.reduceLeDiff, Nat.reduceEqDiff, reduceCtorEq, ↓reduceIte, Int.reduceAdd, Int.reduceSub, Int.reduceToNat, Int.reduceLT, Int.reduceLE, Int.reduceEq, Int.reduceNeg, Nat.reduceLT, QT3, QT4, QT85, QT93, QT87, t_cz1 imp81, t_cz2 imp81, t_cj1 imp81, t_cj2 imp81, t_cj3 imp81]
    by_cases h3 : (0 : Int) ≤ (xs.length : Int) - 1 - i <;> simp (disch := omega) only [h3, decide_true, decide_false, Bool.not_true, Bool.not_false, reduceCtorEq, ↓reduceIte, Option.bind_some]
    · have hX := Ws.getD (by decide) wxs (xs.length - 1 - i)
      have e : ((xs.length : Int) - 1 - i).toNat = xs.length - 1 - i := by omega
      have hdd : d % 18446744073709551616 = d := by omega
      obtain ⟨⟨q0, q1⟩, m0, m1, t0⟩ := ediv_lt hd.1 ⟨hr0, hr1⟩ hX (by decide)
      have hT : 0 ≤ r * 4294967296 + xs.getD (xs.length - 1 - i) 0 := by omega
      simp -implicitDefEqProofs (disch := first | omega | assumption | (simp only [QN] <;> omega)) only [QB, QL, Nat.reduceSub, Nat.reduceAdd, Nat.reduceLeDiff, Nat.reduceEqDiff, reduceCtorEq, ↓reduceIte, Int.reduceAdd, Int.reduceSub, Int.reduceToNat, Int.reduceLT, Int.reduceLE, Int.reduceEq, Int.reduceNeg, Nat.reduceLT, QT3, QT4, QT85, QT93, QT87, t_cz1 imp81, t_cz2 imp81, t_cj1 imp81, t_cj2 imp81, t_cj3 imp81, wu64', wu32', e, hdd, or_shl, Int.tdiv_eq_ediv_of_nonneg hT, Int.tmod_eq_emod_of_nonneg hT]
      rw [show xs.length - 1 - i = xs.length - i - 1 by omega, set_back (by omega)]
      refine IH _ (by omega) ⟨_, _, ?_, (r * 4294967296 + xs.getD (xs.length - i - 1) 0) % d, (r * 4294967296 + xs.getD (xs.length - i - 1) 0) / d :: qs, rfl, rfl, by simp [hl], ?_, ?_, ?_, ?_⟩
      · rw [show (xs.length : Int) - 1 - ((i + 1 : Nat) : Int) = (xs.length : Int) - 1 - i - 1 by omega, show xs.length - (i + 1) = xs.length - i - 1 by omega]
        kernel_rfl
      all_goals rw [show xs.length - 1 - i = xs.length - i - 1 by omega] at q0 q1 m0 m1 hT
      · exact Ws.cons.2 ⟨⟨q0, q1⟩, hw⟩
      · exact m0
      · exact m1
      · rw [show xs.length - (i + 1) = xs.length - i - 1 by omega, val_drop _ (by omega), show xs.length - i - 1 + 1 = xs.length - i by omega, val]
        exact div_step hv (by have := Int.mul_ediv_add_emod (r * 4294967296 + xs.getD (xs.length - i - 1) 0) d; rw [Int.mul_comm d] at this; exact this.symm)
    · simp -implicitDefEqProofs (disch := first | omega | assumption | (simp only [QN] <;> omega)) only [QB, QL, Nat.reduceSub, Nat.reduceAdd, Nat.reduceLeDiff, Nat.reduceEqDiff, reduceCtorEq, ↓reduceIte, Int.reduceAdd, Int.reduceSub, Int.reduceToNat, Int.reduceLT, Int.reduceLE, Int.reduceEq, Int.reduceNeg, Nat.reduceLT, QT3, QT4, QT85, QT93, QT87, t_cz1 imp81, t_cz2 imp81, t_cj1 imp81, t_cj2 imp81, t_cj3 imp81, ev_trim, wu32']
      have hi' : i = xs.length := by omega
      subst hi'
      rw [Nat.sub_self, List.drop_zero] at hv
      have hq := val_nonneg (by decide) hw
      rw [trim_row (b := 4294967296) (by decide) (by simp [hl]) (by simpa using hw) (v := val 4294967296 xs / d)]
      · rw [hv, Int.add_comm, Int.add_mul_emod_self_right, Int.emod_eq_of_lt hr0 hr1]
      · rw [hv, Int.add_comm, Int.add_mul_ediv_right _ _ (by omega), Int.ediv_eq_zero_of_lt hr0 hr1]
        simp
  · omega
  · refine ⟨_, _, ?_, 0, [], rfl, rfl, rfl, Ws.nil, by omega, by omega, by simp [val]⟩
    rw [show (xs.length : Int) - 1 - ((0 : Nat) : Int) = (xs.length : Int) - 1 by omega]
    rw [List.append_nil]
    kernel_rfl
end Go.Proofs.Ythjmbppofgadaaa

namespace Go.Proofs.Ythjmbppofgadaaa
open Go Go.AM
set_option maxHeartbeats 4000000
abbrev N32 (m : Nat) : T := rowK .u32 (dig 4294967296 m)
abbrev Z32 (s : Bool) (m : Nat) : List C := [.t (.bool s), .t (N32 m)]
theorem ev_make1 (s : Bool) (m : Nat) (n : Nat) (hn : 10 ≤ n) : pcall G n 71 [boo s, .c (.t (N32 m))] [] = some (.agg (Z32 (s && !decide (m = 0)) m), []) := by
  obtain ⟨n, rfl⟩ : ∃ m, n = m + 1 := ⟨n - 1, by omega⟩; rw [pcall_at fn71 rfl, imp71, G_tb]
  simp -implicitDefEqProofs (disch := first | omega | assumption | (simp only [QN] <;> omega)) only [QB, QL, Nat.reduceSub, Nat.reduceAdd, Nat.reduceLeDiff, Nat.reduceEqDiff, reduceCtorEq, ↓reduceIte, Int.reduceAdd, Int.reduceSub, Int.reduceToNat, Int.reduceLT, Int.reduceLE, Int.reduceEq, Int.reduceNeg, Nat.reduceLT, QT3, QT4, QT93, QT95, QT97, QT85, t_call imp71, t_call imp72, len_pos (b := 4294967296) (by decide), len_zero (b := 4294967296) (by decide)]
  cases s
  · simp -implicitDefEqProofs (disch := first | omega | assumption | (simp only [QN] <;> omega)) only [QB, QL, Nat.reduceSub, Nat.reduceAdd, Nat.reduceLeDiff, Nat.reduceEqDiff, reduceCtorEq, ↓reduceIte, Int.reduceAdd, Int.reduceSub, Int.reduceToNat, Int.reduceLT, Int.reduceLE, Int.reduceEq, Int.reduceNeg, Nat.reduceLT, QT3, QT4, QT93, QT95, QT97, QT85, t_call imp71, t_call imp72, len_pos (b := 4294967296) (by decide), len_zero (b := 4294967296) (by decide)]
  · simp -implicitDefEqProofs (disch := first | omega | assumption | (simp only [QN] <;> omega)) only [QB, QL, Nat.reduceSub, Nat.reduceAdd, Nat.reduceLeDiff, Nat.reduceEqDiff, reduceCtorEq, ↓reduceIte, Int.reduceAdd, Int.reduceSub, Int.reduceToNat, Int.reduceLT, Int.reduceLE, Int.reduceEq, Int.reduceNeg, Nat.reduceLT, QT3, QT4, QT93, QT95, QT97, QT85, t_call imp71, t_call imp72, len_pos (b := 4294967296) (by decide), len_zero (b := 4294967296) (by decide)]
theorem ev_neg (s : Bool) (m : Nat) (n : Nat) (hn : 20 ≤ n) : pcall G n 82 [.agg (Z32 s m)] [] = some (.agg (Z32 (!s && !decide (m = 0)) m), []) := by
  obtain ⟨n, rfl⟩ : ∃ m, n = m + 1 := ⟨n - 1, by omega⟩; rw [pcall_at fn82 rfl, imp82, G_tb]
  simp -implicitDefEqProofs (disch := first | omega | assumption | (simp only [QN] <;> omega)) only [QB, QL, Nat.reduceSub, Nat.reduceAdd, Nat.reduceLeDiff, Nat.reduceEqDiff, reduceCtorEq, ↓reduceIte, Int.reduceAdd, Int.reduceSub, Int.reduceToNat, Int.reduceLT, Int.reduceLE, Int.reduceEq, Int.reduceNeg, Nat.reduceLT, QT3, QT4, QT93, QT95, QT97, QT85, t_call imp71, t_call imp72, len_pos (b := 4294967296) (by decide), len_zero (b := 4294967296) (by decide), ev_make1]
theorem ev_sign (s : Bool) (m : Nat) (n : Nat) (hn : 20 ≤ n) : pcall G n 72 [.agg (Z32 s m)] [] = some (num (if s then -1 else if m = 0 then 0 else 1), []) := by
  obtain ⟨n, rfl⟩ : ∃ m, n = m + 1 := ⟨n - 1, by omega⟩; rw [pcall_at fn72 rfl, imp72, G_tb]
  simp -implicitDefEqProofs (disch := first | omega | assumption | (simp only [QN] <;> omega)) only [QB, QL, Nat.reduceSub, Nat.reduceAdd, Nat.reduceLeDiff, Nat.reduceEqDiff, reduceCtorEq, ↓reduceIte, Int.reduceAdd, Int.reduceSub, Int.reduceToNat, Int.reduceLT, Int.reduceLE, Int.reduceEq, Int.reduceNeg, Nat.reduceLT, QT3, QT4, QT93, QT95, QT97, QT85, t_call imp71, t_call imp72, len_pos (b := 4294967296) (by decide), len_zero (b := 4294967296) (by decide)]
  cases s
  · simp -implicitDefEqProofs (disch := first | omega | assumption | (simp only [QN] <;> omega)) only [QB, QL, Nat.reduceSub, Nat.reduceAdd, Nat.reduceLeDiff, Nat.reduceEqDiff, reduceCtorEq, ↓reduceIte, Int.reduceAdd, Int.reduceSub, Int.reduceToNat, Int.reduceLT, Int.reduceLE, Int.reduceEq, Int.reduceNeg, Nat.reduceLT, QT3, QT4, QT93, QT95, QT97, QT85, t_call imp71, t_call imp72, len_pos (b := 4294967296) (by decide), len_zero (b := 4294967296) (by decide)]
    by_cases h : m = 0
    · simp -implicitDefEqProofs (disch := first | omega | assumption | (simp only [QN] <;> omega)) only [QB, QL, Nat.reduceSub, Nat.reduceAdd, Nat.reduceLeDiff, Nat.reduceEqDiff, reduceCtorEq, ↓reduceIte, Int.reduceAdd, Int.reduceSub, Int.reduceToNat, Int.reduceLT, Int.reduceLE, Int.reduceEq, Int.reduceNeg, Nat.reduceLT, QT3, QT4, QT93, QT95, QT97, QT85, t_call imp71, t_call imp72, len_pos (b := 4294967296) (by decide), len_zero (b := 4294967296) (by decide), h]
    · simp -implicitDefEqProofs (disch := first | omega | assumption | (simp only [QN] <;> omega)) only [QB, QL, Nat.reduceSub, Nat.reduceAdd, Nat.reduceLeDiff, Nat.reduceEqDiff, reduceCtorEq, ↓reduceIte, Int.reduceAdd, Int.reduceSub, Int.reduceToNat, Int.reduceLT, Int.reduceLE, Int.reduceEq, Int.reduceNeg, Nat.reduceLT, QT3, QT4, QT93, QT95, QT97, QT85, t_call imp71, t_call imp72, len_pos (b := 4294967296) (by decide), len_zero (b := 4294967296) (by decide), h]
  · simp -implicitDefEqProofs (disch := first | omega | assumption | (simp only [QN] <;> omega)) only [QB, QL, Nat.reduceSub, Nat.reduceAdd, Nat.reduceLeDiff, Nat.reduceEqDiff, reduceCtorEq, ↓reduceIte, Int.reduceAdd, Int.reduceSub, Int.reduceToNat, Int.reduceLT, Int.reduceLE, Int.reduceEq, Int.reduceNeg, Nat.reduceLT, QT3, QT4, QT93, QT95, QT97, QT85, t_call imp71, t_call imp72, len_pos (b := 4294967296) (by decide), len_zero (b := 4294967296) (by decide)]
theorem ev_rsign (s : Bool) (m : Nat) (x y : C) (n : Nat) (hn : 30 ≤ n) : pcall G n 62 [.agg (Z32 s m ++ [x, y])] [] = some (num (if s then -1 else if m = 0 then 0 else 1), []) := by
  obtain ⟨n, rfl⟩ : ∃ m, n = m + 1 := ⟨n - 1, by omega⟩; rw [pcall_at fn62 rfl, imp62, G_tb]
  simp -implicitDefEqProofs (disch := first | omega | assumption | (simp only [QN] <;> omega)) only [QB, QL, Nat.reduceSub, Nat.reduceAdd, Nat.reduceLeDiff, Nat.reduceEqDiff, reduceCtorEq, ↓reduceIte, Int.reduceAdd, Int.reduceSub, Int.reduceToNat, Int.reduceLT, Int.reduceLE, Int.reduceEq, Int.reduceNeg, Nat.reduceLT, QT3, QT4, QT93, QT95, QT97, QT85, t_call imp71, t_call imp72, len_pos (b := 4294967296) (by decide), len_zero (b := 4294967296) (by decide), ev_sign]
end Go.Proofs.Ythjmbppofgadaaa

namespace Go.Proofs.Ythjmbppofgadaaa
open Go Go.AM
set_option maxHeartbeats 4000000
theorem ev_cmp (a b : Nat) (ha : (dig 4294967296 a).length ≤ 100000000) (hb : (dig 4294967296 b).length ≤ 100000000) (n : Nat) (hn : (dig 4294967296 a).length + 20 ≤ n) : pcall G n 102 [.c (.t (N32 a)), .c (.t (N32 b))] [] = some (num (cmpN a b), []) := by
  obtain ⟨n, rfl⟩ : ∃ m, n = m + 1 := ⟨n - 1, by omega⟩; rw [pcall_at fn102 rfl, imp102, G_tb]
  simp -implicitDefEqProofs (disch := first | omega | assumption | (simp only [QN] <;> omega)) only [QB, QL, Nat.reduceSub, Nat.reduceAdd, Nat.reduceLeDiff, Nat.reduceEqDiff, reduceCtorEq, ↓reduceIte, Int.reduceAdd, Int.reduceSub, Int.reduceToNat, Int.reduceLT, Int.reduceLE, Int.reduceEq, Int.reduceNeg, Nat.reduceLT, QT3, QT4, QT85, QT93]
  by_cases h1 : ((dig 4294967296 a).length : Int) = (dig 4294967296 b).length <;> simp (disch := omega) only [h1, decide_true, decide_false, Bool.not_true, Bool.not_false, reduceCtorEq, ↓reduceIte, Option.bind_some]
  rotate_left
  · simp -implicitDefEqProofs (disch := first | omega | assumption | (simp only [QN] <;> omega)) only [QB, QL, Nat.reduceSub, Nat.reduceAdd, Nat.reduceLeDiff, Nat.reduceEqDiff, reduceCtorEq, ↓reduceIte, Int.reduceAdd, Int.reduceSub, Int.reduceToNat, Int.reduceLT, Int.reduceLE, Int.reduceEq, Int.reduceNeg, Nat.reduceLT, QT3, QT4, QT85, QT93]
    by_cases h2 : ((dig 4294967296 a).length : Int) < (dig 4294967296 b).length <;> simp (disch := omega) only [h2, decide_true, decide_false, Bool.not_true, Bool.not_false, reduceCtorEq, ↓reduceIte, Option.bind_some]
    · have := dig_len_lt (by decide) (show (dig 4294967296 a).length < (dig 4294967296 b).length by omega)
      simp -implicitDefEqProofs (disch := first | omega | assumption | (simp only [QN] <;> omega)) only [QB, QL, Nat.reduceSub, Nat.reduceAdd, Nat.reduceLeDiff, Nat.reduceEqDiff, reduceCtorEq, ↓reduceIte, Int.reduceAdd, Int.reduceSub, Int.reduceToNat, Int.reduceLT, Int.reduceLE, Int.reduceEq, Int.reduceNeg, Nat.reduceLT, QT3, QT4, QT85, QT93]
      simp [cmpN, this]
    · have := dig_len_lt (by decide) (show (dig 4294967296 b).length < (dig 4294967296 a).length by omega)
      simp -implicitDefEqProofs (disch := first | omega | assumption | (simp only [QN] <;> omega)) only [QB, QL, Nat.reduceSub, Nat.reduceAdd, Nat.reduceLeDiff, Nat.reduceEqDiff, reduceCtorEq, ↓reduceIte, Int.reduceAdd, Int.reduceSub, Int.reduceToNat, Int.reduceLT, Int.reduceLE, Int.reduceEq, Int.reduceNeg, Nat.reduceLT, QT3, QT4, QT85, QT93]
      simp [cmpN, show ¬ a < b by omega, show ¬ a = b by omega]
  have wa : Ws 4294967296 (dig 4294967296 a) := dig_ws (by decide) a
  have wb : Ws 4294967296 (dig 4294967296 b) := dig_ws (by decide) b
  have va : val 4294967296 (dig 4294967296 a) = a := dig_val (by decide) a
  have vb : val 4294967296 (dig 4294967296 b) = b := dig_val (by decide) b
  have inj := dig_inj (b := 4294967296) (m := a) (n := b) (by decide)
  unfold N32
  generalize dig 4294967296 a = xs at *
  generalize dig 4294967296 b = ys at *
  simp -implicitDefEqProofs (disch := first | omega | assumption | (simp only [QN] <;> omega)) only [QB, QL, Nat.reduceSub, Nat.reduceAdd, Nat.reduceLeDiff, Nat.reduceEqDiff, reduceCtorEq, ↓reduceIte, Int.reduceAdd, Int.reduceSub, Int.reduceToNat, Int.reduceLT, Int.reduceLE, Int.reduceEq, Int.reduceNeg, Nat.reduceLT, QT3, QT4, QT85, QT93]
  refine loop_up xs.length (fun i fr H => fr = [.c (.t (rowK .u32 xs)), .c (.t (rowK .u32 ys)), .any, .any, num 0, num ((xs.length : Int) - 1 - i), .any, .any, .any, .any, .any, .any, .any, .any, .any, .any, .any, .any, .any, .any, .any, .any, .any, .any, .any, .any, .any, .any, .any, .any, .any, .any, .any, .any, .any, .any, .any, .any, .any, .any, .any] ∧ H = [] ∧ xs.drop (xs.length - i) = ys.drop (xs.length - i)) ?_ ?_ ?_
  · rintro i fr H n hi ⟨rfl, rfl, hd⟩ IH
    simp -implicitDefEqProofs (disch := first | omega | assumption | (simp only [QN] <;> omega)) only [QB, QL, Nat.reduceSub, Nat.reduceAdd, Nat.reduceLeDiff, Nat.reduceEqDiff, reduceCtorEq, ↓reduceIte, Int.reduceAdd, Int.reduceSub, Int.reduceToNat, Int.reduceLT, Int.reduceLE, Int.reduceEq, Int.reduceNeg, Nat.reduceLT, QT3, QT4, QT85, QT93]
    by_cases h3 : (0 : Int) ≤ (xs.length : Int) - 1 - i <;> simp (disch := omega) only [h3, decide_true, decide_false, Bool.not_true, Bool.not_false, reduceCtorEq, ↓reduceIte, Option.bind_some]
    · have e : ((xs.length : Int) - 1 - i).toNat = xs.length - 1 - i := by omega
      have hd' : xs.drop (xs.length - 1 - i + 1) = ys.drop (xs.length - 1 - i + 1) := by rw [show xs.length - 1 - i + 1 = xs.length - i by omega]; exact hd
      simp -implicitDefEqProofs (disch := first | omega | assumption | (simp only [QN] <;> omega)) only [QB, QL, Nat.reduceSub, Nat.reduceAdd, Nat.reduceLeDiff, Nat.reduceEqDiff, reduceCtorEq, ↓reduceIte, Int.reduceAdd, Int.reduceSub, Int.reduceToNat, Int.reduceLT, Int.reduceLE, Int.reduceEq, Int.reduceNeg, Nat.reduceLT, QT3, QT4, QT85, QT93, e]
      by_cases h4 : xs.getD (xs.length - 1 - i) 0 = ys.getD (xs.length - 1 - i) 0 <;> simp (disch := omega) only [h4, decide_true, decide_false, Bool.not_true, Bool.not_false, reduceCtorEq, ↓reduceIte, Option.bind_some]
      · simp -implicitDefEqProofs (disch := first | omega | assumption | (simp only [QN] <;> omega)) only [QB, QL, Nat.reduceSub, Nat.reduceAdd, Nat.reduceLeDiff, Nat.reduceEqDiff, reduceCtorEq, ↓reduceIte, Int.reduceAdd, Int.reduceSub, Int.reduceToNat, Int.reduceLT, Int.reduceLE, Int.reduceEq, Int.reduceNeg, Nat.reduceLT, QT3, QT4, QT85, QT93]
        refine IH _ (by omega) ⟨_, _, ?_, rfl, rfl, ?_⟩
        · rw [show (xs.length : Int) - 1 - ((i + 1 : Nat) : Int) = (xs.length : Int) - 1 - i - 1 by omega]
          kernel_rfl
        · rw [show xs.length - (i + 1) = xs.length - 1 - i by omega, List.drop_eq_getElem_cons (show xs.length - 1 - i < xs.length by omega), List.drop_eq_getElem_cons (show xs.length - 1 - i < ys.length by omega), hd']
          congr 1
          rw [List.getD_eq_getElem?_getD, List.getD_eq_getElem?_getD, List.getElem?_eq_getElem (show xs.length - 1 - i < xs.length by omega), List.getElem?_eq_getElem (show xs.length - 1 - i < ys.length by omega)] at h4
          exact h4
      · simp -implicitDefEqProofs (disch := first | omega | assumption | (simp only [QN] <;> omega)) only [QB, QL, Nat.reduceSub, Nat.reduceAdd, Nat.reduceLeDiff, Nat.reduceEqDiff, reduceCtorEq, ↓reduceIte, Int.reduceAdd, Int.reduceSub, Int.reduceToNat, Int.reduceLT, Int.reduceLE, Int.reduceEq, Int.reduceNeg, Nat.reduceLT, QT3, QT4, QT85, QT93, e]
        by_cases h5 : xs.getD (xs.length - 1 - i) 0 < ys.getD (xs.length - 1 - i) 0 <;> simp (disch := omega) only [h5, decide_true, decide_false, Bool.not_true, Bool.not_false, reduceCtorEq, ↓reduceIte, Option.bind_some]
        · have := cmp_digit (by decide) wa wb (by omega) (by omega) hd' h5
          simp -implicitDefEqProofs (disch := first | omega | assumption | (simp only [QN] <;> omega)) only [QB, QL, Nat.reduceSub, Nat.reduceAdd, Nat.reduceLeDiff, Nat.reduceEqDiff, reduceCtorEq, ↓reduceIte, Int.reduceAdd, Int.reduceSub, Int.reduceToNat, Int.reduceLT, Int.reduceLE, Int.reduceEq, Int.reduceNeg, Nat.reduceLT, QT3, QT4, QT85, QT93]
          simp [cmpN, show a < b by omega]
        · have := cmp_digit (by decide) wb wa (by omega) (by omega) hd'.symm (by omega)
          simp -implicitDefEqProofs (disch := first | omega | assumption | (simp only [QN] <;> omega)) only [QB, QL, Nat.reduceSub, Nat.reduceAdd, Nat.reduceLeDiff, Nat.reduceEqDiff, reduceCtorEq, ↓reduceIte, Int.reduceAdd, Int.reduceSub, Int.reduceToNat, Int.reduceLT, Int.reduceLE, Int.reduceEq, Int.reduceNeg, Nat.reduceLT, QT3, QT4, QT85, QT93]
          simp [cmpN, show ¬ a < b by omega, show ¬ a = b by omega]
    · simp -implicitDefEqProofs (disch := first | omega | assumption | (simp only [QN] <;> omega)) only [QB, QL, Nat.reduceSub, Nat.reduceAdd, Nat.reduceLeDiff, Nat.reduceEqDiff, reduceCtorEq, ↓reduceIte, Int.reduceAdd, Int.reduceSub, Int.reduceToNat, Int.reduceLT, Int.reduceLE, Int.reduceEq, Int.reduceNeg, Nat.reduceLT, QT3, QT4, QT85, QT93]
      have : xs = ys := by simpa [show xs.length - i = 0 by omega] using hd
      have := inj this
      simp [cmpN, this]
  · omega
  · refine ⟨_, _, ?_, rfl, rfl, ?_⟩
    · rw [show (xs.length : Int) - 1 - ((0 : Nat) : Int) = (xs.length : Int) - 1 by omega]
      kernel_rfl
    · rw [Nat.sub_zero, List.drop_of_length_le (Nat.le_refl _), List.drop_of_length_le (by omega)]
end Go.Proofs.Ythjmbppofgadaaa
