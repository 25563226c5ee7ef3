import Derived.Test.YthjmbppofgadaaaT4
import Derived.Test.YthjmbppofgadaaaB1
import Derived.Test.YthjmbppofgadaaaW4
set_option linter.unusedVariables false
set_option linter.unnecessarySimpa false
set_option linter.all false
set_option linter.unusedSimpArgs false
set_option linter.defProp false
namespace Go.Proofs.Ythjmbppofgadaaa
open Go Go.AM
set_option maxHeartbeats 4000000
set_option maxRecDepth 100000
theorem ev_plain0 (l : List UInt8) (hl : l.length ≤ 1000000) (R : V) (hA : Pln l → R = boo true) (hB : ¬ Pln l → R = boo false) (n : Nat) (hn : l.length + 100 ≤ n) : pcall G n 64 [st l] [] = some (R, []) := by
  obtain ⟨n, rfl⟩ : ∃ m, n = m + 1 := ⟨n - 1, by omega⟩; rw [pcall_at fn64 rfl, imp64, G_tb]
  by_cases h1 : l = []
  · have d1 : decide (l = []) = true := decide_eq_true h1
    simp -implicitDefEqProofs (disch := first | omega | assumption | (simp only [QN] <;> omega)) only [QB, QL, Nat.reduceSub, Nat.reduceAdd, Nat.reduceLeDiff, Nat.reduceEqDiff, reduceCtorEq, ↓reduceIte, Int.reduceAdd, Int.reduceSub, Int.reduceToNat, Int.reduceLT, Int.reduceLE, Int.reduceEq, Int.reduceNeg, Nat.reduceLT, QT3, QT4, QT5, QT9, d1]
    rw [hB (fun h => h.1 h1)]
  · have d1 : decide (l = []) = false := decide_eq_false h1
    have hl0 := List.length_pos_iff.2 h1
    simp -implicitDefEqProofs (disch := first | omega | assumption | (simp only [QN] <;> omega)) only [QB, QL, Nat.reduceSub, Nat.reduceAdd, Nat.reduceLeDiff, Nat.reduceEqDiff, reduceCtorEq, ↓reduceIte, Int.reduceAdd, Int.reduceSub, Int.reduceToNat, Int.reduceLT, Int.reduceLE, Int.reduceEq, Int.reduceNeg, Nat.reduceLT, QT3, QT4, QT5, QT9]
    simp -implicitDefEqProofs (disch := first | omega | assumption | (simp only [QN] <;> omega)) only [QB, QL, Nat.reduceSub, Nat.reduceAdd, Nat.reduceLeDiff, Nat.reduceEqDiff, reduceCtorEq, ↓reduceIte, Int.reduceAdd, Int.reduceSub, Int.reduceToNat, Int.reduceLT, Int.reduceLE, Int.reduceEq, Int.reduceNeg, Nat.reduceLT, QT3, QT4, QT5, QT9, d1]
    by_cases h2 : byt l 0 = 48
    · have d2 : decide (byt l 0 = 48) = true := decide_eq_true h2
      simp -implicitDefEqProofs (disch := first | omega | assumption | (simp only [QN] <;> omega)) only [QB, QL, Nat.reduceSub, Nat.reduceAdd, Nat.reduceLeDiff, Nat.reduceEqDiff, reduceCtorEq, ↓reduceIte, Int.reduceAdd, Int.reduceSub, Int.reduceToNat, Int.reduceLT, Int.reduceLE, Int.reduceEq, Int.reduceNeg, Nat.reduceLT, QT3, QT4, QT5, QT9, d2]
      by_cases h3 : (1 : Int) < l.length
      · have d3 : decide ((1 : Int) < l.length) = true := decide_eq_true h3
        simp -implicitDefEqProofs (disch := first | omega | assumption | (simp only [QN] <;> omega)) only [QB, QL, Nat.reduceSub, Nat.reduceAdd, Nat.reduceLeDiff, Nat.reduceEqDiff, reduceCtorEq, ↓reduceIte, Int.reduceAdd, Int.reduceSub, Int.reduceToNat, Int.reduceLT, Int.reduceLE, Int.reduceEq, Int.reduceNeg, Nat.reduceLT, QT3, QT4, QT5, QT9, d3]
        rw [hB (fun h => by have := h.2.1 h2; omega)]
      · have d3 : decide ((1 : Int) < l.length) = false := decide_eq_false h3
        have hz : byt l 0 = 48 → l.length ≤ 1 := fun _ => by omega
        simp -implicitDefEqProofs (disch := first | omega | assumption | (simp only [QN] <;> omega)) only [QB, QL, Nat.reduceSub, Nat.reduceAdd, Nat.reduceLeDiff, Nat.reduceEqDiff, reduceCtorEq, ↓reduceIte, Int.reduceAdd, Int.reduceSub, Int.reduceToNat, Int.reduceLT, Int.reduceLE, Int.reduceEq, Int.reduceNeg, Nat.reduceLT, QT3, QT4, QT5, QT9, d3]
        refine loop_up l.length (fun i fr H => fr = [st l, .any, boo false, .any, .any, .any, .any, .any, .any, .any, .any, .any, .any, .any, .any, .any, .any, num l.length, num i, .any, .any, .any, .any, .any, .any, .any, .any, .any, .any, .any, .any, .any] ∧ H = [] ∧ dgs (l.take i)) ?_ ?_ ?_
        · rintro i fr H n' hi ⟨rfl, rfl, hd⟩ IH
          simp -implicitDefEqProofs (disch := first | omega | assumption | (simp only [QN] <;> omega)) only [QB, QL, Nat.reduceSub, Nat.reduceAdd, Nat.reduceLeDiff, Nat.reduceEqDiff, reduceCtorEq, ↓reduceIte, Int.reduceAdd, Int.reduceSub, Int.reduceToNat, Int.reduceLT, Int.reduceLE, Int.reduceEq, Int.reduceNeg, Nat.reduceLT, QT3, QT4, QT5, QT9]
          by_cases h5 : (i : Int) < l.length <;> simp (disch := omega) only [h5, decide_true, decide_false, Bool.not_true, Bool.not_false, reduceCtorEq, ↓reduceIte, Option.bind_some]
          · simp -implicitDefEqProofs (disch := first | omega | assumption | (simp only [QN] <;> omega)) only [QB, QL, Nat.reduceSub, Nat.reduceAdd, Nat.reduceLeDiff, Nat.reduceEqDiff, reduceCtorEq, ↓reduceIte, Int.reduceAdd, Int.reduceSub, Int.reduceToNat, Int.reduceLT, Int.reduceLE, Int.reduceEq, Int.reduceNeg, Nat.reduceLT, QT3, QT4, QT5, QT9]
            by_cases h6 : byt l i < 48 <;> simp (disch := omega) only [h6, decide_true, decide_false, Bool.not_true, Bool.not_false, reduceCtorEq, ↓reduceIte, Option.bind_some]
            · simp -implicitDefEqProofs (disch := first | omega | assumption | (simp only [QN] <;> omega)) only [QB, QL, Nat.reduceSub, Nat.reduceAdd, Nat.reduceLeDiff, Nat.reduceEqDiff, reduceCtorEq, ↓reduceIte, Int.reduceAdd, Int.reduceSub, Int.reduceToNat, Int.reduceLT, Int.reduceLE, Int.reduceEq, Int.reduceNeg, Nat.reduceLT, QT3, QT4, QT5, QT9]
              rw [hB (fun h => dgs_not (k := i) (by omega) (.inl h6) h.2.2)]
            · simp -implicitDefEqProofs (disch := first | omega | assumption | (simp only [QN] <;> omega)) only [QB, QL, Nat.reduceSub, Nat.reduceAdd, Nat.reduceLeDiff, Nat.reduceEqDiff, reduceCtorEq, ↓reduceIte, Int.reduceAdd, Int.reduceSub, Int.reduceToNat, Int.reduceLT, Int.reduceLE, Int.reduceEq, Int.reduceNeg, Nat.reduceLT, QT3, QT4, QT5, QT9]
              by_cases h7 : 57 < byt l i <;> simp (disch := omega) only [h7, decide_true, decide_false, Bool.not_true, Bool.not_false, reduceCtorEq, ↓reduceIte, Option.bind_some]
              · simp -implicitDefEqProofs (disch := first | omega | assumption | (simp only [QN] <;> omega)) only [QB, QL, Nat.reduceSub, Nat.reduceAdd, Nat.reduceLeDiff, Nat.reduceEqDiff, reduceCtorEq, ↓reduceIte, Int.reduceAdd, Int.reduceSub, Int.reduceToNat, Int.reduceLT, Int.reduceLE, Int.reduceEq, Int.reduceNeg, Nat.reduceLT, QT3, QT4, QT5, QT9]
                rw [hB (fun h => dgs_not (k := i) (by omega) (.inr h7) h.2.2)]
              · simp -implicitDefEqProofs (disch := first | omega | assumption | (simp only [QN] <;> omega)) only [QB, QL, Nat.reduceSub, Nat.reduceAdd, Nat.reduceLeDiff, Nat.reduceEqDiff, reduceCtorEq, ↓reduceIte, Int.reduceAdd, Int.reduceSub, Int.reduceToNat, Int.reduceLT, Int.reduceLE, Int.reduceEq, Int.reduceNeg, Nat.reduceLT, QT3, QT4, QT5, QT9]
                refine IH _ (by omega) ⟨_, _, ?_, rfl, rfl, dgs_snoc hd (by omega) (by omega)⟩
                rw [show ((i + 1 : Nat) : Int) = (i : Int) + 1 by omega]
                kernel_rfl
          · simp -implicitDefEqProofs (disch := first | omega | assumption | (simp only [QN] <;> omega)) only [QB, QL, Nat.reduceSub, Nat.reduceAdd, Nat.reduceLeDiff, Nat.reduceEqDiff, reduceCtorEq, ↓reduceIte, Int.reduceAdd, Int.reduceSub, Int.reduceToNat, Int.reduceLT, Int.reduceLE, Int.reduceEq, Int.reduceNeg, Nat.reduceLT, QT3, QT4, QT5, QT9]
            rw [List.take_of_length_le (by omega)] at hd
            rw [hA ⟨h1, hz, hd⟩]
        · omega
        · refine ⟨_, _, ?_, rfl, rfl, by intro c hc; simp at hc⟩
          kernel_rfl
    · have d2 : decide (byt l 0 = 48) = false := decide_eq_false h2
      have hz : byt l 0 = 48 → l.length ≤ 1 := fun h => absurd h h2
      simp -implicitDefEqProofs (disch := first | omega | assumption | (simp only [QN] <;> omega)) only [QB, QL, Nat.reduceSub, Nat.reduceAdd, Nat.reduceLeDiff, Nat.reduceEqDiff, reduceCtorEq, ↓reduceIte, Int.reduceAdd, Int.reduceSub, Int.reduceToNat, Int.reduceLT, Int.reduceLE, Int.reduceEq, Int.reduceNeg, Nat.reduceLT, QT3, QT4, QT5, QT9, d2]
      refine loop_up l.length (fun i fr H => fr = [st l, .any, boo false, .any, .any, .any, .any, .any, .any, .any, .any, .any, .any, .any, .any, .any, .any, num l.length, num i, .any, .any, .any, .any, .any, .any, .any, .any, .any, .any, .any, .any, .any] ∧ H = [] ∧ dgs (l.take i)) ?_ ?_ ?_
      · rintro i fr H n' hi ⟨rfl, rfl, hd⟩ IH
        simp -implicitDefEqProofs (disch := first | omega | assumption | (simp only [QN] <;> omega)) only [QB, QL, Nat.reduceSub, Nat.reduceAdd, Nat.reduceLeDiff, Nat.reduceEqDiff, reduceCtorEq, ↓reduceIte, Int.reduceAdd, Int.reduceSub, Int.reduceToNat, Int.reduceLT, Int.reduceLE, Int.reduceEq, Int.reduceNeg, Nat.reduceLT, QT3, QT4, QT5, QT9]
        by_cases h5 : (i : Int) < l.length <;> simp (disch := omega) only [h5, decide_true, decide_false, Bool.not_true, Bool.not_false, reduceCtorEq, ↓reduceIte, Option.bind_some]
        · simp -implicitDefEqProofs (disch := first | omega | assumption | (simp only [QN] <;> omega)) only [QB, QL, Nat.reduceSub, Nat.reduceAdd, Nat.reduceLeDiff, Nat.reduceEqDiff, reduceCtorEq, ↓reduceIte, Int.reduceAdd, Int.reduceSub, Int.reduceToNat, Int.reduceLT, Int.reduceLE, Int.reduceEq, Int.reduceNeg, Nat.reduceLT, QT3, QT4, QT5, QT9]
          by_cases h6 : byt l i < 48 <;> simp (disch := omega) only [h6, decide_true, decide_false, Bool.not_true, Bool.not_false, reduceCtorEq, ↓reduceIte, Option.bind_some]
          · simp -implicitDefEqProofs (disch := first | omega | assumption | (simp only [QN] <;> omega)) only [QB, QL, Nat.reduceSub, Nat.reduceAdd, Nat.reduceLeDiff, Nat.reduceEqDiff, reduceCtorEq, ↓reduceIte, Int.reduceAdd, Int.reduceSub, Int.reduceToNat, Int.reduceLT, Int.reduceLE, Int.reduceEq, Int.reduceNeg, Nat.reduceLT, QT3, QT4, QT5, QT9]
            rw [hB (fun h => dgs_not (k := i) (by omega) (.inl h6) h.2.2)]
          · simp -implicitDefEqProofs (disch := first | omega | assumption | (simp only [QN] <;> omega)) only [QB, QL, Nat.reduceSub, Nat.reduceAdd, Nat.reduceLeDiff, Nat.reduceEqDiff, reduceCtorEq, ↓reduceIte, Int.reduceAdd, Int.reduceSub, Int.reduceToNat, Int.reduceLT, Int.reduceLE, Int.reduceEq, Int.reduceNeg, Nat.reduceLT, QT3, QT4, QT5, QT9]
            by_cases h7 : 57 < byt l i <;> simp (disch := omega) only [h7, decide_true, decide_false, Bool.not_true, Bool.not_false, reduceCtorEq, ↓reduceIte, Option.bind_some]
            · simp -implicitDefEqProofs (disch := first | omega | assumption | (simp only [QN] <;> omega)) only [QB, QL, Nat.reduceSub, Nat.reduceAdd, Nat.reduceLeDiff, Nat.reduceEqDiff, reduceCtorEq, ↓reduceIte, Int.reduceAdd, Int.reduceSub, Int.reduceToNat, Int.reduceLT, Int.reduceLE, Int.reduceEq, Int.reduceNeg, Nat.reduceLT, QT3, QT4, QT5, QT9]
              rw [hB (fun h => dgs_not (k := i) (by omega) (.inr h7) h.2.2)]
            · simp -implicitDefEqProofs (disch := first | omega | assumption | (simp only [QN] <;> omega)) only [QB, QL, Nat.reduceSub, Nat.reduceAdd, Nat.reduceLeDiff, Nat.reduceEqDiff, reduceCtorEq, ↓reduceIte, Int.reduceAdd, Int.reduceSub, Int.reduceToNat, Int.reduceLT, Int.reduceLE, Int.reduceEq, Int.reduceNeg, Nat.reduceLT, QT3, QT4, QT5, QT9]
              refine IH _ (by omega) ⟨_, _, ?_, rfl, rfl, dgs_snoc hd (by omega) (by omega)⟩
              rw [show ((i + 1 : Nat) : Int) = (i : Int) + 1 by omega]
              kernel_rfl
        · simp -implicitDefEqProofs (disch := first | omega | assumption | (simp only [QN] <;> omega)) only [QB, QL, Nat.reduceSub, Nat.reduceAdd, Nat.reduceLeDiff, Nat.reduceEqDiff, reduceCtorEq, ↓reduceIte, Int.reduceAdd, Int.reduceSub, Int.reduceToNat, Int.reduceLT, Int.reduceLE, Int.reduceEq, Int.reduceNeg, Nat.reduceLT, QT3, QT4, QT5, QT9]
          rw [List.take_of_length_le (by omega)] at hd
          rw [hA ⟨h1, hz, hd⟩]
      · omega
      · refine ⟨_, _, ?_, rfl, rfl, by intro c hc; simp at hc⟩
        kernel_rfl
end Go.Proofs.Ythjmbppofgadaaa

namespace Go.Proofs.Ythjmbppofgadaaa
open Go Go.AM
set_option maxHeartbeats 4000000
theorem ev_ntrim (xs : List Int) (off len : Nat) (fz : Bool) (h : off + len ≤ xs.length) (hx : xs.length ≤ 1000000000) (n : Nat) (hn : len + 10 ≤ n) :
    pcall G n 89 [.c (.osl 0 off len 1)] [.flat fz (ks .u64 xs)] = some (.c (.osl 0 off (trimL ((xs.drop off).take len)).length 1), [.flat fz (ks .u64 xs)]) := by
  obtain ⟨n, rfl⟩ : ∃ m, n = m + 1 := ⟨n - 1, by omega⟩; rw [pcall_at fn89 rfl, imp89, G_tb]
  simp -implicitDefEqProofs (disch := (first | omega | assumption | fail)) only [QB, QL, Nat.reduceSub, Nat.reduceAdd, Nat.reduceLeDiff, Nat.reduceEqDiff, reduceCtorEq, ↓reduceIte, Int.reduceAdd, Int.reduceSub, Int.reduceToNat, Int.reduceLT, Int.reduceLE, Int.reduceEq, Int.reduceNeg, Nat.reduceLT, QT3, QT4, QT87, QT113]
  refine loop_up len (fun i fr H => ∃ l : Nat, fr = [.c (.osl 0 off l 1), .any, .c (.t (.sl 0 [])), .any, .any, .any, .any, .any, .any, .any, .any, .any, .any, .any, .any, .any, .any, .any, .any, .any, .any] ∧ H = [.flat fz (ks .u64 xs)] ∧ l ≤ len ∧ i + l = len ∧ trimL ((xs.drop off).take len) = trimL ((xs.drop off).take l)) ?_ ?_ ?_
  · rintro i fr H n hi ⟨l, rfl, rfl, h1, h2, hT⟩ IH
    simp -implicitDefEqProofs (disch := (first | omega | assumption | fail)) only [QB, QL, Nat.reduceSub, Nat.reduceAdd, Nat.reduceLeDiff, Nat.reduceEqDiff, reduceCtorEq, ↓reduceIte, Int.reduceAdd, Int.reduceSub, Int.reduceToNat, Int.reduceLT, Int.reduceLE, Int.reduceEq, Int.reduceNeg, Nat.reduceLT, QT3, QT4, QT87, QT113]
    by_cases h3 : (0 : Int) < l <;> simp (disch := omega) only [h3, decide_true, decide_false, Bool.not_true, Bool.not_false, reduceCtorEq, ↓reduceIte, Option.bind_some]
    · simp -implicitDefEqProofs (disch := (first | omega | assumption | fail)) only [QB, QL, Nat.reduceSub, Nat.reduceAdd, Nat.reduceLeDiff, Nat.reduceEqDiff, reduceCtorEq, ↓reduceIte, Int.reduceAdd, Int.reduceSub, Int.reduceToNat, Int.reduceLT, Int.reduceLE, Int.reduceEq, Int.reduceNeg, Nat.reduceLT, QT3, QT4, QT87, QT113, ldO_f]
      have e : off + ((l : Int) - 1).toNat = off + (l - 1) := by omega
      have e2 : ((l : Int) - 1).toNat = l - 1 := by omega
      rw [e]
      by_cases h4 : xs.getD (off + (l - 1)) 0 = 0 <;> simp (disch := omega) only [h4, decide_true, decide_false, Bool.not_true, Bool.not_false, reduceCtorEq, ↓reduceIte, Option.bind_some]
      · simp -implicitDefEqProofs (disch := (first | omega | assumption | fail)) only [QB, QL, Nat.reduceSub, Nat.reduceAdd, Nat.reduceLeDiff, Nat.reduceEqDiff, reduceCtorEq, ↓reduceIte, Int.reduceAdd, Int.reduceSub, Int.reduceToNat, Int.reduceLT, Int.reduceLE, Int.reduceEq, Int.reduceNeg, Nat.reduceLT, QT3, QT4, QT87, QT113, h4]
        rw [e2]
        refine IH _ (by omega) ⟨_, _, ?_, l - 1, rfl, rfl, by omega, by omega, ?_⟩
        · kernel_rfl
        · rw [hT, take_last (by omega) (by omega), h4, trimL_zero]
      · simp -implicitDefEqProofs (disch := (first | omega | assumption | fail)) only [QB, QL, Nat.reduceSub, Nat.reduceAdd, Nat.reduceLeDiff, Nat.reduceEqDiff, reduceCtorEq, ↓reduceIte, Int.reduceAdd, Int.reduceSub, Int.reduceToNat, Int.reduceLT, Int.reduceLE, Int.reduceEq, Int.reduceNeg, Nat.reduceLT, QT3, QT4, QT87, QT113]
        rw [hT, take_last (by omega) (by omega), trimL_last h4, ← take_last (by omega) (by omega)]
        simp
        omega
    · have : l = 0 := by omega
      subst this
      simp -implicitDefEqProofs (disch := (first | omega | assumption | fail)) only [QB, QL, Nat.reduceSub, Nat.reduceAdd, Nat.reduceLeDiff, Nat.reduceEqDiff, reduceCtorEq, ↓reduceIte, Int.reduceAdd, Int.reduceSub, Int.reduceToNat, Int.reduceLT, Int.reduceLE, Int.reduceEq, Int.reduceNeg, Nat.reduceLT, QT3, QT4, QT87, QT113]
      rw [hT]
      rfl
  · omega
  · refine ⟨_, _, ?_, len, rfl, rfl, Nat.le_refl _, by omega, rfl⟩
    kernel_rfl
end Go.Proofs.Ythjmbppofgadaaa

namespace Go.Proofs.Ythjmbppofgadaaa
open Go Go.AM
set_option maxHeartbeats 4000000
abbrev N64 (m : Nat) : T := rowK .u64 (dig 18446744073709551616 m)
theorem ev_ncmp (a b : Nat) (ha : (dig 18446744073709551616 a).length ≤ 100000000) (hb : (dig 18446744073709551616 b).length ≤ 100000000) (n : Nat) (hn : (dig 18446744073709551616 a).length + 20 ≤ n) : pcall G n 66 [.c (.t (N64 a)), .c (.t (N64 b))] [] = some (num (cmpN a b), []) := by
  obtain ⟨n, rfl⟩ : ∃ m, n = m + 1 := ⟨n - 1, by omega⟩; rw [pcall_at fn66 rfl, imp66, G_tb]
  simp -implicitDefEqProofs (disch := first | omega | assumption | (simp only [QN] <;> omega)) only [QB, QL, Nat.reduceSub, Nat.reduceAdd, Nat.reduceLeDiff, Nat.reduceEqDiff, reduceCtorEq, ↓reduceIte, Int.reduceAdd, Int.reduceSub, Int.reduceToNat, Int.reduceLT, Int.reduceLE, Int.reduceEq, Int.reduceNeg, Nat.reduceLT, QT3, QT4, QT87, QT113]
  by_cases h1 : ((dig 18446744073709551616 a).length : Int) = (dig 18446744073709551616 b).length <;> simp (disch := omega) only [h1, decide_true, decide_false, Bool.not_true, Bool.not_false, reduceCtorEq, ↓reduceIte, Option.bind_some]
  rotate_left
  · simp -implicitDefEqProofs (disch := first | omega | assumption | (simp only [QN] <;> omega)) only [QB, QL, Nat.reduceSub, Nat.reduceAdd, Nat.reduceLeDiff, Nat.reduceEqDiff, reduceCtorEq, ↓reduceIte, Int.reduceAdd, Int.reduceSub, Int.reduceToNat, Int.reduceLT, Int.reduceLE, Int.reduceEq, Int.reduceNeg, Nat.reduceLT, QT3, QT4, QT87, QT113]
    by_cases h2 : ((dig 18446744073709551616 a).length : Int) < (dig 18446744073709551616 b).length <;> simp (disch := omega) only [h2, decide_true, decide_false, Bool.not_true, Bool.not_false, reduceCtorEq, ↓reduceIte, Option.bind_some]
    · have := dig_len_lt (by decide) (show (dig 18446744073709551616 a).length < (dig 18446744073709551616 b).length by omega)
      simp -implicitDefEqProofs (disch := first | omega | assumption | (simp only [QN] <;> omega)) only [QB, QL, Nat.reduceSub, Nat.reduceAdd, Nat.reduceLeDiff, Nat.reduceEqDiff, reduceCtorEq, ↓reduceIte, Int.reduceAdd, Int.reduceSub, Int.reduceToNat, Int.reduceLT, Int.reduceLE, Int.reduceEq, Int.reduceNeg, Nat.reduceLT, QT3, QT4, QT87, QT113]
      simp [cmpN, this]
    · have := dig_len_lt (by decide) (show (dig 18446744073709551616 b).length < (dig 18446744073709551616 a).length by omega)
      simp -implicitDefEqProofs (disch := first | omega | assumption | (simp only [QN] <;> omega)) only [QB, QL, Nat.reduceSub, Nat.reduceAdd, Nat.reduceLeDiff, Nat.reduceEqDiff, reduceCtorEq, ↓reduceIte, Int.reduceAdd, Int.reduceSub, Int.reduceToNat, Int.reduceLT, Int.reduceLE, Int.reduceEq, Int.reduceNeg, Nat.reduceLT, QT3, QT4, QT87, QT113]
      simp [cmpN, show ¬ a < b by omega, show ¬ a = b by omega]
  have wa : Ws 18446744073709551616 (dig 18446744073709551616 a) := dig_ws (by decide) a
  have wb : Ws 18446744073709551616 (dig 18446744073709551616 b) := dig_ws (by decide) b
  have va : val 18446744073709551616 (dig 18446744073709551616 a) = a := dig_val (by decide) a
  have vb : val 18446744073709551616 (dig 18446744073709551616 b) = b := dig_val (by decide) b
  have inj := dig_inj (b := 18446744073709551616) (m := a) (n := b) (by decide)
  unfold N64
  generalize dig 18446744073709551616 a = xs at *
  generalize dig 18446744073709551616 b = ys at *
  simp -implicitDefEqProofs (disch := first | omega | assumption | (simp only [QN] <;> omega)) only [QB, QL, Nat.reduceSub, Nat.reduceAdd, Nat.reduceLeDiff, Nat.reduceEqDiff, reduceCtorEq, ↓reduceIte, Int.reduceAdd, Int.reduceSub, Int.reduceToNat, Int.reduceLT, Int.reduceLE, Int.reduceEq, Int.reduceNeg, Nat.reduceLT, QT3, QT4, QT87, QT113]
  refine loop_up xs.length (fun i fr H => fr = [.c (.t (rowK .u64 xs)), .c (.t (rowK .u64 ys)), .any, .any, num 0, num ((xs.length : Int) - 1 - i), .any, .any, .any, .any, .any, .any, .any, .any, .any, .any, .any, .any, .any, .any, .any, .any, .any, .any, .any, .any, .any, .any, .any, .any, .any, .any, .any, .any, .any, .any, .any, .any, .any, .any, .any, .any] ∧ H = [] ∧ xs.drop (xs.length - i) = ys.drop (xs.length - i)) ?_ ?_ ?_
  · rintro i fr H n hi ⟨rfl, rfl, hd⟩ IH
    simp -implicitDefEqProofs (disch := first | omega | assumption | (simp only [QN] <;> omega)) only [QB, QL, Nat.reduceSub, Nat.reduceAdd, Nat.reduceLeDiff, Nat.reduceEqDiff, reduceCtorEq, ↓reduceIte, Int.reduceAdd, Int.reduceSub, Int.reduceToNat, Int.reduceLT, Int.reduceLE, Int.reduceEq, Int.reduceNeg, Nat.reduceLT, QT3, QT4, QT87, QT113]
    by_cases h3 : (0 : Int) ≤ (xs.length : Int) - 1 - i <;> simp (disch := omega) only [h3, decide_true, decide_false, Bool.not_true, Bool.not_false, reduceCtorEq, ↓reduceIte, Option.bind_some]
    · have e : ((xs.length : Int) - 1 - i).toNat = xs.length - 1 - i := by omega
      have hd' : xs.drop (xs.length - 1 - i + 1) = ys.drop (xs.length - 1 - i + 1) := by rw [show xs.length - 1 - i + 1 = xs.length - i by omega]; exact hd
      simp -implicitDefEqProofs (disch := first | omega | assumption | (simp only [QN] <;> omega)) only [QB, QL, Nat.reduceSub, Nat.reduceAdd, Nat.reduceLeDiff, Nat.reduceEqDiff, reduceCtorEq, ↓reduceIte, Int.reduceAdd, Int.reduceSub, Int.reduceToNat, Int.reduceLT, Int.reduceLE, Int.reduceEq, Int.reduceNeg, Nat.reduceLT, QT3, QT4, QT87, QT113, e]
      by_cases h4 : xs.getD (xs.length - 1 - i) 0 = ys.getD (xs.length - 1 - i) 0 <;> simp (disch := omega) only [h4, decide_true, decide_false, Bool.not_true, Bool.not_false, reduceCtorEq, ↓reduceIte, Option.bind_some]
      · simp -implicitDefEqProofs (disch := first | omega | assumption | (simp only [QN] <;> omega)) only [QB, QL, Nat.reduceSub, Nat.reduceAdd, Nat.reduceLeDiff, Nat.reduceEqDiff, reduceCtorEq, ↓reduceIte, Int.reduceAdd, Int.reduceSub, Int.reduceToNat, Int.reduceLT, Int.reduceLE, Int.reduceEq, Int.reduceNeg, Nat.reduceLT, QT3, QT4, QT87, QT113]
        refine IH _ (by omega) ⟨_, _, ?_, rfl, rfl, ?_⟩
        · rw [show (xs.length : Int) - 1 - ((i + 1 : Nat) : Int) = (xs.length : Int) - 1 - i - 1 by omega]
          kernel_rfl
        · rw [show xs.length - (i + 1) = xs.length - 1 - i by omega, List.drop_eq_getElem_cons (show xs.length - 1 - i < xs.length by omega), List.drop_eq_getElem_cons (show xs.length - 1 - i < ys.length by omega), hd']
          congr 1
          rw [List.getD_eq_getElem?_getD, List.getD_eq_getElem?_getD, List.getElem?_eq_getElem (show xs.length - 1 - i < xs.length by omega), List.getElem?_eq_getElem (show xs.length - 1 - i < ys.length by omega)] at h4
          exact h4
      · simp -implicitDefEqProofs (disch := first | omega | assumption | (simp only [QN] <;> omega)) only [QB, QL, Nat.reduceSub, Nat.reduceAdd, Nat.reduceLeDiff, Nat.reduceEqDiff, reduceCtorEq, ↓reduceIte, Int.reduceAdd, Int.reduceSub, Int.reduceToNat, Int.reduceLT, Int.reduceLE, Int.reduceEq, Int.reduceNeg, Nat.reduceLT, QT3, QT4, QT87, QT113, e]
        by_cases h5 : xs.getD (xs.length - 1 - i) 0 < ys.getD (xs.length - 1 - i) 0 <;> simp (disch := omega) only [h5, decide_true, decide_false, Bool.not_true, Bool.not_false, reduceCtorEq, ↓reduceIte, Option.bind_some]
        · have := cmp_digit (by decide) wa wb (by omega) (by omega) hd' h5
          simp -implicitDefEqProofs (disch := first | omega | assumption | (simp only [QN] <;> omega)) only [QB, QL, Nat.reduceSub, Nat.reduceAdd, Nat.reduceLeDiff, Nat.reduceEqDiff, reduceCtorEq, ↓reduceIte, Int.reduceAdd, Int.reduceSub, Int.reduceToNat, Int.reduceLT, Int.reduceLE, Int.reduceEq, Int.reduceNeg, Nat.reduceLT, QT3, QT4, QT87, QT113]
          simp [cmpN, show a < b by omega]
        · have := cmp_digit (by decide) wb wa (by omega) (by omega) hd'.symm (by omega)
          simp -implicitDefEqProofs (disch := first | omega | assumption | (simp only [QN] <;> omega)) only [QB, QL, Nat.reduceSub, Nat.reduceAdd, Nat.reduceLeDiff, Nat.reduceEqDiff, reduceCtorEq, ↓reduceIte, Int.reduceAdd, Int.reduceSub, Int.reduceToNat, Int.reduceLT, Int.reduceLE, Int.reduceEq, Int.reduceNeg, Nat.reduceLT, QT3, QT4, QT87, QT113]
          simp [cmpN, show ¬ a < b by omega, show ¬ a = b by omega]
    · simp -implicitDefEqProofs (disch := first | omega | assumption | (simp only [QN] <;> omega)) only [QB, QL, Nat.reduceSub, Nat.reduceAdd, Nat.reduceLeDiff, Nat.reduceEqDiff, reduceCtorEq, ↓reduceIte, Int.reduceAdd, Int.reduceSub, Int.reduceToNat, Int.reduceLT, Int.reduceLE, Int.reduceEq, Int.reduceNeg, Nat.reduceLT, QT3, QT4, QT87, QT113]
      have : xs = ys := by simpa [show xs.length - i = 0 by omega] using hd
      have := inj this
      simp [cmpN, this]
  · omega
  · refine ⟨_, _, ?_, rfl, rfl, ?_⟩
    · rw [show (xs.length : Int) - 1 - ((0 : Nat) : Int) = (xs.length : Int) - 1 by omega]
      kernel_rfl
    · rw [Nat.sub_zero, List.drop_of_length_le (Nat.le_refl _), List.drop_of_length_le (by omega)]
end Go.Proofs.Ythjmbppofgadaaa

namespace Go.Proofs.Ythjmbppofgadaaa
open Go Go.AM
set_option maxHeartbeats 4000000
set_option maxRecDepth 100000
theorem ev_word (u : Nat) (hu : u < 18446744073709551616) (n : Nat) (hn : 20 ≤ n) : pcall G n 77 [wd u] [] = some (.c (.t (N64 u)), []) := by
  obtain ⟨n, rfl⟩ : ∃ m, n = m + 1 := ⟨n - 1, by omega⟩; rw [pcall_at fn77 rfl, imp77, G_tb]
  simp -implicitDefEqProofs (disch := first | omega | assumption | (simp only [QN] <;> omega)) only [QB, QL, Nat.reduceSub, Nat.reduceAdd, Nat.reduceLeDiff, Nat.reduceEqDiff, reduceCtorEq, ↓reduceIte, Int.reduceAdd, Int.reduceSub, Int.reduceToNat, Int.reduceLT, Int.reduceLE, Int.reduceEq, Int.reduceNeg, Nat.reduceLT, QT4, QT87, QT113, QT2, QT55, QT57]
  by_cases h : (u : Int) = 0 <;> simp (disch := omega) only [h, decide_true, decide_false, Bool.not_true, Bool.not_false, reduceCtorEq, ↓reduceIte, Option.bind_some]
  · simp -implicitDefEqProofs (disch := first | omega | assumption | (simp only [QN] <;> omega)) only [QB, QL, Nat.reduceSub, Nat.reduceAdd, Nat.reduceLeDiff, Nat.reduceEqDiff, reduceCtorEq, ↓reduceIte, Int.reduceAdd, Int.reduceSub, Int.reduceToNat, Int.reduceLT, Int.reduceLE, Int.reduceEq, Int.reduceNeg, Nat.reduceLT, QT4, QT87, QT113, QT2, QT55, QT57]
    have : u = 0 := by omega
    subst this
    unfold N64
    rw [dig_zero]
    rfl
  · simp -implicitDefEqProofs (disch := first | omega | assumption | (simp only [QN] <;> omega)) only [QB, QL, Nat.reduceSub, Nat.reduceAdd, Nat.reduceLeDiff, Nat.reduceEqDiff, reduceCtorEq, ↓reduceIte, Int.reduceAdd, Int.reduceSub, Int.reduceToNat, Int.reduceLT, Int.reduceLE, Int.reduceEq, Int.reduceNeg, Nat.reduceLT, QT4, QT87, QT113, QT2, QT55, QT57]
    have h1 := dig_len1 (b := 18446744073709551616) (by decide) hu (by omega)
    unfold N64 rowK
    rw [h1, dig_one (by decide) h1]
    rfl
abbrev R64 (p q : Int) : List C := [.t (.int .i64 p), .t (.int .i64 q), .t .nilp]
theorem ev_zero (p q : Int) (n : Nat) (hn : 20 ≤ n) : pcall G n 58 [.agg (R64 p q)] [] = some (boo (decide (p = 0)), []) := by
  obtain ⟨n, rfl⟩ : ∃ m, n = m + 1 := ⟨n - 1, by omega⟩; rw [pcall_at fn58 rfl, imp58, G_tb]
  simp -implicitDefEqProofs (disch := first | omega | assumption | (simp only [QN] <;> omega)) only [QB, QL, Nat.reduceSub, Nat.reduceAdd, Nat.reduceLeDiff, Nat.reduceEqDiff, reduceCtorEq, ↓reduceIte, Int.reduceAdd, Int.reduceSub, Int.reduceToNat, Int.reduceLT, Int.reduceLE, Int.reduceEq, Int.reduceNeg, Nat.reduceLT, QT4, QT87, QT113, QT2, QT55, QT57]
end Go.Proofs.Ythjmbppofgadaaa

namespace Go.Proofs.Ythjmbppofgadaaa
open Go Go.AM
set_option maxHeartbeats 4000000
set_option maxRecDepth 100000
theorem ev_low (s : Bool) (p q : Nat) (hp : p < 2147483648) (hq : q < 2147483648) (hq0 : q ≠ 0) (n : Nat) (hn : 40 ≤ n) :
    pcall G n 68 [boo s, .c (.t (N64 p)), .c (.t (N64 q))] [] = some (.agg (if p = 0 then R64 0 0 else R64 (if s then -(p : Int) else p) q), []) := by
  obtain ⟨n, rfl⟩ : ∃ m, n = m + 1 := ⟨n - 1, by omega⟩; rw [pcall_at fn68 rfl, imp68, G_tb]
  by_cases h0 : p = 0
  · subst h0
    simp -implicitDefEqProofs (disch := first | omega | assumption | (simp only [QN] <;> omega)) only [QB, QL, Nat.reduceSub, Nat.reduceAdd, Nat.reduceLeDiff, Nat.reduceEqDiff, reduceCtorEq, ↓reduceIte, Int.reduceAdd, Int.reduceSub, Int.reduceToNat, Int.reduceLT, Int.reduceLE, Int.reduceEq, Int.reduceNeg, Nat.reduceLT, QT2, QT3, QT4, QT55, QT57, QT87, QT113, QT128, len_pos (b := 18446744073709551616) (by decide), len_zero (b := 18446744073709551616) (by decide)]
  · have l0 := dig_len1 (b := 18446744073709551616) (n := p) (by decide) (by omega) h0
    have l1 := dig_one (b := 18446744073709551616) (by decide) l0
    have l2 := dig_len1 (b := 18446744073709551616) (n := q) (by decide) (by omega) hq0
    have l3 := dig_one (b := 18446744073709551616) (by decide) l2
    rw [if_neg h0]
    have c1 : decide ((p : Int) < 2147483648) = true := decide_eq_true (by omega)
    have c2 : decide ((q : Int) < 2147483648) = true := decide_eq_true (by omega)
    simp -implicitDefEqProofs (disch := first | omega | assumption | (simp only [QN] <;> omega)) only [QB, QL, Nat.reduceSub, Nat.reduceAdd, Nat.reduceLeDiff, Nat.reduceEqDiff, reduceCtorEq, ↓reduceIte, Int.reduceAdd, Int.reduceSub, Int.reduceToNat, Int.reduceLT, Int.reduceLE, Int.reduceEq, Int.reduceNeg, Nat.reduceLT, QT2, QT3, QT4, QT55, QT57, QT87, QT113, QT128, len_pos (b := 18446744073709551616) (by decide), len_zero (b := 18446744073709551616) (by decide), h0, l0, l1, l2, l3, List.getD_cons_zero, c1, c2]
    cases s
    · simp -implicitDefEqProofs (disch := first | omega | assumption | (simp only [QN] <;> omega)) only [QB, QL, Nat.reduceSub, Nat.reduceAdd, Nat.reduceLeDiff, Nat.reduceEqDiff, reduceCtorEq, ↓reduceIte, Int.reduceAdd, Int.reduceSub, Int.reduceToNat, Int.reduceLT, Int.reduceLE, Int.reduceEq, Int.reduceNeg, Nat.reduceLT, QT2, QT3, QT4, QT55, QT57, QT87, QT113, QT128, len_pos (b := 18446744073709551616) (by decide), len_zero (b := 18446744073709551616) (by decide)]
    · simp -implicitDefEqProofs (disch := first | omega | assumption | (simp only [QN] <;> omega)) only [QB, QL, Nat.reduceSub, Nat.reduceAdd, Nat.reduceLeDiff, Nat.reduceEqDiff, reduceCtorEq, ↓reduceIte, Int.reduceAdd, Int.reduceSub, Int.reduceToNat, Int.reduceLT, Int.reduceLE, Int.reduceEq, Int.reduceNeg, Nat.reduceLT, QT2, QT3, QT4, QT55, QT57, QT87, QT113, QT128, len_pos (b := 18446744073709551616) (by decide), len_zero (b := 18446744073709551616) (by decide), Int.zero_sub]
end Go.Proofs.Ythjmbppofgadaaa

namespace Go.Proofs.Ythjmbppofgadaaa
open Go Go.AM
set_option maxHeartbeats 4000000
set_option maxRecDepth 100000
theorem ev_gcdw (a b : Nat) (ha : a < 18446744073709551616) (hb : b < 18446744073709551616) (n : Nat) (hn : b + 100 ≤ n) :
    pcall G n 67 [.c (.t (N64 a)), .c (.t (N64 b))] [] = some (.c (.t (N64 (Nat.gcd a b))), []) := by
  obtain ⟨n, rfl⟩ : ∃ m, n = m + 1 := ⟨n - 1, by omega⟩; rw [pcall_at fn67 rfl, imp67, G_tb]
  simp -implicitDefEqProofs (disch := first | omega | assumption | (simp only [QN] <;> omega)) only [QB, QL, Nat.reduceSub, Nat.reduceAdd, Nat.reduceLeDiff, Nat.reduceEqDiff, reduceCtorEq, ↓reduceIte, Int.reduceAdd, Int.reduceSub, Int.reduceToNat, Int.reduceLT, Int.reduceLE, Int.reduceEq, Int.reduceNeg, Nat.reduceLT, QT4, QT87, QT113, QT3, t_call imp77, len_pos (b := 18446744073709551616) (by decide), len_zero (b := 18446744073709551616) (by decide)]
  refine loop_up 0 (fun i fr H => fr = [.c (.t (N64 a)), .c (.t (N64 b)), .any, .any, .c (.t (.sl 0 [])), .any, .any, .any, .any, .any, .any, .any, .any, .any, .any, .any, .any, .any, .any, .any, .any, .any, .any, .any, .any, .any, .any, .any, .any, .any, .any, .any, .any, .any, .any, .any, .any, .any, .any, .any, .any, .any, .any, .any, .any, .any] ∧ H = []) ?_ ?_ ?_
  · rintro i fr H n' hi ⟨rfl, rfl⟩ IH
    simp -implicitDefEqProofs (disch := first | omega | assumption | (simp only [QN] <;> omega)) only [QB, QL, Nat.reduceSub, Nat.reduceAdd, Nat.reduceLeDiff, Nat.reduceEqDiff, reduceCtorEq, ↓reduceIte, Int.reduceAdd, Int.reduceSub, Int.reduceToNat, Int.reduceLT, Int.reduceLE, Int.reduceEq, Int.reduceNeg, Nat.reduceLT, QT4, QT87, QT113, QT3, t_call imp77, len_pos (b := 18446744073709551616) (by decide), len_zero (b := 18446744073709551616) (by decide)]
    by_cases h0 : b = 0 <;> simp (disch := omega) only [h0, decide_true, decide_false, Bool.not_true, Bool.not_false, reduceCtorEq, ↓reduceIte, Option.bind_some]
    · subst h0
      simp -implicitDefEqProofs (disch := first | omega | assumption | (simp only [QN] <;> omega)) only [QB, QL, Nat.reduceSub, Nat.reduceAdd, Nat.reduceLeDiff, Nat.reduceEqDiff, reduceCtorEq, ↓reduceIte, Int.reduceAdd, Int.reduceSub, Int.reduceToNat, Int.reduceLT, Int.reduceLE, Int.reduceEq, Int.reduceNeg, Nat.reduceLT, QT4, QT87, QT113, QT3, t_call imp77, len_pos (b := 18446744073709551616) (by decide), len_zero (b := 18446744073709551616) (by decide)]
      rw [Nat.gcd_zero_right]
    · have l1 := dig_len1 (b := 18446744073709551616) (by decide) hb h0
      have l2 := dig_one (b := 18446744073709551616) (by decide) l1
      by_cases h1 : a = 0
      · have hd0 : dig 18446744073709551616 a = [] := by rw [h1, dig_zero]
        have ha0 : decide (a = 0) = true := decide_eq_true h1
        simp -implicitDefEqProofs (disch := first | omega | assumption | (simp only [QN] <;> omega)) only [QB, QL, Nat.reduceSub, Nat.reduceAdd, Nat.reduceLeDiff, Nat.reduceEqDiff, reduceCtorEq, ↓reduceIte, Int.reduceAdd, Int.reduceSub, Int.reduceToNat, Int.reduceLT, Int.reduceLE, Int.reduceEq, Int.reduceNeg, Nat.reduceLT, QT4, QT87, QT113, QT3, t_call imp77, len_pos (b := 18446744073709551616) (by decide), len_zero (b := 18446744073709551616) (by decide), l1, l2, hd0, ha0, List.getD_cons_zero, List.length_nil]
        refine loop_up b (fun i fr H => ∃ x y : Nat, fr = [.c (.t (N64 a)), .c (.t (N64 b)), .any, .any, .c (.t (.sl 0 [])), wd x, wd y, .any, .any, .any, .any, .any, .any, .any, .any, .any, .any, .any, .any, .any, .any, .any, .any, .any, .any, .any, .any, .any, .any, .any, .any, .any, .any, .any, .any, .any, .any, .any, .any, .any, .any, .any, .any, .any, .any, .any] ∧ H = [] ∧ y + i ≤ b ∧ x < 18446744073709551616 ∧ Nat.gcd x y = Nat.gcd a b) ?_ ?_ ?_
        · rintro i fr H n' hi ⟨x, y, rfl, rfl, hy, hx, hg⟩ IH
          simp -implicitDefEqProofs (disch := first | omega | assumption | (simp only [QN] <;> omega)) only [QB, QL, Nat.reduceSub, Nat.reduceAdd, Nat.reduceLeDiff, Nat.reduceEqDiff, reduceCtorEq, ↓reduceIte, Int.reduceAdd, Int.reduceSub, Int.reduceToNat, Int.reduceLT, Int.reduceLE, Int.reduceEq, Int.reduceNeg, Nat.reduceLT, QT4, QT87, QT113, QT3, t_call imp77, len_pos (b := 18446744073709551616) (by decide), len_zero (b := 18446744073709551616) (by decide)]
          by_cases h : (y : Int) = 0 <;> simp (disch := omega) only [h, decide_true, decide_false, Bool.not_true, Bool.not_false, reduceCtorEq, ↓reduceIte, Option.bind_some]
          · simp -implicitDefEqProofs (disch := first | omega | assumption | (simp only [QN] <;> omega)) only [QB, QL, Nat.reduceSub, Nat.reduceAdd, Nat.reduceLeDiff, Nat.reduceEqDiff, reduceCtorEq, ↓reduceIte, Int.reduceAdd, Int.reduceSub, Int.reduceToNat, Int.reduceLT, Int.reduceLE, Int.reduceEq, Int.reduceNeg, Nat.reduceLT, QT4, QT87, QT113, QT3, t_call imp77, len_pos (b := 18446744073709551616) (by decide), len_zero (b := 18446744073709551616) (by decide), ev_word]
            have : y = 0 := by omega
            subst this
            rw [← hg, Nat.gcd_zero_right]
          · have hr : (x : Int).tmod (y : Int) = ((x % y : Nat) : Int) := by rw [Int.tmod_eq_emod_of_nonneg (by omega)]; exact (Int.natCast_emod ..).symm
            simp -implicitDefEqProofs (disch := first | omega | assumption | (simp only [QN] <;> omega)) only [QB, QL, Nat.reduceSub, Nat.reduceAdd, Nat.reduceLeDiff, Nat.reduceEqDiff, reduceCtorEq, ↓reduceIte, Int.reduceAdd, Int.reduceSub, Int.reduceToNat, Int.reduceLT, Int.reduceLE, Int.reduceEq, Int.reduceNeg, Nat.reduceLT, QT4, QT87, QT113, QT3, t_call imp77, len_pos (b := 18446744073709551616) (by decide), len_zero (b := 18446744073709551616) (by decide), hr]
            have hlt := Nat.mod_lt x (show y > 0 by omega)
            refine IH _ (by omega) ⟨_, _, ?_, y, x % y, rfl, rfl, by omega, by omega, ?_⟩
            · kernel_rfl
            · rw [← hg, Nat.gcd_comm y, ← Nat.gcd_rec, Nat.gcd_comm]
        · omega
        · refine ⟨_, _, ?_, 0, b, rfl, rfl, by omega, by omega, (by rw [h1])⟩
          kernel_rfl
      · have l3 := dig_len1 (b := 18446744073709551616) (by decide) ha h1
        have l4 := dig_one (b := 18446744073709551616) (by decide) l3
        simp -implicitDefEqProofs (disch := first | omega | assumption | (simp only [QN] <;> omega)) only [QB, QL, Nat.reduceSub, Nat.reduceAdd, Nat.reduceLeDiff, Nat.reduceEqDiff, reduceCtorEq, ↓reduceIte, Int.reduceAdd, Int.reduceSub, Int.reduceToNat, Int.reduceLT, Int.reduceLE, Int.reduceEq, Int.reduceNeg, Nat.reduceLT, QT4, QT87, QT113, QT3, t_call imp77, len_pos (b := 18446744073709551616) (by decide), len_zero (b := 18446744073709551616) (by decide), l1, l2, l3, l4, h1, List.getD_cons_zero]
        refine loop_up b (fun i fr H => ∃ x y : Nat, fr = [.c (.t (N64 a)), .c (.t (N64 b)), .any, .any, .c (.t (.sl 0 [])), wd x, wd y, .any, .any, .any, .any, .any, .any, .any, .any, .any, .any, .any, .any, .any, .any, .any, .any, .any, .any, .any, .any, .any, .any, .any, .any, .any, .any, .any, .any, .any, .any, .any, .any, .any, .any, .any, .any, .any, .any, .any] ∧ H = [] ∧ y + i ≤ b ∧ x < 18446744073709551616 ∧ Nat.gcd x y = Nat.gcd a b) ?_ ?_ ?_
        · rintro i fr H n' hi ⟨x, y, rfl, rfl, hy, hx, hg⟩ IH
          simp -implicitDefEqProofs (disch := first | omega | assumption | (simp only [QN] <;> omega)) only [QB, QL, Nat.reduceSub, Nat.reduceAdd, Nat.reduceLeDiff, Nat.reduceEqDiff, reduceCtorEq, ↓reduceIte, Int.reduceAdd, Int.reduceSub, Int.reduceToNat, Int.reduceLT, Int.reduceLE, Int.reduceEq, Int.reduceNeg, Nat.reduceLT, QT4, QT87, QT113, QT3, t_call imp77, len_pos (b := 18446744073709551616) (by decide), len_zero (b := 18446744073709551616) (by decide)]
          by_cases h : (y : Int) = 0 <;> simp (disch := omega) only [h, decide_true, decide_false, Bool.not_true, Bool.not_false, reduceCtorEq, ↓reduceIte, Option.bind_some]
          · simp -implicitDefEqProofs (disch := first | omega | assumption | (simp only [QN] <;> omega)) only [QB, QL, Nat.reduceSub, Nat.reduceAdd, Nat.reduceLeDiff, Nat.reduceEqDiff, reduceCtorEq, ↓reduceIte, Int.reduceAdd, Int.reduceSub, Int.reduceToNat, Int.reduceLT, Int.reduceLE, Int.reduceEq, Int.reduceNeg, Nat.reduceLT, QT4, QT87, QT113, QT3, t_call imp77, len_pos (b := 18446744073709551616) (by decide), len_zero (b := 18446744073709551616) (by decide), ev_word]
            have : y = 0 := by omega
            subst this
            rw [← hg, Nat.gcd_zero_right]
          · have hr : (x : Int).tmod (y : Int) = ((x % y : Nat) : Int) := by rw [Int.tmod_eq_emod_of_nonneg (by omega)]; exact (Int.natCast_emod ..).symm
            simp -implicitDefEqProofs (disch := first | omega | assumption | (simp only [QN] <;> omega)) only [QB, QL, Nat.reduceSub, Nat.reduceAdd, Nat.reduceLeDiff, Nat.reduceEqDiff, reduceCtorEq, ↓reduceIte, Int.reduceAdd, Int.reduceSub, Int.reduceToNat, Int.reduceLT, Int.reduceLE, Int.reduceEq, Int.reduceNeg, Nat.reduceLT, QT4, QT87, QT113, QT3, t_call imp77, len_pos (b := 18446744073709551616) (by decide), len_zero (b := 18446744073709551616) (by decide), hr]
            have hlt := Nat.mod_lt x (show y > 0 by omega)
            refine IH _ (by omega) ⟨_, _, ?_, y, x % y, rfl, rfl, by omega, by omega, ?_⟩
            · kernel_rfl
            · rw [← hg, Nat.gcd_comm y, ← Nat.gcd_rec, Nat.gcd_comm]
        · omega
        · refine ⟨_, _, ?_, a, b, rfl, rfl, by omega, by omega, rfl⟩
          kernel_rfl
  · omega
  · refine ⟨_, _, ?_, rfl, rfl⟩
    kernel_rfl
end Go.Proofs.Ythjmbppofgadaaa

namespace Go.Proofs.Ythjmbppofgadaaa
open Go Go.AM
set_option maxHeartbeats 4000000
abbrev row64 (xs : List Int) : V := .c (.t (rowK .u64 xs))
theorem ev_nsumL (xs ys : List Int) (wxs : Ws 18446744073709551616 xs) (wys : Ws 18446744073709551616 ys) (hx : xs.length ≤ 100000000) (hy : ys.length ≤ 100000000) (v : Nat) (hv0 : val 18446744073709551616 xs + val 18446744073709551616 ys = v)
    (hlx : xs.length ≤ (dig 18446744073709551616 v).length) (hly : ys.length ≤ (dig 18446744073709551616 v).length) (n : Nat) (hn : xs.length + ys.length + 20 ≤ n) :
    pcall G n 75 [row64 xs, row64 ys] [] = some (row64 (dig 18446744073709551616 v), []) := by
  obtain ⟨n, rfl⟩ : ∃ m, n = m + 1 := ⟨n - 1, by omega⟩; rw [pcall_at fn75 rfl, imp75, G_tb]
  simp -implicitDefEqProofs (disch := first | omega | assumption | (simp only [QN] <;> omega)) only [QB, QL, Nat.reduceSub, Nat.reduceAdd, Nat.reduceLeDiff, Nat.reduceEqDiff, reduceCtorEq, ↓reduceIte, Int.reduceAdd, Int.reduceSub, Int.reduceToNat, Int.reduceLT, Int.reduceLE, Int.reduceEq, Int.reduceNeg, Nat.reduceLT, QT3, QT4, QT87, QT113, t_call imp87, ev_add64]
  by_cases h1 : (xs.length : Int) < ys.length <;> simp (disch := omega) only [h1, decide_true, decide_false, Bool.not_true, Bool.not_false, reduceCtorEq, ↓reduceIte, Option.bind_some]
  · simp -implicitDefEqProofs (disch := first | omega | assumption | (simp only [QN] <;> omega)) only [QB, QL, Nat.reduceSub, Nat.reduceAdd, Nat.reduceLeDiff, Nat.reduceEqDiff, reduceCtorEq, ↓reduceIte, Int.reduceAdd, Int.reduceSub, Int.reduceToNat, Int.reduceLT, Int.reduceLE, Int.reduceEq, Int.reduceNeg, Nat.reduceLT, QT3, QT4, QT87, QT113, t_call imp87, ev_add64]
    refine loop_up ys.length (fun i fr H => ∃ (c : Int) (zs : List Int), fr = [row64 ys, row64 xs, .any, .any, .c (.t (.sl 0 [])), .c (.osl 0 0 ys.length 1), wd c, .any, .any, .any, .any, .any, .any, .any, .any, .any, .any, .any, .any, .any, .any, .any, .any, num ys.length, num i, .any, .any, .any, .any, .any, .any, .any, .any, .any, .any, .any, .any, .any, .any, .any, .any, .any, .any, .any, .any, .any, .any, .any, .any, .any, .any, .any, .any, .any, .any, .any] ∧ H = [objK .u64 (zs ++ List.replicate (ys.length - i) 0)] ∧
      zs.length = i ∧ Ws 18446744073709551616 zs ∧ 0 ≤ c ∧ c ≤ 1 ∧ val 18446744073709551616 zs + 18446744073709551616 ^ i * c = val 18446744073709551616 (ys.take i) + val 18446744073709551616 (xs.take i)) ?_ ?_ ?_
    · rintro i fr H n hi ⟨c, zs, rfl, rfl, hl, hz, hc0, hc1, hv⟩ IH
      have hA := Ws.getD (by decide) wys i
      have hB := Ws.getD (by decide) wxs i
      simp -implicitDefEqProofs (disch := first | omega | assumption | (simp only [QN] <;> omega)) only [QB, QL, Nat.reduceSub, Nat.reduceAdd, Nat.reduceLeDiff, Nat.reduceEqDiff, reduceCtorEq, ↓reduceIte, Int.reduceAdd, Int.reduceSub, Int.reduceToNat, Int.reduceLT, Int.reduceLE, Int.reduceEq, Int.reduceNeg, Nat.reduceLT, QT3, QT4, QT87, QT113, t_call imp87, ev_add64]
      by_cases h3 : (i : Int) < ys.length <;> simp (disch := omega) only [h3, decide_true, decide_false, Bool.not_true, Bool.not_false, reduceCtorEq, ↓reduceIte, Option.bind_some]
      · simp -implicitDefEqProofs (disch := first | omega | assumption | (simp only [QN] <;> omega)) only [QB, QL, Nat.reduceSub, Nat.reduceAdd, Nat.reduceLeDiff, Nat.reduceEqDiff, reduceCtorEq, ↓reduceIte, Int.reduceAdd, Int.reduceSub, Int.reduceToNat, Int.reduceLT, Int.reduceLE, Int.reduceEq, Int.reduceNeg, Nat.reduceLT, QT3, QT4, QT87, QT113, t_call imp87, ev_add64]
        by_cases h4 : (i : Int) < xs.length <;> simp (disch := omega) only [h4, decide_true, decide_false, Bool.not_true, Bool.not_false, reduceCtorEq, ↓reduceIte, Option.bind_some]
        · simp -implicitDefEqProofs (disch := first | omega | assumption | (simp only [QN] <;> omega)) only [QB, QL, Nat.reduceSub, Nat.reduceAdd, Nat.reduceLeDiff, Nat.reduceEqDiff, reduceCtorEq, ↓reduceIte, Int.reduceAdd, Int.reduceSub, Int.reduceToNat, Int.reduceLT, Int.reduceLE, Int.reduceEq, Int.reduceNeg, Nat.reduceLT, QT3, QT4, QT87, QT113, t_call imp87, ev_add64]
          rw [set_fill hl (by omega)]
          refine IH _ (by omega) ⟨_, _, ?_, (ys.getD i 0 + xs.getD i 0 + c) / 18446744073709551616, zs ++ [(ys.getD i 0 + xs.getD i 0 + c) % 18446744073709551616], rfl, rfl, by simp [hl], Ws.append.2 ⟨hz, Ws.cons.2 ⟨by omega, Ws.nil⟩⟩, by omega, by omega, ?_⟩
          · rw [show ys.length - i - 1 = ys.length - (i + 1) by omega, show ((i + 1 : Nat) : Int) = (i : Int) + 1 by omega]
            kernel_rfl
          · rw [val_take, val_take, val_append, hl]
            exact add_step hv (by omega)
        · simp -implicitDefEqProofs (disch := first | omega | assumption | (simp only [QN] <;> omega)) only [QB, QL, Nat.reduceSub, Nat.reduceAdd, Nat.reduceLeDiff, Nat.reduceEqDiff, reduceCtorEq, ↓reduceIte, Int.reduceAdd, Int.reduceSub, Int.reduceToNat, Int.reduceLT, Int.reduceLE, Int.reduceEq, Int.reduceNeg, Nat.reduceLT, QT3, QT4, QT87, QT113, t_call imp87, ev_add64]
          rw [set_fill hl (by omega)]
          have hB0 : xs.getD i 0 = 0 := getD_far (by omega)
          refine IH _ (by omega) ⟨_, _, ?_, (ys.getD i 0 + 0 + c) / 18446744073709551616, zs ++ [(ys.getD i 0 + 0 + c) % 18446744073709551616], rfl, rfl, by simp [hl], Ws.append.2 ⟨hz, Ws.cons.2 ⟨by omega, Ws.nil⟩⟩, by omega, by omega, ?_⟩
          · rw [show ys.length - i - 1 = ys.length - (i + 1) by omega, show ((i + 1 : Nat) : Int) = (i : Int) + 1 by omega]
            kernel_rfl
          · rw [val_take, val_take, val_append, hl]
            exact add_step hv (by omega)
      · simp -implicitDefEqProofs (disch := first | omega | assumption | (simp only [QN] <;> omega)) only [QB, QL, Nat.reduceSub, Nat.reduceAdd, Nat.reduceLeDiff, Nat.reduceEqDiff, reduceCtorEq, ↓reduceIte, Int.reduceAdd, Int.reduceSub, Int.reduceToNat, Int.reduceLT, Int.reduceLE, Int.reduceEq, Int.reduceNeg, Nat.reduceLT, QT3, QT4, QT87, QT113, t_call imp87, ev_add64]
        have hi' : i = ys.length := by omega
        subst hi'
        rw [val_take_all _ (Nat.le_refl _), val_take_all _ (by omega)] at hv
        have hv' : val 18446744073709551616 zs + 18446744073709551616 ^ ys.length * c = v := by rw [hv]; first | exact hv0 | exact (Int.add_comm _ _).trans hv0
        rw [Nat.sub_self, List.replicate_zero, List.append_nil]
        by_cases h5 : (0 : Int) < c <;> simp (disch := omega) only [h5, decide_true, decide_false, Bool.not_true, Bool.not_false, reduceCtorEq, ↓reduceIte, Option.bind_some]
        · have hc : c = 1 := by omega
          subst hc
          simp -implicitDefEqProofs (disch := first | omega | assumption | (simp only [QN] <;> omega)) only [QB, QL, Nat.reduceSub, Nat.reduceAdd, Nat.reduceLeDiff, Nat.reduceEqDiff, reduceCtorEq, ↓reduceIte, Int.reduceAdd, Int.reduceSub, Int.reduceToNat, Int.reduceLT, Int.reduceLE, Int.reduceEq, Int.reduceNeg, Nat.reduceLT, QT3, QT4, QT87, QT113, t_call imp87, ev_add64]
          have hw2 : Ws 18446744073709551616 (zs ++ [1]) := Ws.append.2 ⟨hz, Ws.cons.2 ⟨by omega, Ws.nil⟩⟩
          have he := dig_of (b := 18446744073709551616) (by decide) hw2 (n := v) (by rw [val_append, hl]; simpa [val] using hv')
          rw [trimL_last (by decide)] at he
          rw [← he]
          have e3 : ys.length + 1 = (zs ++ [1]).length := by simp [hl]
          rw [Nat.mul_one, e3, sub_all]
        · have hc : c = 0 := by omega
          subst hc
          simp -implicitDefEqProofs (disch := first | omega | assumption | (simp only [QN] <;> omega)) only [QB, QL, Nat.reduceSub, Nat.reduceAdd, Nat.reduceLeDiff, Nat.reduceEqDiff, reduceCtorEq, ↓reduceIte, Int.reduceAdd, Int.reduceSub, Int.reduceToNat, Int.reduceLT, Int.reduceLE, Int.reduceEq, Int.reduceNeg, Nat.reduceLT, QT3, QT4, QT87, QT113, t_call imp87, ev_add64]
          have he := dig_full (b := 18446744073709551616) (by decide) hz (v := v) (by simpa using hv') (by omega)
          rw [← he]
          rw [Nat.mul_one, ← hl, sub_all]
    · omega
    · refine ⟨_, _, ?_, 0, [], rfl, rfl, rfl, Ws.nil, by omega, by omega, by simp [val]⟩
      kernel_rfl
  · simp -implicitDefEqProofs (disch := first | omega | assumption | (simp only [QN] <;> omega)) only [QB, QL, Nat.reduceSub, Nat.reduceAdd, Nat.reduceLeDiff, Nat.reduceEqDiff, reduceCtorEq, ↓reduceIte, Int.reduceAdd, Int.reduceSub, Int.reduceToNat, Int.reduceLT, Int.reduceLE, Int.reduceEq, Int.reduceNeg, Nat.reduceLT, QT3, QT4, QT87, QT113, t_call imp87, ev_add64]
    refine loop_up xs.length (fun i fr H => ∃ (c : Int) (zs : List Int), fr = [row64 xs, row64 ys, .any, .any, .c (.t (.sl 0 [])), .c (.osl 0 0 xs.length 1), wd c, .any, .any, .any, .any, .any, .any, .any, .any, .any, .any, .any, .any, .any, .any, .any, .any, num xs.length, num i, .any, .any, .any, .any, .any, .any, .any, .any, .any, .any, .any, .any, .any, .any, .any, .any, .any, .any, .any, .any, .any, .any, .any, .any, .any, .any, .any, .any, .any, .any, .any] ∧ H = [objK .u64 (zs ++ List.replicate (xs.length - i) 0)] ∧
      zs.length = i ∧ Ws 18446744073709551616 zs ∧ 0 ≤ c ∧ c ≤ 1 ∧ val 18446744073709551616 zs + 18446744073709551616 ^ i * c = val 18446744073709551616 (xs.take i) + val 18446744073709551616 (ys.take i)) ?_ ?_ ?_
    · rintro i fr H n hi ⟨c, zs, rfl, rfl, hl, hz, hc0, hc1, hv⟩ IH
      have hA := Ws.getD (by decide) wxs i
      have hB := Ws.getD (by decide) wys i
      simp -implicitDefEqProofs (disch := first | omega | assumption | (simp only [QN] <;> omega)) only [QB, QL, Nat.reduceSub, Nat.reduceAdd, Nat.reduceLeDiff, Nat.reduceEqDiff, reduceCtorEq, ↓reduceIte, Int.reduceAdd, Int.reduceSub, Int.reduceToNat, Int.reduceLT, Int.reduceLE, Int.reduceEq, Int.reduceNeg, Nat.reduceLT, QT3, QT4, QT87, QT113, t_call imp87, ev_add64]
      by_cases h3 : (i : Int) < xs.length <;> simp (disch := omega) only [h3, decide_true, decide_false, Bool.not_true, Bool.not_false, reduceCtorEq, ↓reduceIte, Option.bind_some]
      · simp -implicitDefEqProofs (disch := first | omega | assumption | (simp only [QN] <;> omega)) only [QB, QL, Nat.reduceSub, Nat.reduceAdd, Nat.reduceLeDiff, Nat.reduceEqDiff, reduceCtorEq, ↓reduceIte, Int.reduceAdd, Int.reduceSub, Int.reduceToNat, Int.reduceLT, Int.reduceLE, Int.reduceEq, Int.reduceNeg, Nat.reduceLT, QT3, QT4, QT87, QT113, t_call imp87, ev_add64]
        by_cases h4 : (i : Int) < ys.length <;> simp (disch := omega) only [h4, decide_true, decide_false, Bool.not_true, Bool.not_false, reduceCtorEq, ↓reduceIte, Option.bind_some]
        · simp -implicitDefEqProofs (disch := first | omega | assumption | (simp only [QN] <;> omega)) only [QB, QL, Nat.reduceSub, Nat.reduceAdd, Nat.reduceLeDiff, Nat.reduceEqDiff, reduceCtorEq, ↓reduceIte, Int.reduceAdd, Int.reduceSub, Int.reduceToNat, Int.reduceLT, Int.reduceLE, Int.reduceEq, Int.reduceNeg, Nat.reduceLT, QT3, QT4, QT87, QT113, t_call imp87, ev_add64]
          rw [set_fill hl (by omega)]
          refine IH _ (by omega) ⟨_, _, ?_, (xs.getD i 0 + ys.getD i 0 + c) / 18446744073709551616, zs ++ [(xs.getD i 0 + ys.getD i 0 + c) % 18446744073709551616], rfl, rfl, by simp [hl], Ws.append.2 ⟨hz, Ws.cons.2 ⟨by omega, Ws.nil⟩⟩, by omega, by omega, ?_⟩
          · rw [show xs.length - i - 1 = xs.length - (i + 1) by omega, show ((i + 1 : Nat) : Int) = (i : Int) + 1 by omega]
            kernel_rfl
          · rw [val_take, val_take, val_append, hl]
            exact add_step hv (by omega)
        · simp -implicitDefEqProofs (disch := first | omega | assumption | (simp only [QN] <;> omega)) only [QB, QL, Nat.reduceSub, Nat.reduceAdd, Nat.reduceLeDiff, Nat.reduceEqDiff, reduceCtorEq, ↓reduceIte, Int.reduceAdd, Int.reduceSub, Int.reduceToNat, Int.reduceLT, Int.reduceLE, Int.reduceEq, Int.reduceNeg, Nat.reduceLT, QT3, QT4, QT87, QT113, t_call imp87, ev_add64]
          rw [set_fill hl (by omega)]
          have hB0 : ys.getD i 0 = 0 := getD_far (by omega)
          refine IH _ (by omega) ⟨_, _, ?_, (xs.getD i 0 + 0 + c) / 18446744073709551616, zs ++ [(xs.getD i 0 + 0 + c) % 18446744073709551616], rfl, rfl, by simp [hl], Ws.append.2 ⟨hz, Ws.cons.2 ⟨by omega, Ws.nil⟩⟩, by omega, by omega, ?_⟩
          · rw [show xs.length - i - 1 = xs.length - (i + 1) by omega, show ((i + 1 : Nat) : Int) = (i : Int) + 1 by omega]
            kernel_rfl
          · rw [val_take, val_take, val_append, hl]
            exact add_step hv (by omega)
      · simp -implicitDefEqProofs (disch := first | omega | assumption | (simp only [QN] <;> omega)) only [QB, QL, Nat.reduceSub, Nat.reduceAdd, Nat.reduceLeDiff, Nat.reduceEqDiff, reduceCtorEq, ↓reduceIte, Int.reduceAdd, Int.reduceSub, Int.reduceToNat, Int.reduceLT, Int.reduceLE, Int.reduceEq, Int.reduceNeg, Nat.reduceLT, QT3, QT4, QT87, QT113, t_call imp87, ev_add64]
        have hi' : i = xs.length := by omega
        subst hi'
        rw [val_take_all _ (Nat.le_refl _), val_take_all _ (by omega)] at hv
        have hv' : val 18446744073709551616 zs + 18446744073709551616 ^ xs.length * c = v := by rw [hv]; first | exact hv0 | exact (Int.add_comm _ _).trans hv0
        rw [Nat.sub_self, List.replicate_zero, List.append_nil]
        by_cases h5 : (0 : Int) < c <;> simp (disch := omega) only [h5, decide_true, decide_false, Bool.not_true, Bool.not_false, reduceCtorEq, ↓reduceIte, Option.bind_some]
        · have hc : c = 1 := by omega
          subst hc
          simp -implicitDefEqProofs (disch := first | omega | assumption | (simp only [QN] <;> omega)) only [QB, QL, Nat.reduceSub, Nat.reduceAdd, Nat.reduceLeDiff, Nat.reduceEqDiff, reduceCtorEq, ↓reduceIte, Int.reduceAdd, Int.reduceSub, Int.reduceToNat, Int.reduceLT, Int.reduceLE, Int.reduceEq, Int.reduceNeg, Nat.reduceLT, QT3, QT4, QT87, QT113, t_call imp87, ev_add64]
          have hw2 : Ws 18446744073709551616 (zs ++ [1]) := Ws.append.2 ⟨hz, Ws.cons.2 ⟨by omega, Ws.nil⟩⟩
          have he := dig_of (b := 18446744073709551616) (by decide) hw2 (n := v) (by rw [val_append, hl]; simpa [val] using hv')
          rw [trimL_last (by decide)] at he
          rw [← he]
          have e3 : xs.length + 1 = (zs ++ [1]).length := by simp [hl]
          rw [Nat.mul_one, e3, sub_all]
        · have hc : c = 0 := by omega
          subst hc
          simp -implicitDefEqProofs (disch := first | omega | assumption | (simp only [QN] <;> omega)) only [QB, QL, Nat.reduceSub, Nat.reduceAdd, Nat.reduceLeDiff, Nat.reduceEqDiff, reduceCtorEq, ↓reduceIte, Int.reduceAdd, Int.reduceSub, Int.reduceToNat, Int.reduceLT, Int.reduceLE, Int.reduceEq, Int.reduceNeg, Nat.reduceLT, QT3, QT4, QT87, QT113, t_call imp87, ev_add64]
          have he := dig_full (b := 18446744073709551616) (by decide) hz (v := v) (by simpa using hv') (by omega)
          rw [← he]
          rw [Nat.mul_one, ← hl, sub_all]
    · omega
    · refine ⟨_, _, ?_, 0, [], rfl, rfl, rfl, Ws.nil, by omega, by omega, by simp [val]⟩
      kernel_rfl
theorem ev_nsum (a b : Nat) (ha : (dig 18446744073709551616 a).length ≤ 100000000) (hb : (dig 18446744073709551616 b).length ≤ 100000000) (n : Nat) (hn : (dig 18446744073709551616 a).length + (dig 18446744073709551616 b).length + 20 ≤ n) :
    pcall G n 75 [.c (.t (N64 a)), .c (.t (N64 b))] [] = some (.c (.t (N64 (a + b))), []) := by
  have va : val 18446744073709551616 (dig 18446744073709551616 a) = a := dig_val (by decide) a
  have vb : val 18446744073709551616 (dig 18446744073709551616 b) = b := dig_val (by decide) b
  exact ev_nsumL _ _ (dig_ws (by decide) a) (dig_ws (by decide) b) ha hb (a + b) (by rw [va, vb]; omega) (dig_len_mono (by decide) (by omega)) (dig_len_mono (by decide) (by omega)) n hn
end Go.Proofs.Ythjmbppofgadaaa

namespace Go.Proofs.Ythjmbppofgadaaa
open Go Go.AM
set_option maxHeartbeats 4000000
set_option maxRecDepth 100000
theorem ev_prod0 (x : T) (n : Nat) (hn : 20 ≤ n) : pcall G n 76 [.c (.t (N64 0)), .c (.t x)] [] = some (.c (.t (N64 0)), []) := by
  unfold N64
  rw [dig_zero]
  obtain ⟨n, rfl⟩ : ∃ m, n = m + 1 := ⟨n - 1, by omega⟩; rw [pcall_at fn76 rfl, imp76, G_tb]
  simp -implicitDefEqProofs (disch := first | omega | assumption | (simp only [QN] <;> omega)) only [QB, QL, Nat.reduceSub, Nat.reduceAdd, Nat.reduceLeDiff, Nat.reduceEqDiff, reduceCtorEq, ↓reduceIte, Int.reduceAdd, Int.reduceSub, Int.reduceToNat, Int.reduceLT, Int.reduceLE, Int.reduceEq, Int.reduceNeg, Nat.reduceLT, QT3, QT4, QT87, QT113, QT5, QT9, t_call imp76, t_call imp75, t_call imp77, List.length_nil]
  rfl
theorem ev_ndig (l : List UInt8) (hd : dgs l) (hl : l.length ≤ 9) (n : Nat) (hn : 100 ≤ n) : pcall G n 65 [st l] [] = some (.c (.t (N64 (dv l))), []) := by
  have h9 := dv9 hd hl
  have s9 := dig_small (b := 18446744073709551616) (n := dv l) (by decide) (by omega)
  have s0 : (dig 18446744073709551616 0).length ≤ 1 := dig_small (by decide) (by decide)
  obtain ⟨n, rfl⟩ : ∃ m, n = m + 1 := ⟨n - 1, by omega⟩; rw [pcall_at fn65 rfl, imp65, G_tb]
  simp -implicitDefEqProofs (disch := first | omega | assumption | (simp only [QN] <;> omega)) only [QB, QL, Nat.reduceSub, Nat.reduceAdd, Nat.reduceLeDiff, Nat.reduceEqDiff, reduceCtorEq, ↓reduceIte, Int.reduceAdd, Int.reduceSub, Int.reduceToNat, Int.reduceLT, Int.reduceLE, Int.reduceEq, Int.reduceNeg, Nat.reduceLT, QT3, QT4, QT87, QT113, QT5, QT9, t_call imp76, t_call imp75, t_call imp77]
  refine loop_up 1 (fun r fr H => ∃ (s : List UInt8) (m : Nat), fr = [st s, .any, .c (.t (.sl 0 [])), .c (.t (N64 m)), .any, .any, .any, .any, .any, .any, .any, .any, .any, .any, .any, .any, .any, .any, .any, .any, .any, .any, .any, .any, .any, .any, .any, .any, .any, .any, .any, .any, .any, .any, .any, .any, .any, .any] ∧ H = [] ∧ ((r = 0 ∧ s = l ∧ m = 0) ∨ (s = [] ∧ m = dv l))) ?_ ?_ ?_
  · rintro r fr H n' hr ⟨s, m, rfl, rfl, hc⟩ IH
    rcases hc with ⟨rfl, rfl, rfl⟩ | ⟨rfl, rfl⟩
    · have hr : (s.length : Int).tmod 19 = s.length := by rw [Int.tmod_eq_emod_of_nonneg (by omega)]; omega
      simp -implicitDefEqProofs (disch := first | omega | assumption | (simp only [QN] <;> omega)) only [QB, QL, Nat.reduceSub, Nat.reduceAdd, Nat.reduceLeDiff, Nat.reduceEqDiff, reduceCtorEq, ↓reduceIte, Int.reduceAdd, Int.reduceSub, Int.reduceToNat, Int.reduceLT, Int.reduceLE, Int.reduceEq, Int.reduceNeg, Nat.reduceLT, QT3, QT4, QT87, QT113, QT5, QT9, t_call imp76, t_call imp75, t_call imp77]
      by_cases h1 : (0 : Int) < s.length <;> simp (disch := omega) only [h1, decide_true, decide_false, Bool.not_true, Bool.not_false, reduceCtorEq, ↓reduceIte, Option.bind_some]
      · have hz : decide ((s.length : Int) = 0) = false := decide_eq_false (by omega)
        simp -implicitDefEqProofs (disch := first | omega | assumption | (simp only [QN] <;> omega)) only [QB, QL, Nat.reduceSub, Nat.reduceAdd, Nat.reduceLeDiff, Nat.reduceEqDiff, reduceCtorEq, ↓reduceIte, Int.reduceAdd, Int.reduceSub, Int.reduceToNat, Int.reduceLT, Int.reduceLE, Int.reduceEq, Int.reduceNeg, Nat.reduceLT, QT3, QT4, QT87, QT113, QT5, QT9, t_call imp76, t_call imp75, t_call imp77, hr, hz]
        refine loop_up s.length (fun k fr H => fr = [st s, .any, .c (.t (.sl 0 [])), .c (.t (N64 0)), num s.length, wd (dv (s.take k)), .any, .any, .any, .any, .any, .any, .any, .any, .any, num s.length, num k, .any, .any, .any, .any, .any, .any, .any, .any, .any, .any, .any, .any, .any, .any, .any, .any, .any, .any, .any, .any, .any] ∧ H = []) ?_ ?_ ?_
        · rintro k fr H n2 hk ⟨rfl, rfl⟩ IK
          have hk9 := dv9 (dgs_take hd k) (by simp; omega)
          simp -implicitDefEqProofs (disch := first | omega | assumption | (simp only [QN] <;> omega)) only [QB, QL, Nat.reduceSub, Nat.reduceAdd, Nat.reduceLeDiff, Nat.reduceEqDiff, reduceCtorEq, ↓reduceIte, Int.reduceAdd, Int.reduceSub, Int.reduceToNat, Int.reduceLT, Int.reduceLE, Int.reduceEq, Int.reduceNeg, Nat.reduceLT, QT3, QT4, QT87, QT113, QT5, QT9, t_call imp76, t_call imp75, t_call imp77]
          by_cases h2 : (k : Int) < s.length <;> simp (disch := omega) only [h2, decide_true, decide_false, Bool.not_true, Bool.not_false, reduceCtorEq, ↓reduceIte, Option.bind_some]
          · have hb : 48 ≤ byt s k ∧ byt s k ≤ 57 := by
              have := hd _ (List.getElem_mem (show k < s.length by omega))
              unfold byt
              rw [List.getD_eq_getElem?_getD, List.getElem?_eq_getElem (show k < s.length by omega)]
              simp; omega
            simp -implicitDefEqProofs (disch := first | omega | assumption | (simp only [QN] <;> omega)) only [QB, QL, Nat.reduceSub, Nat.reduceAdd, Nat.reduceLeDiff, Nat.reduceEqDiff, reduceCtorEq, ↓reduceIte, Int.reduceAdd, Int.reduceSub, Int.reduceToNat, Int.reduceLT, Int.reduceLE, Int.reduceEq, Int.reduceNeg, Nat.reduceLT, QT3, QT4, QT87, QT113, QT5, QT9, t_call imp76, t_call imp75, t_call imp77, wu64', wu8']
            refine IK _ (by omega) ⟨_, _, ?_, rfl, rfl⟩
            rw [dv_byt (by omega) hb.1, Int.mul_comm _ 10, show ((k + 1 : Nat) : Int) = (k : Int) + 1 by omega]
            kernel_rfl
          · have s9k := dig_small (b := 18446744073709551616) (n := dv (s.take k)) (by decide) (by omega)
            simp -implicitDefEqProofs (disch := first | omega | assumption | (simp only [QN] <;> omega)) only [QB, QL, Nat.reduceSub, Nat.reduceAdd, Nat.reduceLeDiff, Nat.reduceEqDiff, reduceCtorEq, ↓reduceIte, Int.reduceAdd, Int.reduceSub, Int.reduceToNat, Int.reduceLT, Int.reduceLE, Int.reduceEq, Int.reduceNeg, Nat.reduceLT, QT3, QT4, QT87, QT113, QT5, QT9, t_call imp76, t_call imp75, t_call imp77, ev_prod0, ev_word, ev_nsum, List.drop_length]
            have hkl : k = s.length := by omega
            subst hkl
            refine IH _ (by omega) ⟨_, _, ?_, [], dv s, rfl, rfl, .inr ⟨rfl, rfl⟩⟩
            rw [List.take_length]
            kernel_rfl
        · omega
        · refine ⟨_, _, ?_, rfl, rfl⟩
          kernel_rfl
      · simp -implicitDefEqProofs (disch := first | omega | assumption | (simp only [QN] <;> omega)) only [QB, QL, Nat.reduceSub, Nat.reduceAdd, Nat.reduceLeDiff, Nat.reduceEqDiff, reduceCtorEq, ↓reduceIte, Int.reduceAdd, Int.reduceSub, Int.reduceToNat, Int.reduceLT, Int.reduceLE, Int.reduceEq, Int.reduceNeg, Nat.reduceLT, QT3, QT4, QT87, QT113, QT5, QT9, t_call imp76, t_call imp75, t_call imp77]
        have : s = [] := List.eq_nil_of_length_eq_zero (by omega)
        subst this
        rfl
    · simp -implicitDefEqProofs (disch := first | omega | assumption | (simp only [QN] <;> omega)) only [QB, QL, Nat.reduceSub, Nat.reduceAdd, Nat.reduceLeDiff, Nat.reduceEqDiff, reduceCtorEq, ↓reduceIte, Int.reduceAdd, Int.reduceSub, Int.reduceToNat, Int.reduceLT, Int.reduceLE, Int.reduceEq, Int.reduceNeg, Nat.reduceLT, QT3, QT4, QT87, QT113, QT5, QT9, t_call imp76, t_call imp75, t_call imp77, List.length_nil]
  · omega
  · refine ⟨_, _, ?_, l, 0, rfl, rfl, .inl ⟨rfl, rfl, rfl⟩⟩
    unfold N64
    rw [dig_zero]
    kernel_rfl
end Go.Proofs.Ythjmbppofgadaaa
