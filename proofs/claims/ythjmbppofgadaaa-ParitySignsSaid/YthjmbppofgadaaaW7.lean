import Derived.Test.YthjmbppofgadaaaW6
import Derived.Test.YthjmbppofgadaaaB1
set_option linter.unusedVariables false
set_option linter.unnecessarySimpa false
set_option linter.all false
set_option linter.unusedSimpArgs false
set_option linter.defProp false
namespace Go.Proofs.Ythjmbppofgadaaa
open Go Go.AM
set_option maxHeartbeats 4000000
set_option maxRecDepth 100000
theorem ev_expof0 (m : List Int) (hm : m.length ≤ 1000000) (n : Nat) (hn : 100 ≤ n) (R : V)
    (hY : ExpOK m → R = .tup [.agg (mi .i32 (pad6 m)), boo true]) (hN : ¬ ExpOK m → R = .tup [.agg (mi .i32 (List.replicate 6 0)), boo false]) : pcall G n 57 [.c (.t (ints m)), num 1048576] [] = some (R, []) := by
  obtain ⟨n, rfl⟩ : ∃ m, n = m + 1 := ⟨n - 1, by omega⟩; rw [pcall_at fn57 rfl, imp57, G_tb]
  simp -implicitDefEqProofs (disch := first | omega | assumption | (simp only [QN] <;> omega)) only [QB, QL, Nat.reduceSub, Nat.reduceAdd, Nat.reduceLeDiff, Nat.reduceEqDiff, reduceCtorEq, ↓reduceIte, Int.reduceAdd, Int.reduceSub, Int.reduceToNat, Int.reduceLT, Int.reduceLE, Int.reduceEq, Int.reduceNeg, Nat.reduceLT, QT3, QT4, QT21, QT31, QT59, t_call imp69]
  by_cases h1 : (6 : Int) < m.length <;> simp (disch := omega) only [h1, decide_true, decide_false, Bool.not_true, Bool.not_false, reduceCtorEq, ↓reduceIte, Option.bind_some]
  · simp -implicitDefEqProofs (disch := first | omega | assumption | (simp only [QN] <;> omega)) only [QB, QL, Nat.reduceSub, Nat.reduceAdd, Nat.reduceLeDiff, Nat.reduceEqDiff, reduceCtorEq, ↓reduceIte, Int.reduceAdd, Int.reduceSub, Int.reduceToNat, Int.reduceLT, Int.reduceLE, Int.reduceEq, Int.reduceNeg, Nat.reduceLT, QT3, QT4, QT21, QT31, QT59, t_call imp69]
    rw [hN (fun h => by have := h.1; omega)]
    rfl
  · simp -implicitDefEqProofs (disch := first | omega | assumption | (simp only [QN] <;> omega)) only [QB, QL, Nat.reduceSub, Nat.reduceAdd, Nat.reduceLeDiff, Nat.reduceEqDiff, reduceCtorEq, ↓reduceIte, Int.reduceAdd, Int.reduceSub, Int.reduceToNat, Int.reduceLT, Int.reduceLE, Int.reduceEq, Int.reduceNeg, Nat.reduceLT, QT3, QT4, QT21, QT31, QT59, t_call imp69]
    refine loop_up m.length (fun i fr H => ∃ a b c d e f : Int, fr = [.any, num 1048576, .any, .any, .own (mi .i32 [0, 0, 0, 0, 0, 0]), boo false, .c (.ref 0 0), .any, .any, .any, .any, .any, .any, .c (.t (ints m)), num m.length, num i, .any, .any, .any, .any, .any, .any, .any, .any, .any, .any, .any, .any, .any, .any, .any, .any, .any, .any] ∧ H = [.mix false (mi .i32 [a, b, c, d, e, f])] ∧ [a, b, c, d, e, f] = m.take i ++ List.replicate (6 - i) 0 ∧ Within 1048576 (m.take i)) ?_ ?_ ?_
    · rintro i fr H n' hi ⟨a, b, c, d, e, f, rfl, rfl, ha, hw⟩ IH
      simp -implicitDefEqProofs (disch := first | omega | assumption | (simp only [QN] <;> omega)) only [QB, QL, Nat.reduceSub, Nat.reduceAdd, Nat.reduceLeDiff, Nat.reduceEqDiff, reduceCtorEq, ↓reduceIte, Int.reduceAdd, Int.reduceSub, Int.reduceToNat, Int.reduceLT, Int.reduceLE, Int.reduceEq, Int.reduceNeg, Nat.reduceLT, QT3, QT4, QT21, QT31, QT59, t_call imp69]
      by_cases h2 : (i : Int) < m.length <;> simp (disch := omega) only [h2, decide_true, decide_false, Bool.not_true, Bool.not_false, reduceCtorEq, ↓reduceIte, Option.bind_some]
      · simp -implicitDefEqProofs (disch := first | omega | assumption | (simp only [QN] <;> omega)) only [QB, QL, Nat.reduceSub, Nat.reduceAdd, Nat.reduceLeDiff, Nat.reduceEqDiff, reduceCtorEq, ↓reduceIte, Int.reduceAdd, Int.reduceSub, Int.reduceToNat, Int.reduceLT, Int.reduceLE, Int.reduceEq, Int.reduceNeg, Nat.reduceLT, QT3, QT4, QT21, QT31, QT59, t_call imp69]
        by_cases h3 : m.getD i 0 < 0 <;> simp (disch := omega) only [h3, decide_true, decide_false, Bool.not_true, Bool.not_false, reduceCtorEq, ↓reduceIte, Option.bind_some]
        · simp -implicitDefEqProofs (disch := first | omega | assumption | (simp only [QN] <;> omega)) only [QB, QL, Nat.reduceSub, Nat.reduceAdd, Nat.reduceLeDiff, Nat.reduceEqDiff, reduceCtorEq, ↓reduceIte, Int.reduceAdd, Int.reduceSub, Int.reduceToNat, Int.reduceLT, Int.reduceLE, Int.reduceEq, Int.reduceNeg, Nat.reduceLT, QT3, QT4, QT21, QT31, QT59, t_call imp69]
          rw [hN (fun h => Within.not (by omega) (.inl h3) h.2)]
          rfl
        · simp -implicitDefEqProofs (disch := first | omega | assumption | (simp only [QN] <;> omega)) only [QB, QL, Nat.reduceSub, Nat.reduceAdd, Nat.reduceLeDiff, Nat.reduceEqDiff, reduceCtorEq, ↓reduceIte, Int.reduceAdd, Int.reduceSub, Int.reduceToNat, Int.reduceLT, Int.reduceLE, Int.reduceEq, Int.reduceNeg, Nat.reduceLT, QT3, QT4, QT21, QT31, QT59, t_call imp69]
          by_cases h4 : 1048576 < m.getD i 0 <;> simp (disch := omega) only [h4, decide_true, decide_false, Bool.not_true, Bool.not_false, reduceCtorEq, ↓reduceIte, Option.bind_some]
          · simp -implicitDefEqProofs (disch := first | omega | assumption | (simp only [QN] <;> omega)) only [QB, QL, Nat.reduceSub, Nat.reduceAdd, Nat.reduceLeDiff, Nat.reduceEqDiff, reduceCtorEq, ↓reduceIte, Int.reduceAdd, Int.reduceSub, Int.reduceToNat, Int.reduceLT, Int.reduceLE, Int.reduceEq, Int.reduceNeg, Nat.reduceLT, QT3, QT4, QT21, QT31, QT59, t_call imp69]
            rw [hN (fun h => Within.not (by omega) (.inr h4) h.2)]
            rfl
          · have hx : 0 ≤ m.getD i 0 ∧ m.getD i 0 ≤ 1048576 := by omega
            simp -implicitDefEqProofs (disch := first | omega | assumption | (simp only [QN] <;> omega)) only [QB, QL, Nat.reduceSub, Nat.reduceAdd, Nat.reduceLeDiff, Nat.reduceEqDiff, reduceCtorEq, ↓reduceIte, Int.reduceAdd, Int.reduceSub, Int.reduceToNat, Int.reduceLT, Int.reduceLE, Int.reduceEq, Int.reduceNeg, Nat.reduceLT, QT3, QT4, QT21, QT31, QT59, t_call imp69, wi32]
            have h6 : ([a, b, c, d, e, f].set i (m.getD i 0)).length = 6 := by simp
            obtain ⟨a', b', c', d', e', f', h6⟩ := len6 h6
            rw [h6]
            refine IH _ (by omega) ⟨_, _, ?_, a', b', c', d', e', f', rfl, rfl, ?_, hw.snoc (by omega) hx⟩
            · rw [show ((i + 1 : Nat) : Int) = (i : Int) + 1 by omega]
              kernel_rfl
            · rw [← h6, ha, set_fill (by simp; omega) (by omega), ← take_snoc 0 (by omega), show 6 - i - 1 = 6 - (i + 1) by omega]
      · simp -implicitDefEqProofs (disch := first | omega | assumption | (simp only [QN] <;> omega)) only [QB, QL, Nat.reduceSub, Nat.reduceAdd, Nat.reduceLeDiff, Nat.reduceEqDiff, reduceCtorEq, ↓reduceIte, Int.reduceAdd, Int.reduceSub, Int.reduceToNat, Int.reduceLT, Int.reduceLE, Int.reduceEq, Int.reduceNeg, Nat.reduceLT, QT3, QT4, QT21, QT31, QT59, t_call imp69]
        have hi' : i = m.length := by omega
        subst hi'
        rw [List.take_length] at hw ha
        rw [hY ⟨by omega, hw⟩, ha]
        rfl
    · omega
    · refine ⟨_, _, ?_, 0, 0, 0, 0, 0, 0, rfl, rfl, rfl, by intro x hx; simp at hx⟩
      kernel_rfl
open Classical in
theorem ev_expof (m : List Int) (hm : m.length ≤ 1000000) (n : Nat) (hn : 100 ≤ n) : pcall G n 57 [.c (.t (ints m)), num 1048576] [] = some (.tup [.agg (mi .i32 (ex6 m)), boo (decide (ExpOK m))], []) :=
  ev_expof0 m hm n hn _ (fun h => by rw [decide_eq_true h, ex6_ok h]) (fun h => by rw [decide_eq_false h, ex6, if_neg h])
theorem ev_edeg (e : List Int) (he : e.length = 6) (hw : Within 1048576 e) (n : Nat) (hn : 30 ≤ n) : pcall G n 69 [.agg (mi .i32 e)] [] = some (num (sumL e), []) := by
  obtain ⟨a, b, c, d, e1, f, rfl⟩ := len6 he
  obtain ⟨n, rfl⟩ : ∃ m, n = m + 1 := ⟨n - 1, by omega⟩; rw [pcall_at fn69 rfl, imp69, G_tb]
  simp -implicitDefEqProofs (disch := first | omega | assumption | (simp only [QN] <;> omega)) only [QB, QL, Nat.reduceSub, Nat.reduceAdd, Nat.reduceLeDiff, Nat.reduceEqDiff, reduceCtorEq, ↓reduceIte, Int.reduceAdd, Int.reduceSub, Int.reduceToNat, Int.reduceLT, Int.reduceLE, Int.reduceEq, Int.reduceNeg, Nat.reduceLT, QT3, QT4, QT21, QT31, QT59, t_call imp69]
  refine loop_up 6 (fun i fr H => fr = [.any, .any, num 0, num (sumL ([a, b, c, d, e1, f].take i)), .any, .any, .agg (mi .i32 [a, b, c, d, e1, f]), num i, .any, .any, .any, .any, .any, .any, .any, .any] ∧ H = []) ?_ ?_ ?_
  · rintro i fr H n' hi ⟨rfl, rfl⟩ IH
    simp -implicitDefEqProofs (disch := first | omega | assumption | (simp only [QN] <;> omega)) only [QB, QL, Nat.reduceSub, Nat.reduceAdd, Nat.reduceLeDiff, Nat.reduceEqDiff, reduceCtorEq, ↓reduceIte, Int.reduceAdd, Int.reduceSub, Int.reduceToNat, Int.reduceLT, Int.reduceLE, Int.reduceEq, Int.reduceNeg, Nat.reduceLT, QT3, QT4, QT21, QT31, QT59, t_call imp69]
    by_cases h1 : (i : Int) < 6 <;> simp (disch := omega) only [h1, decide_true, decide_false, Bool.not_true, Bool.not_false, reduceCtorEq, ↓reduceIte, Option.bind_some]
    · have hx := hw.getD (by decide) i
      have hs := sumL_bd (by decide) (hw.take i)
      have hl : ([a, b, c, d, e1, f].take i).length ≤ 6 := by simp; omega
      simp -implicitDefEqProofs (disch := first | omega | assumption | (simp only [QN] <;> omega)) only [QB, QL, Nat.reduceSub, Nat.reduceAdd, Nat.reduceLeDiff, Nat.reduceEqDiff, reduceCtorEq, ↓reduceIte, Int.reduceAdd, Int.reduceSub, Int.reduceToNat, Int.reduceLT, Int.reduceLE, Int.reduceEq, Int.reduceNeg, Nat.reduceLT, QT3, QT4, QT21, QT31, QT59, t_call imp69]
      rw [← sumL_take (by omega)]
      refine IH _ (by omega) ⟨_, _, ?_, rfl, rfl⟩
      rw [show ((i + 1 : Nat) : Int) = (i : Int) + 1 by omega]
      kernel_rfl
    · simp -implicitDefEqProofs (disch := first | omega | assumption | (simp only [QN] <;> omega)) only [QB, QL, Nat.reduceSub, Nat.reduceAdd, Nat.reduceLeDiff, Nat.reduceEqDiff, reduceCtorEq, ↓reduceIte, Int.reduceAdd, Int.reduceSub, Int.reduceToNat, Int.reduceLT, Int.reduceLE, Int.reduceEq, Int.reduceNeg, Nat.reduceLT, QT3, QT4, QT21, QT31, QT59, t_call imp69]
      have : i = [a, b, c, d, e1, f].length := by omega
      subst this
      rw [List.take_length]
  · omega
  · refine ⟨_, _, ?_, rfl, rfl⟩
    kernel_rfl
theorem ev_ecmp (e f : List Int) (he : e.length = 6) (hf : f.length = 6) (hw : Within 1048576 e) (hv : Within 1048576 f) (n : Nat) (hn : 60 ≤ n) : pcall G n 59 [.agg (mi .i32 e), .agg (mi .i32 f)] [] = some (num (ordL e f), []) := by
  unfold ordL
  obtain ⟨a, b, c, d, e1, f1, rfl⟩ := len6 he
  obtain ⟨a', b', c', d', e1', f1', rfl⟩ := len6 hf
  obtain ⟨n, rfl⟩ : ∃ m, n = m + 1 := ⟨n - 1, by omega⟩; rw [pcall_at fn59 rfl, imp59, G_tb]
  simp -implicitDefEqProofs (disch := first | omega | assumption | (simp only [QN] <;> omega)) only [QB, QL, Nat.reduceSub, Nat.reduceAdd, Nat.reduceLeDiff, Nat.reduceEqDiff, reduceCtorEq, ↓reduceIte, Int.reduceAdd, Int.reduceSub, Int.reduceToNat, Int.reduceLT, Int.reduceLE, Int.reduceEq, Int.reduceNeg, Nat.reduceLT, QT3, QT4, QT21, QT31, QT59, t_call imp69, ev_edeg]
  by_cases h1 : sumL [a, b, c, d, e1, f1] < sumL [a', b', c', d', e1', f1']
  · have d1 : decide (sumL [a, b, c, d, e1, f1] = sumL [a', b', c', d', e1', f1']) = false := decide_eq_false (by omega)
    have d2 : decide (sumL [a, b, c, d, e1, f1] < sumL [a', b', c', d', e1', f1']) = true := decide_eq_true h1
    rw [if_pos h1]
    simp -implicitDefEqProofs (disch := first | omega | assumption | (simp only [QN] <;> omega)) only [QB, QL, Nat.reduceSub, Nat.reduceAdd, Nat.reduceLeDiff, Nat.reduceEqDiff, reduceCtorEq, ↓reduceIte, Int.reduceAdd, Int.reduceSub, Int.reduceToNat, Int.reduceLT, Int.reduceLE, Int.reduceEq, Int.reduceNeg, Nat.reduceLT, QT3, QT4, QT21, QT31, QT59, t_call imp69, d1, d2]
  · have d2 : decide (sumL [a, b, c, d, e1, f1] < sumL [a', b', c', d', e1', f1']) = false := decide_eq_false h1
    rw [if_neg h1]
    by_cases h2 : sumL [a', b', c', d', e1', f1'] < sumL [a, b, c, d, e1, f1]
    · have d1 : decide (sumL [a, b, c, d, e1, f1] = sumL [a', b', c', d', e1', f1']) = false := decide_eq_false (by omega)
      rw [if_pos h2]
      simp -implicitDefEqProofs (disch := first | omega | assumption | (simp only [QN] <;> omega)) only [QB, QL, Nat.reduceSub, Nat.reduceAdd, Nat.reduceLeDiff, Nat.reduceEqDiff, reduceCtorEq, ↓reduceIte, Int.reduceAdd, Int.reduceSub, Int.reduceToNat, Int.reduceLT, Int.reduceLE, Int.reduceEq, Int.reduceNeg, Nat.reduceLT, QT3, QT4, QT21, QT31, QT59, t_call imp69, d1, d2]
    · have d1 : decide (sumL [a, b, c, d, e1, f1] = sumL [a', b', c', d', e1', f1']) = true := decide_eq_true (by omega)
      rw [if_neg h2]
      simp -implicitDefEqProofs (disch := first | omega | assumption | (simp only [QN] <;> omega)) only [QB, QL, Nat.reduceSub, Nat.reduceAdd, Nat.reduceLeDiff, Nat.reduceEqDiff, reduceCtorEq, ↓reduceIte, Int.reduceAdd, Int.reduceSub, Int.reduceToNat, Int.reduceLT, Int.reduceLE, Int.reduceEq, Int.reduceNeg, Nat.reduceLT, QT3, QT4, QT21, QT31, QT59, t_call imp69, d1]
      refine loop_up 6 (fun i fr H => fr = [.any, .any, .c (.ref 0 0), .c (.ref 1 0), num 0, .any, .any, num (5 - i), .any, .any, .any, .any, .any, .any, .any, .any, .any, .any, .any, .any, .any, .any, .any, .any, .any, .any, .any, .any, .any, .any, .any, .any, .any, .any, .any, .any, .any, .any] ∧ H = [.mix false (mi .i32 [a, b, c, d, e1, f1]), .mix false (mi .i32 [a', b', c', d', e1', f1'])] ∧ rl ([a, b, c, d, e1, f1].take (6 - i)).reverse ([a', b', c', d', e1', f1'].take (6 - i)).reverse = rl [a, b, c, d, e1, f1].reverse [a', b', c', d', e1', f1'].reverse) ?_ ?_ ?_
      · rintro i fr H n' hi ⟨rfl, rfl, hr⟩ IH
        simp -implicitDefEqProofs (disch := first | omega | assumption | (simp only [QN] <;> omega)) only [QB, QL, Nat.reduceSub, Nat.reduceAdd, Nat.reduceLeDiff, Nat.reduceEqDiff, reduceCtorEq, ↓reduceIte, Int.reduceAdd, Int.reduceSub, Int.reduceToNat, Int.reduceLT, Int.reduceLE, Int.reduceEq, Int.reduceNeg, Nat.reduceLT, QT3, QT4, QT21, QT31, QT59, t_call imp69]
        by_cases h3 : (0 : Int) ≤ 5 - i <;> simp (disch := omega) only [h3, decide_true, decide_false, Bool.not_true, Bool.not_false, reduceCtorEq, ↓reduceIte, Option.bind_some]
        · have ei : ((5 : Int) - i).toNat = 5 - i := by omega
          rw [show 6 - i = 5 - i + 1 by omega, rev_take (by omega), rev_take (by omega)] at hr
          simp only [rl] at hr
          simp -implicitDefEqProofs (disch := first | omega | assumption | (simp only [QN] <;> omega)) only [QB, QL, Nat.reduceSub, Nat.reduceAdd, Nat.reduceLeDiff, Nat.reduceEqDiff, reduceCtorEq, ↓reduceIte, Int.reduceAdd, Int.reduceSub, Int.reduceToNat, Int.reduceLT, Int.reduceLE, Int.reduceEq, Int.reduceNeg, Nat.reduceLT, QT3, QT4, QT21, QT31, QT59, t_call imp69, ei]
          by_cases h4 : [a', b', c', d', e1', f1'].getD (5 - i) 0 < [a, b, c, d, e1, f1].getD (5 - i) 0 <;> simp (disch := omega) only [h4, decide_true, decide_false, Bool.not_true, Bool.not_false, reduceCtorEq, ↓reduceIte, Option.bind_some]
          · simp -implicitDefEqProofs (disch := first | omega | assumption | (simp only [QN] <;> omega)) only [QB, QL, Nat.reduceSub, Nat.reduceAdd, Nat.reduceLeDiff, Nat.reduceEqDiff, reduceCtorEq, ↓reduceIte, Int.reduceAdd, Int.reduceSub, Int.reduceToNat, Int.reduceLT, Int.reduceLE, Int.reduceEq, Int.reduceNeg, Nat.reduceLT, QT3, QT4, QT21, QT31, QT59, t_call imp69]
            rw [if_pos h4] at hr
            rw [← hr]
          · rw [if_neg h4] at hr
            simp -implicitDefEqProofs (disch := first | omega | assumption | (simp only [QN] <;> omega)) only [QB, QL, Nat.reduceSub, Nat.reduceAdd, Nat.reduceLeDiff, Nat.reduceEqDiff, reduceCtorEq, ↓reduceIte, Int.reduceAdd, Int.reduceSub, Int.reduceToNat, Int.reduceLT, Int.reduceLE, Int.reduceEq, Int.reduceNeg, Nat.reduceLT, QT3, QT4, QT21, QT31, QT59, t_call imp69, ei]
            by_cases h5 : [a, b, c, d, e1, f1].getD (5 - i) 0 < [a', b', c', d', e1', f1'].getD (5 - i) 0 <;> simp (disch := omega) only [h5, decide_true, decide_false, Bool.not_true, Bool.not_false, reduceCtorEq, ↓reduceIte, Option.bind_some]
            · simp -implicitDefEqProofs (disch := first | omega | assumption | (simp only [QN] <;> omega)) only [QB, QL, Nat.reduceSub, Nat.reduceAdd, Nat.reduceLeDiff, Nat.reduceEqDiff, reduceCtorEq, ↓reduceIte, Int.reduceAdd, Int.reduceSub, Int.reduceToNat, Int.reduceLT, Int.reduceLE, Int.reduceEq, Int.reduceNeg, Nat.reduceLT, QT3, QT4, QT21, QT31, QT59, t_call imp69]
              rw [if_pos h5] at hr
              rw [← hr]
            · rw [if_neg h5] at hr
              simp -implicitDefEqProofs (disch := first | omega | assumption | (simp only [QN] <;> omega)) only [QB, QL, Nat.reduceSub, Nat.reduceAdd, Nat.reduceLeDiff, Nat.reduceEqDiff, reduceCtorEq, ↓reduceIte, Int.reduceAdd, Int.reduceSub, Int.reduceToNat, Int.reduceLT, Int.reduceLE, Int.reduceEq, Int.reduceNeg, Nat.reduceLT, QT3, QT4, QT21, QT31, QT59, t_call imp69]
              refine IH _ (by omega) ⟨_, _, ?_, rfl, rfl, by rw [show 6 - (i + 1) = 5 - i by omega]; exact hr⟩
              rw [show (5 : Int) - ((i + 1 : Nat) : Int) = 5 - (i : Int) - 1 by omega]
              kernel_rfl
        · have hi6 : i = 6 := by omega
          subst hi6
          simp -implicitDefEqProofs (disch := first | omega | assumption | (simp only [QN] <;> omega)) only [QB, QL, Nat.reduceSub, Nat.reduceAdd, Nat.reduceLeDiff, Nat.reduceEqDiff, reduceCtorEq, ↓reduceIte, Int.reduceAdd, Int.reduceSub, Int.reduceToNat, Int.reduceLT, Int.reduceLE, Int.reduceEq, Int.reduceNeg, Nat.reduceLT, QT3, QT4, QT21, QT31, QT59, t_call imp69]
          rw [← hr]
          rfl
      · omega
      · refine ⟨_, _, ?_, rfl, rfl, by rw [Nat.sub_zero, ← he, List.take_length, he, ← hf, List.take_length]⟩
        kernel_rfl
end Go.Proofs.Ythjmbppofgadaaa

namespace Go.Proofs.Ythjmbppofgadaaa
open Go Go.AM
set_option maxHeartbeats 4000000
set_option maxRecDepth 100000
theorem ev_of (l : List UInt8) (hl : l.length ≤ 9) (n : Nat) (hn : 100000000000 ≤ n) : pcall G n 56 [st l] [] = some (.tup [.agg (fr64 (cn l).1 (cn l).2.1 (cn l).2.2), boo (canL l).isSome], []) := by
  have hS : (l ≠ [] ∧ byt l 0 = 45 ∧ sgnL l = true ∧ bodyL l = l.drop 1) ∨ (l ≠ [] ∧ byt l 0 ≠ 45 ∧ sgnL l = false ∧ bodyL l = l) ∨ (l = [] ∧ sgnL l = false ∧ bodyL l = l) := by
    cases l with
    | nil => exact .inr (.inr ⟨rfl, rfl, rfl⟩)
    | cons c l =>
      by_cases hc : c = 45
      · subst hc
        exact .inl ⟨by simp, rfl, rfl, rfl⟩
      · have h1 : sgnL (c :: l) = false := by simp [sgnL, hc]
        refine .inr (.inl ⟨by simp, ?_, h1, by unfold bodyL; rw [h1]; rfl⟩)
        intro h
        exact hc (UInt8.toNat_inj.1 (by simp [byt] at h; simp; omega))
  have hb : (bodyL l).length ≤ 9 := by
    unfold bodyL
    split
    · simp; omega
    · exact hl
  refine ev_of0 l (bodyL l) (sgnL l) hb hS n hn _ ?_
  have key : acc (topL (bodyL l)) (botL (bodyL l)) (sgnL l) (@decide (cutAt (bodyL l) < (bodyL l).length) (Classical.propDecidable _)) (@decide (Pln (topL (bodyL l))) (Classical.propDecidable _)) (@decide (Pln (botL (bodyL l))) (Classical.propDecidable _)) = true ↔ OfOK l := by
    unfold acc OfOK
    by_cases h1 : Pln (topL (bodyL l)) <;> by_cases h2 : Pln (botL (bodyL l)) <;> by_cases h3 : cutAt (bodyL l) < (bodyL l).length <;> cases sgnL l <;> simp [h1, h2, h3]
  by_cases ho : OfOK l
  · rw [canL_ok ho]
    unfold cn
    rw [canL_ok ho]
    have h1 := key.2 ho
    first | (rw [if_pos h1]; done) | (rw [if_pos h1]; rfl) | (split; rfl; rename_i h2; exact absurd (by simpa using h1) h2)
  · rw [canL_none ho]
    unfold cn
    rw [canL_none ho]
    have h1 : ¬ _ := fun h => ho (key.1 h)
    first | rw [if_neg h1] | (split; (rename_i h2; exact absurd (by simpa using h2) h1); rfl)
noncomputable def enc64 (x : RTm) : List T := .int .i64 (zn x.s x.p) :: .int .i64 (zq x.p x.q) :: .nilp :: ks .i32 (ex6 x.e)
theorem enc64_len (x : RTm) : (enc64 x).length = 9 := by simp [enc64, ks_len, ex6_len]
theorem rows64_len {xs : List RTm} : (rows enc64 xs).length = xs.length * 9 := rows_len enc64_len
theorem ldS_Tm (t : Tm) : ldS [.str, .sl 1] (encTm t) 0 = some (.agg [.t (strT t.coef), .t (ints t.exps)], []) := rfl
theorem ldS_E (x : RTm) : ldS [.int .i32, .int .i32, .int .i32, .int .i32, .int .i32, .int .i32] (enc64 x) 3 = some (.agg (mi .i32 (ex6 x.e)), []) := by
  unfold enc64
  obtain ⟨a, b, c, d, e, f, h⟩ := len6 (ex6_len x.e)
  rw [h]
  rfl
theorem put_E {a b c x1 x2 x3 x4 x5 x6 : C} {k : IntKind} {zs : List Int} (h : zs.length = 6) : putCells [a, b, c, x1, x2, x3, x4, x5, x6] 3 (mi k zs) = a :: b :: c :: mi k zs := by
  obtain ⟨y1, y2, y3, y4, y5, y6, rfl⟩ := len6 h
  rfl
theorem cut_E {a b c : C} {k : IntKind} {zs : List Int} : (a :: b :: c :: mi k zs).drop 3 = mi k zs := rfl
noncomputable abbrev tms64 (xs : List RTm) : T := .sl xs.length (rows enc64 xs)
open Classical in
theorem ev_wf0 (p : Po) (hc : ∀ j, j < p.terms.length → (p.terms.getD j default).coef.length ≤ 9 ∧ (p.terms.getD j default).exps.length ≤ 1000) (hl : p.terms.length ≤ 1000000) (n : Nat) (hn : 100000000000 < n) (R : V)
    (hY : WF p → R = .tup [.agg [.t (.int .i64 p.vars), .t (tms64 (p.terms.map rt))], boo true]) (hN : ¬ WF p → R = .tup [.agg [.t (.int .i64 0), .t (.sl 0 [])], boo false]) : pcall G n 51 [.agg ((encPo p).map .t)] [] = some (R, []) := by
  unfold encPo tms
  obtain ⟨n, rfl⟩ : ∃ m, n = m + 1 := ⟨n - 1, by omega⟩; rw [pcall_at fn51 rfl, imp51, G_tb]
  simp -implicitDefEqProofs (disch := first | omega | assumption | (simp only [QN, rows64_len] <;> omega)) only [QB, QL, Nat.reduceSub, Nat.reduceAdd, Nat.reduceLeDiff, Nat.reduceEqDiff, reduceCtorEq, ↓reduceIte, Int.reduceAdd, Int.reduceSub, Int.reduceToNat, Int.reduceLT, Int.reduceLE, Int.reduceEq, Int.reduceNeg, Nat.reduceLT, QT3, QT4, QT5, QT9, QT57, QT113, QT21, QT31, QT59, QT2, QT55, QT39, QT41, QT48, QT52, QT54, QT61, t_call imp56, t_call imp57, t_call imp58, t_call imp59, mi_len, ex6_len, ev_of, ev_expof, ev_zero, ev_ecmp, sub_allN rows64_len, ldS_rows0 encTm_len, ldS_Tm, ldS_rows enc64_len, ldS_E, put_E, cut_E]
  by_cases v1 : p.vars < 0
  · have d1 : decide (p.vars < 0) = true := decide_eq_true v1
    simp -implicitDefEqProofs (disch := first | omega | assumption | (simp only [QN, rows64_len] <;> omega)) only [QB, QL, Nat.reduceSub, Nat.reduceAdd, Nat.reduceLeDiff, Nat.reduceEqDiff, reduceCtorEq, ↓reduceIte, Int.reduceAdd, Int.reduceSub, Int.reduceToNat, Int.reduceLT, Int.reduceLE, Int.reduceEq, Int.reduceNeg, Nat.reduceLT, QT3, QT4, QT5, QT9, QT57, QT113, QT21, QT31, QT59, QT2, QT55, QT39, QT41, QT48, QT52, QT54, QT61, t_call imp56, t_call imp57, t_call imp58, t_call imp59, mi_len, ex6_len, ev_of, ev_expof, ev_zero, ev_ecmp, sub_allN rows64_len, ldS_rows0 encTm_len, ldS_Tm, ldS_rows enc64_len, ldS_E, put_E, cut_E, d1]
    rw [hN (fun h => absurd h.1.1 (by omega))]
  · have d1 : decide (p.vars < 0) = false := decide_eq_false v1
    by_cases v2 : 6 < p.vars
    · have d2 : decide (6 < p.vars) = true := decide_eq_true v2
      simp -implicitDefEqProofs (disch := first | omega | assumption | (simp only [QN, rows64_len] <;> omega)) only [QB, QL, Nat.reduceSub, Nat.reduceAdd, Nat.reduceLeDiff, Nat.reduceEqDiff, reduceCtorEq, ↓reduceIte, Int.reduceAdd, Int.reduceSub, Int.reduceToNat, Int.reduceLT, Int.reduceLE, Int.reduceEq, Int.reduceNeg, Nat.reduceLT, QT3, QT4, QT5, QT9, QT57, QT113, QT21, QT31, QT59, QT2, QT55, QT39, QT41, QT48, QT52, QT54, QT61, t_call imp56, t_call imp57, t_call imp58, t_call imp59, mi_len, ex6_len, ev_of, ev_expof, ev_zero, ev_ecmp, sub_allN rows64_len, ldS_rows0 encTm_len, ldS_Tm, ldS_rows enc64_len, ldS_E, put_E, cut_E, d1, d2]
      rw [hN (fun h => absurd h.1.2 (by omega))]
    · have d2 : decide (6 < p.vars) = false := decide_eq_false v2
      simp -implicitDefEqProofs (disch := first | omega | assumption | (simp only [QN, rows64_len] <;> omega)) only [QB, QL, Nat.reduceSub, Nat.reduceAdd, Nat.reduceLeDiff, Nat.reduceEqDiff, reduceCtorEq, ↓reduceIte, Int.reduceAdd, Int.reduceSub, Int.reduceToNat, Int.reduceLT, Int.reduceLE, Int.reduceEq, Int.reduceNeg, Nat.reduceLT, QT3, QT4, QT5, QT9, QT57, QT113, QT21, QT31, QT59, QT2, QT55, QT39, QT41, QT48, QT52, QT54, QT61, t_call imp56, t_call imp57, t_call imp58, t_call imp59, mi_len, ex6_len, ev_of, ev_expof, ev_zero, ev_ecmp, sub_allN rows64_len, ldS_rows0 encTm_len, ldS_Tm, ldS_rows enc64_len, ldS_E, put_E, cut_E, d1, d2]
      refine loop_up p.terms.length (fun i fr H => ∃ (Z : C), fr = [.any, .own [.t (.int .i64 p.vars), .t (tms p.terms)], .own [.t (.int .i64 0), .t .nils], boo false, .own [.t (.int .i64 p.vars), Z], .any, .any, .any, .any, .any, .any, .any, .any, .any, .any, .any, .any, .any, .any, .any, .any, .any, .any, .any, .c (.t (tms p.terms)), num p.terms.length, num i, .any, .any, .any, .any, .any, .any, .any, .any, .any, .any, .any, .any, .any, .any, .any, .any, .any, .any, .any, .any, .any, .any, .any, .any, .any, .any, .any, .any, .any, .any, .any, .any, .any, .any, .any, .any, .any, .any, .any, .any, .any, .any, .any, .any, .any, .any, .any, .any, .any, .any, .any, .any, .any, .any, .any, .any, .any, .any, .any, .any, .any] ∧
        (∀ j, j < i → TOK p.vars (p.terms.getD j default) ∧ (0 < j → ordL (p.terms.getD (j - 1) default).exps (p.terms.getD j default).exps = 1)) ∧
        ((i = 0 ∧ Z = .t .nils ∧ H = []) ∨ (i ≠ 0 ∧ Z = .osl 0 0 ((p.terms.take i).map rt).length 9 ∧ H = [.flat false (rows enc64 ((p.terms.take i).map rt))]))) ?_ ?_ ?_
      · rintro i fr H n' hi ⟨Z, rfl, hw, hZ⟩ IH
        unfold tms
        rcases hZ with ⟨hi0, rfl, rfl⟩ | ⟨hi0, rfl, rfl⟩
        · have g5 : decide ((0 : Int) < i) = false := decide_eq_false (by omega)
          simp -implicitDefEqProofs (disch := first | omega | assumption | (simp only [QN, rows64_len] <;> omega)) only [QB, QL, Nat.reduceSub, Nat.reduceAdd, Nat.reduceLeDiff, Nat.reduceEqDiff, reduceCtorEq, ↓reduceIte, Int.reduceAdd, Int.reduceSub, Int.reduceToNat, Int.reduceLT, Int.reduceLE, Int.reduceEq, Int.reduceNeg, Nat.reduceLT, QT3, QT4, QT5, QT9, QT57, QT113, QT21, QT31, QT59, QT2, QT55, QT39, QT41, QT48, QT52, QT54, QT61, t_call imp56, t_call imp57, t_call imp58, t_call imp59, mi_len, ex6_len, ev_of, ev_expof, ev_zero, ev_ecmp, sub_allN rows64_len, ldS_rows0 encTm_len, ldS_Tm, ldS_rows enc64_len, ldS_E, put_E, cut_E]
          by_cases h1 : (i : Int) < p.terms.length <;> simp (disch := omega) only [h1, decide_true, decide_false, Bool.not_true, Bool.not_false, reduceCtorEq, ↓reduceIte, Option.bind_some]
          · have hb := hc i (by omega)
            simp -implicitDefEqProofs (disch := first | omega | assumption | (simp only [QN, rows64_len] <;> omega)) only [QB, QL, Nat.reduceSub, Nat.reduceAdd, Nat.reduceLeDiff, Nat.reduceEqDiff, reduceCtorEq, ↓reduceIte, Int.reduceAdd, Int.reduceSub, Int.reduceToNat, Int.reduceLT, Int.reduceLE, Int.reduceEq, Int.reduceNeg, Nat.reduceLT, QT3, QT4, QT5, QT9, QT57, QT113, QT21, QT31, QT59, QT2, QT55, QT39, QT41, QT48, QT52, QT54, QT61, t_call imp56, t_call imp57, t_call imp58, t_call imp59, mi_len, ex6_len, ev_of, ev_expof, ev_zero, ev_ecmp, sub_allN rows64_len, ldS_rows0 encTm_len, ldS_Tm, ldS_rows enc64_len, ldS_E, put_E, cut_E]
            generalize ht : p.terms.getD i default = t at *
            have hno : ¬ TOK p.vars t → ¬ WF p := fun h hw => h (by rw [← ht]; exact (hw.2 i (by omega)).1)
            cases c1 : (canL t.coef).isSome
            · simp -implicitDefEqProofs (disch := first | omega | assumption | (simp only [QN, rows64_len] <;> omega)) only [QB, QL, Nat.reduceSub, Nat.reduceAdd, Nat.reduceLeDiff, Nat.reduceEqDiff, reduceCtorEq, ↓reduceIte, Int.reduceAdd, Int.reduceSub, Int.reduceToNat, Int.reduceLT, Int.reduceLE, Int.reduceEq, Int.reduceNeg, Nat.reduceLT, QT3, QT4, QT5, QT9, QT57, QT113, QT21, QT31, QT59, QT2, QT55, QT39, QT41, QT48, QT52, QT54, QT61, t_call imp56, t_call imp57, t_call imp58, t_call imp59, mi_len, ex6_len, ev_of, ev_expof, ev_zero, ev_ecmp, sub_allN rows64_len, ldS_rows0 encTm_len, ldS_Tm, ldS_rows enc64_len, ldS_E, put_E, cut_E, c1]
              rw [hN (fun h => hno (fun h => by have := h.1; rw [c1] at this; cases this) h)]
            · by_cases c2 : ExpOK t.exps
              · have d2 : decide (ExpOK t.exps) = true := decide_eq_true c2
                by_cases c3 : (cn t.coef).2.1 = 0
                · have d3 : decide (zn (cn t.coef).1 (cn t.coef).2.1 = 0) = true := by rw [c3]; unfold zn; cases (cn t.coef).1 <;> rfl
                  simp -implicitDefEqProofs (disch := first | omega | assumption | (simp only [QN, rows64_len] <;> omega)) only [QB, QL, Nat.reduceSub, Nat.reduceAdd, Nat.reduceLeDiff, Nat.reduceEqDiff, reduceCtorEq, ↓reduceIte, Int.reduceAdd, Int.reduceSub, Int.reduceToNat, Int.reduceLT, Int.reduceLE, Int.reduceEq, Int.reduceNeg, Nat.reduceLT, QT3, QT4, QT5, QT9, QT57, QT113, QT21, QT31, QT59, QT2, QT55, QT39, QT41, QT48, QT52, QT54, QT61, t_call imp56, t_call imp57, t_call imp58, t_call imp59, mi_len, ex6_len, ev_of, ev_expof, ev_zero, ev_ecmp, sub_allN rows64_len, ldS_rows0 encTm_len, ldS_Tm, ldS_rows enc64_len, ldS_E, put_E, cut_E, c1, d2, d3]
                  rw [hN (fun h => hno (fun h => h.2.1 c3) h)]
                · have d3 : decide (zn (cn t.coef).1 (cn t.coef).2.1 = 0) = false := decide_eq_false (by unfold zn; split <;> omega)
                  by_cases c4 : (t.exps.length : Int) = p.vars
                  · have d4 : decide ((t.exps.length : Int) = p.vars) = true := decide_eq_true c4
                    have hok : TOK p.vars t := ⟨c1, c3, c4, c2.2⟩
                    simp -implicitDefEqProofs (disch := first | omega | assumption | (simp only [QN, rows64_len] <;> omega)) only [QB, QL, Nat.reduceSub, Nat.reduceAdd, Nat.reduceLeDiff, Nat.reduceEqDiff, reduceCtorEq, ↓reduceIte, Int.reduceAdd, Int.reduceSub, Int.reduceToNat, Int.reduceLT, Int.reduceLE, Int.reduceEq, Int.reduceNeg, Nat.reduceLT, QT3, QT4, QT5, QT9, QT57, QT113, QT21, QT31, QT59, QT2, QT55, QT39, QT41, QT48, QT52, QT54, QT61, t_call imp56, t_call imp57, t_call imp58, t_call imp59, mi_len, ex6_len, ev_of, ev_expof, ev_zero, ev_ecmp, sub_allN rows64_len, ldS_rows0 encTm_len, ldS_Tm, ldS_rows enc64_len, ldS_E, put_E, cut_E, c1, d2, d3, d4, g5]
                    have h0 : (p.terms.take i).map rt = [] := by rw [hi0]; rfl
                    have hr : (p.terms.take (i + 1)).map rt = (p.terms.take i).map rt ++ [rt t] := by rw [take_snoc default (by omega), List.map_append, ht]; rfl
                    have hw' : ∀ j, j < i + 1 → TOK p.vars (p.terms.getD j default) ∧ (0 < j → ordL (p.terms.getD (j - 1) default).exps (p.terms.getD j default).exps = 1) := by
                      intro j hj
                      have hj0 : j = i := by omega
                      subst hj0
                      rw [ht]
                      exact ⟨hok, fun h => by omega⟩
                    refine IH _ (by omega) ⟨_, _, ?_, .osl 0 0 ((p.terms.take (i + 1)).map rt).length 9, rfl, hw', .inr ⟨by omega, rfl, rfl⟩⟩
                    rw [hr, h0, List.nil_append, rows_one, show ((i + 1 : Nat) : Int) = (i : Int) + 1 by omega]
                    kernel_rfl
                  · have d4 : decide ((t.exps.length : Int) = p.vars) = false := decide_eq_false c4
                    simp -implicitDefEqProofs (disch := first | omega | assumption | (simp only [QN, rows64_len] <;> omega)) only [QB, QL, Nat.reduceSub, Nat.reduceAdd, Nat.reduceLeDiff, Nat.reduceEqDiff, reduceCtorEq, ↓reduceIte, Int.reduceAdd, Int.reduceSub, Int.reduceToNat, Int.reduceLT, Int.reduceLE, Int.reduceEq, Int.reduceNeg, Nat.reduceLT, QT3, QT4, QT5, QT9, QT57, QT113, QT21, QT31, QT59, QT2, QT55, QT39, QT41, QT48, QT52, QT54, QT61, t_call imp56, t_call imp57, t_call imp58, t_call imp59, mi_len, ex6_len, ev_of, ev_expof, ev_zero, ev_ecmp, sub_allN rows64_len, ldS_rows0 encTm_len, ldS_Tm, ldS_rows enc64_len, ldS_E, put_E, cut_E, c1, d2, d3, d4]
                    rw [hN (fun h => hno (fun h => c4 h.2.2.1) h)]
              · have d2 : decide (ExpOK t.exps) = false := decide_eq_false c2
                simp -implicitDefEqProofs (disch := first | omega | assumption | (simp only [QN, rows64_len] <;> omega)) only [QB, QL, Nat.reduceSub, Nat.reduceAdd, Nat.reduceLeDiff, Nat.reduceEqDiff, reduceCtorEq, ↓reduceIte, Int.reduceAdd, Int.reduceSub, Int.reduceToNat, Int.reduceLT, Int.reduceLE, Int.reduceEq, Int.reduceNeg, Nat.reduceLT, QT3, QT4, QT5, QT9, QT57, QT113, QT21, QT31, QT59, QT2, QT55, QT39, QT41, QT48, QT52, QT54, QT61, t_call imp56, t_call imp57, t_call imp58, t_call imp59, mi_len, ex6_len, ev_of, ev_expof, ev_zero, ev_ecmp, sub_allN rows64_len, ldS_rows0 encTm_len, ldS_Tm, ldS_rows enc64_len, ldS_E, put_E, cut_E, c1, d2]
                rw [hN (fun h => hno (fun h => c2 ⟨by have := h.2.2.1; omega, h.2.2.2⟩) h)]
          · simp -implicitDefEqProofs (disch := first | omega | assumption | (simp only [QN, rows64_len] <;> omega)) only [QB, QL, Nat.reduceSub, Nat.reduceAdd, Nat.reduceLeDiff, Nat.reduceEqDiff, reduceCtorEq, ↓reduceIte, Int.reduceAdd, Int.reduceSub, Int.reduceToNat, Int.reduceLT, Int.reduceLE, Int.reduceEq, Int.reduceNeg, Nat.reduceLT, QT3, QT4, QT5, QT9, QT57, QT113, QT21, QT31, QT59, QT2, QT55, QT39, QT41, QT48, QT52, QT54, QT61, t_call imp56, t_call imp57, t_call imp58, t_call imp59, mi_len, ex6_len, ev_of, ev_expof, ev_zero, ev_ecmp, sub_allN rows64_len, ldS_rows0 encTm_len, ldS_Tm, ldS_rows enc64_len, ldS_E, put_E, cut_E]
            have h0 : p.terms = [] := List.eq_nil_of_length_eq_zero (by omega)
            rw [hY ⟨by omega, fun j hj => by rw [h0] at hj; cases hj⟩, h0]
            try rfl
        · have g5 : decide ((0 : Int) < i) = true := decide_eq_true (by omega)
          simp -implicitDefEqProofs (disch := first | omega | assumption | (simp only [QN, rows64_len] <;> omega)) only [QB, QL, Nat.reduceSub, Nat.reduceAdd, Nat.reduceLeDiff, Nat.reduceEqDiff, reduceCtorEq, ↓reduceIte, Int.reduceAdd, Int.reduceSub, Int.reduceToNat, Int.reduceLT, Int.reduceLE, Int.reduceEq, Int.reduceNeg, Nat.reduceLT, QT3, QT4, QT5, QT9, QT57, QT113, QT21, QT31, QT59, QT2, QT55, QT39, QT41, QT48, QT52, QT54, QT61, t_call imp56, t_call imp57, t_call imp58, t_call imp59, mi_len, ex6_len, ev_of, ev_expof, ev_zero, ev_ecmp, sub_allN rows64_len, ldS_rows0 encTm_len, ldS_Tm, ldS_rows enc64_len, ldS_E, put_E, cut_E]
          by_cases h1 : (i : Int) < p.terms.length <;> simp (disch := omega) only [h1, decide_true, decide_false, Bool.not_true, Bool.not_false, reduceCtorEq, ↓reduceIte, Option.bind_some]
          · have hb := hc i (by omega)
            simp -implicitDefEqProofs (disch := first | omega | assumption | (simp only [QN, rows64_len] <;> omega)) only [QB, QL, Nat.reduceSub, Nat.reduceAdd, Nat.reduceLeDiff, Nat.reduceEqDiff, reduceCtorEq, ↓reduceIte, Int.reduceAdd, Int.reduceSub, Int.reduceToNat, Int.reduceLT, Int.reduceLE, Int.reduceEq, Int.reduceNeg, Nat.reduceLT, QT3, QT4, QT5, QT9, QT57, QT113, QT21, QT31, QT59, QT2, QT55, QT39, QT41, QT48, QT52, QT54, QT61, t_call imp56, t_call imp57, t_call imp58, t_call imp59, mi_len, ex6_len, ev_of, ev_expof, ev_zero, ev_ecmp, sub_allN rows64_len, ldS_rows0 encTm_len, ldS_Tm, ldS_rows enc64_len, ldS_E, put_E, cut_E]
            generalize ht : p.terms.getD i default = t at *
            have hno : ¬ TOK p.vars t → ¬ WF p := fun h hw => h (by rw [← ht]; exact (hw.2 i (by omega)).1)
            cases c1 : (canL t.coef).isSome
            · simp -implicitDefEqProofs (disch := first | omega | assumption | (simp only [QN, rows64_len] <;> omega)) only [QB, QL, Nat.reduceSub, Nat.reduceAdd, Nat.reduceLeDiff, Nat.reduceEqDiff, reduceCtorEq, ↓reduceIte, Int.reduceAdd, Int.reduceSub, Int.reduceToNat, Int.reduceLT, Int.reduceLE, Int.reduceEq, Int.reduceNeg, Nat.reduceLT, QT3, QT4, QT5, QT9, QT57, QT113, QT21, QT31, QT59, QT2, QT55, QT39, QT41, QT48, QT52, QT54, QT61, t_call imp56, t_call imp57, t_call imp58, t_call imp59, mi_len, ex6_len, ev_of, ev_expof, ev_zero, ev_ecmp, sub_allN rows64_len, ldS_rows0 encTm_len, ldS_Tm, ldS_rows enc64_len, ldS_E, put_E, cut_E, c1]
              rw [hN (fun h => hno (fun h => by have := h.1; rw [c1] at this; cases this) h)]
            · by_cases c2 : ExpOK t.exps
              · have d2 : decide (ExpOK t.exps) = true := decide_eq_true c2
                by_cases c3 : (cn t.coef).2.1 = 0
                · have d3 : decide (zn (cn t.coef).1 (cn t.coef).2.1 = 0) = true := by rw [c3]; unfold zn; cases (cn t.coef).1 <;> rfl
                  simp -implicitDefEqProofs (disch := first | omega | assumption | (simp only [QN, rows64_len] <;> omega)) only [QB, QL, Nat.reduceSub, Nat.reduceAdd, Nat.reduceLeDiff, Nat.reduceEqDiff, reduceCtorEq, ↓reduceIte, Int.reduceAdd, Int.reduceSub, Int.reduceToNat, Int.reduceLT, Int.reduceLE, Int.reduceEq, Int.reduceNeg, Nat.reduceLT, QT3, QT4, QT5, QT9, QT57, QT113, QT21, QT31, QT59, QT2, QT55, QT39, QT41, QT48, QT52, QT54, QT61, t_call imp56, t_call imp57, t_call imp58, t_call imp59, mi_len, ex6_len, ev_of, ev_expof, ev_zero, ev_ecmp, sub_allN rows64_len, ldS_rows0 encTm_len, ldS_Tm, ldS_rows enc64_len, ldS_E, put_E, cut_E, c1, d2, d3]
                  rw [hN (fun h => hno (fun h => h.2.1 c3) h)]
                · have d3 : decide (zn (cn t.coef).1 (cn t.coef).2.1 = 0) = false := decide_eq_false (by unfold zn; split <;> omega)
                  by_cases c4 : (t.exps.length : Int) = p.vars
                  · have d4 : decide ((t.exps.length : Int) = p.vars) = true := decide_eq_true c4
                    have hok : TOK p.vars t := ⟨c1, c3, c4, c2.2⟩
                    have e1 : ((i : Int) - 1).toNat = i - 1 := by omega
                    have hA : (((p.terms.take i).map rt).getD (i - 1) default).e = (p.terms.getD (i - 1) default).exps := by
                      rw [getD_lt (by simp; omega), List.getElem_map, List.getElem_take, getD_lt (by omega)]; rfl
                    have hlx : ((p.terms.take i).map rt).length = i := by simp; omega
                    have hto := (hw (i - 1) (by omega)).1
                    have hin1 := ex6_in (p.terms.getD (i - 1) default).exps
                    have hin2 := ex6_in t.exps
                    have hx1 : ordL (ex6 (p.terms.getD (i - 1) default).exps) (ex6 t.exps) = ordL (p.terms.getD (i - 1) default).exps t.exps := by
                      have hh := hto.2.2.1
                      rw [ex6_ok c2, ex6_ok ⟨by omega, hto.2.2.2⟩, ordL_pad (by omega)]
                    by_cases c5 : ordL (p.terms.getD (i - 1) default).exps t.exps ≤ 0
                    · have d5 : decide (ordL (p.terms.getD (i - 1) default).exps t.exps ≤ 0) = true := decide_eq_true c5
                      simp -implicitDefEqProofs (disch := first | omega | assumption | (simp only [QN, rows64_len] <;> omega)) only [QB, QL, Nat.reduceSub, Nat.reduceAdd, Nat.reduceLeDiff, Nat.reduceEqDiff, reduceCtorEq, ↓reduceIte, Int.reduceAdd, Int.reduceSub, Int.reduceToNat, Int.reduceLT, Int.reduceLE, Int.reduceEq, Int.reduceNeg, Nat.reduceLT, QT3, QT4, QT5, QT9, QT57, QT113, QT21, QT31, QT59, QT2, QT55, QT39, QT41, QT48, QT52, QT54, QT61, t_call imp56, t_call imp57, t_call imp58, t_call imp59, mi_len, ex6_len, ev_of, ev_expof, ev_zero, ev_ecmp, sub_allN rows64_len, ldS_rows0 encTm_len, ldS_Tm, ldS_rows enc64_len, ldS_E, put_E, cut_E, c1, d2, d3, d4, g5, e1, hA, hx1, d5]
                      rw [hN (fun h => by have := (h.2 i (by omega)).2 (by omega); rw [ht] at this; omega)]
                    · have d5 : decide (ordL (p.terms.getD (i - 1) default).exps t.exps ≤ 0) = false := decide_eq_false c5
                      have hr : (p.terms.take (i + 1)).map rt = (p.terms.take i).map rt ++ [rt t] := by rw [take_snoc default (by omega), List.map_append, ht]; rfl
                      have hw' : ∀ j, j < i + 1 → TOK p.vars (p.terms.getD j default) ∧ (0 < j → ordL (p.terms.getD (j - 1) default).exps (p.terms.getD j default).exps = 1) := by
                        intro j hj
                        by_cases hji : j < i
                        · exact hw j hji
                        · have hj0 : j = i := by omega
                          subst hj0
                          rw [ht]
                          refine ⟨hok, fun _ => ?_⟩
                          have := ordL_cases (p.terms.getD (j - 1) default).exps t.exps
                          omega
                      simp -implicitDefEqProofs (disch := first | omega | assumption | (simp only [QN, rows64_len] <;> omega)) only [QB, QL, Nat.reduceSub, Nat.reduceAdd, Nat.reduceLeDiff, Nat.reduceEqDiff, reduceCtorEq, ↓reduceIte, Int.reduceAdd, Int.reduceSub, Int.reduceToNat, Int.reduceLT, Int.reduceLE, Int.reduceEq, Int.reduceNeg, Nat.reduceLT, QT3, QT4, QT5, QT9, QT57, QT113, QT21, QT31, QT59, QT2, QT55, QT39, QT41, QT48, QT52, QT54, QT61, t_call imp56, t_call imp57, t_call imp58, t_call imp59, mi_len, ex6_len, ev_of, ev_expof, ev_zero, ev_ecmp, sub_allN rows64_len, ldS_rows0 encTm_len, ldS_Tm, ldS_rows enc64_len, ldS_E, put_E, cut_E, c1, d2, d3, d4, g5, e1, hA, hx1, d5]
                      refine IH _ (by omega) ⟨_, _, ?_, .osl 0 0 ((p.terms.take (i + 1)).map rt).length 9, rfl, hw', .inr ⟨by omega, rfl, rfl⟩⟩
                      rw [hr, List.length_append, rows_app, rows_one, show ((i + 1 : Nat) : Int) = (i : Int) + 1 by omega]
                      kernel_rfl
                  · have d4 : decide ((t.exps.length : Int) = p.vars) = false := decide_eq_false c4
                    simp -implicitDefEqProofs (disch := first | omega | assumption | (simp only [QN, rows64_len] <;> omega)) only [QB, QL, Nat.reduceSub, Nat.reduceAdd, Nat.reduceLeDiff, Nat.reduceEqDiff, reduceCtorEq, ↓reduceIte, Int.reduceAdd, Int.reduceSub, Int.reduceToNat, Int.reduceLT, Int.reduceLE, Int.reduceEq, Int.reduceNeg, Nat.reduceLT, QT3, QT4, QT5, QT9, QT57, QT113, QT21, QT31, QT59, QT2, QT55, QT39, QT41, QT48, QT52, QT54, QT61, t_call imp56, t_call imp57, t_call imp58, t_call imp59, mi_len, ex6_len, ev_of, ev_expof, ev_zero, ev_ecmp, sub_allN rows64_len, ldS_rows0 encTm_len, ldS_Tm, ldS_rows enc64_len, ldS_E, put_E, cut_E, c1, d2, d3, d4]
                    rw [hN (fun h => hno (fun h => c4 h.2.2.1) h)]
              · have d2 : decide (ExpOK t.exps) = false := decide_eq_false c2
                simp -implicitDefEqProofs (disch := first | omega | assumption | (simp only [QN, rows64_len] <;> omega)) only [QB, QL, Nat.reduceSub, Nat.reduceAdd, Nat.reduceLeDiff, Nat.reduceEqDiff, reduceCtorEq, ↓reduceIte, Int.reduceAdd, Int.reduceSub, Int.reduceToNat, Int.reduceLT, Int.reduceLE, Int.reduceEq, Int.reduceNeg, Nat.reduceLT, QT3, QT4, QT5, QT9, QT57, QT113, QT21, QT31, QT59, QT2, QT55, QT39, QT41, QT48, QT52, QT54, QT61, t_call imp56, t_call imp57, t_call imp58, t_call imp59, mi_len, ex6_len, ev_of, ev_expof, ev_zero, ev_ecmp, sub_allN rows64_len, ldS_rows0 encTm_len, ldS_Tm, ldS_rows enc64_len, ldS_E, put_E, cut_E, c1, d2]
                rw [hN (fun h => hno (fun h => c2 ⟨by have := h.2.2.1; omega, h.2.2.2⟩) h)]
          · simp -implicitDefEqProofs (disch := first | omega | assumption | (simp only [QN, rows64_len] <;> omega)) only [QB, QL, Nat.reduceSub, Nat.reduceAdd, Nat.reduceLeDiff, Nat.reduceEqDiff, reduceCtorEq, ↓reduceIte, Int.reduceAdd, Int.reduceSub, Int.reduceToNat, Int.reduceLT, Int.reduceLE, Int.reduceEq, Int.reduceNeg, Nat.reduceLT, QT3, QT4, QT5, QT9, QT57, QT113, QT21, QT31, QT59, QT2, QT55, QT39, QT41, QT48, QT52, QT54, QT61, t_call imp56, t_call imp57, t_call imp58, t_call imp59, mi_len, ex6_len, ev_of, ev_expof, ev_zero, ev_ecmp, sub_allN rows64_len, ldS_rows0 encTm_len, ldS_Tm, ldS_rows enc64_len, ldS_E, put_E, cut_E]
            have hie : i = p.terms.length := by omega
            rw [hY ⟨by omega, fun j hj => hw j (by omega)⟩]
            subst hie
            rw [List.take_length]
            try rfl
      · omega
      · refine ⟨_, _, ?_, .t .nils, rfl, by intro j hj; omega, .inl ⟨rfl, rfl, rfl⟩⟩
        kernel_rfl
end Go.Proofs.Ythjmbppofgadaaa
