import Derived.Test.YthjmbppofgadaaaW5
set_option linter.unusedVariables false
set_option linter.unnecessarySimpa false
set_option linter.all false
set_option linter.unusedSimpArgs false
set_option linter.defProp false
namespace Go.Proofs.Ythjmbppofgadaaa
open Go Go.AM
set_option maxHeartbeats 4000000
set_option maxRecDepth 100000
def zn (s : Bool) (p : Nat) : Int := if s then -(p : Int) else p
def zq (p q : Nat) : Int := if p = 0 then 0 else q
abbrev fr64 (s : Bool) (p q : Nat) : List C := R64 (zn s p) (zq p q)
theorem ev_lowF (s : Bool) (p q : Nat) (hp : p < 2147483648) (hq : q < 2147483648) (hq0 : q ≠ 0) (n : Nat) (hn : 40 ≤ n) :
    pcall G n 68 [boo s, .c (.t (N64 p)), .c (.t (N64 q))] [] = some (.agg (fr64 s p q), []) := by
  rw [ev_low s p q hp hq hq0 n hn]
  unfold fr64 zn zq
  by_cases h : p = 0
  · subst h; cases s <;> rfl
  · rw [if_neg h, if_neg h]
open Classical in
theorem ev_plain (l : List UInt8) (hl : l.length ≤ 1000000) (n : Nat) (hn : l.length + 100 ≤ n) : pcall G n 64 [st l] [] = some (boo (decide (Pln l)), []) :=
  ev_plain0 l hl _ (fun h => by rw [decide_eq_true h]) (fun h => by rw [decide_eq_false h]) n hn
theorem dig_1 : dig 18446744073709551616 1 = [1] := dig_one (by decide) (dig_len1 (by decide) (by decide) (by decide))
theorem ev_cmp1 (a : Nat) (ha : a < 18446744073709551616) (n : Nat) (hn : 30 ≤ n) : pcall G n 66 [.c (.t (N64 a)), .c (.t (.sl 1 (ks .u64 [1])))] [] = some (num (cmpN a 1), []) := by
  have h := ev_ncmp a 1 (by have := dig_small (b := 18446744073709551616) (by decide) ha; omega) (by rw [dig_1]; decide) n (by have := dig_small (b := 18446744073709551616) (by decide) ha; omega)
  have e : N64 1 = .sl 1 (ks .u64 [1]) := by unfold N64 rowK; rw [dig_1]; rfl
  rwa [e] at h
theorem cmp_one (a : Nat) (h0 : a ≠ 0) : decide (cmpN a 1 = 0) = decide (a = 1) := by
  unfold cmpN
  by_cases h : a = 1
  · subst h; rfl
  · rw [if_neg (by omega), if_neg h]
    simp [h]
abbrev acc (top bot : List UInt8) (S found : Bool) (p1 p2 : Bool) : Bool :=
  p1 && (p2 && (!(S && decide (top = [48])) && (!(found && (decide (bot = [48]) || decide (bot = [49]))) && (!found || decide (Nat.gcd (dv top) (dv bot) = 1)))))
open Classical in
theorem ev_of0 (l t : List UInt8) (S : Bool) (hl : t.length ≤ 9) (hS : (l ≠ [] ∧ byt l 0 = 45 ∧ S = true ∧ t = l.drop 1) ∨ (l ≠ [] ∧ byt l 0 ≠ 45 ∧ S = false ∧ t = l) ∨ (l = [] ∧ S = false ∧ t = l)) (n : Nat) (hn : 100000000000 ≤ n) (R : V)
    (hR : R = if acc (topL t) (botL t) S (decide (cutAt t < t.length)) (decide (Pln (topL t))) (decide (Pln (botL t))) = true then .tup [.agg (fr64 S (dv (topL t)) (dv (botL t))), boo true] else .tup [.agg (R64 0 0), boo false]) :
    pcall G n 56 [st l] [] = some (R, []) := by
  obtain ⟨n, rfl⟩ : ∃ m, n = m + 1 := ⟨n - 1, by omega⟩; rw [pcall_at fn56 rfl, imp56, G_tb]
  simp -implicitDefEqProofs (disch := first | omega | assumption | (simp only [QN] <;> omega)) only [QB, QL, Nat.reduceSub, Nat.reduceAdd, Nat.reduceLeDiff, Nat.reduceEqDiff, reduceCtorEq, ↓reduceIte, Int.reduceAdd, Int.reduceSub, Int.reduceToNat, Int.reduceLT, Int.reduceLE, Int.reduceEq, Int.reduceNeg, Nat.reduceLT, QT3, QT4, QT5, QT9, QT87, QT113, QT2, QT55, QT57, QT128, t_call imp64, t_call imp65, t_call imp67, t_call imp66, t_call imp68]
  rcases hS with ⟨h0, h1, hS, ht⟩ | ⟨h0, h1, hS, ht⟩ | ⟨h0, hS, ht⟩
  · have hl0 : (0 : Int) < l.length := by have := List.length_pos_iff.2 h0; omega
    have hl1 : decide ((0 : Int) < l.length) = true := decide_eq_true hl0
    simp -implicitDefEqProofs (disch := first | omega | assumption | (simp only [QN] <;> omega)) only [QB, QL, Nat.reduceSub, Nat.reduceAdd, Nat.reduceLeDiff, Nat.reduceEqDiff, reduceCtorEq, ↓reduceIte, Int.reduceAdd, Int.reduceSub, Int.reduceToNat, Int.reduceLT, Int.reduceLE, Int.reduceEq, Int.reduceNeg, Nat.reduceLT, QT3, QT4, QT5, QT9, QT87, QT113, QT2, QT55, QT57, QT128, t_call imp64, t_call imp65, t_call imp67, t_call imp66, t_call imp68, hl1]
    simp -implicitDefEqProofs (disch := first | omega | assumption | (simp only [QN] <;> omega)) only [QB, QL, Nat.reduceSub, Nat.reduceAdd, Nat.reduceLeDiff, Nat.reduceEqDiff, reduceCtorEq, ↓reduceIte, Int.reduceAdd, Int.reduceSub, Int.reduceToNat, Int.reduceLT, Int.reduceLE, Int.reduceEq, Int.reduceNeg, Nat.reduceLT, QT3, QT4, QT5, QT9, QT87, QT113, QT2, QT55, QT57, QT128, t_call imp64, t_call imp65, t_call imp67, t_call imp66, t_call imp68, h1]
    rw [← ht]
    subst hS
    refine loop_up t.length (fun i fr H => fr = [.any, .any, .own [.t (.int .i64 0), .t (.int .i64 0), .t .nilp], boo false, st t, boo true, st t, st [49], boo false, .any, .any, .any, .any, .any, .any, .any, .any, .any, .any, .any, .any, .any, .any, .any, .any, num t.length, num i, .any, .any, .any, .any, .any, .any, .any, .any, .any, .any, .any, .any, .any, .any, .any, .any, .any, .any, .any, .any, .any, .any, .any, .any, .any, .any, .any, .any, .any, .any, .any, .any, .any, .any, .any, .any, .any, .any, .any, .any, .any, .any, .any, .any, .any, .any, .any, .any, .any, .any, .any, .any, .any, .any, .any, .any, .any, .any, .any] ∧ H = [] ∧ i ≤ cutAt t) ?_ ?_ ?_
    · rintro i fr H n' hi ⟨rfl, rfl, hc⟩ IH
      have hcl := cut_le t
      simp -implicitDefEqProofs (disch := first | omega | assumption | (simp only [QN] <;> omega)) only [QB, QL, Nat.reduceSub, Nat.reduceAdd, Nat.reduceLeDiff, Nat.reduceEqDiff, reduceCtorEq, ↓reduceIte, Int.reduceAdd, Int.reduceSub, Int.reduceToNat, Int.reduceLT, Int.reduceLE, Int.reduceEq, Int.reduceNeg, Nat.reduceLT, QT3, QT4, QT5, QT9, QT87, QT113, QT2, QT55, QT57, QT128, t_call imp64, t_call imp65, t_call imp67, t_call imp66, t_call imp68]
      by_cases h3 : (i : Int) < t.length <;> simp (disch := omega) only [h3, decide_true, decide_false, Bool.not_true, Bool.not_false, reduceCtorEq, ↓reduceIte, Option.bind_some]
      · simp -implicitDefEqProofs (disch := first | omega | assumption | (simp only [QN] <;> omega)) only [QB, QL, Nat.reduceSub, Nat.reduceAdd, Nat.reduceLeDiff, Nat.reduceEqDiff, reduceCtorEq, ↓reduceIte, Int.reduceAdd, Int.reduceSub, Int.reduceToNat, Int.reduceLT, Int.reduceLE, Int.reduceEq, Int.reduceNeg, Nat.reduceLT, QT3, QT4, QT5, QT9, QT87, QT113, QT2, QT55, QT57, QT128, t_call imp64, t_call imp65, t_call imp67, t_call imp66, t_call imp68]
        by_cases h4 : byt t i = 47 <;> simp (disch := omega) only [h4, decide_true, decide_false, Bool.not_true, Bool.not_false, reduceCtorEq, ↓reduceIte, Option.bind_some]
        · have hic : i = cutAt t := by
            by_cases h5 : i < cutAt t
            · exact absurd h4 (cut_lt h5)
            · omega
          have e1 : ((i : Int) + 1).toNat = i + 1 := by omega
          have et : topL t = t.take i := by unfold topL; rw [← hic]
          have eb : botL t = t.drop (i + 1) := by unfold botL; rw [if_pos (by omega), ← hic]
          have ef : decide (cutAt t < t.length) = true := decide_eq_true (by omega)
          rw [et, eb, ef] at hR
          by_cases p1 : Pln ((t.take i))
          · have d1 : decide (Pln ((t.take i))) = true := decide_eq_true p1
            by_cases p2 : Pln ((t.drop (i + 1)))
            · have d2 : decide (Pln ((t.drop (i + 1)))) = true := decide_eq_true p2
              by_cases p3 : (t.take i) = [48]
              · have d3 : decide ((t.take i) = [48]) = true := decide_eq_true p3
                simp -implicitDefEqProofs (disch := first | omega | assumption | (simp only [QN] <;> omega)) only [QB, QL, Nat.reduceSub, Nat.reduceAdd, Nat.reduceLeDiff, Nat.reduceEqDiff, reduceCtorEq, ↓reduceIte, Int.reduceAdd, Int.reduceSub, Int.reduceToNat, Int.reduceLT, Int.reduceLE, Int.reduceEq, Int.reduceNeg, Nat.reduceLT, QT3, QT4, QT5, QT9, QT87, QT113, QT2, QT55, QT57, QT128, t_call imp64, t_call imp65, t_call imp67, t_call imp66, t_call imp68, ev_plain, e1, d1, d2, d3]
                rw [hR]
                simp [acc, e1, d1, d2, d3]
              · have d3 : decide ((t.take i) = [48]) = false := decide_eq_false p3
                by_cases p4 : (t.drop (i + 1)) = [48]
                · have d4 : decide ((t.drop (i + 1)) = [48]) = true := decide_eq_true p4
                  simp -implicitDefEqProofs (disch := first | omega | assumption | (simp only [QN] <;> omega)) only [QB, QL, Nat.reduceSub, Nat.reduceAdd, Nat.reduceLeDiff, Nat.reduceEqDiff, reduceCtorEq, ↓reduceIte, Int.reduceAdd, Int.reduceSub, Int.reduceToNat, Int.reduceLT, Int.reduceLE, Int.reduceEq, Int.reduceNeg, Nat.reduceLT, QT3, QT4, QT5, QT9, QT87, QT113, QT2, QT55, QT57, QT128, t_call imp64, t_call imp65, t_call imp67, t_call imp66, t_call imp68, ev_plain, e1, d1, d2, d3, d4]
                  rw [hR]
                  simp [acc, e1, d1, d2, d3, d4]
                · have d4 : decide ((t.drop (i + 1)) = [48]) = false := decide_eq_false p4
                  by_cases p5 : (t.drop (i + 1)) = [49]
                  · have d5 : decide ((t.drop (i + 1)) = [49]) = true := decide_eq_true p5
                    simp -implicitDefEqProofs (disch := first | omega | assumption | (simp only [QN] <;> omega)) only [QB, QL, Nat.reduceSub, Nat.reduceAdd, Nat.reduceLeDiff, Nat.reduceEqDiff, reduceCtorEq, ↓reduceIte, Int.reduceAdd, Int.reduceSub, Int.reduceToNat, Int.reduceLT, Int.reduceLE, Int.reduceEq, Int.reduceNeg, Nat.reduceLT, QT3, QT4, QT5, QT9, QT87, QT113, QT2, QT55, QT57, QT128, t_call imp64, t_call imp65, t_call imp67, t_call imp66, t_call imp68, ev_plain, e1, d1, d2, d3, d4, d5]
                    rw [hR]
                    simp [acc, e1, d1, d2, d3, d4, d5]
                  · have d5 : decide ((t.drop (i + 1)) = [49]) = false := decide_eq_false p5
                    have q1 := p1.2.2
                    have q2 := p2.2.2
                    have b1 := dv9 p1.2.2 (by first | omega | (simp; omega) | (simp; done))
                    have b2 := dv9 p2.2.2 (by first | omega | (simp; omega) | (simp; done))
                    have hb0 : dv ((t.drop (i + 1))) ≠ 0 := fun h0 => p4 (by have := pln_txt p2; rw [h0] at this; exact this.symm)
                    have hg0 : Nat.gcd (dv ((t.take i))) (dv ((t.drop (i + 1)))) ≠ 0 := fun h => hb0 (Nat.gcd_eq_zero_iff.1 h).2
                    have hg1 : Nat.gcd (dv ((t.take i))) (dv ((t.drop (i + 1)))) ≤ dv ((t.drop (i + 1))) := Nat.gcd_le_right _ (by omega)
                    have hc := cmp_one _ hg0
                    by_cases p6 : Nat.gcd (dv ((t.take i))) (dv ((t.drop (i + 1)))) = 1
                    · have d6 : decide (Nat.gcd (dv ((t.take i))) (dv ((t.drop (i + 1)))) = 1) = true := decide_eq_true p6
                      simp -implicitDefEqProofs (disch := first | omega | assumption | (simp only [QN] <;> omega)) only [QB, QL, Nat.reduceSub, Nat.reduceAdd, Nat.reduceLeDiff, Nat.reduceEqDiff, reduceCtorEq, ↓reduceIte, Int.reduceAdd, Int.reduceSub, Int.reduceToNat, Int.reduceLT, Int.reduceLE, Int.reduceEq, Int.reduceNeg, Nat.reduceLT, QT3, QT4, QT5, QT9, QT87, QT113, QT2, QT55, QT57, QT128, t_call imp64, t_call imp65, t_call imp67, t_call imp66, t_call imp68, ev_plain, e1, d1, d2, d3, d4, d5, ev_ndig, sub_one, ev_gcdw, ev_cmp1, hc, d6, ev_lowF]
                      rw [hR]
                      simp [acc, e1, d1, d2, d3, d4, d5, d6, p6]
                    · have d6 : decide (Nat.gcd (dv ((t.take i))) (dv ((t.drop (i + 1)))) = 1) = false := decide_eq_false p6
                      simp -implicitDefEqProofs (disch := first | omega | assumption | (simp only [QN] <;> omega)) only [QB, QL, Nat.reduceSub, Nat.reduceAdd, Nat.reduceLeDiff, Nat.reduceEqDiff, reduceCtorEq, ↓reduceIte, Int.reduceAdd, Int.reduceSub, Int.reduceToNat, Int.reduceLT, Int.reduceLE, Int.reduceEq, Int.reduceNeg, Nat.reduceLT, QT3, QT4, QT5, QT9, QT87, QT113, QT2, QT55, QT57, QT128, t_call imp64, t_call imp65, t_call imp67, t_call imp66, t_call imp68, ev_plain, e1, d1, d2, d3, d4, d5, ev_ndig, sub_one, ev_gcdw, ev_cmp1, hc, d6, ev_lowF]
                      rw [hR]
                      simp [acc, e1, d1, d2, d3, d4, d5, d6, p6]
            · have d2 : decide (Pln ((t.drop (i + 1)))) = false := decide_eq_false p2
              simp -implicitDefEqProofs (disch := first | omega | assumption | (simp only [QN] <;> omega)) only [QB, QL, Nat.reduceSub, Nat.reduceAdd, Nat.reduceLeDiff, Nat.reduceEqDiff, reduceCtorEq, ↓reduceIte, Int.reduceAdd, Int.reduceSub, Int.reduceToNat, Int.reduceLT, Int.reduceLE, Int.reduceEq, Int.reduceNeg, Nat.reduceLT, QT3, QT4, QT5, QT9, QT87, QT113, QT2, QT55, QT57, QT128, t_call imp64, t_call imp65, t_call imp67, t_call imp66, t_call imp68, ev_plain, e1, d1, d2]
              rw [hR]
              simp [acc, e1, d1, d2]
          · have d1 : decide (Pln ((t.take i))) = false := decide_eq_false p1
            simp -implicitDefEqProofs (disch := first | omega | assumption | (simp only [QN] <;> omega)) only [QB, QL, Nat.reduceSub, Nat.reduceAdd, Nat.reduceLeDiff, Nat.reduceEqDiff, reduceCtorEq, ↓reduceIte, Int.reduceAdd, Int.reduceSub, Int.reduceToNat, Int.reduceLT, Int.reduceLE, Int.reduceEq, Int.reduceNeg, Nat.reduceLT, QT3, QT4, QT5, QT9, QT87, QT113, QT2, QT55, QT57, QT128, t_call imp64, t_call imp65, t_call imp67, t_call imp66, t_call imp68, ev_plain, e1, d1]
            rw [hR]
            simp [acc, e1, d1]
        · have hne : i ≠ cutAt t := fun h => h4 (by rw [h]; exact cut_eq (by omega))
          simp -implicitDefEqProofs (disch := first | omega | assumption | (simp only [QN] <;> omega)) only [QB, QL, Nat.reduceSub, Nat.reduceAdd, Nat.reduceLeDiff, Nat.reduceEqDiff, reduceCtorEq, ↓reduceIte, Int.reduceAdd, Int.reduceSub, Int.reduceToNat, Int.reduceLT, Int.reduceLE, Int.reduceEq, Int.reduceNeg, Nat.reduceLT, QT3, QT4, QT5, QT9, QT87, QT113, QT2, QT55, QT57, QT128, t_call imp64, t_call imp65, t_call imp67, t_call imp66, t_call imp68]
          refine IH _ (by omega) ⟨_, _, ?_, rfl, rfl, by omega⟩
          rw [show ((i + 1 : Nat) : Int) = (i : Int) + 1 by omega]
          kernel_rfl
      · have hic : cutAt t = t.length := by omega
        have e1 : (0 : Int).toNat = 0 := rfl
        have et : topL t = t := by unfold topL; rw [hic, List.take_length]
        have eb : botL t = [49] := by unfold botL; rw [if_neg (by omega)]
        have ef : decide (cutAt t < t.length) = false := decide_eq_false (by omega)
        rw [et, eb, ef] at hR
        by_cases p1 : Pln (t)
        · have d1 : decide (Pln (t)) = true := decide_eq_true p1
          by_cases p2 : Pln (([49]:List UInt8))
          · have d2 : decide (Pln (([49]:List UInt8))) = true := decide_eq_true p2
            by_cases p3 : t = [48]
            · have d3 : decide (t = [48]) = true := decide_eq_true p3
              simp -implicitDefEqProofs (disch := first | omega | assumption | (simp only [QN] <;> omega)) only [QB, QL, Nat.reduceSub, Nat.reduceAdd, Nat.reduceLeDiff, Nat.reduceEqDiff, reduceCtorEq, ↓reduceIte, Int.reduceAdd, Int.reduceSub, Int.reduceToNat, Int.reduceLT, Int.reduceLE, Int.reduceEq, Int.reduceNeg, Nat.reduceLT, QT3, QT4, QT5, QT9, QT87, QT113, QT2, QT55, QT57, QT128, t_call imp64, t_call imp65, t_call imp67, t_call imp66, t_call imp68, ev_plain, e1, d1, d2, d3]
              rw [hR]
              simp [acc, e1, d1, d2, d3]
            · have d3 : decide (t = [48]) = false := decide_eq_false p3
              have q1 := p1.2.2
              have q2 := p2.2.2
              have b1 := dv9 p1.2.2 (by first | omega | (simp; omega) | (simp; done))
              have b2 := dv9 p2.2.2 (by first | omega | (simp; omega) | (simp; done))
              have b0 : dv ([49] : List UInt8) ≠ 0 := by decide
              simp -implicitDefEqProofs (disch := first | omega | assumption | (simp only [QN] <;> omega)) only [QB, QL, Nat.reduceSub, Nat.reduceAdd, Nat.reduceLeDiff, Nat.reduceEqDiff, reduceCtorEq, ↓reduceIte, Int.reduceAdd, Int.reduceSub, Int.reduceToNat, Int.reduceLT, Int.reduceLE, Int.reduceEq, Int.reduceNeg, Nat.reduceLT, QT3, QT4, QT5, QT9, QT87, QT113, QT2, QT55, QT57, QT128, t_call imp64, t_call imp65, t_call imp67, t_call imp66, t_call imp68, ev_plain, e1, d1, d2, d3, ev_ndig, ev_lowF]
              rw [hR]
              simp [acc, e1, d1, d2, d3]
          · have d2 : decide (Pln (([49]:List UInt8))) = false := decide_eq_false p2
            simp -implicitDefEqProofs (disch := first | omega | assumption | (simp only [QN] <;> omega)) only [QB, QL, Nat.reduceSub, Nat.reduceAdd, Nat.reduceLeDiff, Nat.reduceEqDiff, reduceCtorEq, ↓reduceIte, Int.reduceAdd, Int.reduceSub, Int.reduceToNat, Int.reduceLT, Int.reduceLE, Int.reduceEq, Int.reduceNeg, Nat.reduceLT, QT3, QT4, QT5, QT9, QT87, QT113, QT2, QT55, QT57, QT128, t_call imp64, t_call imp65, t_call imp67, t_call imp66, t_call imp68, ev_plain, e1, d1, d2]
            rw [hR]
            simp [acc, e1, d1, d2]
        · have d1 : decide (Pln (t)) = false := decide_eq_false p1
          simp -implicitDefEqProofs (disch := first | omega | assumption | (simp only [QN] <;> omega)) only [QB, QL, Nat.reduceSub, Nat.reduceAdd, Nat.reduceLeDiff, Nat.reduceEqDiff, reduceCtorEq, ↓reduceIte, Int.reduceAdd, Int.reduceSub, Int.reduceToNat, Int.reduceLT, Int.reduceLE, Int.reduceEq, Int.reduceNeg, Nat.reduceLT, QT3, QT4, QT5, QT9, QT87, QT113, QT2, QT55, QT57, QT128, t_call imp64, t_call imp65, t_call imp67, t_call imp66, t_call imp68, ev_plain, e1, d1]
          rw [hR]
          simp [acc, e1, d1]
    · omega
    · refine ⟨_, _, ?_, rfl, rfl, Nat.zero_le _⟩
      kernel_rfl
  · have hl0 : (0 : Int) < l.length := by have := List.length_pos_iff.2 h0; omega
    have hl1 : decide ((0 : Int) < l.length) = true := decide_eq_true hl0
    have h2 : decide (byt l 0 = 45) = false := decide_eq_false h1
    subst ht
    simp -implicitDefEqProofs (disch := first | omega | assumption | (simp only [QN] <;> omega)) only [QB, QL, Nat.reduceSub, Nat.reduceAdd, Nat.reduceLeDiff, Nat.reduceEqDiff, reduceCtorEq, ↓reduceIte, Int.reduceAdd, Int.reduceSub, Int.reduceToNat, Int.reduceLT, Int.reduceLE, Int.reduceEq, Int.reduceNeg, Nat.reduceLT, QT3, QT4, QT5, QT9, QT87, QT113, QT2, QT55, QT57, QT128, t_call imp64, t_call imp65, t_call imp67, t_call imp66, t_call imp68, hl1]
    simp -implicitDefEqProofs (disch := first | omega | assumption | (simp only [QN] <;> omega)) only [QB, QL, Nat.reduceSub, Nat.reduceAdd, Nat.reduceLeDiff, Nat.reduceEqDiff, reduceCtorEq, ↓reduceIte, Int.reduceAdd, Int.reduceSub, Int.reduceToNat, Int.reduceLT, Int.reduceLE, Int.reduceEq, Int.reduceNeg, Nat.reduceLT, QT3, QT4, QT5, QT9, QT87, QT113, QT2, QT55, QT57, QT128, t_call imp64, t_call imp65, t_call imp67, t_call imp66, t_call imp68, h2]
    subst hS
    refine loop_up t.length (fun i fr H => fr = [.any, .any, .own [.t (.int .i64 0), .t (.int .i64 0), .t .nilp], boo false, st t, boo false, st t, st [49], boo false, .any, .any, .any, .any, .any, .any, .any, .any, .any, .any, .any, .any, .any, .any, .any, .any, num t.length, num i, .any, .any, .any, .any, .any, .any, .any, .any, .any, .any, .any, .any, .any, .any, .any, .any, .any, .any, .any, .any, .any, .any, .any, .any, .any, .any, .any, .any, .any, .any, .any, .any, .any, .any, .any, .any, .any, .any, .any, .any, .any, .any, .any, .any, .any, .any, .any, .any, .any, .any, .any, .any, .any, .any, .any, .any, .any, .any, .any] ∧ H = [] ∧ i ≤ cutAt t) ?_ ?_ ?_
    · rintro i fr H n' hi ⟨rfl, rfl, hc⟩ IH
      have hcl := cut_le t
      simp -implicitDefEqProofs (disch := first | omega | assumption | (simp only [QN] <;> omega)) only [QB, QL, Nat.reduceSub, Nat.reduceAdd, Nat.reduceLeDiff, Nat.reduceEqDiff, reduceCtorEq, ↓reduceIte, Int.reduceAdd, Int.reduceSub, Int.reduceToNat, Int.reduceLT, Int.reduceLE, Int.reduceEq, Int.reduceNeg, Nat.reduceLT, QT3, QT4, QT5, QT9, QT87, QT113, QT2, QT55, QT57, QT128, t_call imp64, t_call imp65, t_call imp67, t_call imp66, t_call imp68]
      by_cases h3 : (i : Int) < t.length <;> simp (disch := omega) only [h3, decide_true, decide_false, Bool.not_true, Bool.not_false, reduceCtorEq, ↓reduceIte, Option.bind_some]
      · simp -implicitDefEqProofs (disch := first | omega | assumption | (simp only [QN] <;> omega)) only [QB, QL, Nat.reduceSub, Nat.reduceAdd, Nat.reduceLeDiff, Nat.reduceEqDiff, reduceCtorEq, ↓reduceIte, Int.reduceAdd, Int.reduceSub, Int.reduceToNat, Int.reduceLT, Int.reduceLE, Int.reduceEq, Int.reduceNeg, Nat.reduceLT, QT3, QT4, QT5, QT9, QT87, QT113, QT2, QT55, QT57, QT128, t_call imp64, t_call imp65, t_call imp67, t_call imp66, t_call imp68]
        by_cases h4 : byt t i = 47 <;> simp (disch := omega) only [h4, decide_true, decide_false, Bool.not_true, Bool.not_false, reduceCtorEq, ↓reduceIte, Option.bind_some]
        · have hic : i = cutAt t := by
            by_cases h5 : i < cutAt t
            · exact absurd h4 (cut_lt h5)
            · omega
          have e1 : ((i : Int) + 1).toNat = i + 1 := by omega
          have et : topL t = t.take i := by unfold topL; rw [← hic]
          have eb : botL t = t.drop (i + 1) := by unfold botL; rw [if_pos (by omega), ← hic]
          have ef : decide (cutAt t < t.length) = true := decide_eq_true (by omega)
          rw [et, eb, ef] at hR
          by_cases p1 : Pln ((t.take i))
          · have d1 : decide (Pln ((t.take i))) = true := decide_eq_true p1
            by_cases p2 : Pln ((t.drop (i + 1)))
            · have d2 : decide (Pln ((t.drop (i + 1)))) = true := decide_eq_true p2
              by_cases p4 : (t.drop (i + 1)) = [48]
              · have d4 : decide ((t.drop (i + 1)) = [48]) = true := decide_eq_true p4
                simp -implicitDefEqProofs (disch := first | omega | assumption | (simp only [QN] <;> omega)) only [QB, QL, Nat.reduceSub, Nat.reduceAdd, Nat.reduceLeDiff, Nat.reduceEqDiff, reduceCtorEq, ↓reduceIte, Int.reduceAdd, Int.reduceSub, Int.reduceToNat, Int.reduceLT, Int.reduceLE, Int.reduceEq, Int.reduceNeg, Nat.reduceLT, QT3, QT4, QT5, QT9, QT87, QT113, QT2, QT55, QT57, QT128, t_call imp64, t_call imp65, t_call imp67, t_call imp66, t_call imp68, ev_plain, e1, d1, d2, d4]
                rw [hR]
                simp [acc, e1, d1, d2, d4]
              · have d4 : decide ((t.drop (i + 1)) = [48]) = false := decide_eq_false p4
                by_cases p5 : (t.drop (i + 1)) = [49]
                · have d5 : decide ((t.drop (i + 1)) = [49]) = true := decide_eq_true p5
                  simp -implicitDefEqProofs (disch := first | omega | assumption | (simp only [QN] <;> omega)) only [QB, QL, Nat.reduceSub, Nat.reduceAdd, Nat.reduceLeDiff, Nat.reduceEqDiff, reduceCtorEq, ↓reduceIte, Int.reduceAdd, Int.reduceSub, Int.reduceToNat, Int.reduceLT, Int.reduceLE, Int.reduceEq, Int.reduceNeg, Nat.reduceLT, QT3, QT4, QT5, QT9, QT87, QT113, QT2, QT55, QT57, QT128, t_call imp64, t_call imp65, t_call imp67, t_call imp66, t_call imp68, ev_plain, e1, d1, d2, d4, d5]
                  rw [hR]
                  simp [acc, e1, d1, d2, d4, d5]
                · have d5 : decide ((t.drop (i + 1)) = [49]) = false := decide_eq_false p5
                  have q1 := p1.2.2
                  have q2 := p2.2.2
                  have b1 := dv9 p1.2.2 (by first | omega | (simp; omega) | (simp; done))
                  have b2 := dv9 p2.2.2 (by first | omega | (simp; omega) | (simp; done))
                  have hb0 : dv ((t.drop (i + 1))) ≠ 0 := fun h0 => p4 (by have := pln_txt p2; rw [h0] at this; exact this.symm)
                  have hg0 : Nat.gcd (dv ((t.take i))) (dv ((t.drop (i + 1)))) ≠ 0 := fun h => hb0 (Nat.gcd_eq_zero_iff.1 h).2
                  have hg1 : Nat.gcd (dv ((t.take i))) (dv ((t.drop (i + 1)))) ≤ dv ((t.drop (i + 1))) := Nat.gcd_le_right _ (by omega)
                  have hc := cmp_one _ hg0
                  by_cases p6 : Nat.gcd (dv ((t.take i))) (dv ((t.drop (i + 1)))) = 1
                  · have d6 : decide (Nat.gcd (dv ((t.take i))) (dv ((t.drop (i + 1)))) = 1) = true := decide_eq_true p6
                    simp -implicitDefEqProofs (disch := first | omega | assumption | (simp only [QN] <;> omega)) only [QB, QL, Nat.reduceSub, Nat.reduceAdd, Nat.reduceLeDiff, Nat.reduceEqDiff, reduceCtorEq, ↓reduceIte, Int.reduceAdd, Int.reduceSub, Int.reduceToNat, Int.reduceLT, Int.reduceLE, Int.reduceEq, Int.reduceNeg, Nat.reduceLT, QT3, QT4, QT5, QT9, QT87, QT113, QT2, QT55, QT57, QT128, t_call imp64, t_call imp65, t_call imp67, t_call imp66, t_call imp68, ev_plain, e1, d1, d2, d4, d5, ev_ndig, sub_one, ev_gcdw, ev_cmp1, hc, d6, ev_lowF]
                    rw [hR]
                    simp [acc, e1, d1, d2, d4, d5, d6, p6]
                  · have d6 : decide (Nat.gcd (dv ((t.take i))) (dv ((t.drop (i + 1)))) = 1) = false := decide_eq_false p6
                    simp -implicitDefEqProofs (disch := first | omega | assumption | (simp only [QN] <;> omega)) only [QB, QL, Nat.reduceSub, Nat.reduceAdd, Nat.reduceLeDiff, Nat.reduceEqDiff, reduceCtorEq, ↓reduceIte, Int.reduceAdd, Int.reduceSub, Int.reduceToNat, Int.reduceLT, Int.reduceLE, Int.reduceEq, Int.reduceNeg, Nat.reduceLT, QT3, QT4, QT5, QT9, QT87, QT113, QT2, QT55, QT57, QT128, t_call imp64, t_call imp65, t_call imp67, t_call imp66, t_call imp68, ev_plain, e1, d1, d2, d4, d5, ev_ndig, sub_one, ev_gcdw, ev_cmp1, hc, d6, ev_lowF]
                    rw [hR]
                    simp [acc, e1, d1, d2, d4, d5, d6, p6]
            · have d2 : decide (Pln ((t.drop (i + 1)))) = false := decide_eq_false p2
              simp -implicitDefEqProofs (disch := first | omega | assumption | (simp only [QN] <;> omega)) only [QB, QL, Nat.reduceSub, Nat.reduceAdd, Nat.reduceLeDiff, Nat.reduceEqDiff, reduceCtorEq, ↓reduceIte, Int.reduceAdd, Int.reduceSub, Int.reduceToNat, Int.reduceLT, Int.reduceLE, Int.reduceEq, Int.reduceNeg, Nat.reduceLT, QT3, QT4, QT5, QT9, QT87, QT113, QT2, QT55, QT57, QT128, t_call imp64, t_call imp65, t_call imp67, t_call imp66, t_call imp68, ev_plain, e1, d1, d2]
              rw [hR]
              simp [acc, e1, d1, d2]
          · have d1 : decide (Pln ((t.take i))) = false := decide_eq_false p1
            simp -implicitDefEqProofs (disch := first | omega | assumption | (simp only [QN] <;> omega)) only [QB, QL, Nat.reduceSub, Nat.reduceAdd, Nat.reduceLeDiff, Nat.reduceEqDiff, reduceCtorEq, ↓reduceIte, Int.reduceAdd, Int.reduceSub, Int.reduceToNat, Int.reduceLT, Int.reduceLE, Int.reduceEq, Int.reduceNeg, Nat.reduceLT, QT3, QT4, QT5, QT9, QT87, QT113, QT2, QT55, QT57, QT128, t_call imp64, t_call imp65, t_call imp67, t_call imp66, t_call imp68, ev_plain, e1, d1]
            rw [hR]
            simp [acc, e1, d1]
        · have hne : i ≠ cutAt t := fun h => h4 (by rw [h]; exact cut_eq (by omega))
          simp -implicitDefEqProofs (disch := first | omega | assumption | (simp only [QN] <;> omega)) only [QB, QL, Nat.reduceSub, Nat.reduceAdd, Nat.reduceLeDiff, Nat.reduceEqDiff, reduceCtorEq, ↓reduceIte, Int.reduceAdd, Int.reduceSub, Int.reduceToNat, Int.reduceLT, Int.reduceLE, Int.reduceEq, Int.reduceNeg, Nat.reduceLT, QT3, QT4, QT5, QT9, QT87, QT113, QT2, QT55, QT57, QT128, t_call imp64, t_call imp65, t_call imp67, t_call imp66, t_call imp68]
          refine IH _ (by omega) ⟨_, _, ?_, rfl, rfl, by omega⟩
          rw [show ((i + 1 : Nat) : Int) = (i : Int) + 1 by omega]
          kernel_rfl
      · have hic : cutAt t = t.length := by omega
        have e1 : (0 : Int).toNat = 0 := rfl
        have et : topL t = t := by unfold topL; rw [hic, List.take_length]
        have eb : botL t = [49] := by unfold botL; rw [if_neg (by omega)]
        have ef : decide (cutAt t < t.length) = false := decide_eq_false (by omega)
        rw [et, eb, ef] at hR
        by_cases p1 : Pln (t)
        · have d1 : decide (Pln (t)) = true := decide_eq_true p1
          by_cases p2 : Pln (([49]:List UInt8))
          · have d2 : decide (Pln (([49]:List UInt8))) = true := decide_eq_true p2
            have q1 := p1.2.2
            have q2 := p2.2.2
            have b1 := dv9 p1.2.2 (by first | omega | (simp; omega) | (simp; done))
            have b2 := dv9 p2.2.2 (by first | omega | (simp; omega) | (simp; done))
            have b0 : dv ([49] : List UInt8) ≠ 0 := by decide
            simp -implicitDefEqProofs (disch := first | omega | assumption | (simp only [QN] <;> omega)) only [QB, QL, Nat.reduceSub, Nat.reduceAdd, Nat.reduceLeDiff, Nat.reduceEqDiff, reduceCtorEq, ↓reduceIte, Int.reduceAdd, Int.reduceSub, Int.reduceToNat, Int.reduceLT, Int.reduceLE, Int.reduceEq, Int.reduceNeg, Nat.reduceLT, QT3, QT4, QT5, QT9, QT87, QT113, QT2, QT55, QT57, QT128, t_call imp64, t_call imp65, t_call imp67, t_call imp66, t_call imp68, ev_plain, e1, d1, d2, ev_ndig, ev_lowF]
            rw [hR]
            simp [acc, e1, d1, d2]
          · have d2 : decide (Pln (([49]:List UInt8))) = false := decide_eq_false p2
            simp -implicitDefEqProofs (disch := first | omega | assumption | (simp only [QN] <;> omega)) only [QB, QL, Nat.reduceSub, Nat.reduceAdd, Nat.reduceLeDiff, Nat.reduceEqDiff, reduceCtorEq, ↓reduceIte, Int.reduceAdd, Int.reduceSub, Int.reduceToNat, Int.reduceLT, Int.reduceLE, Int.reduceEq, Int.reduceNeg, Nat.reduceLT, QT3, QT4, QT5, QT9, QT87, QT113, QT2, QT55, QT57, QT128, t_call imp64, t_call imp65, t_call imp67, t_call imp66, t_call imp68, ev_plain, e1, d1, d2]
            rw [hR]
            simp [acc, e1, d1, d2]
        · have d1 : decide (Pln (t)) = false := decide_eq_false p1
          simp -implicitDefEqProofs (disch := first | omega | assumption | (simp only [QN] <;> omega)) only [QB, QL, Nat.reduceSub, Nat.reduceAdd, Nat.reduceLeDiff, Nat.reduceEqDiff, reduceCtorEq, ↓reduceIte, Int.reduceAdd, Int.reduceSub, Int.reduceToNat, Int.reduceLT, Int.reduceLE, Int.reduceEq, Int.reduceNeg, Nat.reduceLT, QT3, QT4, QT5, QT9, QT87, QT113, QT2, QT55, QT57, QT128, t_call imp64, t_call imp65, t_call imp67, t_call imp66, t_call imp68, ev_plain, e1, d1]
          rw [hR]
          simp [acc, e1, d1]
    · omega
    · refine ⟨_, _, ?_, rfl, rfl, Nat.zero_le _⟩
      kernel_rfl
  · subst ht
    have hl1 : decide ((0 : Int) < t.length) = false := by rw [h0]; rfl
    simp -implicitDefEqProofs (disch := first | omega | assumption | (simp only [QN] <;> omega)) only [QB, QL, Nat.reduceSub, Nat.reduceAdd, Nat.reduceLeDiff, Nat.reduceEqDiff, reduceCtorEq, ↓reduceIte, Int.reduceAdd, Int.reduceSub, Int.reduceToNat, Int.reduceLT, Int.reduceLE, Int.reduceEq, Int.reduceNeg, Nat.reduceLT, QT3, QT4, QT5, QT9, QT87, QT113, QT2, QT55, QT57, QT128, t_call imp64, t_call imp65, t_call imp67, t_call imp66, t_call imp68, hl1]
    subst hS
    refine loop_up t.length (fun i fr H => fr = [.any, .any, .own [.t (.int .i64 0), .t (.int .i64 0), .t .nilp], boo false, st t, boo false, st t, st [49], boo false, .any, .any, .any, .any, .any, .any, .any, .any, .any, .any, .any, .any, .any, .any, .any, .any, num t.length, num i, .any, .any, .any, .any, .any, .any, .any, .any, .any, .any, .any, .any, .any, .any, .any, .any, .any, .any, .any, .any, .any, .any, .any, .any, .any, .any, .any, .any, .any, .any, .any, .any, .any, .any, .any, .any, .any, .any, .any, .any, .any, .any, .any, .any, .any, .any, .any, .any, .any, .any, .any, .any, .any, .any, .any, .any, .any, .any, .any] ∧ H = [] ∧ i ≤ cutAt t) ?_ ?_ ?_
    · rintro i fr H n' hi ⟨rfl, rfl, hc⟩ IH
      have hcl := cut_le t
      simp -implicitDefEqProofs (disch := first | omega | assumption | (simp only [QN] <;> omega)) only [QB, QL, Nat.reduceSub, Nat.reduceAdd, Nat.reduceLeDiff, Nat.reduceEqDiff, reduceCtorEq, ↓reduceIte, Int.reduceAdd, Int.reduceSub, Int.reduceToNat, Int.reduceLT, Int.reduceLE, Int.reduceEq, Int.reduceNeg, Nat.reduceLT, QT3, QT4, QT5, QT9, QT87, QT113, QT2, QT55, QT57, QT128, t_call imp64, t_call imp65, t_call imp67, t_call imp66, t_call imp68]
      by_cases h3 : (i : Int) < t.length <;> simp (disch := omega) only [h3, decide_true, decide_false, Bool.not_true, Bool.not_false, reduceCtorEq, ↓reduceIte, Option.bind_some]
      · simp -implicitDefEqProofs (disch := first | omega | assumption | (simp only [QN] <;> omega)) only [QB, QL, Nat.reduceSub, Nat.reduceAdd, Nat.reduceLeDiff, Nat.reduceEqDiff, reduceCtorEq, ↓reduceIte, Int.reduceAdd, Int.reduceSub, Int.reduceToNat, Int.reduceLT, Int.reduceLE, Int.reduceEq, Int.reduceNeg, Nat.reduceLT, QT3, QT4, QT5, QT9, QT87, QT113, QT2, QT55, QT57, QT128, t_call imp64, t_call imp65, t_call imp67, t_call imp66, t_call imp68]
        by_cases h4 : byt t i = 47 <;> simp (disch := omega) only [h4, decide_true, decide_false, Bool.not_true, Bool.not_false, reduceCtorEq, ↓reduceIte, Option.bind_some]
        · have hic : i = cutAt t := by
            by_cases h5 : i < cutAt t
            · exact absurd h4 (cut_lt h5)
            · omega
          have e1 : ((i : Int) + 1).toNat = i + 1 := by omega
          have et : topL t = t.take i := by unfold topL; rw [← hic]
          have eb : botL t = t.drop (i + 1) := by unfold botL; rw [if_pos (by omega), ← hic]
          have ef : decide (cutAt t < t.length) = true := decide_eq_true (by omega)
          rw [et, eb, ef] at hR
          by_cases p1 : Pln ((t.take i))
          · have d1 : decide (Pln ((t.take i))) = true := decide_eq_true p1
            by_cases p2 : Pln ((t.drop (i + 1)))
            · have d2 : decide (Pln ((t.drop (i + 1)))) = true := decide_eq_true p2
              by_cases p4 : (t.drop (i + 1)) = [48]
              · have d4 : decide ((t.drop (i + 1)) = [48]) = true := decide_eq_true p4
                simp -implicitDefEqProofs (disch := first | omega | assumption | (simp only [QN] <;> omega)) only [QB, QL, Nat.reduceSub, Nat.reduceAdd, Nat.reduceLeDiff, Nat.reduceEqDiff, reduceCtorEq, ↓reduceIte, Int.reduceAdd, Int.reduceSub, Int.reduceToNat, Int.reduceLT, Int.reduceLE, Int.reduceEq, Int.reduceNeg, Nat.reduceLT, QT3, QT4, QT5, QT9, QT87, QT113, QT2, QT55, QT57, QT128, t_call imp64, t_call imp65, t_call imp67, t_call imp66, t_call imp68, ev_plain, e1, d1, d2, d4]
                rw [hR]
                simp [acc, e1, d1, d2, d4]
              · have d4 : decide ((t.drop (i + 1)) = [48]) = false := decide_eq_false p4
                by_cases p5 : (t.drop (i + 1)) = [49]
                · have d5 : decide ((t.drop (i + 1)) = [49]) = true := decide_eq_true p5
                  simp -implicitDefEqProofs (disch := first | omega | assumption | (simp only [QN] <;> omega)) only [QB, QL, Nat.reduceSub, Nat.reduceAdd, Nat.reduceLeDiff, Nat.reduceEqDiff, reduceCtorEq, ↓reduceIte, Int.reduceAdd, Int.reduceSub, Int.reduceToNat, Int.reduceLT, Int.reduceLE, Int.reduceEq, Int.reduceNeg, Nat.reduceLT, QT3, QT4, QT5, QT9, QT87, QT113, QT2, QT55, QT57, QT128, t_call imp64, t_call imp65, t_call imp67, t_call imp66, t_call imp68, ev_plain, e1, d1, d2, d4, d5]
                  rw [hR]
                  simp [acc, e1, d1, d2, d4, d5]
                · have d5 : decide ((t.drop (i + 1)) = [49]) = false := decide_eq_false p5
                  have q1 := p1.2.2
                  have q2 := p2.2.2
                  have b1 := dv9 p1.2.2 (by first | omega | (simp; omega) | (simp; done))
                  have b2 := dv9 p2.2.2 (by first | omega | (simp; omega) | (simp; done))
                  have hb0 : dv ((t.drop (i + 1))) ≠ 0 := fun h0 => p4 (by have := pln_txt p2; rw [h0] at this; exact this.symm)
                  have hg0 : Nat.gcd (dv ((t.take i))) (dv ((t.drop (i + 1)))) ≠ 0 := fun h => hb0 (Nat.gcd_eq_zero_iff.1 h).2
                  have hg1 : Nat.gcd (dv ((t.take i))) (dv ((t.drop (i + 1)))) ≤ dv ((t.drop (i + 1))) := Nat.gcd_le_right _ (by omega)
                  have hc := cmp_one _ hg0
                  by_cases p6 : Nat.gcd (dv ((t.take i))) (dv ((t.drop (i + 1)))) = 1
                  · have d6 : decide (Nat.gcd (dv ((t.take i))) (dv ((t.drop (i + 1)))) = 1) = true := decide_eq_true p6
                    simp -implicitDefEqProofs (disch := first | omega | assumption | (simp only [QN] <;> omega)) only [QB, QL, Nat.reduceSub, Nat.reduceAdd, Nat.reduceLeDiff, Nat.reduceEqDiff, reduceCtorEq, ↓reduceIte, Int.reduceAdd, Int.reduceSub, Int.reduceToNat, Int.reduceLT, Int.reduceLE, Int.reduceEq, Int.reduceNeg, Nat.reduceLT, QT3, QT4, QT5, QT9, QT87, QT113, QT2, QT55, QT57, QT128, t_call imp64, t_call imp65, t_call imp67, t_call imp66, t_call imp68, ev_plain, e1, d1, d2, d4, d5, ev_ndig, sub_one, ev_gcdw, ev_cmp1, hc, d6, ev_lowF]
                    rw [hR]
                    simp [acc, e1, d1, d2, d4, d5, d6, p6]
                  · have d6 : decide (Nat.gcd (dv ((t.take i))) (dv ((t.drop (i + 1)))) = 1) = false := decide_eq_false p6
                    simp -implicitDefEqProofs (disch := first | omega | assumption | (simp only [QN] <;> omega)) only [QB, QL, Nat.reduceSub, Nat.reduceAdd, Nat.reduceLeDiff, Nat.reduceEqDiff, reduceCtorEq, ↓reduceIte, Int.reduceAdd, Int.reduceSub, Int.reduceToNat, Int.reduceLT, Int.reduceLE, Int.reduceEq, Int.reduceNeg, Nat.reduceLT, QT3, QT4, QT5, QT9, QT87, QT113, QT2, QT55, QT57, QT128, t_call imp64, t_call imp65, t_call imp67, t_call imp66, t_call imp68, ev_plain, e1, d1, d2, d4, d5, ev_ndig, sub_one, ev_gcdw, ev_cmp1, hc, d6, ev_lowF]
                    rw [hR]
                    simp [acc, e1, d1, d2, d4, d5, d6, p6]
            · have d2 : decide (Pln ((t.drop (i + 1)))) = false := decide_eq_false p2
              simp -implicitDefEqProofs (disch := first | omega | assumption | (simp only [QN] <;> omega)) only [QB, QL, Nat.reduceSub, Nat.reduceAdd, Nat.reduceLeDiff, Nat.reduceEqDiff, reduceCtorEq, ↓reduceIte, Int.reduceAdd, Int.reduceSub, Int.reduceToNat, Int.reduceLT, Int.reduceLE, Int.reduceEq, Int.reduceNeg, Nat.reduceLT, QT3, QT4, QT5, QT9, QT87, QT113, QT2, QT55, QT57, QT128, t_call imp64, t_call imp65, t_call imp67, t_call imp66, t_call imp68, ev_plain, e1, d1, d2]
              rw [hR]
              simp [acc, e1, d1, d2]
          · have d1 : decide (Pln ((t.take i))) = false := decide_eq_false p1
            simp -implicitDefEqProofs (disch := first | omega | assumption | (simp only [QN] <;> omega)) only [QB, QL, Nat.reduceSub, Nat.reduceAdd, Nat.reduceLeDiff, Nat.reduceEqDiff, reduceCtorEq, ↓reduceIte, Int.reduceAdd, Int.reduceSub, Int.reduceToNat, Int.reduceLT, Int.reduceLE, Int.reduceEq, Int.reduceNeg, Nat.reduceLT, QT3, QT4, QT5, QT9, QT87, QT113, QT2, QT55, QT57, QT128, t_call imp64, t_call imp65, t_call imp67, t_call imp66, t_call imp68, ev_plain, e1, d1]
            rw [hR]
            simp [acc, e1, d1]
        · have hne : i ≠ cutAt t := fun h => h4 (by rw [h]; exact cut_eq (by omega))
          simp -implicitDefEqProofs (disch := first | omega | assumption | (simp only [QN] <;> omega)) only [QB, QL, Nat.reduceSub, Nat.reduceAdd, Nat.reduceLeDiff, Nat.reduceEqDiff, reduceCtorEq, ↓reduceIte, Int.reduceAdd, Int.reduceSub, Int.reduceToNat, Int.reduceLT, Int.reduceLE, Int.reduceEq, Int.reduceNeg, Nat.reduceLT, QT3, QT4, QT5, QT9, QT87, QT113, QT2, QT55, QT57, QT128, t_call imp64, t_call imp65, t_call imp67, t_call imp66, t_call imp68]
          refine IH _ (by omega) ⟨_, _, ?_, rfl, rfl, by omega⟩
          rw [show ((i + 1 : Nat) : Int) = (i : Int) + 1 by omega]
          kernel_rfl
      · have hic : cutAt t = t.length := by omega
        have e1 : (0 : Int).toNat = 0 := rfl
        have et : topL t = t := by unfold topL; rw [hic, List.take_length]
        have eb : botL t = [49] := by unfold botL; rw [if_neg (by omega)]
        have ef : decide (cutAt t < t.length) = false := decide_eq_false (by omega)
        rw [et, eb, ef] at hR
        by_cases p1 : Pln (t)
        · have d1 : decide (Pln (t)) = true := decide_eq_true p1
          by_cases p2 : Pln (([49]:List UInt8))
          · have d2 : decide (Pln (([49]:List UInt8))) = true := decide_eq_true p2
            have q1 := p1.2.2
            have q2 := p2.2.2
            have b1 := dv9 p1.2.2 (by first | omega | (simp; omega) | (simp; done))
            have b2 := dv9 p2.2.2 (by first | omega | (simp; omega) | (simp; done))
            have b0 : dv ([49] : List UInt8) ≠ 0 := by decide
            simp -implicitDefEqProofs (disch := first | omega | assumption | (simp only [QN] <;> omega)) only [QB, QL, Nat.reduceSub, Nat.reduceAdd, Nat.reduceLeDiff, Nat.reduceEqDiff, reduceCtorEq, ↓reduceIte, Int.reduceAdd, Int.reduceSub, Int.reduceToNat, Int.reduceLT, Int.reduceLE, Int.reduceEq, Int.reduceNeg, Nat.reduceLT, QT3, QT4, QT5, QT9, QT87, QT113, QT2, QT55, QT57, QT128, t_call imp64, t_call imp65, t_call imp67, t_call imp66, t_call imp68, ev_plain, e1, d1, d2, ev_ndig, ev_lowF]
            rw [hR]
            simp [acc, e1, d1, d2]
          · have d2 : decide (Pln (([49]:List UInt8))) = false := decide_eq_false p2
            simp -implicitDefEqProofs (disch := first | omega | assumption | (simp only [QN] <;> omega)) only [QB, QL, Nat.reduceSub, Nat.reduceAdd, Nat.reduceLeDiff, Nat.reduceEqDiff, reduceCtorEq, ↓reduceIte, Int.reduceAdd, Int.reduceSub, Int.reduceToNat, Int.reduceLT, Int.reduceLE, Int.reduceEq, Int.reduceNeg, Nat.reduceLT, QT3, QT4, QT5, QT9, QT87, QT113, QT2, QT55, QT57, QT128, t_call imp64, t_call imp65, t_call imp67, t_call imp66, t_call imp68, ev_plain, e1, d1, d2]
            rw [hR]
            simp [acc, e1, d1, d2]
        · have d1 : decide (Pln (t)) = false := decide_eq_false p1
          simp -implicitDefEqProofs (disch := first | omega | assumption | (simp only [QN] <;> omega)) only [QB, QL, Nat.reduceSub, Nat.reduceAdd, Nat.reduceLeDiff, Nat.reduceEqDiff, reduceCtorEq, ↓reduceIte, Int.reduceAdd, Int.reduceSub, Int.reduceToNat, Int.reduceLT, Int.reduceLE, Int.reduceEq, Int.reduceNeg, Nat.reduceLT, QT3, QT4, QT5, QT9, QT87, QT113, QT2, QT55, QT57, QT128, t_call imp64, t_call imp65, t_call imp67, t_call imp66, t_call imp68, ev_plain, e1, d1]
          rw [hR]
          simp [acc, e1, d1]
    · omega
    · refine ⟨_, _, ?_, rfl, rfl, Nat.zero_le _⟩
      kernel_rfl
end Go.Proofs.Ythjmbppofgadaaa
