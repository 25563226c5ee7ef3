import Derived.Test.YthjmbppofgadaaaW2
import Derived.Test.YthjmbppofgadaaaB1
set_option linter.unusedVariables false
set_option linter.unnecessarySimpa false
set_option linter.all false
set_option linter.unusedSimpArgs false
set_option linter.defProp false
namespace Go.Proofs.Ythjmbppofgadaaa
open Go Go.AM
set_option maxHeartbeats 4000000
set_option maxRecDepth 100000
theorem ev_dgA (s : Bool) (a : Nat) (ha : (dig 4294967296 a).length ≤ 1000000) (ha2 : (dig 1000000000 a).length ≤ 1000000) (n : Nat) (hn : (dig 4294967296 a).length + (dig 1000000000 a).length + a + 100 ≤ n) :
    pcall G n 86 [.agg (Z32 s a)] [] = some (st (txt a), []) := by
  by_cases h : a = 0
  · subst h; exact ev_dg0 s n (by omega)
  · rw [ev_dg s a h ha ha2 n hn, txt, if_neg h]
theorem ev_text (s : Bool) (p q : Nat) (hq : q ≠ 0) (hp1 : (dig 4294967296 p).length ≤ 1000000) (hp2 : (dig 1000000000 p).length ≤ 1000000) (hq1 : (dig 4294967296 q).length ≤ 1000000) (hq2 : (dig 1000000000 q).length ≤ 1000000)
    (hp3 : (txt p).length ≤ 100000000) (hq3 : (txt q).length ≤ 100000000) (n : Nat) (hn : 2000000 + p + 2000000 + q + 200 ≤ n) : pcall G n 74 [.agg (Q32 s p q)] [] = some (st (text s p q), []) := by
  obtain ⟨n, rfl⟩ : ∃ m, n = m + 1 := ⟨n - 1, by omega⟩; rw [pcall_at fn74 rfl, imp74, G_tb]
  by_cases h1 : q = 1
  · subst h1
    unfold Q32
    rw [D32_1]
    cases s
    · simp -implicitDefEqProofs (disch := first | omega | assumption | (simp only [QN] <;> omega)) only [QB, QL, Nat.reduceSub, Nat.reduceAdd, Nat.reduceLeDiff, Nat.reduceEqDiff, reduceCtorEq, ↓reduceIte, Int.reduceAdd, Int.reduceSub, Int.reduceToNat, Int.reduceLT, Int.reduceLE, Int.reduceEq, Int.reduceNeg, Nat.reduceLT, QT3, QT4, QT5, QT9, QT85, QT93, QT95, QT150, QT97, t_call imp86, len_pos (b := 4294967296) (by decide), len_zero (b := 4294967296) (by decide), ev_dgA]
      simp [text]
    · simp -implicitDefEqProofs (disch := first | omega | assumption | (simp only [QN] <;> omega)) only [QB, QL, Nat.reduceSub, Nat.reduceAdd, Nat.reduceLeDiff, Nat.reduceEqDiff, reduceCtorEq, ↓reduceIte, Int.reduceAdd, Int.reduceSub, Int.reduceToNat, Int.reduceLT, Int.reduceLE, Int.reduceEq, Int.reduceNeg, Nat.reduceLT, QT3, QT4, QT5, QT9, QT85, QT93, QT95, QT150, QT97, t_call imp86, len_pos (b := 4294967296) (by decide), len_zero (b := 4294967296) (by decide), ev_dgA]
      simp [text]
  · unfold Q32
    rw [D32_n h1]
    cases s
    · simp -implicitDefEqProofs (disch := first | omega | assumption | (simp only [QN] <;> omega)) only [QB, QL, Nat.reduceSub, Nat.reduceAdd, Nat.reduceLeDiff, Nat.reduceEqDiff, reduceCtorEq, ↓reduceIte, Int.reduceAdd, Int.reduceSub, Int.reduceToNat, Int.reduceLT, Int.reduceLE, Int.reduceEq, Int.reduceNeg, Nat.reduceLT, QT3, QT4, QT5, QT9, QT85, QT93, QT95, QT150, QT97, t_call imp86, len_pos (b := 4294967296) (by decide), len_zero (b := 4294967296) (by decide), ev_dgA, hq]
      simp [text, h1]
    · simp -implicitDefEqProofs (disch := first | omega | assumption | (simp only [QN] <;> omega)) only [QB, QL, Nat.reduceSub, Nat.reduceAdd, Nat.reduceLeDiff, Nat.reduceEqDiff, reduceCtorEq, ↓reduceIte, Int.reduceAdd, Int.reduceSub, Int.reduceToNat, Int.reduceLT, Int.reduceLE, Int.reduceEq, Int.reduceNeg, Nat.reduceLT, QT3, QT4, QT5, QT9, QT85, QT93, QT95, QT150, QT97, t_call imp86, len_pos (b := 4294967296) (by decide), len_zero (b := 4294967296) (by decide), ev_dgA, hq]
      simp [text, h1]
end Go.Proofs.Ythjmbppofgadaaa

namespace Go.Proofs.Ythjmbppofgadaaa
open Go Go.AM
set_option maxHeartbeats 4000000
set_option maxRecDepth 100000
open Classical in
theorem ev_fd (l : List UInt8) (hl : l.length ≤ 1000000) (n : Nat) (hn : l.length + 100 ≤ n) :
    pcall G n 70 [st l] [] = some (if dgs l then .tup [.agg (Z32 false (dv l)), boo (!decide (l = []))] else .tup [.agg zero32, boo false], []) :=
  ev_fd0 l hl _ (fun h => if_pos h) (fun h => if_neg h) n hn
theorem ev_fdY (l : List UInt8) (h : dgs l) (hl : l.length ≤ 1000000) (n : Nat) (hn : l.length + 100 ≤ n) : pcall G n 70 [st l] [] = some (.tup [.agg (Z32 false (dv l)), boo (!decide (l = []))], []) := by rw [ev_fd l hl n hn, if_pos h]
theorem ev_fdN (l : List UInt8) (h : ¬ dgs l) (hl : l.length ≤ 1000000) (n : Nat) (hn : l.length + 100 ≤ n) : pcall G n 70 [st l] [] = some (.tup [.agg zero32, boo false], []) := by rw [ev_fd l hl n hn, if_neg h]
theorem ev_text1 (s : Bool) (p : Nat) (hp1 : (dig 4294967296 p).length ≤ 1000000) (hp2 : (dig 1000000000 p).length ≤ 1000000) (hp3 : (txt p).length ≤ 100000000) (n : Nat) (hn : 5000000 + p ≤ n) :
    pcall G n 74 [.agg [.t (.bool s), .t (N32 p), .t (.bool false), .t (.sl 0 [])]] [] = some (st (text s p 1), []) := by
  have h9 := small9 (show 1 < 1000000000 by decide)
  have h := ev_text s p 1 (by decide) hp1 hp2 (by omega) (by omega) hp3 (by omega) n (by omega)
  unfold Q32 at h
  rw [D32_1] at h
  exact h
theorem ev_textn (s : Bool) (p q : Nat) (hq : q ≠ 0) (h1 : q ≠ 1) (hp1 : (dig 4294967296 p).length ≤ 1000000) (hp2 : (dig 1000000000 p).length ≤ 1000000) (hp3 : (txt p).length ≤ 100000000) (hq1 : (dig 4294967296 q).length ≤ 1000000) (hq2 : (dig 1000000000 q).length ≤ 1000000) (hq3 : (txt q).length ≤ 100000000) (n : Nat) (hn : 5000000 + p + q ≤ n) :
    pcall G n 74 [.agg [.t (.bool s), .t (N32 p), .t (.bool false), .t (N32 q)]] [] = some (st (text s p q), []) := by
  have h := ev_text s p q hq hp1 hp2 hq1 hq2 hp3 hq3 n (by omega)
  unfold Q32 at h
  rw [D32_n h1] at h
  exact h
abbrev zero64 : List C := [.t (.bool false), .t (.sl 0 []), .t (.bool false), .t (.sl 0 [])]
theorem ev_read0 (l t : List UInt8) (S : Bool) (hl : t.length ≤ 9) (hS : (l ≠ [] ∧ byt l 0 = 45 ∧ S = true ∧ t = l.drop 1) ∨ (l ≠ [] ∧ byt l 0 ≠ 45 ∧ S = false ∧ t = l) ∨ (l = [] ∧ S = false ∧ t = l)) (n : Nat) (hn : 100000000000 ≤ n) (R : V)
    (hY : ∀ s p q, Par S t s p q → R = .tup [.agg (Q32 s p q), boo (decide (text s p q = l))]) (hN : (∀ s p q, ¬ Par S t s p q) → R = .tup [.agg zero64, boo false]) : pcall G n 61 [st l] [] = some (R, []) := by
  obtain ⟨n, rfl⟩ : ∃ m, n = m + 1 := ⟨n - 1, by omega⟩; rw [pcall_at fn61 rfl, imp61, G_tb]
  simp -implicitDefEqProofs (disch := first | omega | assumption | (simp only [QN] <;> omega)) only [QB, QL, Nat.reduceSub, Nat.reduceAdd, Nat.reduceLeDiff, Nat.reduceEqDiff, reduceCtorEq, ↓reduceIte, Int.reduceAdd, Int.reduceSub, Int.reduceToNat, Int.reduceLT, Int.reduceLE, Int.reduceEq, Int.reduceNeg, Nat.reduceLT, QT3, QT4, QT5, QT9, QT85, QT93, QT95, QT97, t_call imp70, t_call imp71, t_call imp72, t_call imp73, t_call imp74, len_pos (b := 4294967296) (by decide), len_zero (b := 4294967296) (by decide)]
  rcases hS with ⟨h0, h1, rfl, ht⟩ | ⟨h0, h1, rfl, ht⟩ | ⟨h0, rfl, ht⟩
  · have hl0 : (0 : Int) < l.length := by have := List.length_pos_iff.2 h0; omega
    have hl1 : decide ((0 : Int) < l.length) = true := decide_eq_true hl0
    simp -implicitDefEqProofs (disch := first | omega | assumption | (simp only [QN] <;> omega)) only [QB, QL, Nat.reduceSub, Nat.reduceAdd, Nat.reduceLeDiff, Nat.reduceEqDiff, reduceCtorEq, ↓reduceIte, Int.reduceAdd, Int.reduceSub, Int.reduceToNat, Int.reduceLT, Int.reduceLE, Int.reduceEq, Int.reduceNeg, Nat.reduceLT, QT3, QT4, QT5, QT9, QT85, QT93, QT95, QT97, t_call imp70, t_call imp71, t_call imp72, t_call imp73, t_call imp74, len_pos (b := 4294967296) (by decide), len_zero (b := 4294967296) (by decide), hl1]
    simp -implicitDefEqProofs (disch := first | omega | assumption | (simp only [QN] <;> omega)) only [QB, QL, Nat.reduceSub, Nat.reduceAdd, Nat.reduceLeDiff, Nat.reduceEqDiff, reduceCtorEq, ↓reduceIte, Int.reduceAdd, Int.reduceSub, Int.reduceToNat, Int.reduceLT, Int.reduceLE, Int.reduceEq, Int.reduceNeg, Nat.reduceLT, QT3, QT4, QT5, QT9, QT85, QT93, QT95, QT97, t_call imp70, t_call imp71, t_call imp72, t_call imp73, t_call imp74, len_pos (b := 4294967296) (by decide), len_zero (b := 4294967296) (by decide), h1]
    rw [← ht]
    refine loop_up t.length (fun i fr H => fr = [st l, .any, .own [.t (.bool false), .t .nils, .t (.bool false), .t .nils], boo false, st t, boo true, num t.length, num i, .any, .any, .any, .any, .any, .any, .any, .any, .any, .any, .any, .any, .any, .any, .any, .any, .any, .any, .any, .any, .any, .any, .any, .any, .any, .any, .any, .any, .any, .any, .any, .any, .any, .any, .any, .any, .any, .any, .any, .any, .any, .any, .any, .any, .any, .any, .any, .any, .any, .any, .any, .any, .any, .any, .any, .any, .any, .any, .any, .any, .any, .any, .any, .any, .any, .any, .any, .any, .any, .any, .any, .any, .any, .any] ∧ H = [] ∧ i ≤ cutAt t) ?_ ?_ ?_
    · rintro i fr H n' hi ⟨rfl, rfl, hc⟩ IH
      have hcl := cut_le t
      simp -implicitDefEqProofs (disch := first | omega | assumption | (simp only [QN] <;> omega)) only [QB, QL, Nat.reduceSub, Nat.reduceAdd, Nat.reduceLeDiff, Nat.reduceEqDiff, reduceCtorEq, ↓reduceIte, Int.reduceAdd, Int.reduceSub, Int.reduceToNat, Int.reduceLT, Int.reduceLE, Int.reduceEq, Int.reduceNeg, Nat.reduceLT, QT3, QT4, QT5, QT9, QT85, QT93, QT95, QT97, t_call imp70, t_call imp71, t_call imp72, t_call imp73, t_call imp74, len_pos (b := 4294967296) (by decide), len_zero (b := 4294967296) (by decide)]
      by_cases h3 : (i : Int) < t.length <;> simp (disch := omega) only [h3, decide_true, decide_false, Bool.not_true, Bool.not_false, reduceCtorEq, ↓reduceIte, Option.bind_some]
      · have hlt : decide ((i : Int) < t.length) = true := decide_eq_true h3
        simp -implicitDefEqProofs (disch := first | omega | assumption | (simp only [QN] <;> omega)) only [QB, QL, Nat.reduceSub, Nat.reduceAdd, Nat.reduceLeDiff, Nat.reduceEqDiff, reduceCtorEq, ↓reduceIte, Int.reduceAdd, Int.reduceSub, Int.reduceToNat, Int.reduceLT, Int.reduceLE, Int.reduceEq, Int.reduceNeg, Nat.reduceLT, QT3, QT4, QT5, QT9, QT85, QT93, QT95, QT97, t_call imp70, t_call imp71, t_call imp72, t_call imp73, t_call imp74, len_pos (b := 4294967296) (by decide), len_zero (b := 4294967296) (by decide)]
        by_cases h4 : byt t i = 47 <;> simp (disch := omega) only [h4, decide_true, decide_false, Bool.not_true, Bool.not_false, reduceCtorEq, ↓reduceIte, Option.bind_some]
        · have hic : i = cutAt t := by
            by_cases h5 : i < cutAt t
            · exact absurd h4 (cut_lt h5)
            · omega
          by_cases d1 : dgs (t.take i)
          · have e1 : ((i : Int) + 1).toNat = i + 1 := by omega
            have g1 := dv9 d1 (by simp; omega)
            have g9 := small9 g1
            by_cases h6 : t.take i = []
            · have hd6 : decide (t.take i = []) = true := decide_eq_true h6
              simp -implicitDefEqProofs (disch := first | omega | assumption | (simp only [QN] <;> omega)) only [QB, QL, Nat.reduceSub, Nat.reduceAdd, Nat.reduceLeDiff, Nat.reduceEqDiff, reduceCtorEq, ↓reduceIte, Int.reduceAdd, Int.reduceSub, Int.reduceToNat, Int.reduceLT, Int.reduceLE, Int.reduceEq, Int.reduceNeg, Nat.reduceLT, QT3, QT4, QT5, QT9, QT85, QT93, QT95, QT97, t_call imp70, t_call imp71, t_call imp72, t_call imp73, t_call imp74, len_pos (b := 4294967296) (by decide), len_zero (b := 4294967296) (by decide), ev_fdY, hd6]
              rw [hN]
              rintro s p q (h | h)
              · omega
              · rw [← hic] at h; exact h.2.2.1 h6
            · have hd6 : decide (t.take i = []) = false := decide_eq_false h6
              by_cases d2 : dgs (t.drop (i + 1))
              · have g2 := dv9 d2 (by simp; omega)
                have g10 := small9 g2
                by_cases h8 : t.drop (i + 1) = []
                · have hd8 : decide (t.drop (i + 1) = []) = true := decide_eq_true h8
                  simp -implicitDefEqProofs (disch := first | omega | assumption | (simp only [QN] <;> omega)) only [QB, QL, Nat.reduceSub, Nat.reduceAdd, Nat.reduceLeDiff, Nat.reduceEqDiff, reduceCtorEq, ↓reduceIte, Int.reduceAdd, Int.reduceSub, Int.reduceToNat, Int.reduceLT, Int.reduceLE, Int.reduceEq, Int.reduceNeg, Nat.reduceLT, QT3, QT4, QT5, QT9, QT85, QT93, QT95, QT97, t_call imp70, t_call imp71, t_call imp72, t_call imp73, t_call imp74, len_pos (b := 4294967296) (by decide), len_zero (b := 4294967296) (by decide), ev_fdY, hd6, ev_make1, e1, hlt, hd8]
                  rw [hN]
                  rintro s p q (h | h)
                  · omega
                  · rw [← hic] at h; exact h.2.2.2.2.1 h8
                · have hd8 : decide (t.drop (i + 1) = []) = false := decide_eq_false h8
                  by_cases h7 : dv (t.drop (i + 1)) = 0
                  · have hd7 : (if dv (t.drop (i + 1)) = 0 then (0 : Int) else 1) = 0 := if_pos h7
                    simp -implicitDefEqProofs (disch := first | omega | assumption | (simp only [QN] <;> omega)) only [QB, QL, Nat.reduceSub, Nat.reduceAdd, Nat.reduceLeDiff, Nat.reduceEqDiff, reduceCtorEq, ↓reduceIte, Int.reduceAdd, Int.reduceSub, Int.reduceToNat, Int.reduceLT, Int.reduceLE, Int.reduceEq, Int.reduceNeg, Nat.reduceLT, QT3, QT4, QT5, QT9, QT85, QT93, QT95, QT97, t_call imp70, t_call imp71, t_call imp72, t_call imp73, t_call imp74, len_pos (b := 4294967296) (by decide), len_zero (b := 4294967296) (by decide), ev_fdY, hd6, ev_make1, e1, hlt, hd8, ev_sign, hd7, Bool.false_eq_true]
                    rw [hN]
                    rintro s p q (h | h)
                    · omega
                    · rw [← hic] at h; exact h.2.2.2.2.2.1 h7
                  · have hd7 : (if dv (t.drop (i + 1)) = 0 then (0 : Int) else 1) = 1 := if_neg h7
                    have hsA : (!decide (dv (t.take i) = 0)) = true → dv (t.take i) ≠ 0 := by intro h h'; simp [h'] at h
                    have hsg : ((!((!decide (dv (t.take i) = 0)) == false)) && !decide (dv (t.take i) = 0)) = (!decide (dv (t.take i) = 0)) := by cases decide (dv (t.take i) = 0) <;> rfl
                    have hf := ev_frac (!decide (dv (t.take i) = 0)) false (dv (t.take i)) (dv (t.drop (i + 1))) hsA h7 (by omega) (by omega) n (by omega)
                    rw [hsg] at hf
                    have hPar : Par true t (!decide (dv (t.take i) = 0)) (dv (t.take i) / Nat.gcd (dv (t.take i)) (dv (t.drop (i + 1)))) (dv (t.drop (i + 1)) / Nat.gcd (dv (t.take i)) (dv (t.drop (i + 1)))) := .inr (by rw [← hic]; exact ⟨by omega, d1, h6, d2, h8, h7, rfl, rfl, rfl⟩)
                    have hRR := hY _ _ _ hPar
                    have hpl : dv (t.take i) / Nat.gcd (dv (t.take i)) (dv (t.drop (i + 1))) ≤ dv (t.take i) := Nat.div_le_self ..
                    have hql : dv (t.drop (i + 1)) / Nat.gcd (dv (t.take i)) (dv (t.drop (i + 1))) ≤ dv (t.drop (i + 1)) := Nat.div_le_self ..
                    have hq0 : dv (t.drop (i + 1)) / Nat.gcd (dv (t.take i)) (dv (t.drop (i + 1))) ≠ 0 := by
                      have := Nat.div_pos (Nat.gcd_le_right (dv (t.take i)) (show 0 < dv (t.drop (i + 1)) by omega)) (Nat.gcd_pos_of_pos_right _ (by omega))
                      omega
                    generalize dv (t.take i) / Nat.gcd (dv (t.take i)) (dv (t.drop (i + 1))) = P at hf hRR hpl
                    generalize dv (t.drop (i + 1)) / Nat.gcd (dv (t.take i)) (dv (t.drop (i + 1))) = Q at hf hRR hql hq0
                    have k1 := small9 (show P < 1000000000 by omega)
                    have k2 := small9 (show Q < 1000000000 by omega)
                    rw [hRR]
                    unfold Q32 at hf ⊢
                    by_cases hq1 : Q = 1
                    · rw [hq1, D32_1] at hf ⊢
                      simp -implicitDefEqProofs (disch := first | omega | assumption | (simp only [QN] <;> omega)) only [QB, QL, Nat.reduceSub, Nat.reduceAdd, Nat.reduceLeDiff, Nat.reduceEqDiff, reduceCtorEq, ↓reduceIte, Int.reduceAdd, Int.reduceSub, Int.reduceToNat, Int.reduceLT, Int.reduceLE, Int.reduceEq, Int.reduceNeg, Nat.reduceLT, QT3, QT4, QT5, QT9, QT85, QT93, QT95, QT97, t_call imp70, t_call imp71, t_call imp72, t_call imp73, t_call imp74, len_pos (b := 4294967296) (by decide), len_zero (b := 4294967296) (by decide), ev_fdY, hd6, ev_make1, e1, hlt, hd8, ev_sign, hd7, Bool.false_eq_true, hf, ev_text1]
                    · rw [D32_n hq1] at hf ⊢
                      simp -implicitDefEqProofs (disch := first | omega | assumption | (simp only [QN] <;> omega)) only [QB, QL, Nat.reduceSub, Nat.reduceAdd, Nat.reduceLeDiff, Nat.reduceEqDiff, reduceCtorEq, ↓reduceIte, Int.reduceAdd, Int.reduceSub, Int.reduceToNat, Int.reduceLT, Int.reduceLE, Int.reduceEq, Int.reduceNeg, Nat.reduceLT, QT3, QT4, QT5, QT9, QT85, QT93, QT95, QT97, t_call imp70, t_call imp71, t_call imp72, t_call imp73, t_call imp74, len_pos (b := 4294967296) (by decide), len_zero (b := 4294967296) (by decide), ev_fdY, hd6, ev_make1, e1, hlt, hd8, ev_sign, hd7, Bool.false_eq_true, hf, ev_textn]
              · simp -implicitDefEqProofs (disch := first | omega | assumption | (simp only [QN] <;> omega)) only [QB, QL, Nat.reduceSub, Nat.reduceAdd, Nat.reduceLeDiff, Nat.reduceEqDiff, reduceCtorEq, ↓reduceIte, Int.reduceAdd, Int.reduceSub, Int.reduceToNat, Int.reduceLT, Int.reduceLE, Int.reduceEq, Int.reduceNeg, Nat.reduceLT, QT3, QT4, QT5, QT9, QT85, QT93, QT95, QT97, t_call imp70, t_call imp71, t_call imp72, t_call imp73, t_call imp74, len_pos (b := 4294967296) (by decide), len_zero (b := 4294967296) (by decide), ev_fdY, hd6, ev_make1, e1, ev_fdN, hlt]
                rw [hN]
                rintro s p q (h | h)
                · omega
                · rw [← hic] at h; exact d2 h.2.2.2.1
          · simp -implicitDefEqProofs (disch := first | omega | assumption | (simp only [QN] <;> omega)) only [QB, QL, Nat.reduceSub, Nat.reduceAdd, Nat.reduceLeDiff, Nat.reduceEqDiff, reduceCtorEq, ↓reduceIte, Int.reduceAdd, Int.reduceSub, Int.reduceToNat, Int.reduceLT, Int.reduceLE, Int.reduceEq, Int.reduceNeg, Nat.reduceLT, QT3, QT4, QT5, QT9, QT85, QT93, QT95, QT97, t_call imp70, t_call imp71, t_call imp72, t_call imp73, t_call imp74, len_pos (b := 4294967296) (by decide), len_zero (b := 4294967296) (by decide), ev_fdN]
            rw [hN]
            rintro s p q (h | h)
            · omega
            · rw [← hic] at h; exact d1 h.2.1
        · have hne : i ≠ cutAt t := fun h => h4 (by rw [h]; exact cut_eq (by omega))
          simp -implicitDefEqProofs (disch := first | omega | assumption | (simp only [QN] <;> omega)) only [QB, QL, Nat.reduceSub, Nat.reduceAdd, Nat.reduceLeDiff, Nat.reduceEqDiff, reduceCtorEq, ↓reduceIte, Int.reduceAdd, Int.reduceSub, Int.reduceToNat, Int.reduceLT, Int.reduceLE, Int.reduceEq, Int.reduceNeg, Nat.reduceLT, QT3, QT4, QT5, QT9, QT85, QT93, QT95, QT97, t_call imp70, t_call imp71, t_call imp72, t_call imp73, t_call imp74, len_pos (b := 4294967296) (by decide), len_zero (b := 4294967296) (by decide)]
          refine IH _ (by omega) ⟨_, _, ?_, rfl, rfl, by omega⟩
          rw [show ((i + 1 : Nat) : Int) = (i : Int) + 1 by omega]
          kernel_rfl
      · have hic : cutAt t = t.length := by omega
        by_cases d1 : dgs t
        · have h9 := small9 (dv9 d1 (by omega))
          have hv9 := dv9 d1 (by omega)
          by_cases h6 : t = []
          · have hd6 : decide (t = []) = true := decide_eq_true h6
            simp -implicitDefEqProofs (disch := first | omega | assumption | (simp only [QN] <;> omega)) only [QB, QL, Nat.reduceSub, Nat.reduceAdd, Nat.reduceLeDiff, Nat.reduceEqDiff, reduceCtorEq, ↓reduceIte, Int.reduceAdd, Int.reduceSub, Int.reduceToNat, Int.reduceLT, Int.reduceLE, Int.reduceEq, Int.reduceNeg, Nat.reduceLT, QT3, QT4, QT5, QT9, QT85, QT93, QT95, QT97, t_call imp70, t_call imp71, t_call imp72, t_call imp73, t_call imp74, len_pos (b := 4294967296) (by decide), len_zero (b := 4294967296) (by decide), ev_fdY, List.take_length, hd6]
            rw [hN]
            rintro s p q (h | h)
            · exact h.2.2.1 h6
            · omega
          · have hd6 : decide (t = []) = false := decide_eq_false h6
            simp -implicitDefEqProofs (disch := first | omega | assumption | (simp only [QN] <;> omega)) only [QB, QL, Nat.reduceSub, Nat.reduceAdd, Nat.reduceLeDiff, Nat.reduceEqDiff, reduceCtorEq, ↓reduceIte, Int.reduceAdd, Int.reduceSub, Int.reduceToNat, Int.reduceLT, Int.reduceLE, Int.reduceEq, Int.reduceNeg, Nat.reduceLT, QT3, QT4, QT5, QT9, QT85, QT93, QT95, QT97, t_call imp70, t_call imp71, t_call imp72, t_call imp73, t_call imp74, len_pos (b := 4294967296) (by decide), len_zero (b := 4294967296) (by decide), ev_fdY, List.take_length, hd6, ev_make1, ev_text1, Int.lt_irrefl]
            rw [hY _ _ _ (.inl ⟨hic, d1, h6, rfl, rfl, rfl⟩)]
            unfold Q32
            rw [D32_1] <;> rfl
        · simp -implicitDefEqProofs (disch := first | omega | assumption | (simp only [QN] <;> omega)) only [QB, QL, Nat.reduceSub, Nat.reduceAdd, Nat.reduceLeDiff, Nat.reduceEqDiff, reduceCtorEq, ↓reduceIte, Int.reduceAdd, Int.reduceSub, Int.reduceToNat, Int.reduceLT, Int.reduceLE, Int.reduceEq, Int.reduceNeg, Nat.reduceLT, QT3, QT4, QT5, QT9, QT85, QT93, QT95, QT97, t_call imp70, t_call imp71, t_call imp72, t_call imp73, t_call imp74, len_pos (b := 4294967296) (by decide), len_zero (b := 4294967296) (by decide), ev_fdN, List.take_length]
          rw [hN]
          rintro s p q (h | h)
          · exact d1 h.2.1
          · omega
    · omega
    · refine ⟨_, _, ?_, rfl, rfl, Nat.zero_le _⟩
      kernel_rfl
  · have hl0 : (0 : Int) < l.length := by have := List.length_pos_iff.2 h0; omega
    have hl1 : decide ((0 : Int) < l.length) = true := decide_eq_true hl0
    have h2 : decide (byt l 0 = 45) = false := decide_eq_false h1
    subst ht
    simp -implicitDefEqProofs (disch := first | omega | assumption | (simp only [QN] <;> omega)) only [QB, QL, Nat.reduceSub, Nat.reduceAdd, Nat.reduceLeDiff, Nat.reduceEqDiff, reduceCtorEq, ↓reduceIte, Int.reduceAdd, Int.reduceSub, Int.reduceToNat, Int.reduceLT, Int.reduceLE, Int.reduceEq, Int.reduceNeg, Nat.reduceLT, QT3, QT4, QT5, QT9, QT85, QT93, QT95, QT97, t_call imp70, t_call imp71, t_call imp72, t_call imp73, t_call imp74, len_pos (b := 4294967296) (by decide), len_zero (b := 4294967296) (by decide), hl1]
    simp -implicitDefEqProofs (disch := first | omega | assumption | (simp only [QN] <;> omega)) only [QB, QL, Nat.reduceSub, Nat.reduceAdd, Nat.reduceLeDiff, Nat.reduceEqDiff, reduceCtorEq, ↓reduceIte, Int.reduceAdd, Int.reduceSub, Int.reduceToNat, Int.reduceLT, Int.reduceLE, Int.reduceEq, Int.reduceNeg, Nat.reduceLT, QT3, QT4, QT5, QT9, QT85, QT93, QT95, QT97, t_call imp70, t_call imp71, t_call imp72, t_call imp73, t_call imp74, len_pos (b := 4294967296) (by decide), len_zero (b := 4294967296) (by decide), h2]
    refine loop_up t.length (fun i fr H => fr = [st t, .any, .own [.t (.bool false), .t .nils, .t (.bool false), .t .nils], boo false, st t, boo false, num t.length, num i, .any, .any, .any, .any, .any, .any, .any, .any, .any, .any, .any, .any, .any, .any, .any, .any, .any, .any, .any, .any, .any, .any, .any, .any, .any, .any, .any, .any, .any, .any, .any, .any, .any, .any, .any, .any, .any, .any, .any, .any, .any, .any, .any, .any, .any, .any, .any, .any, .any, .any, .any, .any, .any, .any, .any, .any, .any, .any, .any, .any, .any, .any, .any, .any, .any, .any, .any, .any, .any, .any, .any, .any, .any, .any] ∧ H = [] ∧ i ≤ cutAt t) ?_ ?_ ?_
    · rintro i fr H n' hi ⟨rfl, rfl, hc⟩ IH
      have hcl := cut_le t
      simp -implicitDefEqProofs (disch := first | omega | assumption | (simp only [QN] <;> omega)) only [QB, QL, Nat.reduceSub, Nat.reduceAdd, Nat.reduceLeDiff, Nat.reduceEqDiff, reduceCtorEq, ↓reduceIte, Int.reduceAdd, Int.reduceSub, Int.reduceToNat, Int.reduceLT, Int.reduceLE, Int.reduceEq, Int.reduceNeg, Nat.reduceLT, QT3, QT4, QT5, QT9, QT85, QT93, QT95, QT97, t_call imp70, t_call imp71, t_call imp72, t_call imp73, t_call imp74, len_pos (b := 4294967296) (by decide), len_zero (b := 4294967296) (by decide)]
      by_cases h3 : (i : Int) < t.length <;> simp (disch := omega) only [h3, decide_true, decide_false, Bool.not_true, Bool.not_false, reduceCtorEq, ↓reduceIte, Option.bind_some]
      · have hlt : decide ((i : Int) < t.length) = true := decide_eq_true h3
        simp -implicitDefEqProofs (disch := first | omega | assumption | (simp only [QN] <;> omega)) only [QB, QL, Nat.reduceSub, Nat.reduceAdd, Nat.reduceLeDiff, Nat.reduceEqDiff, reduceCtorEq, ↓reduceIte, Int.reduceAdd, Int.reduceSub, Int.reduceToNat, Int.reduceLT, Int.reduceLE, Int.reduceEq, Int.reduceNeg, Nat.reduceLT, QT3, QT4, QT5, QT9, QT85, QT93, QT95, QT97, t_call imp70, t_call imp71, t_call imp72, t_call imp73, t_call imp74, len_pos (b := 4294967296) (by decide), len_zero (b := 4294967296) (by decide)]
        by_cases h4 : byt t i = 47 <;> simp (disch := omega) only [h4, decide_true, decide_false, Bool.not_true, Bool.not_false, reduceCtorEq, ↓reduceIte, Option.bind_some]
        · have hic : i = cutAt t := by
            by_cases h5 : i < cutAt t
            · exact absurd h4 (cut_lt h5)
            · omega
          by_cases d1 : dgs (t.take i)
          · have e1 : ((i : Int) + 1).toNat = i + 1 := by omega
            have g1 := dv9 d1 (by simp; omega)
            have g9 := small9 g1
            by_cases h6 : t.take i = []
            · have hd6 : decide (t.take i = []) = true := decide_eq_true h6
              simp -implicitDefEqProofs (disch := first | omega | assumption | (simp only [QN] <;> omega)) only [QB, QL, Nat.reduceSub, Nat.reduceAdd, Nat.reduceLeDiff, Nat.reduceEqDiff, reduceCtorEq, ↓reduceIte, Int.reduceAdd, Int.reduceSub, Int.reduceToNat, Int.reduceLT, Int.reduceLE, Int.reduceEq, Int.reduceNeg, Nat.reduceLT, QT3, QT4, QT5, QT9, QT85, QT93, QT95, QT97, t_call imp70, t_call imp71, t_call imp72, t_call imp73, t_call imp74, len_pos (b := 4294967296) (by decide), len_zero (b := 4294967296) (by decide), ev_fdY, hd6]
              rw [hN]
              rintro s p q (h | h)
              · omega
              · rw [← hic] at h; exact h.2.2.1 h6
            · have hd6 : decide (t.take i = []) = false := decide_eq_false h6
              by_cases d2 : dgs (t.drop (i + 1))
              · have g2 := dv9 d2 (by simp; omega)
                have g10 := small9 g2
                by_cases h8 : t.drop (i + 1) = []
                · have hd8 : decide (t.drop (i + 1) = []) = true := decide_eq_true h8
                  simp -implicitDefEqProofs (disch := first | omega | assumption | (simp only [QN] <;> omega)) only [QB, QL, Nat.reduceSub, Nat.reduceAdd, Nat.reduceLeDiff, Nat.reduceEqDiff, reduceCtorEq, ↓reduceIte, Int.reduceAdd, Int.reduceSub, Int.reduceToNat, Int.reduceLT, Int.reduceLE, Int.reduceEq, Int.reduceNeg, Nat.reduceLT, QT3, QT4, QT5, QT9, QT85, QT93, QT95, QT97, t_call imp70, t_call imp71, t_call imp72, t_call imp73, t_call imp74, len_pos (b := 4294967296) (by decide), len_zero (b := 4294967296) (by decide), ev_fdY, hd6, ev_make1, e1, hlt, hd8]
                  rw [hN]
                  rintro s p q (h | h)
                  · omega
                  · rw [← hic] at h; exact h.2.2.2.2.1 h8
                · have hd8 : decide (t.drop (i + 1) = []) = false := decide_eq_false h8
                  by_cases h7 : dv (t.drop (i + 1)) = 0
                  · have hd7 : (if dv (t.drop (i + 1)) = 0 then (0 : Int) else 1) = 0 := if_pos h7
                    simp -implicitDefEqProofs (disch := first | omega | assumption | (simp only [QN] <;> omega)) only [QB, QL, Nat.reduceSub, Nat.reduceAdd, Nat.reduceLeDiff, Nat.reduceEqDiff, reduceCtorEq, ↓reduceIte, Int.reduceAdd, Int.reduceSub, Int.reduceToNat, Int.reduceLT, Int.reduceLE, Int.reduceEq, Int.reduceNeg, Nat.reduceLT, QT3, QT4, QT5, QT9, QT85, QT93, QT95, QT97, t_call imp70, t_call imp71, t_call imp72, t_call imp73, t_call imp74, len_pos (b := 4294967296) (by decide), len_zero (b := 4294967296) (by decide), ev_fdY, hd6, ev_make1, e1, hlt, hd8, ev_sign, hd7, Bool.false_eq_true]
                    rw [hN]
                    rintro s p q (h | h)
                    · omega
                    · rw [← hic] at h; exact h.2.2.2.2.2.1 h7
                  · have hd7 : (if dv (t.drop (i + 1)) = 0 then (0 : Int) else 1) = 1 := if_neg h7
                    have hsA : false = true → dv (t.take i) ≠ 0 := by intro h h'; simp [h'] at h
                    have hsg : ((!(false == false)) && !decide (dv (t.take i) = 0)) = false := by cases decide (dv (t.take i) = 0) <;> rfl
                    have hf := ev_frac false false (dv (t.take i)) (dv (t.drop (i + 1))) hsA h7 (by omega) (by omega) n (by omega)
                    rw [hsg] at hf
                    have hPar : Par false t false (dv (t.take i) / Nat.gcd (dv (t.take i)) (dv (t.drop (i + 1)))) (dv (t.drop (i + 1)) / Nat.gcd (dv (t.take i)) (dv (t.drop (i + 1)))) := .inr (by rw [← hic]; exact ⟨by omega, d1, h6, d2, h8, h7, rfl, rfl, rfl⟩)
                    have hRR := hY _ _ _ hPar
                    have hpl : dv (t.take i) / Nat.gcd (dv (t.take i)) (dv (t.drop (i + 1))) ≤ dv (t.take i) := Nat.div_le_self ..
                    have hql : dv (t.drop (i + 1)) / Nat.gcd (dv (t.take i)) (dv (t.drop (i + 1))) ≤ dv (t.drop (i + 1)) := Nat.div_le_self ..
                    have hq0 : dv (t.drop (i + 1)) / Nat.gcd (dv (t.take i)) (dv (t.drop (i + 1))) ≠ 0 := by
                      have := Nat.div_pos (Nat.gcd_le_right (dv (t.take i)) (show 0 < dv (t.drop (i + 1)) by omega)) (Nat.gcd_pos_of_pos_right _ (by omega))
                      omega
                    generalize dv (t.take i) / Nat.gcd (dv (t.take i)) (dv (t.drop (i + 1))) = P at hf hRR hpl
                    generalize dv (t.drop (i + 1)) / Nat.gcd (dv (t.take i)) (dv (t.drop (i + 1))) = Q at hf hRR hql hq0
                    have k1 := small9 (show P < 1000000000 by omega)
                    have k2 := small9 (show Q < 1000000000 by omega)
                    rw [hRR]
                    unfold Q32 at hf ⊢
                    by_cases hq1 : Q = 1
                    · rw [hq1, D32_1] at hf ⊢
                      simp -implicitDefEqProofs (disch := first | omega | assumption | (simp only [QN] <;> omega)) only [QB, QL, Nat.reduceSub, Nat.reduceAdd, Nat.reduceLeDiff, Nat.reduceEqDiff, reduceCtorEq, ↓reduceIte, Int.reduceAdd, Int.reduceSub, Int.reduceToNat, Int.reduceLT, Int.reduceLE, Int.reduceEq, Int.reduceNeg, Nat.reduceLT, QT3, QT4, QT5, QT9, QT85, QT93, QT95, QT97, t_call imp70, t_call imp71, t_call imp72, t_call imp73, t_call imp74, len_pos (b := 4294967296) (by decide), len_zero (b := 4294967296) (by decide), ev_fdY, hd6, ev_make1, e1, hlt, hd8, ev_sign, hd7, Bool.false_eq_true, hf, ev_text1]
                    · rw [D32_n hq1] at hf ⊢
                      simp -implicitDefEqProofs (disch := first | omega | assumption | (simp only [QN] <;> omega)) only [QB, QL, Nat.reduceSub, Nat.reduceAdd, Nat.reduceLeDiff, Nat.reduceEqDiff, reduceCtorEq, ↓reduceIte, Int.reduceAdd, Int.reduceSub, Int.reduceToNat, Int.reduceLT, Int.reduceLE, Int.reduceEq, Int.reduceNeg, Nat.reduceLT, QT3, QT4, QT5, QT9, QT85, QT93, QT95, QT97, t_call imp70, t_call imp71, t_call imp72, t_call imp73, t_call imp74, len_pos (b := 4294967296) (by decide), len_zero (b := 4294967296) (by decide), ev_fdY, hd6, ev_make1, e1, hlt, hd8, ev_sign, hd7, Bool.false_eq_true, hf, ev_textn]
              · simp -implicitDefEqProofs (disch := first | omega | assumption | (simp only [QN] <;> omega)) only [QB, QL, Nat.reduceSub, Nat.reduceAdd, Nat.reduceLeDiff, Nat.reduceEqDiff, reduceCtorEq, ↓reduceIte, Int.reduceAdd, Int.reduceSub, Int.reduceToNat, Int.reduceLT, Int.reduceLE, Int.reduceEq, Int.reduceNeg, Nat.reduceLT, QT3, QT4, QT5, QT9, QT85, QT93, QT95, QT97, t_call imp70, t_call imp71, t_call imp72, t_call imp73, t_call imp74, len_pos (b := 4294967296) (by decide), len_zero (b := 4294967296) (by decide), ev_fdY, hd6, ev_make1, e1, ev_fdN, hlt]
                rw [hN]
                rintro s p q (h | h)
                · omega
                · rw [← hic] at h; exact d2 h.2.2.2.1
          · simp -implicitDefEqProofs (disch := first | omega | assumption | (simp only [QN] <;> omega)) only [QB, QL, Nat.reduceSub, Nat.reduceAdd, Nat.reduceLeDiff, Nat.reduceEqDiff, reduceCtorEq, ↓reduceIte, Int.reduceAdd, Int.reduceSub, Int.reduceToNat, Int.reduceLT, Int.reduceLE, Int.reduceEq, Int.reduceNeg, Nat.reduceLT, QT3, QT4, QT5, QT9, QT85, QT93, QT95, QT97, t_call imp70, t_call imp71, t_call imp72, t_call imp73, t_call imp74, len_pos (b := 4294967296) (by decide), len_zero (b := 4294967296) (by decide), ev_fdN]
            rw [hN]
            rintro s p q (h | h)
            · omega
            · rw [← hic] at h; exact d1 h.2.1
        · have hne : i ≠ cutAt t := fun h => h4 (by rw [h]; exact cut_eq (by omega))
          simp -implicitDefEqProofs (disch := first | omega | assumption | (simp only [QN] <;> omega)) only [QB, QL, Nat.reduceSub, Nat.reduceAdd, Nat.reduceLeDiff, Nat.reduceEqDiff, reduceCtorEq, ↓reduceIte, Int.reduceAdd, Int.reduceSub, Int.reduceToNat, Int.reduceLT, Int.reduceLE, Int.reduceEq, Int.reduceNeg, Nat.reduceLT, QT3, QT4, QT5, QT9, QT85, QT93, QT95, QT97, t_call imp70, t_call imp71, t_call imp72, t_call imp73, t_call imp74, len_pos (b := 4294967296) (by decide), len_zero (b := 4294967296) (by decide)]
          refine IH _ (by omega) ⟨_, _, ?_, rfl, rfl, by omega⟩
          rw [show ((i + 1 : Nat) : Int) = (i : Int) + 1 by omega]
          kernel_rfl
      · have hic : cutAt t = t.length := by omega
        by_cases d1 : dgs t
        · have h9 := small9 (dv9 d1 (by omega))
          have hv9 := dv9 d1 (by omega)
          by_cases h6 : t = []
          · have hd6 : decide (t = []) = true := decide_eq_true h6
            simp -implicitDefEqProofs (disch := first | omega | assumption | (simp only [QN] <;> omega)) only [QB, QL, Nat.reduceSub, Nat.reduceAdd, Nat.reduceLeDiff, Nat.reduceEqDiff, reduceCtorEq, ↓reduceIte, Int.reduceAdd, Int.reduceSub, Int.reduceToNat, Int.reduceLT, Int.reduceLE, Int.reduceEq, Int.reduceNeg, Nat.reduceLT, QT3, QT4, QT5, QT9, QT85, QT93, QT95, QT97, t_call imp70, t_call imp71, t_call imp72, t_call imp73, t_call imp74, len_pos (b := 4294967296) (by decide), len_zero (b := 4294967296) (by decide), ev_fdY, List.take_length, hd6]
            rw [hN]
            rintro s p q (h | h)
            · exact h.2.2.1 h6
            · omega
          · have hd6 : decide (t = []) = false := decide_eq_false h6
            simp -implicitDefEqProofs (disch := first | omega | assumption | (simp only [QN] <;> omega)) only [QB, QL, Nat.reduceSub, Nat.reduceAdd, Nat.reduceLeDiff, Nat.reduceEqDiff, reduceCtorEq, ↓reduceIte, Int.reduceAdd, Int.reduceSub, Int.reduceToNat, Int.reduceLT, Int.reduceLE, Int.reduceEq, Int.reduceNeg, Nat.reduceLT, QT3, QT4, QT5, QT9, QT85, QT93, QT95, QT97, t_call imp70, t_call imp71, t_call imp72, t_call imp73, t_call imp74, len_pos (b := 4294967296) (by decide), len_zero (b := 4294967296) (by decide), ev_fdY, List.take_length, hd6, ev_make1, ev_text1, Int.lt_irrefl]
            rw [hY _ _ _ (.inl ⟨hic, d1, h6, rfl, rfl, rfl⟩)]
            unfold Q32
            rw [D32_1] <;> rfl
        · simp -implicitDefEqProofs (disch := first | omega | assumption | (simp only [QN] <;> omega)) only [QB, QL, Nat.reduceSub, Nat.reduceAdd, Nat.reduceLeDiff, Nat.reduceEqDiff, reduceCtorEq, ↓reduceIte, Int.reduceAdd, Int.reduceSub, Int.reduceToNat, Int.reduceLT, Int.reduceLE, Int.reduceEq, Int.reduceNeg, Nat.reduceLT, QT3, QT4, QT5, QT9, QT85, QT93, QT95, QT97, t_call imp70, t_call imp71, t_call imp72, t_call imp73, t_call imp74, len_pos (b := 4294967296) (by decide), len_zero (b := 4294967296) (by decide), ev_fdN, List.take_length]
          rw [hN]
          rintro s p q (h | h)
          · exact d1 h.2.1
          · omega
    · omega
    · refine ⟨_, _, ?_, rfl, rfl, Nat.zero_le _⟩
      kernel_rfl
  · subst ht
    have hl1 : decide ((0 : Int) < t.length) = false := by rw [h0]; rfl
    simp -implicitDefEqProofs (disch := first | omega | assumption | (simp only [QN] <;> omega)) only [QB, QL, Nat.reduceSub, Nat.reduceAdd, Nat.reduceLeDiff, Nat.reduceEqDiff, reduceCtorEq, ↓reduceIte, Int.reduceAdd, Int.reduceSub, Int.reduceToNat, Int.reduceLT, Int.reduceLE, Int.reduceEq, Int.reduceNeg, Nat.reduceLT, QT3, QT4, QT5, QT9, QT85, QT93, QT95, QT97, t_call imp70, t_call imp71, t_call imp72, t_call imp73, t_call imp74, len_pos (b := 4294967296) (by decide), len_zero (b := 4294967296) (by decide), hl1]
    refine loop_up t.length (fun i fr H => fr = [st t, .any, .own [.t (.bool false), .t .nils, .t (.bool false), .t .nils], boo false, st t, boo false, num t.length, num i, .any, .any, .any, .any, .any, .any, .any, .any, .any, .any, .any, .any, .any, .any, .any, .any, .any, .any, .any, .any, .any, .any, .any, .any, .any, .any, .any, .any, .any, .any, .any, .any, .any, .any, .any, .any, .any, .any, .any, .any, .any, .any, .any, .any, .any, .any, .any, .any, .any, .any, .any, .any, .any, .any, .any, .any, .any, .any, .any, .any, .any, .any, .any, .any, .any, .any, .any, .any, .any, .any, .any, .any, .any, .any] ∧ H = [] ∧ i ≤ cutAt t) ?_ ?_ ?_
    · rintro i fr H n' hi ⟨rfl, rfl, hc⟩ IH
      have hcl := cut_le t
      simp -implicitDefEqProofs (disch := first | omega | assumption | (simp only [QN] <;> omega)) only [QB, QL, Nat.reduceSub, Nat.reduceAdd, Nat.reduceLeDiff, Nat.reduceEqDiff, reduceCtorEq, ↓reduceIte, Int.reduceAdd, Int.reduceSub, Int.reduceToNat, Int.reduceLT, Int.reduceLE, Int.reduceEq, Int.reduceNeg, Nat.reduceLT, QT3, QT4, QT5, QT9, QT85, QT93, QT95, QT97, t_call imp70, t_call imp71, t_call imp72, t_call imp73, t_call imp74, len_pos (b := 4294967296) (by decide), len_zero (b := 4294967296) (by decide)]
      by_cases h3 : (i : Int) < t.length <;> simp (disch := omega) only [h3, decide_true, decide_false, Bool.not_true, Bool.not_false, reduceCtorEq, ↓reduceIte, Option.bind_some]
      · have hlt : decide ((i : Int) < t.length) = true := decide_eq_true h3
        simp -implicitDefEqProofs (disch := first | omega | assumption | (simp only [QN] <;> omega)) only [QB, QL, Nat.reduceSub, Nat.reduceAdd, Nat.reduceLeDiff, Nat.reduceEqDiff, reduceCtorEq, ↓reduceIte, Int.reduceAdd, Int.reduceSub, Int.reduceToNat, Int.reduceLT, Int.reduceLE, Int.reduceEq, Int.reduceNeg, Nat.reduceLT, QT3, QT4, QT5, QT9, QT85, QT93, QT95, QT97, t_call imp70, t_call imp71, t_call imp72, t_call imp73, t_call imp74, len_pos (b := 4294967296) (by decide), len_zero (b := 4294967296) (by decide)]
        by_cases h4 : byt t i = 47 <;> simp (disch := omega) only [h4, decide_true, decide_false, Bool.not_true, Bool.not_false, reduceCtorEq, ↓reduceIte, Option.bind_some]
        · have hic : i = cutAt t := by
            by_cases h5 : i < cutAt t
            · exact absurd h4 (cut_lt h5)
            · omega
          by_cases d1 : dgs (t.take i)
          · have e1 : ((i : Int) + 1).toNat = i + 1 := by omega
            have g1 := dv9 d1 (by simp; omega)
            have g9 := small9 g1
            by_cases h6 : t.take i = []
            · have hd6 : decide (t.take i = []) = true := decide_eq_true h6
              simp -implicitDefEqProofs (disch := first | omega | assumption | (simp only [QN] <;> omega)) only [QB, QL, Nat.reduceSub, Nat.reduceAdd, Nat.reduceLeDiff, Nat.reduceEqDiff, reduceCtorEq, ↓reduceIte, Int.reduceAdd, Int.reduceSub, Int.reduceToNat, Int.reduceLT, Int.reduceLE, Int.reduceEq, Int.reduceNeg, Nat.reduceLT, QT3, QT4, QT5, QT9, QT85, QT93, QT95, QT97, t_call imp70, t_call imp71, t_call imp72, t_call imp73, t_call imp74, len_pos (b := 4294967296) (by decide), len_zero (b := 4294967296) (by decide), ev_fdY, hd6]
              rw [hN]
              rintro s p q (h | h)
              · omega
              · rw [← hic] at h; exact h.2.2.1 h6
            · have hd6 : decide (t.take i = []) = false := decide_eq_false h6
              by_cases d2 : dgs (t.drop (i + 1))
              · have g2 := dv9 d2 (by simp; omega)
                have g10 := small9 g2
                by_cases h8 : t.drop (i + 1) = []
                · have hd8 : decide (t.drop (i + 1) = []) = true := decide_eq_true h8
                  simp -implicitDefEqProofs (disch := first | omega | assumption | (simp only [QN] <;> omega)) only [QB, QL, Nat.reduceSub, Nat.reduceAdd, Nat.reduceLeDiff, Nat.reduceEqDiff, reduceCtorEq, ↓reduceIte, Int.reduceAdd, Int.reduceSub, Int.reduceToNat, Int.reduceLT, Int.reduceLE, Int.reduceEq, Int.reduceNeg, Nat.reduceLT, QT3, QT4, QT5, QT9, QT85, QT93, QT95, QT97, t_call imp70, t_call imp71, t_call imp72, t_call imp73, t_call imp74, len_pos (b := 4294967296) (by decide), len_zero (b := 4294967296) (by decide), ev_fdY, hd6, ev_make1, e1, hlt, hd8]
                  rw [hN]
                  rintro s p q (h | h)
                  · omega
                  · rw [← hic] at h; exact h.2.2.2.2.1 h8
                · have hd8 : decide (t.drop (i + 1) = []) = false := decide_eq_false h8
                  by_cases h7 : dv (t.drop (i + 1)) = 0
                  · have hd7 : (if dv (t.drop (i + 1)) = 0 then (0 : Int) else 1) = 0 := if_pos h7
                    simp -implicitDefEqProofs (disch := first | omega | assumption | (simp only [QN] <;> omega)) only [QB, QL, Nat.reduceSub, Nat.reduceAdd, Nat.reduceLeDiff, Nat.reduceEqDiff, reduceCtorEq, ↓reduceIte, Int.reduceAdd, Int.reduceSub, Int.reduceToNat, Int.reduceLT, Int.reduceLE, Int.reduceEq, Int.reduceNeg, Nat.reduceLT, QT3, QT4, QT5, QT9, QT85, QT93, QT95, QT97, t_call imp70, t_call imp71, t_call imp72, t_call imp73, t_call imp74, len_pos (b := 4294967296) (by decide), len_zero (b := 4294967296) (by decide), ev_fdY, hd6, ev_make1, e1, hlt, hd8, ev_sign, hd7, Bool.false_eq_true]
                    rw [hN]
                    rintro s p q (h | h)
                    · omega
                    · rw [← hic] at h; exact h.2.2.2.2.2.1 h7
                  · have hd7 : (if dv (t.drop (i + 1)) = 0 then (0 : Int) else 1) = 1 := if_neg h7
                    have hsA : false = true → dv (t.take i) ≠ 0 := by intro h h'; simp [h'] at h
                    have hsg : ((!(false == false)) && !decide (dv (t.take i) = 0)) = false := by cases decide (dv (t.take i) = 0) <;> rfl
                    have hf := ev_frac false false (dv (t.take i)) (dv (t.drop (i + 1))) hsA h7 (by omega) (by omega) n (by omega)
                    rw [hsg] at hf
                    have hPar : Par false t false (dv (t.take i) / Nat.gcd (dv (t.take i)) (dv (t.drop (i + 1)))) (dv (t.drop (i + 1)) / Nat.gcd (dv (t.take i)) (dv (t.drop (i + 1)))) := .inr (by rw [← hic]; exact ⟨by omega, d1, h6, d2, h8, h7, rfl, rfl, rfl⟩)
                    have hRR := hY _ _ _ hPar
                    have hpl : dv (t.take i) / Nat.gcd (dv (t.take i)) (dv (t.drop (i + 1))) ≤ dv (t.take i) := Nat.div_le_self ..
                    have hql : dv (t.drop (i + 1)) / Nat.gcd (dv (t.take i)) (dv (t.drop (i + 1))) ≤ dv (t.drop (i + 1)) := Nat.div_le_self ..
                    have hq0 : dv (t.drop (i + 1)) / Nat.gcd (dv (t.take i)) (dv (t.drop (i + 1))) ≠ 0 := by
                      have := Nat.div_pos (Nat.gcd_le_right (dv (t.take i)) (show 0 < dv (t.drop (i + 1)) by omega)) (Nat.gcd_pos_of_pos_right _ (by omega))
                      omega
                    generalize dv (t.take i) / Nat.gcd (dv (t.take i)) (dv (t.drop (i + 1))) = P at hf hRR hpl
                    generalize dv (t.drop (i + 1)) / Nat.gcd (dv (t.take i)) (dv (t.drop (i + 1))) = Q at hf hRR hql hq0
                    have k1 := small9 (show P < 1000000000 by omega)
                    have k2 := small9 (show Q < 1000000000 by omega)
                    rw [hRR]
                    unfold Q32 at hf ⊢
                    by_cases hq1 : Q = 1
                    · rw [hq1, D32_1] at hf ⊢
                      simp -implicitDefEqProofs (disch := first | omega | assumption | (simp only [QN] <;> omega)) only [QB, QL, Nat.reduceSub, Nat.reduceAdd, Nat.reduceLeDiff, Nat.reduceEqDiff, reduceCtorEq, ↓reduceIte, Int.reduceAdd, Int.reduceSub, Int.reduceToNat, Int.reduceLT, Int.reduceLE, Int.reduceEq, Int.reduceNeg, Nat.reduceLT, QT3, QT4, QT5, QT9, QT85, QT93, QT95, QT97, t_call imp70, t_call imp71, t_call imp72, t_call imp73, t_call imp74, len_pos (b := 4294967296) (by decide), len_zero (b := 4294967296) (by decide), ev_fdY, hd6, ev_make1, e1, hlt, hd8, ev_sign, hd7, Bool.false_eq_true, hf, ev_text1]
                    · rw [D32_n hq1] at hf ⊢
                      simp -implicitDefEqProofs (disch := first | omega | assumption | (simp only [QN] <;> omega)) only [QB, QL, Nat.reduceSub, Nat.reduceAdd, Nat.reduceLeDiff, Nat.reduceEqDiff, reduceCtorEq, ↓reduceIte, Int.reduceAdd, Int.reduceSub, Int.reduceToNat, Int.reduceLT, Int.reduceLE, Int.reduceEq, Int.reduceNeg, Nat.reduceLT, QT3, QT4, QT5, QT9, QT85, QT93, QT95, QT97, t_call imp70, t_call imp71, t_call imp72, t_call imp73, t_call imp74, len_pos (b := 4294967296) (by decide), len_zero (b := 4294967296) (by decide), ev_fdY, hd6, ev_make1, e1, hlt, hd8, ev_sign, hd7, Bool.false_eq_true, hf, ev_textn]
              · simp -implicitDefEqProofs (disch := first | omega | assumption | (simp only [QN] <;> omega)) only [QB, QL, Nat.reduceSub, Nat.reduceAdd, Nat.reduceLeDiff, Nat.reduceEqDiff, reduceCtorEq, ↓reduceIte, Int.reduceAdd, Int.reduceSub, Int.reduceToNat, Int.reduceLT, Int.reduceLE, Int.reduceEq, Int.reduceNeg, Nat.reduceLT, QT3, QT4, QT5, QT9, QT85, QT93, QT95, QT97, t_call imp70, t_call imp71, t_call imp72, t_call imp73, t_call imp74, len_pos (b := 4294967296) (by decide), len_zero (b := 4294967296) (by decide), ev_fdY, hd6, ev_make1, e1, ev_fdN, hlt]
                rw [hN]
                rintro s p q (h | h)
                · omega
                · rw [← hic] at h; exact d2 h.2.2.2.1
          · simp -implicitDefEqProofs (disch := first | omega | assumption | (simp only [QN] <;> omega)) only [QB, QL, Nat.reduceSub, Nat.reduceAdd, Nat.reduceLeDiff, Nat.reduceEqDiff, reduceCtorEq, ↓reduceIte, Int.reduceAdd, Int.reduceSub, Int.reduceToNat, Int.reduceLT, Int.reduceLE, Int.reduceEq, Int.reduceNeg, Nat.reduceLT, QT3, QT4, QT5, QT9, QT85, QT93, QT95, QT97, t_call imp70, t_call imp71, t_call imp72, t_call imp73, t_call imp74, len_pos (b := 4294967296) (by decide), len_zero (b := 4294967296) (by decide), ev_fdN]
            rw [hN]
            rintro s p q (h | h)
            · omega
            · rw [← hic] at h; exact d1 h.2.1
        · have hne : i ≠ cutAt t := fun h => h4 (by rw [h]; exact cut_eq (by omega))
          simp -implicitDefEqProofs (disch := first | omega | assumption | (simp only [QN] <;> omega)) only [QB, QL, Nat.reduceSub, Nat.reduceAdd, Nat.reduceLeDiff, Nat.reduceEqDiff, reduceCtorEq, ↓reduceIte, Int.reduceAdd, Int.reduceSub, Int.reduceToNat, Int.reduceLT, Int.reduceLE, Int.reduceEq, Int.reduceNeg, Nat.reduceLT, QT3, QT4, QT5, QT9, QT85, QT93, QT95, QT97, t_call imp70, t_call imp71, t_call imp72, t_call imp73, t_call imp74, len_pos (b := 4294967296) (by decide), len_zero (b := 4294967296) (by decide)]
          refine IH _ (by omega) ⟨_, _, ?_, rfl, rfl, by omega⟩
          rw [show ((i + 1 : Nat) : Int) = (i : Int) + 1 by omega]
          kernel_rfl
      · have hic : cutAt t = t.length := by omega
        by_cases d1 : dgs t
        · have h9 := small9 (dv9 d1 (by omega))
          have hv9 := dv9 d1 (by omega)
          by_cases h6 : t = []
          · have hd6 : decide (t = []) = true := decide_eq_true h6
            simp -implicitDefEqProofs (disch := first | omega | assumption | (simp only [QN] <;> omega)) only [QB, QL, Nat.reduceSub, Nat.reduceAdd, Nat.reduceLeDiff, Nat.reduceEqDiff, reduceCtorEq, ↓reduceIte, Int.reduceAdd, Int.reduceSub, Int.reduceToNat, Int.reduceLT, Int.reduceLE, Int.reduceEq, Int.reduceNeg, Nat.reduceLT, QT3, QT4, QT5, QT9, QT85, QT93, QT95, QT97, t_call imp70, t_call imp71, t_call imp72, t_call imp73, t_call imp74, len_pos (b := 4294967296) (by decide), len_zero (b := 4294967296) (by decide), ev_fdY, List.take_length, hd6]
            rw [hN]
            rintro s p q (h | h)
            · exact h.2.2.1 h6
            · omega
          · have hd6 : decide (t = []) = false := decide_eq_false h6
            simp -implicitDefEqProofs (disch := first | omega | assumption | (simp only [QN] <;> omega)) only [QB, QL, Nat.reduceSub, Nat.reduceAdd, Nat.reduceLeDiff, Nat.reduceEqDiff, reduceCtorEq, ↓reduceIte, Int.reduceAdd, Int.reduceSub, Int.reduceToNat, Int.reduceLT, Int.reduceLE, Int.reduceEq, Int.reduceNeg, Nat.reduceLT, QT3, QT4, QT5, QT9, QT85, QT93, QT95, QT97, t_call imp70, t_call imp71, t_call imp72, t_call imp73, t_call imp74, len_pos (b := 4294967296) (by decide), len_zero (b := 4294967296) (by decide), ev_fdY, List.take_length, hd6, ev_make1, ev_text1, Int.lt_irrefl]
            rw [hY _ _ _ (.inl ⟨hic, d1, h6, rfl, rfl, rfl⟩)]
            unfold Q32
            rw [D32_1] <;> rfl
        · simp -implicitDefEqProofs (disch := first | omega | assumption | (simp only [QN] <;> omega)) only [QB, QL, Nat.reduceSub, Nat.reduceAdd, Nat.reduceLeDiff, Nat.reduceEqDiff, reduceCtorEq, ↓reduceIte, Int.reduceAdd, Int.reduceSub, Int.reduceToNat, Int.reduceLT, Int.reduceLE, Int.reduceEq, Int.reduceNeg, Nat.reduceLT, QT3, QT4, QT5, QT9, QT85, QT93, QT95, QT97, t_call imp70, t_call imp71, t_call imp72, t_call imp73, t_call imp74, len_pos (b := 4294967296) (by decide), len_zero (b := 4294967296) (by decide), ev_fdN, List.take_length]
          rw [hN]
          rintro s p q (h | h)
          · exact d1 h.2.1
          · omega
    · omega
    · refine ⟨_, _, ?_, rfl, rfl, Nat.zero_le _⟩
      kernel_rfl
end Go.Proofs.Ythjmbppofgadaaa
