import Derived.Test.YthjmbppofgadaaaW3
import Derived.Test.YthjmbppofgadaaaB1
set_option linter.unusedVariables false
set_option linter.unnecessarySimpa false
set_option linter.all false
set_option linter.unusedSimpArgs false
set_option linter.defProp false
namespace Go.Proofs.Ythjmbppofgadaaa
open Go Go.AM
set_option maxHeartbeats 4000000
set_option maxRecDepth 100000
def dT (q : Nat) : T := if q = 1 then .sl 0 [] else N32 q
theorem D32_dT (q : Nat) : D32 q = [.t (.bool false), .t (dT q)] := by
  unfold D32 dT
  split <;> rfl
abbrev G32 (s : Bool) (p q : Nat) : List C := [.t (.bool s), .t (N32 p), .t (.bool false), .t (dT q)]
theorem G32_eq (s : Bool) (p q : Nat) : Q32 s p q = G32 s p q := by unfold Q32; rw [D32_dT]
theorem ev_readE (l : List UInt8) (hl : l.length ≤ 9) : ∃ s p q, (∀ n, 100000000000 ≤ n → pcall G n 61 [st l] [] = some (.tup [.agg (G32 s p q), boo (canL l).isSome], [])) ∧ ∀ s' p' q', canL l = some (s', p', q') → s = s' ∧ p = p' ∧ q = q' := by
  have hS : (l ≠ [] ∧ byt l 0 = 45 ∧ sgnL l = true ∧ bodyL l = l.drop 1) ∨ (l ≠ [] ∧ byt l 0 ≠ 45 ∧ sgnL l = false ∧ bodyL l = l) ∨ (l = [] ∧ sgnL l = false ∧ bodyL l = l) := by
    cases l with
    | nil => exact .inr (.inr ⟨rfl, rfl, rfl⟩)
    | cons c l =>
      by_cases hc : c = 45
      · subst hc
        exact .inl ⟨by simp, rfl, rfl, rfl⟩
      · have h1 : sgnL (c :: l) = false := by simp [sgnL, hc]
        refine .inr (.inl ⟨by simp, ?_, h1, by unfold bodyL; rw [h1]; rfl⟩)
        intro h
        exact hc (UInt8.toNat_inj.1 (by simp [byt] at h; simp; omega))
  have hb : (bodyL l).length ≤ 9 := by
    unfold bodyL
    split
    · simp; omega
    · exact hl
  by_cases hp : ∃ s p q, Par (sgnL l) (bodyL l) s p q
  · obtain ⟨s, p, q, hp⟩ := hp
    have hu : ∀ s' p' q', Par (sgnL l) (bodyL l) s' p' q' → s' = s ∧ p' = p ∧ q' = q := by
      rintro s' p' q' h'
      rcases hp with hp | hp <;> rcases h' with h' | h'
      · obtain ⟨_, _, _, h1, h2, h3⟩ := hp
        obtain ⟨_, _, _, h4, h5, h6⟩ := h'
        exact ⟨h4.trans h1.symm, h5.trans h2.symm, h6.trans h3.symm⟩
      · omega
      · omega
      · obtain ⟨_, _, _, _, _, _, h1, h2, h3⟩ := hp
        obtain ⟨_, _, _, _, _, _, h4, h5, h6⟩ := h'
        exact ⟨h4.trans h1.symm, h5.trans h2.symm, h6.trans h3.symm⟩
    refine ⟨s, p, q, fun n hn => ?_, ?_⟩
    · refine ev_read0 l (bodyL l) (sgnL l) hb hS n hn _ ?_ ?_
      · intro s' p' q' h'
        obtain ⟨rfl, rfl, rfl⟩ := hu s' p' q' h'
        rw [G32_eq]
        by_cases ht : text s' p' q' = l
        · rw [decide_eq_true ht, canL_some.2 (par_canon hp ht)]; rfl
        · have : canL l = none := by
            cases hc : canL l with
            | none => rfl
            | some x =>
              obtain ⟨a, b, c⟩ := x
              have hcan := canL_some.1 hc
              obtain ⟨rfl, rfl, rfl⟩ := hu _ _ _ (canon_par hcan)
              exact absurd hcan.1 ht
          rw [decide_eq_false ht, this]; rfl
      · intro h
        exact absurd hp (h s p q)
    · intro s' p' q' hc
      obtain ⟨rfl, rfl, rfl⟩ := hu _ _ _ (canon_par (canL_some.1 hc))
      exact ⟨rfl, rfl, rfl⟩
  · have hc : canL l = none := by
      cases hc : canL l with
      | none => rfl
      | some x =>
        obtain ⟨a, b, c⟩ := x
        exact absurd ⟨a, b, c, canon_par (canL_some.1 hc)⟩ hp
    refine ⟨false, 0, 1, fun n hn => ?_, by intro s' p' q' h; rw [hc] at h; cases h⟩
    refine ev_read0 l (bodyL l) (sgnL l) hb hS n hn _ ?_ ?_
    · intro s p q h; exact absurd ⟨s, p, q, h⟩ hp
    · intro _
      rw [hc]
      have h0 : N32 0 = .sl 0 [] := by unfold N32; rw [dig_zero]; rfl
      unfold G32
      rw [h0]
      rfl
theorem ev_rsign2 (s : Bool) (p q : Nat) (n : Nat) (hn : 30 ≤ n) : pcall G n 62 [.agg (G32 s p q)] [] = some (num (if s then -1 else if p = 0 then 0 else 1), []) := ev_rsign s p _ _ n hn
theorem ev_order (a b : List Int) (he : a.length = b.length) (hl : a.length ≤ 1000) (hw : Within 1048576 a) (hv : Within 1048576 b) (n : Nat) (hn : 1100 ≤ n) : pcall G n 63 [.c (.t (ints a)), .c (.t (ints b))] [] = some (num (ordL a b), []) := by
  unfold ordL
  obtain ⟨n, rfl⟩ : ∃ m, n = m + 1 := ⟨n - 1, by omega⟩; rw [pcall_at fn63 rfl, imp63, G_tb]
  simp -implicitDefEqProofs (disch := first | omega | assumption | (simp only [QN] <;> omega)) only [QB, QL, Nat.reduceSub, Nat.reduceAdd, Nat.reduceLeDiff, Nat.reduceEqDiff, reduceCtorEq, ↓reduceIte, Int.reduceAdd, Int.reduceSub, Int.reduceToNat, Int.reduceLT, Int.reduceLE, Int.reduceEq, Int.reduceNeg, Nat.reduceLT, QT3, QT4, QT5, QT9, QT93, QT95, QT97, QT31, t_call imp55]
  refine loop_up a.length (fun i fr H => fr = [.c (.t (ints a)), .c (.t (ints b)), .any, .any, num 0, num (sumL (a.take i)), num (sumL (b.take i)), num i, .any, .any, .any, .any, .any, .any, .any, .any, .any, .any, .any, .any, .any, .any, .any, .any, .any, .any, .any, .any, .any, .any, .any, .any, .any, .any, .any, .any, .any, .any, .any, .any, .any, .any, .any, .any, .any, .any, .any, .any, .any, .any, .any, .any, .any, .any, .any, .any, .any, .any] ∧ H = []) ?_ ?_ ?_
  · rintro i fr H n' hi ⟨rfl, rfl⟩ IH
    simp -implicitDefEqProofs (disch := first | omega | assumption | (simp only [QN] <;> omega)) only [QB, QL, Nat.reduceSub, Nat.reduceAdd, Nat.reduceLeDiff, Nat.reduceEqDiff, reduceCtorEq, ↓reduceIte, Int.reduceAdd, Int.reduceSub, Int.reduceToNat, Int.reduceLT, Int.reduceLE, Int.reduceEq, Int.reduceNeg, Nat.reduceLT, QT3, QT4, QT5, QT9, QT93, QT95, QT97, QT31, t_call imp55]
    by_cases h1 : (i : Int) < a.length <;> simp (disch := omega) only [h1, decide_true, decide_false, Bool.not_true, Bool.not_false, reduceCtorEq, ↓reduceIte, Option.bind_some]
    · have hx := hw.getD (by decide) i
      have hy := hv.getD (by decide) i
      have hs := sumL_bd (by decide) (hw.take i)
      have ht := sumL_bd (by decide) (hv.take i)
      have hla : (a.take i).length ≤ 1000 := by simp; omega
      have hlb : (b.take i).length ≤ 1000 := by simp; omega
      simp -implicitDefEqProofs (disch := first | omega | assumption | (simp only [QN] <;> omega)) only [QB, QL, Nat.reduceSub, Nat.reduceAdd, Nat.reduceLeDiff, Nat.reduceEqDiff, reduceCtorEq, ↓reduceIte, Int.reduceAdd, Int.reduceSub, Int.reduceToNat, Int.reduceLT, Int.reduceLE, Int.reduceEq, Int.reduceNeg, Nat.reduceLT, QT3, QT4, QT5, QT9, QT93, QT95, QT97, QT31, t_call imp55]
      rw [← sumL_take (by omega), ← sumL_take (by omega)]
      refine IH _ (by omega) ⟨_, _, ?_, rfl, rfl⟩
      rw [show ((i + 1 : Nat) : Int) = (i : Int) + 1 by omega]
      kernel_rfl
    · have hi' : i = a.length := by omega
      subst hi'
      rw [List.take_length, he, List.take_length]
      by_cases h1 : sumL a < sumL b
      · have d1 : decide (sumL a = sumL b) = false := decide_eq_false (by omega)
        have d2 : decide (sumL a < sumL b) = true := decide_eq_true h1
        rw [if_pos h1]
        simp -implicitDefEqProofs (disch := first | omega | assumption | (simp only [QN] <;> omega)) only [QB, QL, Nat.reduceSub, Nat.reduceAdd, Nat.reduceLeDiff, Nat.reduceEqDiff, reduceCtorEq, ↓reduceIte, Int.reduceAdd, Int.reduceSub, Int.reduceToNat, Int.reduceLT, Int.reduceLE, Int.reduceEq, Int.reduceNeg, Nat.reduceLT, QT3, QT4, QT5, QT9, QT93, QT95, QT97, QT31, t_call imp55, d1, d2]
      · have d2 : decide (sumL a < sumL b) = false := decide_eq_false h1
        rw [if_neg h1]
        by_cases h2 : sumL b < sumL a
        · have d1 : decide (sumL a = sumL b) = false := decide_eq_false (by omega)
          rw [if_pos h2]
          simp -implicitDefEqProofs (disch := first | omega | assumption | (simp only [QN] <;> omega)) only [QB, QL, Nat.reduceSub, Nat.reduceAdd, Nat.reduceLeDiff, Nat.reduceEqDiff, reduceCtorEq, ↓reduceIte, Int.reduceAdd, Int.reduceSub, Int.reduceToNat, Int.reduceLT, Int.reduceLE, Int.reduceEq, Int.reduceNeg, Nat.reduceLT, QT3, QT4, QT5, QT9, QT93, QT95, QT97, QT31, t_call imp55, d1, d2]
        · have d1 : decide (sumL a = sumL b) = true := decide_eq_true (by omega)
          rw [if_neg h2]
          simp -implicitDefEqProofs (disch := first | omega | assumption | (simp only [QN] <;> omega)) only [QB, QL, Nat.reduceSub, Nat.reduceAdd, Nat.reduceLeDiff, Nat.reduceEqDiff, reduceCtorEq, ↓reduceIte, Int.reduceAdd, Int.reduceSub, Int.reduceToNat, Int.reduceLT, Int.reduceLE, Int.reduceEq, Int.reduceNeg, Nat.reduceLT, QT3, QT4, QT5, QT9, QT93, QT95, QT97, QT31, t_call imp55, d1]
          refine loop_up a.length (fun i fr H => fr = [.c (.t (ints a)), .c (.t (ints b)), .any, .any, num 0, .any, .any, .any, num ((a.length : Int) - 1 - i), .any, .any, .any, .any, .any, .any, .any, .any, .any, .any, .any, .any, .any, .any, .any, .any, .any, .any, .any, .any, .any, .any, .any, .any, .any, .any, .any, .any, .any, .any, .any, .any, .any, .any, .any, .any, .any, .any, .any, .any, .any, .any, .any, .any, .any, .any, .any, .any, .any] ∧ H = [] ∧ rl (a.take (a.length - i)).reverse (b.take (a.length - i)).reverse = rl a.reverse b.reverse) ?_ ?_ ?_
          · rintro i fr H n2 hi ⟨rfl, rfl, hr⟩ IH
            simp -implicitDefEqProofs (disch := first | omega | assumption | (simp only [QN] <;> omega)) only [QB, QL, Nat.reduceSub, Nat.reduceAdd, Nat.reduceLeDiff, Nat.reduceEqDiff, reduceCtorEq, ↓reduceIte, Int.reduceAdd, Int.reduceSub, Int.reduceToNat, Int.reduceLT, Int.reduceLE, Int.reduceEq, Int.reduceNeg, Nat.reduceLT, QT3, QT4, QT5, QT9, QT93, QT95, QT97, QT31, t_call imp55]
            by_cases h3 : (0 : Int) ≤ (a.length : Int) - 1 - i <;> simp (disch := omega) only [h3, decide_true, decide_false, Bool.not_true, Bool.not_false, reduceCtorEq, ↓reduceIte, Option.bind_some]
            · have ei : ((a.length : Int) - 1 - i).toNat = a.length - 1 - i := by omega
              rw [show a.length - i = a.length - 1 - i + 1 by omega, rev_take (by omega), rev_take (by omega)] at hr
              simp only [rl] at hr
              simp -implicitDefEqProofs (disch := first | omega | assumption | (simp only [QN] <;> omega)) only [QB, QL, Nat.reduceSub, Nat.reduceAdd, Nat.reduceLeDiff, Nat.reduceEqDiff, reduceCtorEq, ↓reduceIte, Int.reduceAdd, Int.reduceSub, Int.reduceToNat, Int.reduceLT, Int.reduceLE, Int.reduceEq, Int.reduceNeg, Nat.reduceLT, QT3, QT4, QT5, QT9, QT93, QT95, QT97, QT31, t_call imp55, ei]
              by_cases h4 : b.getD (a.length - 1 - i) 0 < a.getD (a.length - 1 - i) 0
              · have c1 : decide (a.getD (a.length - 1 - i) 0 = b.getD (a.length - 1 - i) 0) = false := decide_eq_false (by omega)
                have c2 : decide (b.getD (a.length - 1 - i) 0 < a.getD (a.length - 1 - i) 0) = true := decide_eq_true h4
                rw [if_pos h4] at hr
                simp -implicitDefEqProofs (disch := first | omega | assumption | (simp only [QN] <;> omega)) only [QB, QL, Nat.reduceSub, Nat.reduceAdd, Nat.reduceLeDiff, Nat.reduceEqDiff, reduceCtorEq, ↓reduceIte, Int.reduceAdd, Int.reduceSub, Int.reduceToNat, Int.reduceLT, Int.reduceLE, Int.reduceEq, Int.reduceNeg, Nat.reduceLT, QT3, QT4, QT5, QT9, QT93, QT95, QT97, QT31, t_call imp55, ei, c1, c2]
                rw [← hr]
              · have c2 : decide (b.getD (a.length - 1 - i) 0 < a.getD (a.length - 1 - i) 0) = false := decide_eq_false h4
                rw [if_neg h4] at hr
                by_cases h5 : a.getD (a.length - 1 - i) 0 < b.getD (a.length - 1 - i) 0
                · have c1 : decide (a.getD (a.length - 1 - i) 0 = b.getD (a.length - 1 - i) 0) = false := decide_eq_false (by omega)
                  rw [if_pos h5] at hr
                  simp -implicitDefEqProofs (disch := first | omega | assumption | (simp only [QN] <;> omega)) only [QB, QL, Nat.reduceSub, Nat.reduceAdd, Nat.reduceLeDiff, Nat.reduceEqDiff, reduceCtorEq, ↓reduceIte, Int.reduceAdd, Int.reduceSub, Int.reduceToNat, Int.reduceLT, Int.reduceLE, Int.reduceEq, Int.reduceNeg, Nat.reduceLT, QT3, QT4, QT5, QT9, QT93, QT95, QT97, QT31, t_call imp55, ei, c1, c2]
                  rw [← hr]
                · have c1 : decide (a.getD (a.length - 1 - i) 0 = b.getD (a.length - 1 - i) 0) = true := decide_eq_true (by omega)
                  rw [if_neg h5] at hr
                  simp -implicitDefEqProofs (disch := first | omega | assumption | (simp only [QN] <;> omega)) only [QB, QL, Nat.reduceSub, Nat.reduceAdd, Nat.reduceLeDiff, Nat.reduceEqDiff, reduceCtorEq, ↓reduceIte, Int.reduceAdd, Int.reduceSub, Int.reduceToNat, Int.reduceLT, Int.reduceLE, Int.reduceEq, Int.reduceNeg, Nat.reduceLT, QT3, QT4, QT5, QT9, QT93, QT95, QT97, QT31, t_call imp55, ei, c1]
                  refine IH _ (by omega) ⟨_, _, ?_, rfl, rfl, by rw [show a.length - (i + 1) = a.length - 1 - i by omega]; exact hr⟩
                  rw [show (a.length : Int) - 1 - ((i + 1 : Nat) : Int) = (a.length : Int) - 1 - (i : Int) - 1 by omega]
                  kernel_rfl
            · have hi6 : i = a.length := by omega
              subst hi6
              simp -implicitDefEqProofs (disch := first | omega | assumption | (simp only [QN] <;> omega)) only [QB, QL, Nat.reduceSub, Nat.reduceAdd, Nat.reduceLeDiff, Nat.reduceEqDiff, reduceCtorEq, ↓reduceIte, Int.reduceAdd, Int.reduceSub, Int.reduceToNat, Int.reduceLT, Int.reduceLE, Int.reduceEq, Int.reduceNeg, Nat.reduceLT, QT3, QT4, QT5, QT9, QT93, QT95, QT97, QT31, t_call imp55]
              rw [← hr]
              simp [rl]
          · omega
          · refine ⟨_, _, ?_, rfl, rfl, by rw [Nat.sub_zero, List.take_length, he, List.take_length]⟩
            rw [show (a.length : Int) - 1 - ((0 : Nat) : Int) = (a.length : Int) - 1 by omega]
            kernel_rfl
  · omega
  · refine ⟨_, _, ?_, rfl, rfl⟩
    kernel_rfl
end Go.Proofs.Ythjmbppofgadaaa

namespace Go.Proofs.Ythjmbppofgadaaa
open Go Go.AM
set_option maxHeartbeats 4000000
set_option maxRecDepth 100000
theorem dT_wk (q : Nat) : (dT q).wk = dT q := by unfold dT; split <;> rfl
def enc32 (x : RTm) : List T := [.bool x.s, N32 x.p, .bool false, dT x.q, ints x.e]
theorem enc32_len (x : RTm) : (enc32 x).length = 5 := rfl
theorem rows32_len {xs : List RTm} : (rows enc32 xs).length = xs.length * 5 := rows_len enc32_len
abbrev tms32 (xs : List RTm) : T := .sl xs.length (rows enc32 xs)
theorem encTm_0 (t : Tm) : (encTm t)[0]? = some (strT t.coef) := rfl
theorem encTm_1 (t : Tm) : (encTm t)[1]? = some (ints t.exps) := rfl
theorem ev_rread0 (p : Po) (hc : ∀ j, j < p.terms.length → (p.terms.getD j default).coef.length ≤ 9 ∧ (p.terms.getD j default).exps.length ≤ 1000) (hl : p.terms.length ≤ 1000000) (n : Nat) (hn : 100000000000 < n) (R : V)
    (hY : WF p → R = .tup [.agg [.t (.int .i64 p.vars), .t (tms32 (p.terms.map rt))], boo true]) (hN : ¬ WF p → R = .tup [.agg [.t (.int .i64 0), .t (.sl 0 [])], boo false]) : pcall G n 53 [.agg [.t (.int .i64 p.vars), .t (tms p.terms)]] [] = some (R, []) := by
  obtain ⟨n, rfl⟩ : ∃ m, n = m + 1 := ⟨n - 1, by omega⟩; rw [pcall_at fn53 rfl, imp53, G_tb]
  simp -implicitDefEqProofs (disch := first | omega | assumption | (simp only [QN, rows32_len] <;> omega)) only [QB, QL, Nat.reduceSub, Nat.reduceAdd, Nat.reduceLeDiff, Nat.reduceEqDiff, reduceCtorEq, ↓reduceIte, Int.reduceAdd, Int.reduceSub, Int.reduceToNat, Int.reduceLT, Int.reduceLE, Int.reduceEq, Int.reduceNeg, Nat.reduceLT, QT3, QT4, QT5, QT9, QT93, QT95, QT97, QT31, QT39, QT41, QT48, QT69, QT71, QT99, t_call imp61, t_call imp62, t_call imp63, dT_wk, rows_get encTm_len, rows_get0 encTm_len, encTm_0, encTm_1, ev_rsign2, ev_order, sub_allN rows32_len]
  by_cases v1 : p.vars < 0
  · have d1 : decide (p.vars < 0) = true := decide_eq_true v1
    simp -implicitDefEqProofs (disch := first | omega | assumption | (simp only [QN, rows32_len] <;> omega)) only [QB, QL, Nat.reduceSub, Nat.reduceAdd, Nat.reduceLeDiff, Nat.reduceEqDiff, reduceCtorEq, ↓reduceIte, Int.reduceAdd, Int.reduceSub, Int.reduceToNat, Int.reduceLT, Int.reduceLE, Int.reduceEq, Int.reduceNeg, Nat.reduceLT, QT3, QT4, QT5, QT9, QT93, QT95, QT97, QT31, QT39, QT41, QT48, QT69, QT71, QT99, t_call imp61, t_call imp62, t_call imp63, dT_wk, rows_get encTm_len, rows_get0 encTm_len, encTm_0, encTm_1, ev_rsign2, ev_order, sub_allN rows32_len, d1]
    rw [hN (fun h => absurd h.1.1 (by omega))]
  · have d1 : decide (p.vars < 0) = false := decide_eq_false v1
    by_cases v2 : 6 < p.vars
    · have d2 : decide (6 < p.vars) = true := decide_eq_true v2
      simp -implicitDefEqProofs (disch := first | omega | assumption | (simp only [QN, rows32_len] <;> omega)) only [QB, QL, Nat.reduceSub, Nat.reduceAdd, Nat.reduceLeDiff, Nat.reduceEqDiff, reduceCtorEq, ↓reduceIte, Int.reduceAdd, Int.reduceSub, Int.reduceToNat, Int.reduceLT, Int.reduceLE, Int.reduceEq, Int.reduceNeg, Nat.reduceLT, QT3, QT4, QT5, QT9, QT93, QT95, QT97, QT31, QT39, QT41, QT48, QT69, QT71, QT99, t_call imp61, t_call imp62, t_call imp63, dT_wk, rows_get encTm_len, rows_get0 encTm_len, encTm_0, encTm_1, ev_rsign2, ev_order, sub_allN rows32_len, d1, d2]
      rw [hN (fun h => absurd h.1.2 (by omega))]
    · have d2 : decide (6 < p.vars) = false := decide_eq_false v2
      simp -implicitDefEqProofs (disch := first | omega | assumption | (simp only [QN, rows32_len] <;> omega)) only [QB, QL, Nat.reduceSub, Nat.reduceAdd, Nat.reduceLeDiff, Nat.reduceEqDiff, reduceCtorEq, ↓reduceIte, Int.reduceAdd, Int.reduceSub, Int.reduceToNat, Int.reduceLT, Int.reduceLE, Int.reduceEq, Int.reduceNeg, Nat.reduceLT, QT3, QT4, QT5, QT9, QT93, QT95, QT97, QT31, QT39, QT41, QT48, QT69, QT71, QT99, t_call imp61, t_call imp62, t_call imp63, dT_wk, rows_get encTm_len, rows_get0 encTm_len, encTm_0, encTm_1, ev_rsign2, ev_order, sub_allN rows32_len, d1, d2]
      refine loop_up p.terms.length (fun i fr H => ∃ (Z : C), fr = [.any, .own [.t (.int .i64 p.vars), .t (tms p.terms)], .own [.t (.int .i64 0), .t .nils], boo false, .own [.t (.int .i64 p.vars), Z], num i, .any, .any, .any, .any, .any, .any, .any, .any, .any, .any, .any, .any, .any, .any, .any, .any, .any, .any, .any, .any, .any, .any, .any, .any, .any, .any, .any, .any, .any, .any, .any, .any, .any, .any, .any, .any, .any, .any, .any, .any, .any, .any, .any, .any, .any, .any, .any, .any, .any, .any, .any, .any, .any, .any, .any, .any, .any, .any, .any, .any, .any, .any, .any, .any, .any, .any, .any, .any, .any, .any, .any, .any, .any, .any, .any, .any, .any, .any, .any, .any, .any, .any, .any, .any, .any, .any, .any, .any, .any, .any, .any, .any, .any, .any, .any, .any, .any, .any, .any, .any, .any, .any, .any, .any, .any, .any, .any, .any, .any, .any, .any, .any, .any, .any, .any] ∧
        (∀ j, j < i → TOK p.vars (p.terms.getD j default) ∧ (0 < j → ordL (p.terms.getD (j - 1) default).exps (p.terms.getD j default).exps = 1)) ∧
        ((i = 0 ∧ Z = .t .nils ∧ H = []) ∨ (i ≠ 0 ∧ Z = .osl 0 0 ((p.terms.take i).map rt).length 5 ∧ H = [.flat false (rows enc32 ((p.terms.take i).map rt))]))) ?_ ?_ ?_
      · rintro i fr H n' hi ⟨Z, rfl, hw, hZ⟩ IH
        rcases hZ with ⟨hi0, rfl, rfl⟩ | ⟨hi0, rfl, rfl⟩
        · have g5 : decide ((0 : Int) < i) = false := decide_eq_false (by omega)
          simp -implicitDefEqProofs (disch := first | omega | assumption | (simp only [QN, rows32_len] <;> omega)) only [QB, QL, Nat.reduceSub, Nat.reduceAdd, Nat.reduceLeDiff, Nat.reduceEqDiff, reduceCtorEq, ↓reduceIte, Int.reduceAdd, Int.reduceSub, Int.reduceToNat, Int.reduceLT, Int.reduceLE, Int.reduceEq, Int.reduceNeg, Nat.reduceLT, QT3, QT4, QT5, QT9, QT93, QT95, QT97, QT31, QT39, QT41, QT48, QT69, QT71, QT99, t_call imp61, t_call imp62, t_call imp63, dT_wk, rows_get encTm_len, rows_get0 encTm_len, encTm_0, encTm_1, ev_rsign2, ev_order, sub_allN rows32_len]
          by_cases h1 : (i : Int) < p.terms.length <;> simp (disch := omega) only [h1, decide_true, decide_false, Bool.not_true, Bool.not_false, reduceCtorEq, ↓reduceIte, Option.bind_some]
          · have hb := hc i (by omega)
            simp -implicitDefEqProofs (disch := first | omega | assumption | (simp only [QN, rows32_len] <;> omega)) only [QB, QL, Nat.reduceSub, Nat.reduceAdd, Nat.reduceLeDiff, Nat.reduceEqDiff, reduceCtorEq, ↓reduceIte, Int.reduceAdd, Int.reduceSub, Int.reduceToNat, Int.reduceLT, Int.reduceLE, Int.reduceEq, Int.reduceNeg, Nat.reduceLT, QT3, QT4, QT5, QT9, QT93, QT95, QT97, QT31, QT39, QT41, QT48, QT69, QT71, QT99, t_call imp61, t_call imp62, t_call imp63, dT_wk, rows_get encTm_len, rows_get0 encTm_len, encTm_0, encTm_1, ev_rsign2, ev_order, sub_allN rows32_len]
            generalize ht : p.terms.getD i default = t at *
            have hno : ¬ TOK p.vars t → ¬ WF p := fun h hw => h (by rw [← ht]; exact (hw.2 i (by omega)).1)
            obtain ⟨s, P, q, hrd, hcan⟩ := ev_readE t.coef hb.1
            have hb2 := hb.2
            cases c1 : (canL t.coef).isSome
            · rw [c1] at hrd
              simp -implicitDefEqProofs (disch := first | omega | assumption | (simp only [QN, rows32_len] <;> omega)) only [QB, QL, Nat.reduceSub, Nat.reduceAdd, Nat.reduceLeDiff, Nat.reduceEqDiff, reduceCtorEq, ↓reduceIte, Int.reduceAdd, Int.reduceSub, Int.reduceToNat, Int.reduceLT, Int.reduceLE, Int.reduceEq, Int.reduceNeg, Nat.reduceLT, QT3, QT4, QT5, QT9, QT93, QT95, QT97, QT31, QT39, QT41, QT48, QT69, QT71, QT99, t_call imp61, t_call imp62, t_call imp63, dT_wk, rows_get encTm_len, rows_get0 encTm_len, encTm_0, encTm_1, ev_rsign2, ev_order, sub_allN rows32_len, hrd]
              rw [hN (fun h => hno (fun h => by have := h.1; rw [c1] at this; cases this) h)]
            · rw [c1] at hrd
              have hcn : cn t.coef = (s, P, q) := by
                cases hca : canL t.coef with
                | none => rw [hca] at c1; cases c1
                | some x =>
                  obtain ⟨a, b, c⟩ := x
                  obtain ⟨rfl, rfl, rfl⟩ := hcan _ _ _ hca
                  unfold cn; rw [hca]; rfl
              have hs : s = true → P ≠ 0 := by
                cases hca : canL t.coef with
                | none => rw [hca] at c1; cases c1
                | some x =>
                  obtain ⟨a, b, c⟩ := x
                  obtain ⟨rfl, rfl, rfl⟩ := hcan _ _ _ hca
                  exact (canL_some.1 hca).2.2.2
              by_cases c3 : P = 0
              · have d3 : decide ((if s = true then (-1 : Int) else if P = 0 then 0 else 1) = 0) = true := by
                  rw [if_neg (fun h => hs h c3), if_pos c3]; rfl
                simp -implicitDefEqProofs (disch := first | omega | assumption | (simp only [QN, rows32_len] <;> omega)) only [QB, QL, Nat.reduceSub, Nat.reduceAdd, Nat.reduceLeDiff, Nat.reduceEqDiff, reduceCtorEq, ↓reduceIte, Int.reduceAdd, Int.reduceSub, Int.reduceToNat, Int.reduceLT, Int.reduceLE, Int.reduceEq, Int.reduceNeg, Nat.reduceLT, QT3, QT4, QT5, QT9, QT93, QT95, QT97, QT31, QT39, QT41, QT48, QT69, QT71, QT99, t_call imp61, t_call imp62, t_call imp63, dT_wk, rows_get encTm_len, rows_get0 encTm_len, encTm_0, encTm_1, ev_rsign2, ev_order, sub_allN rows32_len, hrd, d3]
                rw [hN (fun h => hno (fun h => h.2.1 (by rw [hcn]; exact c3)) h)]
              · have d3 : decide ((if s = true then (-1 : Int) else if P = 0 then 0 else 1) = 0) = false := by
                  cases s <;> simp [c3]
                by_cases c4 : (t.exps.length : Int) = p.vars
                · have d4 : decide ((t.exps.length : Int) = p.vars) = true := decide_eq_true c4
                  simp -implicitDefEqProofs (disch := first | omega | assumption | (simp only [QN, rows32_len] <;> omega)) only [QB, QL, Nat.reduceSub, Nat.reduceAdd, Nat.reduceLeDiff, Nat.reduceEqDiff, reduceCtorEq, ↓reduceIte, Int.reduceAdd, Int.reduceSub, Int.reduceToNat, Int.reduceLT, Int.reduceLE, Int.reduceEq, Int.reduceNeg, Nat.reduceLT, QT3, QT4, QT5, QT9, QT93, QT95, QT97, QT31, QT39, QT41, QT48, QT69, QT71, QT99, t_call imp61, t_call imp62, t_call imp63, dT_wk, rows_get encTm_len, rows_get0 encTm_len, encTm_0, encTm_1, ev_rsign2, ev_order, sub_allN rows32_len, hrd, d3, d4, ht]
                  refine loop_up t.exps.length (fun r fr H => fr = [.any, .own [.t (.int .i64 p.vars), .t (tms p.terms)], .own [.t (.int .i64 0), .t .nils], boo false, .own [.t (.int .i64 p.vars), .t .nils], num i, .own (G32 s P q), .any, num r, .any, .any, .any, .any, .any, .any, .any, .any, .any, .any, .any, .any, .any, .any, .any, .any, .any, .any, .any, .any, .any, .any, .any, .any, .any, .any, .any, .any, .any, .any, .any, .any, .any, .any, .any, .any, .any, .any, .any, .any, .any, .any, .any, .any, .any, .any, .any, .any, .any, .any, .any, .any, .any, .any, .any, .any, .any, .any, .any, .any, .any, .any, .any, .any, .any, .any, .any, .any, .any, .any, .any, .any, .any, .any, .any, .any, .any, .any, .any, .any, .any, .any, .any, .any, .any, .any, .any, .any, .any, .any, .any, .any, .any, .any, .any, .any, .any, .any, .any, .any, .any, .any, .any, .any, .any, .any, .any, .any, .any, .any, .any, .any] ∧ Within 1048576 (t.exps.take r) ∧ H = []) ?_ ?_ ?_
                  · rintro r fr H n2 hr ⟨rfl, hin, rfl⟩ IK
                    simp -implicitDefEqProofs (disch := first | omega | assumption | (simp only [QN, rows32_len] <;> omega)) only [QB, QL, Nat.reduceSub, Nat.reduceAdd, Nat.reduceLeDiff, Nat.reduceEqDiff, reduceCtorEq, ↓reduceIte, Int.reduceAdd, Int.reduceSub, Int.reduceToNat, Int.reduceLT, Int.reduceLE, Int.reduceEq, Int.reduceNeg, Nat.reduceLT, QT3, QT4, QT5, QT9, QT93, QT95, QT97, QT31, QT39, QT41, QT48, QT69, QT71, QT99, t_call imp61, t_call imp62, t_call imp63, dT_wk, rows_get encTm_len, rows_get0 encTm_len, encTm_0, encTm_1, ev_rsign2, ev_order, sub_allN rows32_len]
                    by_cases h6 : (r : Int) < p.vars
                    · have d6 : decide ((r : Int) < p.vars) = true := decide_eq_true h6
                      simp -implicitDefEqProofs (disch := first | omega | assumption | (simp only [QN, rows32_len] <;> omega)) only [QB, QL, Nat.reduceSub, Nat.reduceAdd, Nat.reduceLeDiff, Nat.reduceEqDiff, reduceCtorEq, ↓reduceIte, Int.reduceAdd, Int.reduceSub, Int.reduceToNat, Int.reduceLT, Int.reduceLE, Int.reduceEq, Int.reduceNeg, Nat.reduceLT, QT3, QT4, QT5, QT9, QT93, QT95, QT97, QT31, QT39, QT41, QT48, QT69, QT71, QT99, t_call imp61, t_call imp62, t_call imp63, dT_wk, rows_get encTm_len, rows_get0 encTm_len, encTm_0, encTm_1, ev_rsign2, ev_order, sub_allN rows32_len, d6, ht]
                      by_cases h7 : t.exps.getD r 0 < 0
                      · have d7 : decide (t.exps.getD r 0 < 0) = true := decide_eq_true h7
                        simp -implicitDefEqProofs (disch := first | omega | assumption | (simp only [QN, rows32_len] <;> omega)) only [QB, QL, Nat.reduceSub, Nat.reduceAdd, Nat.reduceLeDiff, Nat.reduceEqDiff, reduceCtorEq, ↓reduceIte, Int.reduceAdd, Int.reduceSub, Int.reduceToNat, Int.reduceLT, Int.reduceLE, Int.reduceEq, Int.reduceNeg, Nat.reduceLT, QT3, QT4, QT5, QT9, QT93, QT95, QT97, QT31, QT39, QT41, QT48, QT69, QT71, QT99, t_call imp61, t_call imp62, t_call imp63, dT_wk, rows_get encTm_len, rows_get0 encTm_len, encTm_0, encTm_1, ev_rsign2, ev_order, sub_allN rows32_len, d7, ht]
                        rw [hN (fun h => hno (fun h => Within.not (by omega) (.inl h7) h.2.2.2) h)]
                      · have d7 : decide (t.exps.getD r 0 < 0) = false := decide_eq_false h7
                        by_cases h8 : 1048576 < t.exps.getD r 0
                        · have d8 : decide (1048576 < t.exps.getD r 0) = true := decide_eq_true h8
                          simp -implicitDefEqProofs (disch := first | omega | assumption | (simp only [QN, rows32_len] <;> omega)) only [QB, QL, Nat.reduceSub, Nat.reduceAdd, Nat.reduceLeDiff, Nat.reduceEqDiff, reduceCtorEq, ↓reduceIte, Int.reduceAdd, Int.reduceSub, Int.reduceToNat, Int.reduceLT, Int.reduceLE, Int.reduceEq, Int.reduceNeg, Nat.reduceLT, QT3, QT4, QT5, QT9, QT93, QT95, QT97, QT31, QT39, QT41, QT48, QT69, QT71, QT99, t_call imp61, t_call imp62, t_call imp63, dT_wk, rows_get encTm_len, rows_get0 encTm_len, encTm_0, encTm_1, ev_rsign2, ev_order, sub_allN rows32_len, d7, d8, ht]
                          rw [hN (fun h => hno (fun h => Within.not (by omega) (.inr h8) h.2.2.2) h)]
                        · have d8 : decide (1048576 < t.exps.getD r 0) = false := decide_eq_false h8
                          simp -implicitDefEqProofs (disch := first | omega | assumption | (simp only [QN, rows32_len] <;> omega)) only [QB, QL, Nat.reduceSub, Nat.reduceAdd, Nat.reduceLeDiff, Nat.reduceEqDiff, reduceCtorEq, ↓reduceIte, Int.reduceAdd, Int.reduceSub, Int.reduceToNat, Int.reduceLT, Int.reduceLE, Int.reduceEq, Int.reduceNeg, Nat.reduceLT, QT3, QT4, QT5, QT9, QT93, QT95, QT97, QT31, QT39, QT41, QT48, QT69, QT71, QT99, t_call imp61, t_call imp62, t_call imp63, dT_wk, rows_get encTm_len, rows_get0 encTm_len, encTm_0, encTm_1, ev_rsign2, ev_order, sub_allN rows32_len, d7, d8, ht]
                          refine IK _ (by omega) ⟨_, _, ?_, rfl, hin.snoc (by omega) (by omega), rfl⟩
                          rw [show ((r + 1 : Nat) : Int) = (r : Int) + 1 by omega]
                          kernel_rfl
                    · have d6 : decide ((r : Int) < p.vars) = false := decide_eq_false h6
                      have hrl : r = t.exps.length := by omega
                      rw [hrl, List.take_length] at hin
                      have hok : TOK p.vars t := ⟨c1, by rw [hcn]; exact c3, c4, hin⟩
                      have hrt : rt t = ⟨s, P, q, t.exps⟩ := by unfold rt; rw [hcn]
                      have hr : (p.terms.take (i + 1)).map rt = (p.terms.take i).map rt ++ [rt t] := by rw [take_snoc default (by omega), List.map_append, ht]; rfl
                      simp -implicitDefEqProofs (disch := first | omega | assumption | (simp only [QN, rows32_len] <;> omega)) only [QB, QL, Nat.reduceSub, Nat.reduceAdd, Nat.reduceLeDiff, Nat.reduceEqDiff, reduceCtorEq, ↓reduceIte, Int.reduceAdd, Int.reduceSub, Int.reduceToNat, Int.reduceLT, Int.reduceLE, Int.reduceEq, Int.reduceNeg, Nat.reduceLT, QT3, QT4, QT5, QT9, QT93, QT95, QT97, QT31, QT39, QT41, QT48, QT69, QT71, QT99, t_call imp61, t_call imp62, t_call imp63, dT_wk, rows_get encTm_len, rows_get0 encTm_len, encTm_0, encTm_1, ev_rsign2, ev_order, sub_allN rows32_len, d6, ht]
                      simp -implicitDefEqProofs (disch := first | omega | assumption | (simp only [QN, rows32_len] <;> omega)) only [QB, QL, Nat.reduceSub, Nat.reduceAdd, Nat.reduceLeDiff, Nat.reduceEqDiff, reduceCtorEq, ↓reduceIte, Int.reduceAdd, Int.reduceSub, Int.reduceToNat, Int.reduceLT, Int.reduceLE, Int.reduceEq, Int.reduceNeg, Nat.reduceLT, QT3, QT4, QT5, QT9, QT93, QT95, QT97, QT31, QT39, QT41, QT48, QT69, QT71, QT99, t_call imp61, t_call imp62, t_call imp63, dT_wk, rows_get encTm_len, rows_get0 encTm_len, encTm_0, encTm_1, ev_rsign2, ev_order, sub_allN rows32_len, g5]
                      have h0 : (p.terms.take i).map rt = [] := by rw [hi0]; rfl
                      have hw' : ∀ j, j < i + 1 → TOK p.vars (p.terms.getD j default) ∧ (0 < j → ordL (p.terms.getD (j - 1) default).exps (p.terms.getD j default).exps = 1) := by
                        intro j hj
                        have hj0 : j = i := by omega
                        subst hj0
                        rw [ht]
                        exact ⟨hok, fun h => by omega⟩
                      refine IH _ (by omega) ⟨_, _, ?_, .osl 0 0 ((p.terms.take (i + 1)).map rt).length 5, rfl, hw', .inr ⟨by omega, rfl, rfl⟩⟩
                      rw [hr, h0, List.nil_append, rows_one, hrt, show ((i + 1 : Nat) : Int) = (i : Int) + 1 by omega]
                      kernel_rfl
                  · omega
                  · refine ⟨_, _, ?_, rfl, by intro x hx; simp at hx, rfl⟩
                    kernel_rfl
                · have d4 : decide ((t.exps.length : Int) = p.vars) = false := decide_eq_false c4
                  simp -implicitDefEqProofs (disch := first | omega | assumption | (simp only [QN, rows32_len] <;> omega)) only [QB, QL, Nat.reduceSub, Nat.reduceAdd, Nat.reduceLeDiff, Nat.reduceEqDiff, reduceCtorEq, ↓reduceIte, Int.reduceAdd, Int.reduceSub, Int.reduceToNat, Int.reduceLT, Int.reduceLE, Int.reduceEq, Int.reduceNeg, Nat.reduceLT, QT3, QT4, QT5, QT9, QT93, QT95, QT97, QT31, QT39, QT41, QT48, QT69, QT71, QT99, t_call imp61, t_call imp62, t_call imp63, dT_wk, rows_get encTm_len, rows_get0 encTm_len, encTm_0, encTm_1, ev_rsign2, ev_order, sub_allN rows32_len, hrd, d3, d4, ht]
                  rw [hN (fun h => hno (fun h => c4 h.2.2.1) h)]
          · simp -implicitDefEqProofs (disch := first | omega | assumption | (simp only [QN, rows32_len] <;> omega)) only [QB, QL, Nat.reduceSub, Nat.reduceAdd, Nat.reduceLeDiff, Nat.reduceEqDiff, reduceCtorEq, ↓reduceIte, Int.reduceAdd, Int.reduceSub, Int.reduceToNat, Int.reduceLT, Int.reduceLE, Int.reduceEq, Int.reduceNeg, Nat.reduceLT, QT3, QT4, QT5, QT9, QT93, QT95, QT97, QT31, QT39, QT41, QT48, QT69, QT71, QT99, t_call imp61, t_call imp62, t_call imp63, dT_wk, rows_get encTm_len, rows_get0 encTm_len, encTm_0, encTm_1, ev_rsign2, ev_order, sub_allN rows32_len]
            have h0 : p.terms = [] := List.eq_nil_of_length_eq_zero (by omega)
            rw [hY ⟨by omega, fun j hj => by rw [h0] at hj; cases hj⟩, h0]
            try rfl
        · have g5 : decide ((0 : Int) < i) = true := decide_eq_true (by omega)
          simp -implicitDefEqProofs (disch := first | omega | assumption | (simp only [QN, rows32_len] <;> omega)) only [QB, QL, Nat.reduceSub, Nat.reduceAdd, Nat.reduceLeDiff, Nat.reduceEqDiff, reduceCtorEq, ↓reduceIte, Int.reduceAdd, Int.reduceSub, Int.reduceToNat, Int.reduceLT, Int.reduceLE, Int.reduceEq, Int.reduceNeg, Nat.reduceLT, QT3, QT4, QT5, QT9, QT93, QT95, QT97, QT31, QT39, QT41, QT48, QT69, QT71, QT99, t_call imp61, t_call imp62, t_call imp63, dT_wk, rows_get encTm_len, rows_get0 encTm_len, encTm_0, encTm_1, ev_rsign2, ev_order, sub_allN rows32_len]
          by_cases h1 : (i : Int) < p.terms.length <;> simp (disch := omega) only [h1, decide_true, decide_false, Bool.not_true, Bool.not_false, reduceCtorEq, ↓reduceIte, Option.bind_some]
          · have hb := hc i (by omega)
            simp -implicitDefEqProofs (disch := first | omega | assumption | (simp only [QN, rows32_len] <;> omega)) only [QB, QL, Nat.reduceSub, Nat.reduceAdd, Nat.reduceLeDiff, Nat.reduceEqDiff, reduceCtorEq, ↓reduceIte, Int.reduceAdd, Int.reduceSub, Int.reduceToNat, Int.reduceLT, Int.reduceLE, Int.reduceEq, Int.reduceNeg, Nat.reduceLT, QT3, QT4, QT5, QT9, QT93, QT95, QT97, QT31, QT39, QT41, QT48, QT69, QT71, QT99, t_call imp61, t_call imp62, t_call imp63, dT_wk, rows_get encTm_len, rows_get0 encTm_len, encTm_0, encTm_1, ev_rsign2, ev_order, sub_allN rows32_len]
            generalize ht : p.terms.getD i default = t at *
            have hno : ¬ TOK p.vars t → ¬ WF p := fun h hw => h (by rw [← ht]; exact (hw.2 i (by omega)).1)
            obtain ⟨s, P, q, hrd, hcan⟩ := ev_readE t.coef hb.1
            have hb2 := hb.2
            cases c1 : (canL t.coef).isSome
            · rw [c1] at hrd
              simp -implicitDefEqProofs (disch := first | omega | assumption | (simp only [QN, rows32_len] <;> omega)) only [QB, QL, Nat.reduceSub, Nat.reduceAdd, Nat.reduceLeDiff, Nat.reduceEqDiff, reduceCtorEq, ↓reduceIte, Int.reduceAdd, Int.reduceSub, Int.reduceToNat, Int.reduceLT, Int.reduceLE, Int.reduceEq, Int.reduceNeg, Nat.reduceLT, QT3, QT4, QT5, QT9, QT93, QT95, QT97, QT31, QT39, QT41, QT48, QT69, QT71, QT99, t_call imp61, t_call imp62, t_call imp63, dT_wk, rows_get encTm_len, rows_get0 encTm_len, encTm_0, encTm_1, ev_rsign2, ev_order, sub_allN rows32_len, hrd]
              rw [hN (fun h => hno (fun h => by have := h.1; rw [c1] at this; cases this) h)]
            · rw [c1] at hrd
              have hcn : cn t.coef = (s, P, q) := by
                cases hca : canL t.coef with
                | none => rw [hca] at c1; cases c1
                | some x =>
                  obtain ⟨a, b, c⟩ := x
                  obtain ⟨rfl, rfl, rfl⟩ := hcan _ _ _ hca
                  unfold cn; rw [hca]; rfl
              have hs : s = true → P ≠ 0 := by
                cases hca : canL t.coef with
                | none => rw [hca] at c1; cases c1
                | some x =>
                  obtain ⟨a, b, c⟩ := x
                  obtain ⟨rfl, rfl, rfl⟩ := hcan _ _ _ hca
                  exact (canL_some.1 hca).2.2.2
              by_cases c3 : P = 0
              · have d3 : decide ((if s = true then (-1 : Int) else if P = 0 then 0 else 1) = 0) = true := by
                  rw [if_neg (fun h => hs h c3), if_pos c3]; rfl
                simp -implicitDefEqProofs (disch := first | omega | assumption | (simp only [QN, rows32_len] <;> omega)) only [QB, QL, Nat.reduceSub, Nat.reduceAdd, Nat.reduceLeDiff, Nat.reduceEqDiff, reduceCtorEq, ↓reduceIte, Int.reduceAdd, Int.reduceSub, Int.reduceToNat, Int.reduceLT, Int.reduceLE, Int.reduceEq, Int.reduceNeg, Nat.reduceLT, QT3, QT4, QT5, QT9, QT93, QT95, QT97, QT31, QT39, QT41, QT48, QT69, QT71, QT99, t_call imp61, t_call imp62, t_call imp63, dT_wk, rows_get encTm_len, rows_get0 encTm_len, encTm_0, encTm_1, ev_rsign2, ev_order, sub_allN rows32_len, hrd, d3]
                rw [hN (fun h => hno (fun h => h.2.1 (by rw [hcn]; exact c3)) h)]
              · have d3 : decide ((if s = true then (-1 : Int) else if P = 0 then 0 else 1) = 0) = false := by
                  cases s <;> simp [c3]
                by_cases c4 : (t.exps.length : Int) = p.vars
                · have d4 : decide ((t.exps.length : Int) = p.vars) = true := decide_eq_true c4
                  simp -implicitDefEqProofs (disch := first | omega | assumption | (simp only [QN, rows32_len] <;> omega)) only [QB, QL, Nat.reduceSub, Nat.reduceAdd, Nat.reduceLeDiff, Nat.reduceEqDiff, reduceCtorEq, ↓reduceIte, Int.reduceAdd, Int.reduceSub, Int.reduceToNat, Int.reduceLT, Int.reduceLE, Int.reduceEq, Int.reduceNeg, Nat.reduceLT, QT3, QT4, QT5, QT9, QT93, QT95, QT97, QT31, QT39, QT41, QT48, QT69, QT71, QT99, t_call imp61, t_call imp62, t_call imp63, dT_wk, rows_get encTm_len, rows_get0 encTm_len, encTm_0, encTm_1, ev_rsign2, ev_order, sub_allN rows32_len, hrd, d3, d4, ht]
                  refine loop_up t.exps.length (fun r fr H => fr = [.any, .own [.t (.int .i64 p.vars), .t (tms p.terms)], .own [.t (.int .i64 0), .t .nils], boo false, .own [.t (.int .i64 p.vars), .osl 0 0 ((p.terms.take i).map rt).length 5], num i, .own (G32 s P q), .any, num r, .any, .any, .any, .any, .any, .any, .any, .any, .any, .any, .any, .any, .any, .any, .any, .any, .any, .any, .any, .any, .any, .any, .any, .any, .any, .any, .any, .any, .any, .any, .any, .any, .any, .any, .any, .any, .any, .any, .any, .any, .any, .any, .any, .any, .any, .any, .any, .any, .any, .any, .any, .any, .any, .any, .any, .any, .any, .any, .any, .any, .any, .any, .any, .any, .any, .any, .any, .any, .any, .any, .any, .any, .any, .any, .any, .any, .any, .any, .any, .any, .any, .any, .any, .any, .any, .any, .any, .any, .any, .any, .any, .any, .any, .any, .any, .any, .any, .any, .any, .any, .any, .any, .any, .any, .any, .any, .any, .any, .any, .any, .any, .any] ∧ Within 1048576 (t.exps.take r) ∧ H = [.flat false (rows enc32 ((p.terms.take i).map rt))]) ?_ ?_ ?_
                  · rintro r fr H n2 hr ⟨rfl, hin, rfl⟩ IK
                    simp -implicitDefEqProofs (disch := first | omega | assumption | (simp only [QN, rows32_len] <;> omega)) only [QB, QL, Nat.reduceSub, Nat.reduceAdd, Nat.reduceLeDiff, Nat.reduceEqDiff, reduceCtorEq, ↓reduceIte, Int.reduceAdd, Int.reduceSub, Int.reduceToNat, Int.reduceLT, Int.reduceLE, Int.reduceEq, Int.reduceNeg, Nat.reduceLT, QT3, QT4, QT5, QT9, QT93, QT95, QT97, QT31, QT39, QT41, QT48, QT69, QT71, QT99, t_call imp61, t_call imp62, t_call imp63, dT_wk, rows_get encTm_len, rows_get0 encTm_len, encTm_0, encTm_1, ev_rsign2, ev_order, sub_allN rows32_len]
                    by_cases h6 : (r : Int) < p.vars
                    · have d6 : decide ((r : Int) < p.vars) = true := decide_eq_true h6
                      simp -implicitDefEqProofs (disch := first | omega | assumption | (simp only [QN, rows32_len] <;> omega)) only [QB, QL, Nat.reduceSub, Nat.reduceAdd, Nat.reduceLeDiff, Nat.reduceEqDiff, reduceCtorEq, ↓reduceIte, Int.reduceAdd, Int.reduceSub, Int.reduceToNat, Int.reduceLT, Int.reduceLE, Int.reduceEq, Int.reduceNeg, Nat.reduceLT, QT3, QT4, QT5, QT9, QT93, QT95, QT97, QT31, QT39, QT41, QT48, QT69, QT71, QT99, t_call imp61, t_call imp62, t_call imp63, dT_wk, rows_get encTm_len, rows_get0 encTm_len, encTm_0, encTm_1, ev_rsign2, ev_order, sub_allN rows32_len, d6, ht]
                      by_cases h7 : t.exps.getD r 0 < 0
                      · have d7 : decide (t.exps.getD r 0 < 0) = true := decide_eq_true h7
                        simp -implicitDefEqProofs (disch := first | omega | assumption | (simp only [QN, rows32_len] <;> omega)) only [QB, QL, Nat.reduceSub, Nat.reduceAdd, Nat.reduceLeDiff, Nat.reduceEqDiff, reduceCtorEq, ↓reduceIte, Int.reduceAdd, Int.reduceSub, Int.reduceToNat, Int.reduceLT, Int.reduceLE, Int.reduceEq, Int.reduceNeg, Nat.reduceLT, QT3, QT4, QT5, QT9, QT93, QT95, QT97, QT31, QT39, QT41, QT48, QT69, QT71, QT99, t_call imp61, t_call imp62, t_call imp63, dT_wk, rows_get encTm_len, rows_get0 encTm_len, encTm_0, encTm_1, ev_rsign2, ev_order, sub_allN rows32_len, d7, ht]
                        rw [hN (fun h => hno (fun h => Within.not (by omega) (.inl h7) h.2.2.2) h)]
                      · have d7 : decide (t.exps.getD r 0 < 0) = false := decide_eq_false h7
                        by_cases h8 : 1048576 < t.exps.getD r 0
                        · have d8 : decide (1048576 < t.exps.getD r 0) = true := decide_eq_true h8
                          simp -implicitDefEqProofs (disch := first | omega | assumption | (simp only [QN, rows32_len] <;> omega)) only [QB, QL, Nat.reduceSub, Nat.reduceAdd, Nat.reduceLeDiff, Nat.reduceEqDiff, reduceCtorEq, ↓reduceIte, Int.reduceAdd, Int.reduceSub, Int.reduceToNat, Int.reduceLT, Int.reduceLE, Int.reduceEq, Int.reduceNeg, Nat.reduceLT, QT3, QT4, QT5, QT9, QT93, QT95, QT97, QT31, QT39, QT41, QT48, QT69, QT71, QT99, t_call imp61, t_call imp62, t_call imp63, dT_wk, rows_get encTm_len, rows_get0 encTm_len, encTm_0, encTm_1, ev_rsign2, ev_order, sub_allN rows32_len, d7, d8, ht]
                          rw [hN (fun h => hno (fun h => Within.not (by omega) (.inr h8) h.2.2.2) h)]
                        · have d8 : decide (1048576 < t.exps.getD r 0) = false := decide_eq_false h8
                          simp -implicitDefEqProofs (disch := first | omega | assumption | (simp only [QN, rows32_len] <;> omega)) only [QB, QL, Nat.reduceSub, Nat.reduceAdd, Nat.reduceLeDiff, Nat.reduceEqDiff, reduceCtorEq, ↓reduceIte, Int.reduceAdd, Int.reduceSub, Int.reduceToNat, Int.reduceLT, Int.reduceLE, Int.reduceEq, Int.reduceNeg, Nat.reduceLT, QT3, QT4, QT5, QT9, QT93, QT95, QT97, QT31, QT39, QT41, QT48, QT69, QT71, QT99, t_call imp61, t_call imp62, t_call imp63, dT_wk, rows_get encTm_len, rows_get0 encTm_len, encTm_0, encTm_1, ev_rsign2, ev_order, sub_allN rows32_len, d7, d8, ht]
                          refine IK _ (by omega) ⟨_, _, ?_, rfl, hin.snoc (by omega) (by omega), rfl⟩
                          rw [show ((r + 1 : Nat) : Int) = (r : Int) + 1 by omega]
                          kernel_rfl
                    · have d6 : decide ((r : Int) < p.vars) = false := decide_eq_false h6
                      have hrl : r = t.exps.length := by omega
                      rw [hrl, List.take_length] at hin
                      have hok : TOK p.vars t := ⟨c1, by rw [hcn]; exact c3, c4, hin⟩
                      have hrt : rt t = ⟨s, P, q, t.exps⟩ := by unfold rt; rw [hcn]
                      have hr : (p.terms.take (i + 1)).map rt = (p.terms.take i).map rt ++ [rt t] := by rw [take_snoc default (by omega), List.map_append, ht]; rfl
                      simp -implicitDefEqProofs (disch := first | omega | assumption | (simp only [QN, rows32_len] <;> omega)) only [QB, QL, Nat.reduceSub, Nat.reduceAdd, Nat.reduceLeDiff, Nat.reduceEqDiff, reduceCtorEq, ↓reduceIte, Int.reduceAdd, Int.reduceSub, Int.reduceToNat, Int.reduceLT, Int.reduceLE, Int.reduceEq, Int.reduceNeg, Nat.reduceLT, QT3, QT4, QT5, QT9, QT93, QT95, QT97, QT31, QT39, QT41, QT48, QT69, QT71, QT99, t_call imp61, t_call imp62, t_call imp63, dT_wk, rows_get encTm_len, rows_get0 encTm_len, encTm_0, encTm_1, ev_rsign2, ev_order, sub_allN rows32_len, d6, ht]
                      have e1 : ((i : Int) - 1).toNat = i - 1 := by omega
                      have hlx : ((p.terms.take i).map rt).length = i := by simp; omega
                      have hto := (hw (i - 1) (by omega)).1
                      have hto2 := hto.2.2.2
                      have hto3 : (p.terms.getD (i - 1) default).exps.length = t.exps.length := by have := hto.2.2.1; omega
                      have hb3 : (p.terms.getD (i - 1) default).exps.length ≤ 1000 := by omega
                      by_cases c5 : ordL (p.terms.getD (i - 1) default).exps t.exps ≤ 0
                      · have d5 : decide (ordL (p.terms.getD (i - 1) default).exps t.exps ≤ 0) = true := decide_eq_true c5
                        simp -implicitDefEqProofs (disch := first | omega | assumption | (simp only [QN, rows32_len] <;> omega)) only [QB, QL, Nat.reduceSub, Nat.reduceAdd, Nat.reduceLeDiff, Nat.reduceEqDiff, reduceCtorEq, ↓reduceIte, Int.reduceAdd, Int.reduceSub, Int.reduceToNat, Int.reduceLT, Int.reduceLE, Int.reduceEq, Int.reduceNeg, Nat.reduceLT, QT3, QT4, QT5, QT9, QT93, QT95, QT97, QT31, QT39, QT41, QT48, QT69, QT71, QT99, t_call imp61, t_call imp62, t_call imp63, dT_wk, rows_get encTm_len, rows_get0 encTm_len, encTm_0, encTm_1, ev_rsign2, ev_order, sub_allN rows32_len, g5, e1, ht, d5]
                        rw [hN (fun h => by have := (h.2 i (by omega)).2 (by omega); rw [ht] at this; omega)]
                      · have d5 : decide (ordL (p.terms.getD (i - 1) default).exps t.exps ≤ 0) = false := decide_eq_false c5
                        have hw' : ∀ j, j < i + 1 → TOK p.vars (p.terms.getD j default) ∧ (0 < j → ordL (p.terms.getD (j - 1) default).exps (p.terms.getD j default).exps = 1) := by
                          intro j hj
                          by_cases hji : j < i
                          · exact hw j hji
                          · have hj0 : j = i := by omega
                            subst hj0
                            rw [ht]
                            refine ⟨hok, fun _ => ?_⟩
                            have := ordL_cases (p.terms.getD (j - 1) default).exps t.exps
                            omega
                        simp -implicitDefEqProofs (disch := first | omega | assumption | (simp only [QN, rows32_len] <;> omega)) only [QB, QL, Nat.reduceSub, Nat.reduceAdd, Nat.reduceLeDiff, Nat.reduceEqDiff, reduceCtorEq, ↓reduceIte, Int.reduceAdd, Int.reduceSub, Int.reduceToNat, Int.reduceLT, Int.reduceLE, Int.reduceEq, Int.reduceNeg, Nat.reduceLT, QT3, QT4, QT5, QT9, QT93, QT95, QT97, QT31, QT39, QT41, QT48, QT69, QT71, QT99, t_call imp61, t_call imp62, t_call imp63, dT_wk, rows_get encTm_len, rows_get0 encTm_len, encTm_0, encTm_1, ev_rsign2, ev_order, sub_allN rows32_len, g5, e1, ht, d5]
                        refine IH _ (by omega) ⟨_, _, ?_, .osl 0 0 ((p.terms.take (i + 1)).map rt).length 5, rfl, hw', .inr ⟨by omega, rfl, rfl⟩⟩
                        rw [hr, List.length_append, rows_app, rows_one, hrt, show ((i + 1 : Nat) : Int) = (i : Int) + 1 by omega]
                        kernel_rfl
                  · omega
                  · refine ⟨_, _, ?_, rfl, by intro x hx; simp at hx, rfl⟩
                    kernel_rfl
                · have d4 : decide ((t.exps.length : Int) = p.vars) = false := decide_eq_false c4
                  simp -implicitDefEqProofs (disch := first | omega | assumption | (simp only [QN, rows32_len] <;> omega)) only [QB, QL, Nat.reduceSub, Nat.reduceAdd, Nat.reduceLeDiff, Nat.reduceEqDiff, reduceCtorEq, ↓reduceIte, Int.reduceAdd, Int.reduceSub, Int.reduceToNat, Int.reduceLT, Int.reduceLE, Int.reduceEq, Int.reduceNeg, Nat.reduceLT, QT3, QT4, QT5, QT9, QT93, QT95, QT97, QT31, QT39, QT41, QT48, QT69, QT71, QT99, t_call imp61, t_call imp62, t_call imp63, dT_wk, rows_get encTm_len, rows_get0 encTm_len, encTm_0, encTm_1, ev_rsign2, ev_order, sub_allN rows32_len, hrd, d3, d4, ht]
                  rw [hN (fun h => hno (fun h => c4 h.2.2.1) h)]
          · simp -implicitDefEqProofs (disch := first | omega | assumption | (simp only [QN, rows32_len] <;> omega)) only [QB, QL, Nat.reduceSub, Nat.reduceAdd, Nat.reduceLeDiff, Nat.reduceEqDiff, reduceCtorEq, ↓reduceIte, Int.reduceAdd, Int.reduceSub, Int.reduceToNat, Int.reduceLT, Int.reduceLE, Int.reduceEq, Int.reduceNeg, Nat.reduceLT, QT3, QT4, QT5, QT9, QT93, QT95, QT97, QT31, QT39, QT41, QT48, QT69, QT71, QT99, t_call imp61, t_call imp62, t_call imp63, dT_wk, rows_get encTm_len, rows_get0 encTm_len, encTm_0, encTm_1, ev_rsign2, ev_order, sub_allN rows32_len]
            have hie : i = p.terms.length := by omega
            rw [hY ⟨by omega, fun j hj => hw j (by omega)⟩]
            subst hie
            rw [List.take_length]
            try rfl
      · omega
      · refine ⟨_, _, ?_, .t .nils, rfl, by intro j hj; omega, .inl ⟨rfl, rfl, rfl⟩⟩
        kernel_rfl
end Go.Proofs.Ythjmbppofgadaaa
