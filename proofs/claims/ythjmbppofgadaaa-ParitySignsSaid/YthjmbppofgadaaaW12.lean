import Derived.Test.YthjmbppofgadaaaW8
import Derived.Test.YthjmbppofgadaaaB2
import Derived.Test.YthjmbppofgadaaaT4
import Derived.Test.YthjmbppofgadaaaA5
import Derived.KernelRfl
import Derived.Test.YthjmbppofgadaaaW10
import Derived.Test.YthjmbppofgadaaaW11
set_option linter.unusedVariables false
set_option linter.unnecessarySimpa false
set_option linter.all false
set_option linter.unusedSimpArgs false
set_option linter.defProp false
namespace Go.Proofs.Ythjmbppofgadaaa
open Go Go.AM
set_option maxHeartbeats 4000000
set_option maxRecDepth 100000
theorem ev_kints0 (a b : List Int) (hl : a.length ≤ 1000000) (n : Nat) (hn : 1000100 ≤ n) (R : V) (hY : a = b → R = boo true) (hN : a ≠ b → R = boo false) : pcall G n 16 [.c (.t (ints a)), .c (.t (ints b))] [] = some (R, []) := by
  obtain ⟨n, rfl⟩ : ∃ m, n = m + 1 := ⟨n - 1, by omega⟩; rw [pcall_at fn16 rfl, imp16, G_tb]
  by_cases h0 : (a.length : Int) = b.length
  · have d0 : decide ((a.length : Int) = b.length) = true := decide_eq_true h0
    simp -implicitDefEqProofs (disch := first | omega | assumption | (simp only [QN, rowsI_len] <;> omega)) only [QB, QL, Nat.reduceSub, Nat.reduceAdd, Nat.reduceLeDiff, Nat.reduceEqDiff, reduceCtorEq, ↓reduceIte, Int.reduceAdd, Int.reduceSub, Int.reduceToNat, Int.reduceLT, Int.reduceLE, Int.reduceEq, Int.reduceNeg, Nat.reduceLT, QT3, QT4, QT31, QT25, QT9, QT39, QT41, QT48, QT22, t_call imp16, t_call imp20, rowsI_get, Nat.mul_one, d0]
    refine loop_up a.length (fun i fr H => fr = [.c (.t (ints a)), .c (.t (ints b)), .any, .any, boo false, num i, .any, .any, .any, .any, .any, .any, .any, .any, .any, .any, .any, .any, .any, .any, .any, .any, .any, .any, .any, .any] ∧ H = [] ∧ ∀ k, k < i → a.getD k 0 = b.getD k 0) ?_ ?_ ?_
    · rintro i fr H n1 hi ⟨rfl, rfl, hk⟩ IH
      simp -implicitDefEqProofs (disch := first | omega | assumption | (simp only [QN, rowsI_len] <;> omega)) only [QB, QL, Nat.reduceSub, Nat.reduceAdd, Nat.reduceLeDiff, Nat.reduceEqDiff, reduceCtorEq, ↓reduceIte, Int.reduceAdd, Int.reduceSub, Int.reduceToNat, Int.reduceLT, Int.reduceLE, Int.reduceEq, Int.reduceNeg, Nat.reduceLT, QT3, QT4, QT31, QT25, QT9, QT39, QT41, QT48, QT22, t_call imp16, t_call imp20, rowsI_get, Nat.mul_one]
      by_cases h1 : (i : Int) < a.length <;> simp (disch := omega) only [h1, decide_true, decide_false, Bool.not_true, Bool.not_false, reduceCtorEq, ↓reduceIte, Option.bind_some]
      · simp -implicitDefEqProofs (disch := first | omega | assumption | (simp only [QN, rowsI_len] <;> omega)) only [QB, QL, Nat.reduceSub, Nat.reduceAdd, Nat.reduceLeDiff, Nat.reduceEqDiff, reduceCtorEq, ↓reduceIte, Int.reduceAdd, Int.reduceSub, Int.reduceToNat, Int.reduceLT, Int.reduceLE, Int.reduceEq, Int.reduceNeg, Nat.reduceLT, QT3, QT4, QT31, QT25, QT9, QT39, QT41, QT48, QT22, t_call imp16, t_call imp20, rowsI_get, Nat.mul_one]
        by_cases h2 : a.getD i 0 = b.getD i 0
        · have d2 : decide (a.getD i 0 = b.getD i 0) = true := decide_eq_true h2
          simp -implicitDefEqProofs (disch := first | omega | assumption | (simp only [QN, rowsI_len] <;> omega)) only [QB, QL, Nat.reduceSub, Nat.reduceAdd, Nat.reduceLeDiff, Nat.reduceEqDiff, reduceCtorEq, ↓reduceIte, Int.reduceAdd, Int.reduceSub, Int.reduceToNat, Int.reduceLT, Int.reduceLE, Int.reduceEq, Int.reduceNeg, Nat.reduceLT, QT3, QT4, QT31, QT25, QT9, QT39, QT41, QT48, QT22, t_call imp16, t_call imp20, rowsI_get, Nat.mul_one, d2]
          refine IH _ (by omega) ⟨_, _, ?_, rfl, rfl, ?_⟩
          · rw [show ((i + 1 : Nat) : Int) = (i : Int) + 1 by omega]
            kernel_rfl
          · intro k hk2
            by_cases hki : k < i
            · exact hk k hki
            · have : k = i := by omega
              subst this; exact h2
        · have d2 : decide (a.getD i 0 = b.getD i 0) = false := decide_eq_false h2
          simp -implicitDefEqProofs (disch := first | omega | assumption | (simp only [QN, rowsI_len] <;> omega)) only [QB, QL, Nat.reduceSub, Nat.reduceAdd, Nat.reduceLeDiff, Nat.reduceEqDiff, reduceCtorEq, ↓reduceIte, Int.reduceAdd, Int.reduceSub, Int.reduceToNat, Int.reduceLT, Int.reduceLE, Int.reduceEq, Int.reduceNeg, Nat.reduceLT, QT3, QT4, QT31, QT25, QT9, QT39, QT41, QT48, QT22, t_call imp16, t_call imp20, rowsI_get, Nat.mul_one, d2]
          rw [hN (fun h => h2 (by rw [h]))]
      · simp -implicitDefEqProofs (disch := first | omega | assumption | (simp only [QN, rowsI_len] <;> omega)) only [QB, QL, Nat.reduceSub, Nat.reduceAdd, Nat.reduceLeDiff, Nat.reduceEqDiff, reduceCtorEq, ↓reduceIte, Int.reduceAdd, Int.reduceSub, Int.reduceToNat, Int.reduceLT, Int.reduceLE, Int.reduceEq, Int.reduceNeg, Nat.reduceLT, QT3, QT4, QT31, QT25, QT9, QT39, QT41, QT48, QT22, t_call imp16, t_call imp20, rowsI_get, Nat.mul_one]
        rw [hY (ext_getD 0 (by omega) fun k hk2 => hk k (by omega))]
    · omega
    · refine ⟨_, _, ?_, rfl, rfl, by intro k hk; omega⟩
      kernel_rfl
  · have d0 : decide ((a.length : Int) = b.length) = false := decide_eq_false h0
    simp -implicitDefEqProofs (disch := first | omega | assumption | (simp only [QN, rowsI_len] <;> omega)) only [QB, QL, Nat.reduceSub, Nat.reduceAdd, Nat.reduceLeDiff, Nat.reduceEqDiff, reduceCtorEq, ↓reduceIte, Int.reduceAdd, Int.reduceSub, Int.reduceToNat, Int.reduceLT, Int.reduceLE, Int.reduceEq, Int.reduceNeg, Nat.reduceLT, QT3, QT4, QT31, QT25, QT9, QT39, QT41, QT48, QT22, t_call imp16, t_call imp20, rowsI_get, Nat.mul_one, d0]
    rw [hN (fun h => h0 (by rw [h]))]
theorem ev_kints (a b : List Int) (hl : a.length ≤ 1000000) (n : Nat) (hn : 1000100 ≤ n) : pcall G n 16 [.c (.t (ints a)), .c (.t (ints b))] [] = some (boo (decide (a = b)), []) :=
  ev_kints0 a b hl n hn _ (fun h => by rw [decide_eq_true h]) (fun h => by rw [decide_eq_false h])
theorem ev_lists_refl (a : List (List Int)) (hl : a.length ≤ 1000000) (ha : ∀ r ∈ a, r.length ≤ 1000000) (n : Nat) (hn : 2000100 ≤ n) : pcall G n 10 [.c (.t (.sl a.length (rows encI a))), .c (.t (.sl a.length (rows encI a)))] [] = some (boo true, []) := by
  obtain ⟨n, rfl⟩ : ∃ m, n = m + 1 := ⟨n - 1, by omega⟩; rw [pcall_at fn10 rfl, imp10, G_tb]
  simp -implicitDefEqProofs (disch := first | omega | assumption | (simp only [QN, rowsI_len] <;> omega)) only [QB, QL, Nat.reduceSub, Nat.reduceAdd, Nat.reduceLeDiff, Nat.reduceEqDiff, reduceCtorEq, ↓reduceIte, Int.reduceAdd, Int.reduceSub, Int.reduceToNat, Int.reduceLT, Int.reduceLE, Int.reduceEq, Int.reduceNeg, Nat.reduceLT, QT3, QT4, QT31, QT25, QT9, QT39, QT41, QT48, QT22, t_call imp16, t_call imp20, rowsI_get, Nat.mul_one]
  refine loop_up a.length (fun i fr H => fr = [.c (.t (.sl a.length (rows encI a))), .c (.t (.sl a.length (rows encI a))), .any, .any, boo false, num i, .any, .any, .any, .any, .any, .any, .any, .any, .any, .any, .any, .any, .any, .any, .any, .any, .any, .any, .any, .any, .any] ∧ H = []) ?_ ?_ ?_
  · rintro i fr H n1 hi ⟨rfl, rfl⟩ IH
    simp -implicitDefEqProofs (disch := first | omega | assumption | (simp only [QN, rowsI_len] <;> omega)) only [QB, QL, Nat.reduceSub, Nat.reduceAdd, Nat.reduceLeDiff, Nat.reduceEqDiff, reduceCtorEq, ↓reduceIte, Int.reduceAdd, Int.reduceSub, Int.reduceToNat, Int.reduceLT, Int.reduceLE, Int.reduceEq, Int.reduceNeg, Nat.reduceLT, QT3, QT4, QT31, QT25, QT9, QT39, QT41, QT48, QT22, t_call imp16, t_call imp20, rowsI_get, Nat.mul_one]
    by_cases h1 : (i : Int) < a.length <;> simp (disch := omega) only [h1, decide_true, decide_false, Bool.not_true, Bool.not_false, reduceCtorEq, ↓reduceIte, Option.bind_some]
    · have hr := ha (a.getD i []) (by rw [getD_lt (by omega)]; exact List.getElem_mem _)
      simp -implicitDefEqProofs (disch := first | omega | assumption | (simp only [QN, rowsI_len] <;> omega)) only [QB, QL, Nat.reduceSub, Nat.reduceAdd, Nat.reduceLeDiff, Nat.reduceEqDiff, reduceCtorEq, ↓reduceIte, Int.reduceAdd, Int.reduceSub, Int.reduceToNat, Int.reduceLT, Int.reduceLE, Int.reduceEq, Int.reduceNeg, Nat.reduceLT, QT3, QT4, QT31, QT25, QT9, QT39, QT41, QT48, QT22, t_call imp16, t_call imp20, rowsI_get, Nat.mul_one, ev_kints]
      refine IH _ (by omega) ⟨_, _, ?_, rfl, rfl⟩
      rw [show ((i + 1 : Nat) : Int) = (i : Int) + 1 by omega]
      kernel_rfl
    · simp -implicitDefEqProofs (disch := first | omega | assumption | (simp only [QN, rowsI_len] <;> omega)) only [QB, QL, Nat.reduceSub, Nat.reduceAdd, Nat.reduceLeDiff, Nat.reduceEqDiff, reduceCtorEq, ↓reduceIte, Int.reduceAdd, Int.reduceSub, Int.reduceToNat, Int.reduceLT, Int.reduceLE, Int.reduceEq, Int.reduceNeg, Nat.reduceLT, QT3, QT4, QT31, QT25, QT9, QT39, QT41, QT48, QT22, t_call imp16, t_call imp20, rowsI_get, Nat.mul_one]
  · omega
  · refine ⟨_, _, ?_, rfl, rfl⟩
    kernel_rfl
def SmT (d : Nat) (t : Tm) : Prop := t.coef.length ≤ d ∧ t.exps.length ≤ 12
def SmP (m d : Nat) (p : Po) : Prop := p.terms.length ≤ m ∧ ∀ j, j < p.terms.length → SmT d (p.terms.getD j default)
def SmPs (n m d : Nat) (l : List Po) : Prop := l.length ≤ n ∧ ∀ j, j < l.length → SmP m d (l.getD j default)
theorem ev_spoly0 (p : Po) (m d : Nat) (hm : m ≤ 100000) (n : Nat) (hn : 100100 ≤ n) (R : V) (hY : SmP m d p → R = boo true) (hN : ¬ SmP m d p → R = boo false) : pcall G n 20 [.agg [.t (.int .i64 p.vars), .t (tms p.terms)], num m, num d] [] = some (R, []) := by
  obtain ⟨n, rfl⟩ : ∃ m, n = m + 1 := ⟨n - 1, by omega⟩; rw [pcall_at fn20 rfl, imp20, G_tb]
  simp -implicitDefEqProofs (disch := first | omega | assumption | (simp only [QN, rowsI_len] <;> omega)) only [QB, QL, Nat.reduceSub, Nat.reduceAdd, Nat.reduceLeDiff, Nat.reduceEqDiff, reduceCtorEq, ↓reduceIte, Int.reduceAdd, Int.reduceSub, Int.reduceToNat, Int.reduceLT, Int.reduceLE, Int.reduceEq, Int.reduceNeg, Nat.reduceLT, QT3, QT4, QT31, QT25, QT9, QT39, QT41, QT48, QT22, t_call imp16, t_call imp20, rowsI_get, Nat.mul_one, rows_get encTm_len, rows_get0 encTm_len, encTm_0, encTm_1, ldS_rows0 encPo_len, ldS_Po, bs_size]
  by_cases h0 : (m : Int) < p.terms.length <;> simp (disch := omega) only [h0, decide_true, decide_false, Bool.not_true, Bool.not_false, reduceCtorEq, ↓reduceIte, Option.bind_some]
  · simp -implicitDefEqProofs (disch := first | omega | assumption | (simp only [QN, rowsI_len] <;> omega)) only [QB, QL, Nat.reduceSub, Nat.reduceAdd, Nat.reduceLeDiff, Nat.reduceEqDiff, reduceCtorEq, ↓reduceIte, Int.reduceAdd, Int.reduceSub, Int.reduceToNat, Int.reduceLT, Int.reduceLE, Int.reduceEq, Int.reduceNeg, Nat.reduceLT, QT3, QT4, QT31, QT25, QT9, QT39, QT41, QT48, QT22, t_call imp16, t_call imp20, rowsI_get, Nat.mul_one, rows_get encTm_len, rows_get0 encTm_len, encTm_0, encTm_1, ldS_rows0 encPo_len, ldS_Po, bs_size]
    rw [hN (fun h => by have := h.1; omega)]
  · simp -implicitDefEqProofs (disch := first | omega | assumption | (simp only [QN, rowsI_len] <;> omega)) only [QB, QL, Nat.reduceSub, Nat.reduceAdd, Nat.reduceLeDiff, Nat.reduceEqDiff, reduceCtorEq, ↓reduceIte, Int.reduceAdd, Int.reduceSub, Int.reduceToNat, Int.reduceLT, Int.reduceLE, Int.reduceEq, Int.reduceNeg, Nat.reduceLT, QT3, QT4, QT31, QT25, QT9, QT39, QT41, QT48, QT22, t_call imp16, t_call imp20, rowsI_get, Nat.mul_one, rows_get encTm_len, rows_get0 encTm_len, encTm_0, encTm_1, ldS_rows0 encPo_len, ldS_Po, bs_size]
    refine loop_up p.terms.length (fun i fr H => fr = [.any, .any, num d, .own [.t (.int .i64 p.vars), .t (tms p.terms)], .any, .any, boo false, num i, .any, .any, .any, .any, .any, .any, .any, .any, .any, .any, .any, .any, .any, .any, .any, .any, .any, .any, .any, .any, .any, .any, .any, .any, .any, .any, .any, .any, .any, .any, .any] ∧ H = [] ∧ ∀ j, j < i → SmT d (p.terms.getD j default)) ?_ ?_ ?_
    · rintro i fr H n1 hi ⟨rfl, rfl, hj⟩ IH
      simp -implicitDefEqProofs (disch := first | omega | assumption | (simp only [QN, rowsI_len] <;> omega)) only [QB, QL, Nat.reduceSub, Nat.reduceAdd, Nat.reduceLeDiff, Nat.reduceEqDiff, reduceCtorEq, ↓reduceIte, Int.reduceAdd, Int.reduceSub, Int.reduceToNat, Int.reduceLT, Int.reduceLE, Int.reduceEq, Int.reduceNeg, Nat.reduceLT, QT3, QT4, QT31, QT25, QT9, QT39, QT41, QT48, QT22, t_call imp16, t_call imp20, rowsI_get, Nat.mul_one, rows_get encTm_len, rows_get0 encTm_len, encTm_0, encTm_1, ldS_rows0 encPo_len, ldS_Po, bs_size]
      by_cases h1 : (i : Int) < p.terms.length
      · have d1 : decide ((i : Int) < p.terms.length) = true := decide_eq_true h1
        by_cases h2 : (d : Int) < (p.terms.getD i default).coef.length
        · have d2 : decide ((d : Int) < (p.terms.getD i default).coef.length) = true := decide_eq_true h2
          simp -implicitDefEqProofs (disch := first | omega | assumption | (simp only [QN, rowsI_len] <;> omega)) only [QB, QL, Nat.reduceSub, Nat.reduceAdd, Nat.reduceLeDiff, Nat.reduceEqDiff, reduceCtorEq, ↓reduceIte, Int.reduceAdd, Int.reduceSub, Int.reduceToNat, Int.reduceLT, Int.reduceLE, Int.reduceEq, Int.reduceNeg, Nat.reduceLT, QT3, QT4, QT31, QT25, QT9, QT39, QT41, QT48, QT22, t_call imp16, t_call imp20, rowsI_get, Nat.mul_one, rows_get encTm_len, rows_get0 encTm_len, encTm_0, encTm_1, ldS_rows0 encPo_len, ldS_Po, bs_size, d1, d2]
          rw [hN (fun h => by have := (h.2 i (by omega)).1; omega)]
        · have d2 : decide ((d : Int) < (p.terms.getD i default).coef.length) = false := decide_eq_false h2
          by_cases h3 : (12 : Int) < (p.terms.getD i default).exps.length
          · have d3 : decide ((12 : Int) < (p.terms.getD i default).exps.length) = true := decide_eq_true h3
            simp -implicitDefEqProofs (disch := first | omega | assumption | (simp only [QN, rowsI_len] <;> omega)) only [QB, QL, Nat.reduceSub, Nat.reduceAdd, Nat.reduceLeDiff, Nat.reduceEqDiff, reduceCtorEq, ↓reduceIte, Int.reduceAdd, Int.reduceSub, Int.reduceToNat, Int.reduceLT, Int.reduceLE, Int.reduceEq, Int.reduceNeg, Nat.reduceLT, QT3, QT4, QT31, QT25, QT9, QT39, QT41, QT48, QT22, t_call imp16, t_call imp20, rowsI_get, Nat.mul_one, rows_get encTm_len, rows_get0 encTm_len, encTm_0, encTm_1, ldS_rows0 encPo_len, ldS_Po, bs_size, d1, d2, d3]
            rw [hN (fun h => by have := (h.2 i (by omega)).2; omega)]
          · have d3 : decide ((12 : Int) < (p.terms.getD i default).exps.length) = false := decide_eq_false h3
            simp -implicitDefEqProofs (disch := first | omega | assumption | (simp only [QN, rowsI_len] <;> omega)) only [QB, QL, Nat.reduceSub, Nat.reduceAdd, Nat.reduceLeDiff, Nat.reduceEqDiff, reduceCtorEq, ↓reduceIte, Int.reduceAdd, Int.reduceSub, Int.reduceToNat, Int.reduceLT, Int.reduceLE, Int.reduceEq, Int.reduceNeg, Nat.reduceLT, QT3, QT4, QT31, QT25, QT9, QT39, QT41, QT48, QT22, t_call imp16, t_call imp20, rowsI_get, Nat.mul_one, rows_get encTm_len, rows_get0 encTm_len, encTm_0, encTm_1, ldS_rows0 encPo_len, ldS_Po, bs_size, d1, d2, d3]
            refine IH _ (by omega) ⟨_, _, ?_, rfl, rfl, ?_⟩
            · rw [show ((i + 1 : Nat) : Int) = (i : Int) + 1 by omega]
              kernel_rfl
            · intro j hj2
              by_cases hji : j < i
              · exact hj j hji
              · have : j = i := by omega
                subst this; exact ⟨by omega, by omega⟩
      · have d1 : decide ((i : Int) < p.terms.length) = false := decide_eq_false h1
        simp -implicitDefEqProofs (disch := first | omega | assumption | (simp only [QN, rowsI_len] <;> omega)) only [QB, QL, Nat.reduceSub, Nat.reduceAdd, Nat.reduceLeDiff, Nat.reduceEqDiff, reduceCtorEq, ↓reduceIte, Int.reduceAdd, Int.reduceSub, Int.reduceToNat, Int.reduceLT, Int.reduceLE, Int.reduceEq, Int.reduceNeg, Nat.reduceLT, QT3, QT4, QT31, QT25, QT9, QT39, QT41, QT48, QT22, t_call imp16, t_call imp20, rowsI_get, Nat.mul_one, rows_get encTm_len, rows_get0 encTm_len, encTm_0, encTm_1, ldS_rows0 encPo_len, ldS_Po, bs_size, d1]
        rw [hY ⟨by omega, fun j hj2 => hj j (by omega)⟩]
    · omega
    · refine ⟨_, _, ?_, rfl, rfl, by intro j hj; omega⟩
      kernel_rfl
open Classical in
theorem ev_spoly (p : Po) (m d : Nat) (hm : m ≤ 100000) (n : Nat) (hn : 100100 ≤ n) : pcall G n 20 [.agg [.t (.int .i64 p.vars), .t (tms p.terms)], num m, num d] [] = some (boo (decide (SmP m d p)), []) :=
  ev_spoly0 p m d hm n hn _ (fun h => by rw [decide_eq_true h]) (fun h => by rw [decide_eq_false h])
open Classical in
theorem ev_spolys0 (l : List Po) (k m d : Nat) (hk : k ≤ 100000) (hm : m ≤ 100000) (n : Nat) (hn : 300100 ≤ n) (R : V) (hY : SmPs k m d l → R = boo true) (hN : ¬ SmPs k m d l → R = boo false) : pcall G n 6 [.c (.t (.sl l.length (rows encPo l))), num k, num m, num d] [] = some (R, []) := by
  obtain ⟨n, rfl⟩ : ∃ m, n = m + 1 := ⟨n - 1, by omega⟩; rw [pcall_at fn6 rfl, imp6, G_tb]
  simp -implicitDefEqProofs (disch := first | omega | assumption | (simp only [QN, rowsI_len] <;> omega)) only [QB, QL, Nat.reduceSub, Nat.reduceAdd, Nat.reduceLeDiff, Nat.reduceEqDiff, reduceCtorEq, ↓reduceIte, Int.reduceAdd, Int.reduceSub, Int.reduceToNat, Int.reduceLT, Int.reduceLE, Int.reduceEq, Int.reduceNeg, Nat.reduceLT, QT3, QT4, QT31, QT25, QT9, QT39, QT41, QT48, QT22, t_call imp16, t_call imp20, rowsI_get, Nat.mul_one, rows_get encTm_len, rows_get0 encTm_len, encTm_0, encTm_1, ldS_rows0 encPo_len, ldS_Po, bs_size]
  by_cases h0 : (k : Int) < l.length <;> simp (disch := omega) only [h0, decide_true, decide_false, Bool.not_true, Bool.not_false, reduceCtorEq, ↓reduceIte, Option.bind_some]
  · simp -implicitDefEqProofs (disch := first | omega | assumption | (simp only [QN, rowsI_len] <;> omega)) only [QB, QL, Nat.reduceSub, Nat.reduceAdd, Nat.reduceLeDiff, Nat.reduceEqDiff, reduceCtorEq, ↓reduceIte, Int.reduceAdd, Int.reduceSub, Int.reduceToNat, Int.reduceLT, Int.reduceLE, Int.reduceEq, Int.reduceNeg, Nat.reduceLT, QT3, QT4, QT31, QT25, QT9, QT39, QT41, QT48, QT22, t_call imp16, t_call imp20, rowsI_get, Nat.mul_one, rows_get encTm_len, rows_get0 encTm_len, encTm_0, encTm_1, ldS_rows0 encPo_len, ldS_Po, bs_size]
    rw [hN (fun h => by have := h.1; omega)]
  · simp -implicitDefEqProofs (disch := first | omega | assumption | (simp only [QN, rowsI_len] <;> omega)) only [QB, QL, Nat.reduceSub, Nat.reduceAdd, Nat.reduceLeDiff, Nat.reduceEqDiff, reduceCtorEq, ↓reduceIte, Int.reduceAdd, Int.reduceSub, Int.reduceToNat, Int.reduceLT, Int.reduceLE, Int.reduceEq, Int.reduceNeg, Nat.reduceLT, QT3, QT4, QT31, QT25, QT9, QT39, QT41, QT48, QT22, t_call imp16, t_call imp20, rowsI_get, Nat.mul_one, rows_get encTm_len, rows_get0 encTm_len, encTm_0, encTm_1, ldS_rows0 encPo_len, ldS_Po, bs_size]
    refine loop_up l.length (fun i fr H => fr = [.c (.t (.sl l.length (rows encPo l))), .any, num m, num d, .any, .any, .any, .any, boo false, num i, .any, .any, .any, .any, .any, .any, .any, .any, .any, .any, .any, .any, .any, .any, .any, .any, .any, .any] ∧ H = [] ∧ ∀ j, j < i → SmP m d (l.getD j default)) ?_ ?_ ?_
    · rintro i fr H n1 hi ⟨rfl, rfl, hj⟩ IH
      simp -implicitDefEqProofs (disch := first | omega | assumption | (simp only [QN, rowsI_len] <;> omega)) only [QB, QL, Nat.reduceSub, Nat.reduceAdd, Nat.reduceLeDiff, Nat.reduceEqDiff, reduceCtorEq, ↓reduceIte, Int.reduceAdd, Int.reduceSub, Int.reduceToNat, Int.reduceLT, Int.reduceLE, Int.reduceEq, Int.reduceNeg, Nat.reduceLT, QT3, QT4, QT31, QT25, QT9, QT39, QT41, QT48, QT22, t_call imp16, t_call imp20, rowsI_get, Nat.mul_one, rows_get encTm_len, rows_get0 encTm_len, encTm_0, encTm_1, ldS_rows0 encPo_len, ldS_Po, bs_size]
      by_cases h1 : (i : Int) < l.length <;> simp (disch := omega) only [h1, decide_true, decide_false, Bool.not_true, Bool.not_false, reduceCtorEq, ↓reduceIte, Option.bind_some]
      · simp -implicitDefEqProofs (disch := first | omega | assumption | (simp only [QN, rowsI_len] <;> omega)) only [QB, QL, Nat.reduceSub, Nat.reduceAdd, Nat.reduceLeDiff, Nat.reduceEqDiff, reduceCtorEq, ↓reduceIte, Int.reduceAdd, Int.reduceSub, Int.reduceToNat, Int.reduceLT, Int.reduceLE, Int.reduceEq, Int.reduceNeg, Nat.reduceLT, QT3, QT4, QT31, QT25, QT9, QT39, QT41, QT48, QT22, t_call imp16, t_call imp20, rowsI_get, Nat.mul_one, rows_get encTm_len, rows_get0 encTm_len, encTm_0, encTm_1, ldS_rows0 encPo_len, ldS_Po, bs_size, ev_spoly]
        by_cases h2 : SmP m d (l.getD i default)
        · have d2 : decide (SmP m d (l.getD i default)) = true := decide_eq_true h2
          simp -implicitDefEqProofs (disch := first | omega | assumption | (simp only [QN, rowsI_len] <;> omega)) only [QB, QL, Nat.reduceSub, Nat.reduceAdd, Nat.reduceLeDiff, Nat.reduceEqDiff, reduceCtorEq, ↓reduceIte, Int.reduceAdd, Int.reduceSub, Int.reduceToNat, Int.reduceLT, Int.reduceLE, Int.reduceEq, Int.reduceNeg, Nat.reduceLT, QT3, QT4, QT31, QT25, QT9, QT39, QT41, QT48, QT22, t_call imp16, t_call imp20, rowsI_get, Nat.mul_one, rows_get encTm_len, rows_get0 encTm_len, encTm_0, encTm_1, ldS_rows0 encPo_len, ldS_Po, bs_size, d2]
          refine IH _ (by omega) ⟨_, _, ?_, rfl, rfl, ?_⟩
          · rw [show ((i + 1 : Nat) : Int) = (i : Int) + 1 by omega]
            kernel_rfl
          · intro j hj2
            by_cases hji : j < i
            · exact hj j hji
            · have : j = i := by omega
              subst this; exact h2
        · have d2 : decide (SmP m d (l.getD i default)) = false := decide_eq_false h2
          simp -implicitDefEqProofs (disch := first | omega | assumption | (simp only [QN, rowsI_len] <;> omega)) only [QB, QL, Nat.reduceSub, Nat.reduceAdd, Nat.reduceLeDiff, Nat.reduceEqDiff, reduceCtorEq, ↓reduceIte, Int.reduceAdd, Int.reduceSub, Int.reduceToNat, Int.reduceLT, Int.reduceLE, Int.reduceEq, Int.reduceNeg, Nat.reduceLT, QT3, QT4, QT31, QT25, QT9, QT39, QT41, QT48, QT22, t_call imp16, t_call imp20, rowsI_get, Nat.mul_one, rows_get encTm_len, rows_get0 encTm_len, encTm_0, encTm_1, ldS_rows0 encPo_len, ldS_Po, bs_size, d2]
          rw [hN (fun h => h2 (h.2 i (by omega)))]
      · simp -implicitDefEqProofs (disch := first | omega | assumption | (simp only [QN, rowsI_len] <;> omega)) only [QB, QL, Nat.reduceSub, Nat.reduceAdd, Nat.reduceLeDiff, Nat.reduceEqDiff, reduceCtorEq, ↓reduceIte, Int.reduceAdd, Int.reduceSub, Int.reduceToNat, Int.reduceLT, Int.reduceLE, Int.reduceEq, Int.reduceNeg, Nat.reduceLT, QT3, QT4, QT31, QT25, QT9, QT39, QT41, QT48, QT22, t_call imp16, t_call imp20, rowsI_get, Nat.mul_one, rows_get encTm_len, rows_get0 encTm_len, encTm_0, encTm_1, ldS_rows0 encPo_len, ldS_Po, bs_size]
        rw [hY ⟨by omega, fun j hj2 => hj j (by omega)⟩]
    · omega
    · refine ⟨_, _, ?_, rfl, rfl, by intro j hj; omega⟩
      kernel_rfl
end Go.Proofs.Ythjmbppofgadaaa

namespace Go.Proofs.Ythjmbppofgadaaa
open Go Go.AM
def row2 (a b : Int) : T := .sl 2 [.int .i64 a, .int .i64 b]
def awArg : List T := [.int .i64 2, .sl 2 [.str ⟨#[49]⟩, row2 2 0, .str ⟨#[49]⟩, row2 1 1]]
theorem awSigns : pcall G 399999999998 8 [.c (.t (.sl 1 awArg))] [] = some (.tup [.c (.t (.sl 1 [row2 1 1])), .c (.t (.int .i64 0))], []) := by
  rw [← pcallF_eq]
  kernel_rfl
theorem awClasses : pcall G 399999999998 14 [.c (.osl 0 0 1 1), .c (.osl 1 0 3 1)] [.flat false [row2 1 1], .flat false [row2 0 0, row2 0 1, row2 1 0]] =
    some (.tup [.c (.osl 2 0 2 1), .c (.t (.int .i64 0))], [.flat true [row2 1 1], .flat true [row2 0 0, row2 0 1, row2 1 0], .mix false [.osl 3 0 1 1, .osl 4 0 2 1], .flat false [.int .i64 0], .flat false [.int .i64 1, .int .i64 2]]) := by
  rw [← pcallF_eq]
  kernel_rfl
theorem ev_awake : pcall G 399999999999 7 [] [] = some (.c (.t (.bool true)), []) := by
  refine callK_pcall (n := 399999999998) ?_
  rw [← know_eq awSigns, ← know_eq (orc := know _ _ _ _ _) (by rw [know_eq awSigns]; exact awClasses)]
  kernel_rfl
end Go.Proofs.Ythjmbppofgadaaa

namespace Go.Proofs.Ythjmbppofgadaaa
open Go Go.AM
set_option maxHeartbeats 4000000
set_option maxRecDepth 100000
theorem ev_signsE (l : List Po) (n : Nat) (hn : 300000000001 < n) (h : ∀ n, 300000000000 < n → pcall G n 21 [.c (.t (.sl l.length (rows encPo l)))] [] = some (.tup [.c (.t (.sl 0 [])), boo false], [])) :
    pcall G n 8 [.c (.t (.sl l.length (rows encPo l)))] [] = some (.tup [.c (.t (.sl 0 [])), num 1], []) := by
  obtain ⟨n, rfl⟩ : ∃ m, n = m + 1 := ⟨n - 1, by omega⟩; rw [pcall_at fn8 rfl, imp8, G_tb]
  simp -implicitDefEqProofs (disch := first | omega | assumption) only [QB, QL, Nat.reduceSub, Nat.reduceAdd, Nat.reduceLeDiff, Nat.reduceEqDiff, reduceCtorEq, ↓reduceIte, Int.reduceAdd, Int.reduceSub, Int.reduceToNat, Int.reduceLT, Int.reduceLE, Int.reduceEq, Int.reduceNeg, Nat.reduceLT, QT3, QT4, QT22, QT25, QT26, QT31, QT49, QT52, QT54, QT59, QT61, QT63, QT66, QT71, QT41, QT39, QT48, t_call imp8, t_call imp9, t_call imp21, t_call imp25, t_cz1 imp10, t_cz2 imp10, t_cj1 imp10, t_cj2 imp10, t_cj3 imp10, t_call imp6, t_call imp7, h]
theorem ev_rsignsE (l : List Po) (n : Nat) (hn : 300000000001 < n) (h : ∀ n, 300000000000 < n → pcall G n 25 [.c (.t (.sl l.length (rows encPo l)))] [] = some (.tup [.c (.t (.sl 0 [])), boo false], [])) :
    pcall G n 9 [.c (.t (.sl l.length (rows encPo l)))] [] = some (.tup [.c (.t (.sl 0 [])), num 1], []) := by
  obtain ⟨n, rfl⟩ : ∃ m, n = m + 1 := ⟨n - 1, by omega⟩; rw [pcall_at fn9 rfl, imp9, G_tb]
  simp -implicitDefEqProofs (disch := first | omega | assumption) only [QB, QL, Nat.reduceSub, Nat.reduceAdd, Nat.reduceLeDiff, Nat.reduceEqDiff, reduceCtorEq, ↓reduceIte, Int.reduceAdd, Int.reduceSub, Int.reduceToNat, Int.reduceLT, Int.reduceLE, Int.reduceEq, Int.reduceNeg, Nat.reduceLT, QT3, QT4, QT22, QT25, QT26, QT31, QT49, QT52, QT54, QT59, QT61, QT63, QT66, QT71, QT41, QT39, QT48, t_call imp8, t_call imp9, t_call imp21, t_call imp25, t_cz1 imp10, t_cz2 imp10, t_cj1 imp10, t_cj2 imp10, t_cj3 imp10, t_call imp6, t_call imp7, h]
theorem ev_signsZ (n : Nat) (hn : 300000000001 < n) (h : ∀ n, 300000000000 < n → pcall G n 21 [.c (.t (.sl 0 []))] [] = some (.tup [.c (.t (.sl 0 [])), boo true], [])) :
    pcall G n 8 [.c (.t (.sl 0 []))] [] = some (.tup [.c (.t (.sl 0 [])), num 4], []) := by
  obtain ⟨n, rfl⟩ : ∃ m, n = m + 1 := ⟨n - 1, by omega⟩; rw [pcall_at fn8 rfl, imp8, G_tb]
  simp -implicitDefEqProofs (disch := first | omega | assumption) only [QB, QL, Nat.reduceSub, Nat.reduceAdd, Nat.reduceLeDiff, Nat.reduceEqDiff, reduceCtorEq, ↓reduceIte, Int.reduceAdd, Int.reduceSub, Int.reduceToNat, Int.reduceLT, Int.reduceLE, Int.reduceEq, Int.reduceNeg, Nat.reduceLT, QT3, QT4, QT22, QT25, QT26, QT31, QT49, QT52, QT54, QT59, QT61, QT63, QT66, QT71, QT41, QT39, QT48, t_call imp8, t_call imp9, t_call imp21, t_call imp25, t_cz1 imp10, t_cz2 imp10, t_cj1 imp10, t_cj2 imp10, t_cj3 imp10, t_call imp6, t_call imp7, h, Int.natCast_zero]
theorem ev_rsignsZ (n : Nat) (hn : 300000000001 < n) (h : ∀ n, 300000000000 < n → pcall G n 25 [.c (.t (.sl 0 []))] [] = some (.tup [.c (.t (.sl 0 [])), boo true], [])) :
    pcall G n 9 [.c (.t (.sl 0 []))] [] = some (.tup [.c (.t (.sl 0 [])), num 4], []) := by
  obtain ⟨n, rfl⟩ : ∃ m, n = m + 1 := ⟨n - 1, by omega⟩; rw [pcall_at fn9 rfl, imp9, G_tb]
  simp -implicitDefEqProofs (disch := first | omega | assumption) only [QB, QL, Nat.reduceSub, Nat.reduceAdd, Nat.reduceLeDiff, Nat.reduceEqDiff, reduceCtorEq, ↓reduceIte, Int.reduceAdd, Int.reduceSub, Int.reduceToNat, Int.reduceLT, Int.reduceLE, Int.reduceEq, Int.reduceNeg, Nat.reduceLT, QT3, QT4, QT22, QT25, QT26, QT31, QT49, QT52, QT54, QT59, QT61, QT63, QT66, QT71, QT41, QT39, QT48, t_call imp8, t_call imp9, t_call imp21, t_call imp25, t_cz1 imp10, t_cz2 imp10, t_cj1 imp10, t_cj2 imp10, t_cj3 imp10, t_call imp6, t_call imp7, h, Int.natCast_zero]
theorem smal_of {n m d : Nat} {l : List Po} (h : SmPs n m d l) (hd : d ≤ 9) (hm : m ≤ 1000000) : ∀ j, j < l.length → Smal (l.getD j default) := by
  intro j hj
  have h1 := h.2 j hj
  refine ⟨fun k hk => ?_, by have := h1.1; omega⟩
  have h2 := h1.2 k hk
  exact ⟨by have := h2.1; omega, by have := h2.2; omega⟩
open Classical in
theorem both_signs (l : List Po) (hs : SmPs 4 8 8 l) (n : Nat) (hn : 300000000002 < n) : ∃ (r : List (List Int)) (e : Int), r.length ≤ 100 ∧ (∀ x ∈ r, x.length ≤ 100) ∧
    pcall G n 8 [.c (.t (.sl l.length (rows encPo l)))] [] = some (.tup [.c (.t (.sl r.length (rows encI r))), num e], []) ∧
    pcall G n 9 [.c (.t (.sl l.length (rows encPo l)))] [] = some (.tup [.c (.t (.sl r.length (rows encI r))), num e], []) := by
  have hsm := smal_of hs (by decide) (by decide)
  have hl := hs.1
  by_cases hok : ∀ p ∈ l, OKP p
  · have hL := fun n hn => ev_list0 l (by omega) hsm n hn _ (fun _ => rfl) (fun h => absurd hok h)
    have hR := fun n hn => ev_readall0 l (by omega) hsm n hn _ (fun _ => rfl) (fun h => absurd hok h)
    cases hl0 : l with
    | nil =>
      subst hl0
      exact ⟨[], 4, by simp, by simp, ev_signsZ n (by omega) (fun n hn => hL n (by omega)), ev_rsignsZ n (by omega) (fun n hn => hR n (by omega))⟩
    | cons p0 l0 =>
      rw [← hl0]
      have hp0 := hok p0 (by rw [hl0]; simp)
      obtain ⟨m, hm⟩ : ∃ m : Nat, p0.vars = (m : Int) := ⟨p0.vars.toNat, by have := hp0.2.1.1.1; omega⟩
      have hm6 : m ≤ 6 := by have := hp0.2.1.1.2; omega
      have hlen : l.length = (l.map rpo).length := by simp
      have hx0 : ∃ x ys, l.map rpo = x :: ys ∧ x.n = m := ⟨rpo p0, l0.map rpo, by rw [hl0]; rfl, hm⟩
      have hterm : ∀ x ∈ l.map rpo, ∀ y ∈ x.t, (x.n = (y.e.length : Int)) ∧ Within 1048576 y.e ∧ y.e.length ≤ 6 := by
        intro x hx y hy
        obtain ⟨p, hp, rfl⟩ := List.mem_map.1 hx
        obtain ⟨t, ht, rfl⟩ := List.mem_map.1 hy
        obtain ⟨j, hj, rfl⟩ := List.getElem_of_mem ht
        have hw := (hok p hp).2.1
        have h1 := (hw.2 j hj).1
        rw [getD_lt hj] at h1
        have h2 := h1.2.2.1
        have h3 := hw.1.2
        exact ⟨h2.symm, h1.2.2.2, by show p.terms[j].exps.length ≤ 6; omega⟩
      have htl : ∀ x ∈ l.map rpo, x.t.length ≤ 8 := by
        intro x hx
        obtain ⟨p, hp, rfl⟩ := List.mem_map.1 hx
        obtain ⟨j, hj, rfl⟩ := List.getElem_of_mem hp
        have := (hs.2 j hj).1
        rw [getD_lt hj] at this
        simpa [rpo] using this
      have hvo : ∀ x ∈ l.map rpo, ∀ y ∈ x.t, vOf y = oddL y.e := by
        intro x hx y hy
        have := hterm x hx y hy
        unfold vOf
        rw [ex6_ok ⟨this.2.2, this.2.1⟩]
        exact oddL_pad _ _
      have hesl : (esOf (l.map rpo)).length ≤ 1000000 := by
        have : ∀ xs : List RPo, (∀ x ∈ xs, x.t.length ≤ 8) → (esOf xs).length ≤ xs.length * 8 := by
          intro xs
          induction xs with
          | nil => intro _; simp [esOf]
          | cons x xs ih =>
            intro h
            have h1 := ih fun y hy => h y (by simp [hy])
            have h2 := h x (by simp)
            simp only [esOf, List.flatMap_cons, List.length_append, List.length_map, List.length_cons] at h1 ⊢
            omega
        have h1 := this _ htl
        omega
      have hex : (∀ x ∈ l.map rpo, x.n = m) → ExpR m (esOf (l.map rpo)) := by
        intro hall e he
        obtain ⟨x, hx, hy1⟩ := List.mem_flatMap.1 he
        obtain ⟨y, hy2, rfl⟩ := List.mem_map.1 hy1
        have h1 := hterm x hx y hy2
        have h2 := hall x hx
        exact ⟨by omega, h1.2.1⟩
      have hS1 : ∀ x ∈ l.map rpo, x.t.length ≤ 1000000 ∧ ∀ y ∈ x.t, x.n = m → vOf y < 2 ^ m := by
        intro x hx
        refine ⟨by have := htl x hx; omega, fun y hy hxm => ?_⟩
        have h1 := hterm x hx y hy
        rw [hvo x hx y hy]
        have h2 := oddL_lt y.e
        rw [show y.e.length = m by omega] at h2
        exact h2
      have hL' : ∀ n, 300000000000 ≤ n → pcall G n 21 [.c (.t (.sl l.length (rows encPo l)))] [] = some (.tup [.c (.t (.sl (l.map rpo).length (rows encR64 (l.map rpo)))), boo true], []) := fun n hn => by rw [← hlen]; exact hL n (by omega)
      have hR' : ∀ n, 300000000000 ≤ n → pcall G n 25 [.c (.t (.sl l.length (rows encPo l)))] [] = some (.tup [.c (.t (.sl (l.map rpo).length (rows encR32 (l.map rpo)))), boo true], []) := fun n hn => by rw [← hlen]; exact hR n (by omega)
      by_cases hall : ∀ x ∈ l.map rpo, x.n = m
      · refine ⟨refL m (esOf (l.map rpo)), 0, ?_, ?_, ?_, ?_⟩
        · have h6 := pow_le6 hm6
          have h1 := List.length_filter_le (keepP m (esOf (l.map rpo))) (down (2 ^ m - 1))
          have h2 : ∀ q, (down q).length = q := by intro q; induction q with | zero => rfl | succ q ih => simp [down, ih]
          rw [h2] at h1
          simp only [refL, List.length_map]
          omega
        · intro x hx
          obtain ⟨v, _, rfl⟩ := List.mem_map.1 hx
          rw [vecN_len]; omega
        · refine ev_signs0 (l.map rpo) m hm6 (by simp; omega) hS1 hx0 l n (by omega) hL' _ (fun h => absurd hall h) ?_
          intro _ Q P hQ hP hRF
          have hvv : vv (l.map rpo) = (esOf (l.map rpo)).map oddL := by
            unfold vv esOf
            rw [List.map_flatMap]
            have : ∀ xs : List RPo, (∀ x ∈ xs, ∀ y ∈ x.t, vOf y = oddL y.e) → xs.flatMap (fun p => p.t.map vOf) = xs.flatMap (fun p => (p.t.map fun y => y.e).map oddL) := by
              intro xs
              induction xs with
              | nil => intro _; rfl
              | cons x xs ih =>
                intro h
                rw [List.flatMap_cons, List.flatMap_cons, ih fun z hz => h z (by simp [hz]), List.map_map]
                congr 1
                exact List.map_congr_left fun y hy => h x (by simp) y hy
            exact this _ hvo
          have hK : Ker m Q = Ker m ((esOf (l.map rpo)).map oddL) := by
            funext s
            apply propext
            unfold Ker
            rw [hQ s, hvv]
          have hp1 : 1 ≤ 2 ^ m := Nat.pow_pos (by decide)
          have hb := basis_eq (p := keepP m (esOf (l.map rpo))) hm6 (Ker.spc m Q) (fun v hv hv0 => spanB_mem.2 ⟨⟨by omega, by have := hv.1; omega⟩, hv.2⟩) hP hRF (fun v h1 h2 => by
            rw [hK]; unfold keepP; exact decide_eq_true_iff)
          have hb2 : refL m (esOf (l.map rpo)) = (outs m P m).reverse := hb
          rw [hb2, List.length_reverse]
        · exact ev_rsigns0 (l.map rpo) m hm6 (by simp; omega) (fun x hx => by have := htl x hx; omega) hesl hx0 hex l n (by omega) hR' _ (fun h => absurd hall h) (fun _ => rfl)
      · exact ⟨[], 4, by simp, by simp, ev_signs0 (l.map rpo) m hm6 (by simp; omega) hS1 hx0 l n (by omega) hL' _ (fun _ => rfl) (fun h => absurd h hall),
          ev_rsigns0 (l.map rpo) m hm6 (by simp; omega) (fun x hx => by have := htl x hx; omega) hesl hx0 hex l n (by omega) hR' _ (fun _ => rfl) (fun h => absurd h hall)⟩
  · exact ⟨[], 1, by simp, by simp, ev_signsE l n (by omega) fun n hn => ev_list0 l (by omega) hsm n (by omega) _ (fun h => absurd h hok) (fun _ => rfl), ev_rsignsE l n (by omega) fun n hn => ev_readall0 l (by omega) hsm n (by omega) _ (fun h => absurd h hok) (fun _ => rfl)⟩
theorem ev_law (l : List Po) (n : Nat) (hn : n = 400000000000) : pcall G n 3 [.c (.t (.sl l.length (rows encPo l)))] [] = some (.c (.t (.bool true)), []) := by
  obtain ⟨n, rfl⟩ : ∃ m, n = m + 1 := ⟨n - 1, by omega⟩; rw [pcall_at fn3 rfl, imp3, G_tb]
  have hw : pcall G n 7 [] [] = some (.c (.t (.bool true)), []) := by
    rw [show n = 399999999999 by omega]; exact ev_awake
  have hcast : ∀ R : V, (SmPs 4 8 8 l → R = boo true) → (¬ SmPs 4 8 8 l → R = boo false) → pcall G n 6 [.c (.t (.sl l.length (rows encPo l))), num 4, num 8, num 8] [] = some (R, []) := fun R h1 h2 => ev_spolys0 l 4 8 8 (by decide) (by decide) n (by omega) R h1 h2
  by_cases hs : SmPs 4 8 8 l
  · have h1 := hcast (boo true) (fun _ => rfl) (fun h => absurd hs h)
    obtain ⟨r, e, hr, hr2, e1, e2⟩ := both_signs l hs n (by omega)
    have hli := ev_lists_refl r (by omega) (fun x hx => by have := hr2 x hx; omega) n (by omega)
    simp -implicitDefEqProofs (disch := first | omega | assumption) only [QB, QL, Nat.reduceSub, Nat.reduceAdd, Nat.reduceLeDiff, Nat.reduceEqDiff, reduceCtorEq, ↓reduceIte, Int.reduceAdd, Int.reduceSub, Int.reduceToNat, Int.reduceLT, Int.reduceLE, Int.reduceEq, Int.reduceNeg, Nat.reduceLT, QT3, QT4, QT22, QT25, QT26, QT31, QT49, QT52, QT54, QT59, QT61, QT63, QT66, QT71, QT41, QT39, QT48, t_call imp8, t_call imp9, t_call imp21, t_call imp25, t_cz1 imp10, t_cz2 imp10, t_cj1 imp10, t_cj2 imp10, t_cj3 imp10, t_call imp6, t_call imp7, h1, e1, e2, hli, hw]
  · have h1 := hcast (boo false) (fun h => absurd h hs) (fun _ => rfl)
    simp -implicitDefEqProofs (disch := first | omega | assumption) only [QB, QL, Nat.reduceSub, Nat.reduceAdd, Nat.reduceLeDiff, Nat.reduceEqDiff, reduceCtorEq, ↓reduceIte, Int.reduceAdd, Int.reduceSub, Int.reduceToNat, Int.reduceLT, Int.reduceLE, Int.reduceEq, Int.reduceNeg, Nat.reduceLT, QT3, QT4, QT22, QT25, QT26, QT31, QT49, QT52, QT54, QT59, QT61, QT63, QT66, QT71, QT41, QT39, QT48, t_call imp8, t_call imp9, t_call imp21, t_call imp25, t_cz1 imp10, t_cz2 imp10, t_cj1 imp10, t_cj2 imp10, t_cj3 imp10, t_call imp6, t_call imp7, h1, hw]
end Go.Proofs.Ythjmbppofgadaaa
