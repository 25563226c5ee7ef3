import Derived.Test.YthjmbppofgadaaaW7
import Derived.Test.YthjmbppofgadaaaW4
set_option linter.unusedVariables false
set_option linter.unnecessarySimpa false
set_option linter.all false
set_option linter.unusedSimpArgs false
set_option linter.defProp false
namespace Go.Proofs.Ythjmbppofgadaaa
open Go Go.AM
set_option maxHeartbeats 4000000
set_option maxRecDepth 100000
open Classical in
theorem ev_wfY (p : Po) (h : WF p) (hc : ∀ j, j < p.terms.length → (p.terms.getD j default).coef.length ≤ 9 ∧ (p.terms.getD j default).exps.length ≤ 1000) (hl : p.terms.length ≤ 1000000) (n : Nat) (hn : 100000000000 < n) :
    pcall G n 51 [.agg [.t (.int .i64 p.vars), .t (tms p.terms)]] [] = some (.tup [.agg [.t (.int .i64 p.vars), .t (tms64 (p.terms.map rt))], boo true], []) :=
  ev_wf0 p hc hl n hn _ (fun _ => rfl) (fun h' => absurd h h')
theorem ev_wfN (p : Po) (h : ¬ WF p) (hc : ∀ j, j < p.terms.length → (p.terms.getD j default).coef.length ≤ 9 ∧ (p.terms.getD j default).exps.length ≤ 1000) (hl : p.terms.length ≤ 1000000) (n : Nat) (hn : 100000000000 < n) :
    pcall G n 51 [.agg [.t (.int .i64 p.vars), .t (tms p.terms)]] [] = some (.tup [.agg [.t (.int .i64 0), .t (.sl 0 [])], boo false], []) :=
  ev_wf0 p hc hl n hn _ (fun h' => absurd h' h) (fun _ => rfl)
noncomputable def pdg : List RTm → Int
  | [] => -1
  | x :: _ => sumL (ex6 x.e)
theorem ldS_E0 (x : RTm) (xs : List RTm) : ldS [.int .i32, .int .i32, .int .i32, .int .i32, .int .i32, .int .i32] (rows enc64 (x :: xs)) 3 = some (.agg (mi .i32 (ex6 x.e)), []) := by
  have h := ldS_rows (ck := [.int .i32, .int .i32, .int .i32, .int .i32, .int .i32, .int .i32]) enc64_len (xs := x :: xs) (i := 0) (off := 3) (by simp) (by decide)
  rw [Nat.zero_mul, Nat.zero_add] at h
  rw [h]
  exact ldS_E x
theorem ev_pdeg (v : Int) (xs : List RTm) (n : Nat) (hn : 100 ≤ n) : pcall G n 60 [.agg [.t (.int .i64 v), .t (tms64 xs)]] [] = some (num (pdg xs), []) := by
  obtain ⟨n, rfl⟩ : ∃ m, n = m + 1 := ⟨n - 1, by omega⟩; rw [pcall_at fn60 rfl, imp60, G_tb]
  cases xs with
  | nil => simp -implicitDefEqProofs (disch := first | omega | assumption | (simp only [QN, rows64_len] <;> omega)) only [QB, QL, Nat.reduceSub, Nat.reduceAdd, Nat.reduceLeDiff, Nat.reduceEqDiff, reduceCtorEq, ↓reduceIte, Int.reduceAdd, Int.reduceSub, Int.reduceToNat, Int.reduceLT, Int.reduceLE, Int.reduceEq, Int.reduceNeg, Nat.reduceLT, QT3, QT4, QT9, QT31, QT39, QT41, QT48, QT52, QT54, QT57, QT59, QT61, QT21, QT22, QT49, t_call imp69, t_call imp60, t_call imp52, t_call imp51, t_call imp40, List.length_nil]; try rfl
  | cons x xs =>
    have h1 := ex6_in x.e
    have h2 : decide (((xs.length + 1 : Nat) : Int) = 0) = false := decide_eq_false (by omega)
    simp -implicitDefEqProofs (disch := first | omega | assumption | (simp only [QN, rows64_len] <;> omega)) only [QB, QL, Nat.reduceSub, Nat.reduceAdd, Nat.reduceLeDiff, Nat.reduceEqDiff, reduceCtorEq, ↓reduceIte, Int.reduceAdd, Int.reduceSub, Int.reduceToNat, Int.reduceLT, Int.reduceLE, Int.reduceEq, Int.reduceNeg, Nat.reduceLT, QT3, QT4, QT9, QT31, QT39, QT41, QT48, QT52, QT54, QT57, QT59, QT61, QT21, QT22, QT49, t_call imp69, t_call imp60, t_call imp52, t_call imp51, t_call imp40, h2, Nat.zero_mul, ldS_E0, ev_edeg, ex6_len]
    try rfl
theorem ev_fits (v : Int) (xs : List RTm) (n : Nat) (hn : 200 ≤ n) : pcall G n 52 [.agg [.t (.int .i64 v), .t (tms64 xs)]] [] = some (boo (decide (pdg xs ≤ 24) && decide ((xs.length : Int) ≤ 4096)), []) := by
  obtain ⟨n, rfl⟩ : ∃ m, n = m + 1 := ⟨n - 1, by omega⟩; rw [pcall_at fn52 rfl, imp52, G_tb]
  simp -implicitDefEqProofs (disch := first | omega | assumption | (simp only [QN, rows64_len] <;> omega)) only [QB, QL, Nat.reduceSub, Nat.reduceAdd, Nat.reduceLeDiff, Nat.reduceEqDiff, reduceCtorEq, ↓reduceIte, Int.reduceAdd, Int.reduceSub, Int.reduceToNat, Int.reduceLT, Int.reduceLE, Int.reduceEq, Int.reduceNeg, Nat.reduceLT, QT3, QT4, QT9, QT31, QT39, QT41, QT48, QT52, QT54, QT57, QT59, QT61, QT21, QT22, QT49, t_call imp69, t_call imp60, t_call imp52, t_call imp51, t_call imp40, ev_pdeg]
  by_cases h : pdg xs ≤ 24
  · have d : decide (pdg xs ≤ 24) = true := decide_eq_true h
    simp -implicitDefEqProofs (disch := first | omega | assumption | (simp only [QN, rows64_len] <;> omega)) only [QB, QL, Nat.reduceSub, Nat.reduceAdd, Nat.reduceLeDiff, Nat.reduceEqDiff, reduceCtorEq, ↓reduceIte, Int.reduceAdd, Int.reduceSub, Int.reduceToNat, Int.reduceLT, Int.reduceLE, Int.reduceEq, Int.reduceNeg, Nat.reduceLT, QT3, QT4, QT9, QT31, QT39, QT41, QT48, QT52, QT54, QT57, QT59, QT61, QT21, QT22, QT49, t_call imp69, t_call imp60, t_call imp52, t_call imp51, t_call imp40, d]
  · have d : decide (pdg xs ≤ 24) = false := decide_eq_false h
    simp -implicitDefEqProofs (disch := first | omega | assumption | (simp only [QN, rows64_len] <;> omega)) only [QB, QL, Nat.reduceSub, Nat.reduceAdd, Nat.reduceLeDiff, Nat.reduceEqDiff, reduceCtorEq, ↓reduceIte, Int.reduceAdd, Int.reduceSub, Int.reduceToNat, Int.reduceLT, Int.reduceLE, Int.reduceEq, Int.reduceNeg, Nat.reduceLT, QT3, QT4, QT9, QT31, QT39, QT41, QT48, QT52, QT54, QT57, QT59, QT61, QT21, QT22, QT49, t_call imp69, t_call imp60, t_call imp52, t_call imp51, t_call imp40, d]
def OKP (p : Po) : Prop := p.terms.length ≤ 4096 ∧ WF p ∧ (p.terms ≠ [] → sumL (p.terms.getD 0 default).exps ≤ 24)
theorem pdg_le (p : Po) (h : WF p) : pdg (p.terms.map rt) ≤ 24 ↔ (p.terms ≠ [] → sumL (p.terms.getD 0 default).exps ≤ 24) := by
  cases ht : p.terms with
  | nil => simp [pdg]
  | cons t l =>
    have h1 := (h.2 0 (by rw [ht]; simp)).1
    rw [ht] at h1
    have hE : ExpOK (rt t).e := ⟨by have := h1.2.2.1; have := h.1.2; simp only [List.getD_cons_zero] at *; show t.exps.length ≤ 6; omega, h1.2.2.2⟩
    simp only [List.map_cons, pdg, ex6_ok hE, pad6, sumL_app, sumL_rep, Int.add_zero]
    simp [rt]
theorem ev_mof0 (p : Po) (hc : ∀ j, j < p.terms.length → (p.terms.getD j default).coef.length ≤ 9 ∧ (p.terms.getD j default).exps.length ≤ 1000) (hl : p.terms.length ≤ 1000000) (n : Nat) (hn : 200000000000 < n) (R : V)
    (hY : OKP p → R = .tup [.agg [.t (.int .i64 p.vars), .t (tms64 (p.terms.map rt))], boo true]) (hN : ¬ OKP p → R = .tup [.agg [.t (.int .i64 0), .t (.sl 0 [])], boo false]) : pcall G n 40 [.agg [.t (.int .i64 p.vars), .t (tms p.terms)]] [] = some (R, []) := by
  obtain ⟨n, rfl⟩ : ∃ m, n = m + 1 := ⟨n - 1, by omega⟩; rw [pcall_at fn40 rfl, imp40, G_tb]
  simp -implicitDefEqProofs (disch := first | omega | assumption | (simp only [QN, rows64_len] <;> omega)) only [QB, QL, Nat.reduceSub, Nat.reduceAdd, Nat.reduceLeDiff, Nat.reduceEqDiff, reduceCtorEq, ↓reduceIte, Int.reduceAdd, Int.reduceSub, Int.reduceToNat, Int.reduceLT, Int.reduceLE, Int.reduceEq, Int.reduceNeg, Nat.reduceLT, QT3, QT4, QT9, QT31, QT39, QT41, QT48, QT52, QT54, QT57, QT59, QT61, QT21, QT22, QT49, t_call imp69, t_call imp60, t_call imp52, t_call imp51, t_call imp40]
  by_cases h1 : (4096 : Int) < p.terms.length <;> simp (disch := omega) only [h1, decide_true, decide_false, Bool.not_true, Bool.not_false, reduceCtorEq, ↓reduceIte, Option.bind_some]
  · simp -implicitDefEqProofs (disch := first | omega | assumption | (simp only [QN, rows64_len] <;> omega)) only [QB, QL, Nat.reduceSub, Nat.reduceAdd, Nat.reduceLeDiff, Nat.reduceEqDiff, reduceCtorEq, ↓reduceIte, Int.reduceAdd, Int.reduceSub, Int.reduceToNat, Int.reduceLT, Int.reduceLE, Int.reduceEq, Int.reduceNeg, Nat.reduceLT, QT3, QT4, QT9, QT31, QT39, QT41, QT48, QT52, QT54, QT57, QT59, QT61, QT21, QT22, QT49, t_call imp69, t_call imp60, t_call imp52, t_call imp51, t_call imp40]
    rw [hN (fun h => by have := h.1; omega)]
  · by_cases h2 : WF p
    · by_cases h3 : pdg (p.terms.map rt) ≤ 24
      · have d3 : decide (pdg (p.terms.map rt) ≤ 24) = true := decide_eq_true h3
        have d4 : decide (((p.terms.map rt).length : Int) ≤ 4096) = true := decide_eq_true (by simp; omega)
        simp -implicitDefEqProofs (disch := first | omega | assumption | (simp only [QN, rows64_len] <;> omega)) only [QB, QL, Nat.reduceSub, Nat.reduceAdd, Nat.reduceLeDiff, Nat.reduceEqDiff, reduceCtorEq, ↓reduceIte, Int.reduceAdd, Int.reduceSub, Int.reduceToNat, Int.reduceLT, Int.reduceLE, Int.reduceEq, Int.reduceNeg, Nat.reduceLT, QT3, QT4, QT9, QT31, QT39, QT41, QT48, QT52, QT54, QT57, QT59, QT61, QT21, QT22, QT49, t_call imp69, t_call imp60, t_call imp52, t_call imp51, t_call imp40, ev_wfY, ev_fits, d3, d4]
        rw [hY ⟨by omega, h2, (pdg_le p h2).1 h3⟩]
      · have d3 : decide (pdg (p.terms.map rt) ≤ 24) = false := decide_eq_false h3
        simp -implicitDefEqProofs (disch := first | omega | assumption | (simp only [QN, rows64_len] <;> omega)) only [QB, QL, Nat.reduceSub, Nat.reduceAdd, Nat.reduceLeDiff, Nat.reduceEqDiff, reduceCtorEq, ↓reduceIte, Int.reduceAdd, Int.reduceSub, Int.reduceToNat, Int.reduceLT, Int.reduceLE, Int.reduceEq, Int.reduceNeg, Nat.reduceLT, QT3, QT4, QT9, QT31, QT39, QT41, QT48, QT52, QT54, QT57, QT59, QT61, QT21, QT22, QT49, t_call imp69, t_call imp60, t_call imp52, t_call imp51, t_call imp40, ev_wfY, ev_fits, d3]
        rw [hN (fun h => h3 ((pdg_le p h2).2 h.2.2))]
    · simp -implicitDefEqProofs (disch := first | omega | assumption | (simp only [QN, rows64_len] <;> omega)) only [QB, QL, Nat.reduceSub, Nat.reduceAdd, Nat.reduceLeDiff, Nat.reduceEqDiff, reduceCtorEq, ↓reduceIte, Int.reduceAdd, Int.reduceSub, Int.reduceToNat, Int.reduceLT, Int.reduceLE, Int.reduceEq, Int.reduceNeg, Nat.reduceLT, QT3, QT4, QT9, QT31, QT39, QT41, QT48, QT52, QT54, QT57, QT59, QT61, QT21, QT22, QT49, t_call imp69, t_call imp60, t_call imp52, t_call imp51, t_call imp40, ev_wfN]
      rw [hN (fun h => h2 h.2.1)]
theorem ev_mofY (p : Po) (h : OKP p) (hc : ∀ j, j < p.terms.length → (p.terms.getD j default).coef.length ≤ 9 ∧ (p.terms.getD j default).exps.length ≤ 1000) (hl : p.terms.length ≤ 1000000) (n : Nat) (hn : 200000000000 < n) :
    pcall G n 40 [.agg [.t (.int .i64 p.vars), .t (tms p.terms)]] [] = some (.tup [.agg [.t (.int .i64 p.vars), .t (tms64 (p.terms.map rt))], boo true], []) :=
  ev_mof0 p hc hl n hn _ (fun _ => rfl) (fun h' => absurd h h')
theorem ev_mofN (p : Po) (h : ¬ OKP p) (hc : ∀ j, j < p.terms.length → (p.terms.getD j default).coef.length ≤ 9 ∧ (p.terms.getD j default).exps.length ≤ 1000) (hl : p.terms.length ≤ 1000000) (n : Nat) (hn : 200000000000 < n) :
    pcall G n 40 [.agg [.t (.int .i64 p.vars), .t (tms p.terms)]] [] = some (.tup [.agg [.t (.int .i64 0), .t (.sl 0 [])], boo false], []) :=
  ev_mof0 p hc hl n hn _ (fun h' => absurd h' h) (fun _ => rfl)
structure RPo where
  n : Int
  t : List RTm
  deriving Inhabited
noncomputable def rpo (p : Po) : RPo := ⟨p.vars, p.terms.map rt⟩
noncomputable def encR64 (x : RPo) : List T := [.int .i64 x.n, tms64 x.t]
theorem encR64_len (x : RPo) : (encR64 x).length = 2 := rfl
theorem rowsR_len {xs : List RPo} : (rows encR64 xs).length = xs.length * 2 := rows_len encR64_len
theorem fl2_len {k : Nat} {a b : T} : ((List.replicate k [a, b]).flatten).length = k * 2 := by
  induction k with
  | zero => rfl
  | succ k ih => rw [List.replicate_succ, List.flatten_cons, List.length_append, ih]; simp; omega
theorem ldS_Po (p : Po) : ldS [.int .i64, .sl 2] (encPo p) 0 = some (.agg [.t (.int .i64 p.vars), .t (tms p.terms)], []) := rfl
def Smal (p : Po) : Prop := (∀ j, j < p.terms.length → (p.terms.getD j default).coef.length ≤ 9 ∧ (p.terms.getD j default).exps.length ≤ 1000) ∧ p.terms.length ≤ 1000000
theorem zeroR (n : Nat) : zeroRow ⟨TK.struct [(0, 3), (1, 52)], 2, 32, [CK.int IntKind.i64, CK.sl 9]⟩ n = (List.replicate n [T.int .i64 0, .nils]).flatten := rfl
theorem ev_list0 (l : List Po) (hl : l.length ≤ 1000000) (hs : ∀ j, j < l.length → Smal (l.getD j default)) (n : Nat) (hn : 290000000000 < n) (R : V)
    (hY : (∀ p ∈ l, OKP p) → R = .tup [.c (.t (.sl l.length (rows encR64 (l.map rpo)))), boo true]) (hN : ¬ (∀ p ∈ l, OKP p) → R = .tup [.c (.t (.sl 0 [])), boo false]) : pcall G n 21 [.c (.t (.sl l.length (rows encPo l)))] [] = some (R, []) := by
  obtain ⟨n, rfl⟩ : ∃ m, n = m + 1 := ⟨n - 1, by omega⟩; rw [pcall_at fn21 rfl, imp21, G_tb]
  simp -implicitDefEqProofs (disch := first | omega | assumption | (simp only [QN, rows64_len, rowsR_len, fl2_len, noSet_n] <;> omega)) only [QB, QL, Nat.reduceSub, Nat.reduceAdd, Nat.reduceLeDiff, Nat.reduceEqDiff, reduceCtorEq, ↓reduceIte, Int.reduceAdd, Int.reduceSub, Int.reduceToNat, Int.reduceLT, Int.reduceLE, Int.reduceEq, Int.reduceNeg, Nat.reduceLT, QT3, QT4, QT9, QT31, QT39, QT41, QT48, QT52, QT54, QT57, QT59, QT61, QT21, QT22, QT49, t_call imp69, t_call imp60, t_call imp52, t_call imp51, t_call imp40, ldS_rows0 encPo_len, ldS_Po]
  refine loop_up l.length (fun i fr H => fr = [.any, .any, .c (.t (.sl 0 [])), boo false, .c (.osl 0 0 l.length 2), .any, .any, .any, .any, .any, .any, .any, .c (.t (.sl l.length (rows encPo l))), num l.length, num i, .any, .any, .any, .any, .any, .any, .any, .any, .any, .any, .any, .any, .any, .any, .any, .any, .any] ∧ (∀ j, j < i → OKP (l.getD j default)) ∧
    H = [.flat false (rows encR64 ((l.take i).map rpo) ++ (List.replicate (l.length - i) [T.int .i64 0, .nils]).flatten)]) ?_ ?_ ?_
  · rintro i fr H n' hi ⟨rfl, hw, rfl⟩ IH
    simp -implicitDefEqProofs (disch := first | omega | assumption | (simp only [QN, rows64_len, rowsR_len, fl2_len, noSet_n] <;> omega)) only [QB, QL, Nat.reduceSub, Nat.reduceAdd, Nat.reduceLeDiff, Nat.reduceEqDiff, reduceCtorEq, ↓reduceIte, Int.reduceAdd, Int.reduceSub, Int.reduceToNat, Int.reduceLT, Int.reduceLE, Int.reduceEq, Int.reduceNeg, Nat.reduceLT, QT3, QT4, QT9, QT31, QT39, QT41, QT48, QT52, QT54, QT57, QT59, QT61, QT21, QT22, QT49, t_call imp69, t_call imp60, t_call imp52, t_call imp51, t_call imp40, ldS_rows0 encPo_len, ldS_Po]
    by_cases h1 : (i : Int) < l.length <;> simp (disch := omega) only [h1, decide_true, decide_false, Bool.not_true, Bool.not_false, reduceCtorEq, ↓reduceIte, Option.bind_some]
    · have hb := hs i (by omega)
      by_cases h2 : OKP (l.getD i default)
      · have hb1 := hb.1
        have hb2 := hb.2
        simp -implicitDefEqProofs (disch := first | omega | assumption | (simp only [QN, rows64_len, rowsR_len, fl2_len, noSet_n] <;> omega)) only [QB, QL, Nat.reduceSub, Nat.reduceAdd, Nat.reduceLeDiff, Nat.reduceEqDiff, reduceCtorEq, ↓reduceIte, Int.reduceAdd, Int.reduceSub, Int.reduceToNat, Int.reduceLT, Int.reduceLE, Int.reduceEq, Int.reduceNeg, Nat.reduceLT, QT3, QT4, QT9, QT31, QT39, QT41, QT48, QT52, QT54, QT57, QT59, QT61, QT21, QT22, QT49, t_call imp69, t_call imp60, t_call imp52, t_call imp51, t_call imp40, ldS_rows0 encPo_len, ldS_Po, ev_mofY]
        have e1 := putRows (enc := encR64) (zs := (List.replicate (l.length - i) [T.int .i64 0, T.nils]).flatten) (k := l.length - i) encR64_len fl2_len (xs := (l.take i).map rpo) (x := rpo (l.getD i default)) (by omega)
        rw [show ((l.take i).map rpo).length * 2 = i * 2 by simp; omega] at e1
        have e2 : ((List.replicate (l.length - i) [T.int .i64 0, T.nils]).flatten).drop 2 = (List.replicate (l.length - (i + 1)) [T.int .i64 0, T.nils]).flatten := by
          rw [show l.length - i = l.length - (i + 1) + 1 by omega, List.replicate_succ, List.flatten_cons]; rfl
        have e3 : (l.take i).map rpo ++ [rpo (l.getD i default)] = (l.take (i + 1)).map rpo := by rw [take_snoc default (by omega), List.map_append]; rfl
        rw [e2, e3] at e1
        have e4 : ((rows encR64 ((l.take i).map rpo) ++ (List.replicate (l.length - i) [T.int .i64 0, T.nils]).flatten).set (i * 2) (T.int .i64 (l.getD i default).vars)).set (i * 2 + 1) (tms64 ((l.getD i default).terms.map rt)) = _ := e1
        rw [e4]
        refine IH _ (by omega) ⟨_, _, ?_, rfl, ?_, rfl⟩
        · rw [show ((i + 1 : Nat) : Int) = (i : Int) + 1 by omega]
          kernel_rfl
        · intro j hj
          by_cases hji : j < i
          · exact hw j hji
          · have : j = i := by omega
            subst this; exact h2
      · have hb1 := hb.1
        have hb2 := hb.2
        simp -implicitDefEqProofs (disch := first | omega | assumption | (simp only [QN, rows64_len, rowsR_len, fl2_len, noSet_n] <;> omega)) only [QB, QL, Nat.reduceSub, Nat.reduceAdd, Nat.reduceLeDiff, Nat.reduceEqDiff, reduceCtorEq, ↓reduceIte, Int.reduceAdd, Int.reduceSub, Int.reduceToNat, Int.reduceLT, Int.reduceLE, Int.reduceEq, Int.reduceNeg, Nat.reduceLT, QT3, QT4, QT9, QT31, QT39, QT41, QT48, QT52, QT54, QT57, QT59, QT61, QT21, QT22, QT49, t_call imp69, t_call imp60, t_call imp52, t_call imp51, t_call imp40, ldS_rows0 encPo_len, ldS_Po, ev_mofN]
        rw [hN (fun h => h2 (h _ (by rw [getD_lt (by omega)]; exact List.getElem_mem _)))]
    · simp -implicitDefEqProofs (disch := first | omega | assumption | (simp only [QN, rows64_len, rowsR_len, fl2_len, noSet_n] <;> omega)) only [QB, QL, Nat.reduceSub, Nat.reduceAdd, Nat.reduceLeDiff, Nat.reduceEqDiff, reduceCtorEq, ↓reduceIte, Int.reduceAdd, Int.reduceSub, Int.reduceToNat, Int.reduceLT, Int.reduceLE, Int.reduceEq, Int.reduceNeg, Nat.reduceLT, QT3, QT4, QT9, QT31, QT39, QT41, QT48, QT52, QT54, QT57, QT59, QT61, QT21, QT22, QT49, t_call imp69, t_call imp60, t_call imp52, t_call imp51, t_call imp40, ldS_rows0 encPo_len, ldS_Po]
      have hie : i = l.length := by omega
      subst hie
      rw [hY (fun p hp => by
        obtain ⟨j, hj, rfl⟩ := List.getElem_of_mem hp
        have := hw j hj
        rwa [getD_lt hj] at this)]
      simp [sub_allN, rowsR_len]
  · omega
  · refine ⟨_, _, ?_, rfl, by intro j hj; omega, rfl⟩
    kernel_rfl
end Go.Proofs.Ythjmbppofgadaaa

namespace Go.Proofs.Ythjmbppofgadaaa
open Go Go.AM
set_option maxHeartbeats 4000000
set_option maxRecDepth 100000
def MV (m : List Int) : Prop := m.length ≤ 6 ∧ (∀ x ∈ m, 0 ≤ x) ∧ sumL m ≤ 24
theorem sumL_nn : ∀ {xs : List Int}, (∀ x ∈ xs, 0 ≤ x) → 0 ≤ sumL xs
  | [], _ => by simp [sumL]
  | x :: xs, h => by
    have h1 := h x (by simp)
    have h2 := sumL_nn (xs := xs) fun y hy => h y (by simp [hy])
    simp only [sumL]; omega
theorem sumL_part {m : List Int} (h : ∀ x ∈ m, 0 ≤ x) (i : Nat) : sumL (m.take i) ≤ sumL m := by
  have h1 : sumL m = sumL (m.take i) + sumL (m.drop i) := by rw [← sumL_app, List.take_append_drop]
  have h2 := sumL_nn (xs := m.drop i) fun x hx => h x (List.mem_of_mem_drop hx)
  omega
theorem getD_mem {m : List Int} {i : Nat} (hi : i < m.length) : m.getD i 0 ∈ m := by rw [getD_lt hi]; exact List.getElem_mem _
theorem MV.in {m : List Int} (h : MV m) : Within 24 m := by
  intro x hx
  refine ⟨h.2.1 x hx, ?_⟩
  obtain ⟨j, hj, rfl⟩ := List.getElem_of_mem hx
  have h1 := sumL_part h.2.1 (j + 1)
  rw [take_snoc 0 hj, sumL_app] at h1
  have h2 := sumL_nn (xs := m.take j) fun x hx => h.2.1 x (List.mem_of_mem_take hx)
  have h3 := h.2.2
  simp only [sumL, getD_lt hj] at h1
  omega
theorem take_nn {m : List Int} {i : Nat} (h : ∀ x ∈ m.take i, 0 ≤ x) (hi : i < m.length) (hx : 0 ≤ m.getD i 0) : ∀ x ∈ m.take (i + 1), 0 ≤ x := by
  rw [take_snoc 0 hi]
  intro x h2
  rcases List.mem_append.1 h2 with h2 | h2
  · exact h x h2
  · rw [List.mem_singleton] at h2; subst h2; exact hx
theorem ev_rdeg0 (m : List Int) (hl : m.length ≤ 1000000) (n : Nat) (hn : 100 ≤ n) (R : V) (hY : MV m → R = num (sumL m)) (hN : ¬ MV m → R = num (-1)) : pcall G n 55 [.c (.t (ints m))] [] = some (R, []) := by
  obtain ⟨n, rfl⟩ : ∃ m, n = m + 1 := ⟨n - 1, by omega⟩; rw [pcall_at fn55 rfl, imp55, G_tb]
  simp -implicitDefEqProofs (disch := (first | omega | assumption | fail)) only [QB, QL, Nat.reduceSub, Nat.reduceAdd, Nat.reduceLeDiff, Nat.reduceEqDiff, reduceCtorEq, ↓reduceIte, Int.reduceAdd, Int.reduceSub, Int.reduceToNat, Int.reduceLT, Int.reduceLE, Int.reduceEq, Int.reduceNeg, Nat.reduceLT, QT3, QT4, QT31, QT9, QT39, QT41, QT48, QT69, QT71, QT97, QT99, QT22, QT66, t_call imp55, t_call imp36, t_call imp49, t_call imp53, t_call imp44]
  by_cases h1 : (6 : Int) < m.length <;> simp (disch := omega) only [h1, decide_true, decide_false, Bool.not_true, Bool.not_false, reduceCtorEq, ↓reduceIte, Option.bind_some]
  · simp -implicitDefEqProofs (disch := (first | omega | assumption | fail)) only [QB, QL, Nat.reduceSub, Nat.reduceAdd, Nat.reduceLeDiff, Nat.reduceEqDiff, reduceCtorEq, ↓reduceIte, Int.reduceAdd, Int.reduceSub, Int.reduceToNat, Int.reduceLT, Int.reduceLE, Int.reduceEq, Int.reduceNeg, Nat.reduceLT, QT3, QT4, QT31, QT9, QT39, QT41, QT48, QT69, QT71, QT97, QT99, QT22, QT66, t_call imp55, t_call imp36, t_call imp49, t_call imp53, t_call imp44]
    rw [hN (fun h => by have := h.1; omega)]
  · simp -implicitDefEqProofs (disch := (first | omega | assumption | fail)) only [QB, QL, Nat.reduceSub, Nat.reduceAdd, Nat.reduceLeDiff, Nat.reduceEqDiff, reduceCtorEq, ↓reduceIte, Int.reduceAdd, Int.reduceSub, Int.reduceToNat, Int.reduceLT, Int.reduceLE, Int.reduceEq, Int.reduceNeg, Nat.reduceLT, QT3, QT4, QT31, QT9, QT39, QT41, QT48, QT69, QT71, QT97, QT99, QT22, QT66, t_call imp55, t_call imp36, t_call imp49, t_call imp53, t_call imp44]
    refine loop_up m.length (fun i fr H => fr = [.c (.t (ints m)), .any, num 0, num (sumL (m.take i)), num i, .any, .any, .any, .any, .any, .any, .any, .any, .any, .any, .any, .any, .any, .any, .any, .any, .any, .any, .any, .any, .any, .any, .any, .any, .any, .any, .any, .any, .any, .any] ∧ H = [] ∧ (∀ x ∈ m.take i, 0 ≤ x) ∧ sumL (m.take i) ≤ 24) ?_ ?_ ?_
    · rintro i fr H n' hi ⟨rfl, rfl, hw, hs⟩ IH
      have hs0 := sumL_nn hw
      simp -implicitDefEqProofs (disch := (first | omega | assumption | fail)) only [QB, QL, Nat.reduceSub, Nat.reduceAdd, Nat.reduceLeDiff, Nat.reduceEqDiff, reduceCtorEq, ↓reduceIte, Int.reduceAdd, Int.reduceSub, Int.reduceToNat, Int.reduceLT, Int.reduceLE, Int.reduceEq, Int.reduceNeg, Nat.reduceLT, QT3, QT4, QT31, QT9, QT39, QT41, QT48, QT69, QT71, QT97, QT99, QT22, QT66, t_call imp55, t_call imp36, t_call imp49, t_call imp53, t_call imp44]
      by_cases h2 : (i : Int) < m.length <;> simp (disch := omega) only [h2, decide_true, decide_false, Bool.not_true, Bool.not_false, reduceCtorEq, ↓reduceIte, Option.bind_some]
      · simp -implicitDefEqProofs (disch := (first | omega | assumption | fail)) only [QB, QL, Nat.reduceSub, Nat.reduceAdd, Nat.reduceLeDiff, Nat.reduceEqDiff, reduceCtorEq, ↓reduceIte, Int.reduceAdd, Int.reduceSub, Int.reduceToNat, Int.reduceLT, Int.reduceLE, Int.reduceEq, Int.reduceNeg, Nat.reduceLT, QT3, QT4, QT31, QT9, QT39, QT41, QT48, QT69, QT71, QT97, QT99, QT22, QT66, t_call imp55, t_call imp36, t_call imp49, t_call imp53, t_call imp44]
        by_cases h3 : m.getD i 0 < 0 <;> simp (disch := omega) only [h3, decide_true, decide_false, Bool.not_true, Bool.not_false, reduceCtorEq, ↓reduceIte, Option.bind_some]
        · simp -implicitDefEqProofs (disch := (first | omega | assumption | fail)) only [QB, QL, Nat.reduceSub, Nat.reduceAdd, Nat.reduceLeDiff, Nat.reduceEqDiff, reduceCtorEq, ↓reduceIte, Int.reduceAdd, Int.reduceSub, Int.reduceToNat, Int.reduceLT, Int.reduceLE, Int.reduceEq, Int.reduceNeg, Nat.reduceLT, QT3, QT4, QT31, QT9, QT39, QT41, QT48, QT69, QT71, QT97, QT99, QT22, QT66, t_call imp55, t_call imp36, t_call imp49, t_call imp53, t_call imp44]
          rw [hN (fun h => by have := h.2.1 _ (getD_mem (i := i) (by omega)); omega)]
        · simp -implicitDefEqProofs (disch := (first | omega | assumption | fail)) only [QB, QL, Nat.reduceSub, Nat.reduceAdd, Nat.reduceLeDiff, Nat.reduceEqDiff, reduceCtorEq, ↓reduceIte, Int.reduceAdd, Int.reduceSub, Int.reduceToNat, Int.reduceLT, Int.reduceLE, Int.reduceEq, Int.reduceNeg, Nat.reduceLT, QT3, QT4, QT31, QT9, QT39, QT41, QT48, QT69, QT71, QT97, QT99, QT22, QT66, t_call imp55, t_call imp36, t_call imp49, t_call imp53, t_call imp44]
          by_cases h4 : 24 - sumL (m.take i) < m.getD i 0 <;> simp (disch := omega) only [h4, decide_true, decide_false, Bool.not_true, Bool.not_false, reduceCtorEq, ↓reduceIte, Option.bind_some]
          · simp -implicitDefEqProofs (disch := (first | omega | assumption | fail)) only [QB, QL, Nat.reduceSub, Nat.reduceAdd, Nat.reduceLeDiff, Nat.reduceEqDiff, reduceCtorEq, ↓reduceIte, Int.reduceAdd, Int.reduceSub, Int.reduceToNat, Int.reduceLT, Int.reduceLE, Int.reduceEq, Int.reduceNeg, Nat.reduceLT, QT3, QT4, QT31, QT9, QT39, QT41, QT48, QT69, QT71, QT97, QT99, QT22, QT66, t_call imp55, t_call imp36, t_call imp49, t_call imp53, t_call imp44]
            rw [hN (fun h => by have := sumL_part h.2.1 (i + 1); rw [sumL_take (by omega)] at this; have := h.2.2; omega)]
          · simp -implicitDefEqProofs (disch := (first | omega | assumption | fail)) only [QB, QL, Nat.reduceSub, Nat.reduceAdd, Nat.reduceLeDiff, Nat.reduceEqDiff, reduceCtorEq, ↓reduceIte, Int.reduceAdd, Int.reduceSub, Int.reduceToNat, Int.reduceLT, Int.reduceLE, Int.reduceEq, Int.reduceNeg, Nat.reduceLT, QT3, QT4, QT31, QT9, QT39, QT41, QT48, QT69, QT71, QT97, QT99, QT22, QT66, t_call imp55, t_call imp36, t_call imp49, t_call imp53, t_call imp44]
            rw [← sumL_take (by omega)]
            refine IH _ (by omega) ⟨_, _, ?_, rfl, rfl, take_nn hw (by omega) (by omega), by rw [sumL_take (by omega)]; omega⟩
            rw [show ((i + 1 : Nat) : Int) = (i : Int) + 1 by omega]
            kernel_rfl
      · simp -implicitDefEqProofs (disch := (first | omega | assumption | fail)) only [QB, QL, Nat.reduceSub, Nat.reduceAdd, Nat.reduceLeDiff, Nat.reduceEqDiff, reduceCtorEq, ↓reduceIte, Int.reduceAdd, Int.reduceSub, Int.reduceToNat, Int.reduceLT, Int.reduceLE, Int.reduceEq, Int.reduceNeg, Nat.reduceLT, QT3, QT4, QT31, QT9, QT39, QT41, QT48, QT69, QT71, QT97, QT99, QT22, QT66, t_call imp55, t_call imp36, t_call imp49, t_call imp53, t_call imp44]
        have hie : i = m.length := by omega
        subst hie
        rw [List.take_length] at hw hs ⊢
        rw [hY ⟨by omega, hw, hs⟩]
    · omega
    · refine ⟨_, _, ?_, rfl, rfl, by intro x hx; simp at hx, by simp [sumL]⟩
      kernel_rfl
open Classical in
theorem ev_rvalid (m : List Int) (hl : m.length ≤ 1000000) (n : Nat) (hn : 200 ≤ n) : pcall G n 49 [.c (.t (ints m))] [] = some (boo (decide (MV m)), []) := by
  obtain ⟨n, rfl⟩ : ∃ m, n = m + 1 := ⟨n - 1, by omega⟩; rw [pcall_at fn49 rfl, imp49, G_tb]
  simp -implicitDefEqProofs (disch := (first | omega | assumption | fail)) only [QB, QL, Nat.reduceSub, Nat.reduceAdd, Nat.reduceLeDiff, Nat.reduceEqDiff, reduceCtorEq, ↓reduceIte, Int.reduceAdd, Int.reduceSub, Int.reduceToNat, Int.reduceLT, Int.reduceLE, Int.reduceEq, Int.reduceNeg, Nat.reduceLT, QT3, QT4, QT31, QT9, QT39, QT41, QT48, QT69, QT71, QT97, QT99, QT22, QT66, t_call imp55, t_call imp36, t_call imp49, t_call imp53, t_call imp44]
  by_cases h1 : (m.length : Int) ≤ 6
  · have d1 : decide ((m.length : Int) ≤ 6) = true := decide_eq_true h1
    by_cases h2 : MV m
    · have h0 := sumL_nn h2.2.1
      have hd := fun n hn => ev_rdeg0 m hl n hn _ (fun _ => rfl) (fun h => absurd h2 h)
      have d2 : decide (0 ≤ sumL m) = true := decide_eq_true h0
      rw [decide_eq_true h2]
      simp -implicitDefEqProofs (disch := (first | omega | assumption | fail)) only [QB, QL, Nat.reduceSub, Nat.reduceAdd, Nat.reduceLeDiff, Nat.reduceEqDiff, reduceCtorEq, ↓reduceIte, Int.reduceAdd, Int.reduceSub, Int.reduceToNat, Int.reduceLT, Int.reduceLE, Int.reduceEq, Int.reduceNeg, Nat.reduceLT, QT3, QT4, QT31, QT9, QT39, QT41, QT48, QT69, QT71, QT97, QT99, QT22, QT66, t_call imp55, t_call imp36, t_call imp49, t_call imp53, t_call imp44, d1, hd, d2]
    · have hd := fun n hn => ev_rdeg0 m hl n hn _ (fun h => absurd h h2) (fun _ => rfl)
      rw [decide_eq_false h2]
      simp -implicitDefEqProofs (disch := (first | omega | assumption | fail)) only [QB, QL, Nat.reduceSub, Nat.reduceAdd, Nat.reduceLeDiff, Nat.reduceEqDiff, reduceCtorEq, ↓reduceIte, Int.reduceAdd, Int.reduceSub, Int.reduceToNat, Int.reduceLT, Int.reduceLE, Int.reduceEq, Int.reduceNeg, Nat.reduceLT, QT3, QT4, QT31, QT9, QT39, QT41, QT48, QT69, QT71, QT97, QT99, QT22, QT66, t_call imp55, t_call imp36, t_call imp49, t_call imp53, t_call imp44, d1, hd]
  · have d1 : decide ((m.length : Int) ≤ 6) = false := decide_eq_false h1
    rw [decide_eq_false (fun h : MV m => h1 (by have := h.1; omega))]
    simp -implicitDefEqProofs (disch := (first | omega | assumption | fail)) only [QB, QL, Nat.reduceSub, Nat.reduceAdd, Nat.reduceLeDiff, Nat.reduceEqDiff, reduceCtorEq, ↓reduceIte, Int.reduceAdd, Int.reduceSub, Int.reduceToNat, Int.reduceLT, Int.reduceLE, Int.reduceEq, Int.reduceNeg, Nat.reduceLT, QT3, QT4, QT31, QT9, QT39, QT41, QT48, QT69, QT71, QT97, QT99, QT22, QT66, t_call imp55, t_call imp36, t_call imp49, t_call imp53, t_call imp44, d1]
theorem ev_mdeg0 (m : List Int) (hl : m.length ≤ 1000000) (n : Nat) (hn : 100 ≤ n) (R : V) (hY : MV m → R = num (sumL m)) (hN : ¬ MV m → R = num (-1)) : pcall G n 36 [.c (.t (ints m))] [] = some (R, []) := by
  obtain ⟨n, rfl⟩ : ∃ m, n = m + 1 := ⟨n - 1, by omega⟩; rw [pcall_at fn36 rfl, imp36, G_tb]
  simp -implicitDefEqProofs (disch := (first | omega | assumption | fail)) only [QB, QL, Nat.reduceSub, Nat.reduceAdd, Nat.reduceLeDiff, Nat.reduceEqDiff, reduceCtorEq, ↓reduceIte, Int.reduceAdd, Int.reduceSub, Int.reduceToNat, Int.reduceLT, Int.reduceLE, Int.reduceEq, Int.reduceNeg, Nat.reduceLT, QT3, QT4, QT31, QT9, QT39, QT41, QT48, QT69, QT71, QT97, QT99, QT22, QT66, t_call imp55, t_call imp36, t_call imp49, t_call imp53, t_call imp44]
  by_cases h1 : (6 : Int) < m.length <;> simp (disch := omega) only [h1, decide_true, decide_false, Bool.not_true, Bool.not_false, reduceCtorEq, ↓reduceIte, Option.bind_some]
  · simp -implicitDefEqProofs (disch := (first | omega | assumption | fail)) only [QB, QL, Nat.reduceSub, Nat.reduceAdd, Nat.reduceLeDiff, Nat.reduceEqDiff, reduceCtorEq, ↓reduceIte, Int.reduceAdd, Int.reduceSub, Int.reduceToNat, Int.reduceLT, Int.reduceLE, Int.reduceEq, Int.reduceNeg, Nat.reduceLT, QT3, QT4, QT31, QT9, QT39, QT41, QT48, QT69, QT71, QT97, QT99, QT22, QT66, t_call imp55, t_call imp36, t_call imp49, t_call imp53, t_call imp44]
    rw [hN (fun h => by have := h.1; omega)]
  · simp -implicitDefEqProofs (disch := (first | omega | assumption | fail)) only [QB, QL, Nat.reduceSub, Nat.reduceAdd, Nat.reduceLeDiff, Nat.reduceEqDiff, reduceCtorEq, ↓reduceIte, Int.reduceAdd, Int.reduceSub, Int.reduceToNat, Int.reduceLT, Int.reduceLE, Int.reduceEq, Int.reduceNeg, Nat.reduceLT, QT3, QT4, QT31, QT9, QT39, QT41, QT48, QT69, QT71, QT97, QT99, QT22, QT66, t_call imp55, t_call imp36, t_call imp49, t_call imp53, t_call imp44]
    refine loop_up m.length (fun i fr H => fr = [.any, .any, num 0, num (sumL (m.take i)), .any, .any, .any, .any, .any, .c (.t (ints m)), num m.length, num i, .any, .any, .any, .any, .any, .any, .any, .any, .any, .any, .any, .any, .any, .any, .any, .any] ∧ H = [] ∧ Within 24 (m.take i)) ?_ ?_ ?_
    · rintro i fr H n' hi ⟨rfl, rfl, hw⟩ IH
      have hs0 := sumL_bd (by decide) hw
      have hlt : (m.take i).length ≤ 6 := by simp; omega
      simp -implicitDefEqProofs (disch := (first | omega | assumption | fail)) only [QB, QL, Nat.reduceSub, Nat.reduceAdd, Nat.reduceLeDiff, Nat.reduceEqDiff, reduceCtorEq, ↓reduceIte, Int.reduceAdd, Int.reduceSub, Int.reduceToNat, Int.reduceLT, Int.reduceLE, Int.reduceEq, Int.reduceNeg, Nat.reduceLT, QT3, QT4, QT31, QT9, QT39, QT41, QT48, QT69, QT71, QT97, QT99, QT22, QT66, t_call imp55, t_call imp36, t_call imp49, t_call imp53, t_call imp44]
      by_cases h2 : (i : Int) < m.length <;> simp (disch := omega) only [h2, decide_true, decide_false, Bool.not_true, Bool.not_false, reduceCtorEq, ↓reduceIte, Option.bind_some]
      · simp -implicitDefEqProofs (disch := (first | omega | assumption | fail)) only [QB, QL, Nat.reduceSub, Nat.reduceAdd, Nat.reduceLeDiff, Nat.reduceEqDiff, reduceCtorEq, ↓reduceIte, Int.reduceAdd, Int.reduceSub, Int.reduceToNat, Int.reduceLT, Int.reduceLE, Int.reduceEq, Int.reduceNeg, Nat.reduceLT, QT3, QT4, QT31, QT9, QT39, QT41, QT48, QT69, QT71, QT97, QT99, QT22, QT66, t_call imp55, t_call imp36, t_call imp49, t_call imp53, t_call imp44]
        by_cases h3 : m.getD i 0 < 0 <;> simp (disch := omega) only [h3, decide_true, decide_false, Bool.not_true, Bool.not_false, reduceCtorEq, ↓reduceIte, Option.bind_some]
        · simp -implicitDefEqProofs (disch := (first | omega | assumption | fail)) only [QB, QL, Nat.reduceSub, Nat.reduceAdd, Nat.reduceLeDiff, Nat.reduceEqDiff, reduceCtorEq, ↓reduceIte, Int.reduceAdd, Int.reduceSub, Int.reduceToNat, Int.reduceLT, Int.reduceLE, Int.reduceEq, Int.reduceNeg, Nat.reduceLT, QT3, QT4, QT31, QT9, QT39, QT41, QT48, QT69, QT71, QT97, QT99, QT22, QT66, t_call imp55, t_call imp36, t_call imp49, t_call imp53, t_call imp44]
          rw [hN (fun h => by have := h.in.getD (by decide) i; omega)]
        · simp -implicitDefEqProofs (disch := (first | omega | assumption | fail)) only [QB, QL, Nat.reduceSub, Nat.reduceAdd, Nat.reduceLeDiff, Nat.reduceEqDiff, reduceCtorEq, ↓reduceIte, Int.reduceAdd, Int.reduceSub, Int.reduceToNat, Int.reduceLT, Int.reduceLE, Int.reduceEq, Int.reduceNeg, Nat.reduceLT, QT3, QT4, QT31, QT9, QT39, QT41, QT48, QT69, QT71, QT97, QT99, QT22, QT66, t_call imp55, t_call imp36, t_call imp49, t_call imp53, t_call imp44]
          by_cases h4 : 24 < m.getD i 0 <;> simp (disch := omega) only [h4, decide_true, decide_false, Bool.not_true, Bool.not_false, reduceCtorEq, ↓reduceIte, Option.bind_some]
          · simp -implicitDefEqProofs (disch := (first | omega | assumption | fail)) only [QB, QL, Nat.reduceSub, Nat.reduceAdd, Nat.reduceLeDiff, Nat.reduceEqDiff, reduceCtorEq, ↓reduceIte, Int.reduceAdd, Int.reduceSub, Int.reduceToNat, Int.reduceLT, Int.reduceLE, Int.reduceEq, Int.reduceNeg, Nat.reduceLT, QT3, QT4, QT31, QT9, QT39, QT41, QT48, QT69, QT71, QT97, QT99, QT22, QT66, t_call imp55, t_call imp36, t_call imp49, t_call imp53, t_call imp44]
            rw [hN (fun h => by have := h.in.getD (by decide) i; omega)]
          · simp -implicitDefEqProofs (disch := (first | omega | assumption | fail)) only [QB, QL, Nat.reduceSub, Nat.reduceAdd, Nat.reduceLeDiff, Nat.reduceEqDiff, reduceCtorEq, ↓reduceIte, Int.reduceAdd, Int.reduceSub, Int.reduceToNat, Int.reduceLT, Int.reduceLE, Int.reduceEq, Int.reduceNeg, Nat.reduceLT, QT3, QT4, QT31, QT9, QT39, QT41, QT48, QT69, QT71, QT97, QT99, QT22, QT66, t_call imp55, t_call imp36, t_call imp49, t_call imp53, t_call imp44]
            rw [← sumL_take (by omega)]
            refine IH _ (by omega) ⟨_, _, ?_, rfl, rfl, hw.snoc (by omega) (by omega)⟩
            rw [show ((i + 1 : Nat) : Int) = (i : Int) + 1 by omega]
            kernel_rfl
      · have hie : i = m.length := by omega
        subst hie
        rw [List.take_length] at hw hs0 hlt ⊢
        simp -implicitDefEqProofs (disch := (first | omega | assumption | fail)) only [QB, QL, Nat.reduceSub, Nat.reduceAdd, Nat.reduceLeDiff, Nat.reduceEqDiff, reduceCtorEq, ↓reduceIte, Int.reduceAdd, Int.reduceSub, Int.reduceToNat, Int.reduceLT, Int.reduceLE, Int.reduceEq, Int.reduceNeg, Nat.reduceLT, QT3, QT4, QT31, QT9, QT39, QT41, QT48, QT69, QT71, QT97, QT99, QT22, QT66, t_call imp55, t_call imp36, t_call imp49, t_call imp53, t_call imp44]
        by_cases h5 : 24 < sumL m <;> simp (disch := omega) only [h5, decide_true, decide_false, Bool.not_true, Bool.not_false, reduceCtorEq, ↓reduceIte, Option.bind_some]
        · simp -implicitDefEqProofs (disch := (first | omega | assumption | fail)) only [QB, QL, Nat.reduceSub, Nat.reduceAdd, Nat.reduceLeDiff, Nat.reduceEqDiff, reduceCtorEq, ↓reduceIte, Int.reduceAdd, Int.reduceSub, Int.reduceToNat, Int.reduceLT, Int.reduceLE, Int.reduceEq, Int.reduceNeg, Nat.reduceLT, QT3, QT4, QT31, QT9, QT39, QT41, QT48, QT69, QT71, QT97, QT99, QT22, QT66, t_call imp55, t_call imp36, t_call imp49, t_call imp53, t_call imp44]
          rw [hN (fun h => by have := h.2.2; omega)]
        · simp -implicitDefEqProofs (disch := (first | omega | assumption | fail)) only [QB, QL, Nat.reduceSub, Nat.reduceAdd, Nat.reduceLeDiff, Nat.reduceEqDiff, reduceCtorEq, ↓reduceIte, Int.reduceAdd, Int.reduceSub, Int.reduceToNat, Int.reduceLT, Int.reduceLE, Int.reduceEq, Int.reduceNeg, Nat.reduceLT, QT3, QT4, QT31, QT9, QT39, QT41, QT48, QT69, QT71, QT97, QT99, QT22, QT66, t_call imp55, t_call imp36, t_call imp49, t_call imp53, t_call imp44]
          rw [hY ⟨by omega, fun x hx => (hw x hx).1, by omega⟩]
    · omega
    · refine ⟨_, _, ?_, rfl, rfl, by intro x hx; simp at hx⟩
      kernel_rfl
open Classical in
theorem ev_mvalid (m : List Int) (hl : m.length ≤ 1000000) (n : Nat) (hn : 200 ≤ n) : pcall G n 17 [.c (.t (ints m))] [] = some (boo (decide (MV m)), []) := by
  obtain ⟨n, rfl⟩ : ∃ m, n = m + 1 := ⟨n - 1, by omega⟩; rw [pcall_at fn17 rfl, imp17, G_tb]
  by_cases h2 : MV m
  · have h0 := sumL_nn h2.2.1
    have hd := fun n hn => ev_mdeg0 m hl n hn _ (fun _ => rfl) (fun h => absurd h2 h)
    have d2 : decide (0 ≤ sumL m) = true := decide_eq_true h0
    rw [decide_eq_true h2]
    simp -implicitDefEqProofs (disch := (first | omega | assumption | fail)) only [QB, QL, Nat.reduceSub, Nat.reduceAdd, Nat.reduceLeDiff, Nat.reduceEqDiff, reduceCtorEq, ↓reduceIte, Int.reduceAdd, Int.reduceSub, Int.reduceToNat, Int.reduceLT, Int.reduceLE, Int.reduceEq, Int.reduceNeg, Nat.reduceLT, QT3, QT4, QT31, QT9, QT39, QT41, QT48, QT69, QT71, QT97, QT99, QT22, QT66, t_call imp55, t_call imp36, t_call imp49, t_call imp53, t_call imp44, hd, d2]
  · have hd := fun n hn => ev_mdeg0 m hl n hn _ (fun h => absurd h h2) (fun _ => rfl)
    rw [decide_eq_false h2]
    simp -implicitDefEqProofs (disch := (first | omega | assumption | fail)) only [QB, QL, Nat.reduceSub, Nat.reduceAdd, Nat.reduceLeDiff, Nat.reduceEqDiff, reduceCtorEq, ↓reduceIte, Int.reduceAdd, Int.reduceSub, Int.reduceToNat, Int.reduceLT, Int.reduceLE, Int.reduceEq, Int.reduceNeg, Nat.reduceLT, QT3, QT4, QT31, QT9, QT39, QT41, QT48, QT69, QT71, QT97, QT99, QT22, QT66, t_call imp55, t_call imp36, t_call imp49, t_call imp53, t_call imp44, hd]
theorem ev_rreadY (p : Po) (h : WF p) (hc : ∀ j, j < p.terms.length → (p.terms.getD j default).coef.length ≤ 9 ∧ (p.terms.getD j default).exps.length ≤ 1000) (hl : p.terms.length ≤ 1000000) (n : Nat) (hn : 100000000000 < n) :
    pcall G n 53 [.agg [.t (.int .i64 p.vars), .t (tms p.terms)]] [] = some (.tup [.agg [.t (.int .i64 p.vars), .t (tms32 (p.terms.map rt))], boo true], []) :=
  ev_rread0 p hc hl n hn _ (fun _ => rfl) (fun h' => absurd h h')
theorem ev_rreadN (p : Po) (h : ¬ WF p) (hc : ∀ j, j < p.terms.length → (p.terms.getD j default).coef.length ≤ 9 ∧ (p.terms.getD j default).exps.length ≤ 1000) (hl : p.terms.length ≤ 1000000) (n : Nat) (hn : 100000000000 < n) :
    pcall G n 53 [.agg [.t (.int .i64 p.vars), .t (tms p.terms)]] [] = some (.tup [.agg [.t (.int .i64 0), .t (.sl 0 [])], boo false], []) :=
  ev_rread0 p hc hl n hn _ (fun h' => absurd h' h) (fun _ => rfl)
theorem get32_E (x : RTm) (xs : List RTm) : (rows enc32 (x :: xs))[4]? = some (ints x.e) := rfl
open Classical in
theorem ev_Rread0 (p : Po) (hc : ∀ j, j < p.terms.length → (p.terms.getD j default).coef.length ≤ 9 ∧ (p.terms.getD j default).exps.length ≤ 1000) (hl : p.terms.length ≤ 1000000) (n : Nat) (hn : 200000000000 < n) (R : V)
    (hY : OKP p → R = .tup [.agg [.t (.int .i64 p.vars), .t (tms32 (p.terms.map rt))], boo true]) (hN : ¬ OKP p → R = .tup [.agg [.t (.int .i64 0), .t (.sl 0 [])], boo false]) : pcall G n 44 [.agg [.t (.int .i64 p.vars), .t (tms p.terms)]] [] = some (R, []) := by
  obtain ⟨n, rfl⟩ : ∃ m, n = m + 1 := ⟨n - 1, by omega⟩; rw [pcall_at fn44 rfl, imp44, G_tb]
  simp -implicitDefEqProofs (disch := first | omega | assumption | (simp only [QN, rows32_len] <;> omega)) only [QB, QL, Nat.reduceSub, Nat.reduceAdd, Nat.reduceLeDiff, Nat.reduceEqDiff, reduceCtorEq, ↓reduceIte, Int.reduceAdd, Int.reduceSub, Int.reduceToNat, Int.reduceLT, Int.reduceLE, Int.reduceEq, Int.reduceNeg, Nat.reduceLT, QT3, QT4, QT31, QT9, QT39, QT41, QT48, QT69, QT71, QT97, QT99, QT22, QT66, t_call imp55, t_call imp36, t_call imp49, t_call imp53, t_call imp44]
  by_cases h1 : (4096 : Int) < p.terms.length <;> simp (disch := omega) only [h1, decide_true, decide_false, Bool.not_true, Bool.not_false, reduceCtorEq, ↓reduceIte, Option.bind_some]
  · simp -implicitDefEqProofs (disch := first | omega | assumption | (simp only [QN, rows32_len] <;> omega)) only [QB, QL, Nat.reduceSub, Nat.reduceAdd, Nat.reduceLeDiff, Nat.reduceEqDiff, reduceCtorEq, ↓reduceIte, Int.reduceAdd, Int.reduceSub, Int.reduceToNat, Int.reduceLT, Int.reduceLE, Int.reduceEq, Int.reduceNeg, Nat.reduceLT, QT3, QT4, QT31, QT9, QT39, QT41, QT48, QT69, QT71, QT97, QT99, QT22, QT66, t_call imp55, t_call imp36, t_call imp49, t_call imp53, t_call imp44]
    rw [hN (fun h => by have := h.1; omega)]
  · by_cases h2 : WF p
    · have hrd := fun n hn => ev_rreadY p h2 hc hl n hn
      by_cases ht0 : p.terms = []
      · have g2 : decide ((0 : Int) < (p.terms.map rt).length) = false := by rw [ht0]; rfl
        simp -implicitDefEqProofs (disch := first | omega | assumption | (simp only [QN, rows32_len] <;> omega)) only [QB, QL, Nat.reduceSub, Nat.reduceAdd, Nat.reduceLeDiff, Nat.reduceEqDiff, reduceCtorEq, ↓reduceIte, Int.reduceAdd, Int.reduceSub, Int.reduceToNat, Int.reduceLT, Int.reduceLE, Int.reduceEq, Int.reduceNeg, Nat.reduceLT, QT3, QT4, QT31, QT9, QT39, QT41, QT48, QT69, QT71, QT97, QT99, QT22, QT66, t_call imp55, t_call imp36, t_call imp49, t_call imp53, t_call imp44, hrd, g2]
        rw [hY ⟨by omega, h2, fun h => absurd ht0 h⟩]
      · obtain ⟨t, l, ht⟩ := List.exists_cons_of_ne_nil ht0
        have hE : (rt t).e = t.exps := rfl
        have hb := hc 0 (by rw [ht]; simp)
        rw [ht, List.getD_cons_zero] at hb
        have hb2 := hb.2
        have g1 : (0 : Int) < (p.terms.map rt).length := by rw [ht]; simp only [List.map_cons, List.length_cons]; omega
        have g2 : decide ((0 : Int) < (p.terms.map rt).length) = true := decide_eq_true g1
        have hget : (rows enc32 (p.terms.map rt))[4]? = some (ints t.exps) := by rw [ht]; rfl
        have hex : t.exps.length ≤ 6 ∧ Within 1048576 t.exps := by
          have h5 := (h2.2 0 (by rw [ht]; simp)).1
          rw [ht, List.getD_cons_zero] at h5
          have := h5.2.2.1; have := h2.1.2
          exact ⟨by omega, h5.2.2.2⟩
        by_cases h3 : MV t.exps
        · have d3 : decide (MV t.exps) = true := decide_eq_true h3
          simp -implicitDefEqProofs (disch := first | omega | assumption | (simp only [QN, rows32_len] <;> omega)) only [QB, QL, Nat.reduceSub, Nat.reduceAdd, Nat.reduceLeDiff, Nat.reduceEqDiff, reduceCtorEq, ↓reduceIte, Int.reduceAdd, Int.reduceSub, Int.reduceToNat, Int.reduceLT, Int.reduceLE, Int.reduceEq, Int.reduceNeg, Nat.reduceLT, QT3, QT4, QT31, QT9, QT39, QT41, QT48, QT69, QT71, QT97, QT99, QT22, QT66, t_call imp55, t_call imp36, t_call imp49, t_call imp53, t_call imp44, hrd, hget, Nat.zero_mul, ev_rvalid, d3, g2]
          rw [hY ⟨by omega, h2, fun _ => by rw [ht, List.getD_cons_zero]; exact h3.2.2⟩]
        · have d3 : decide (MV t.exps) = false := decide_eq_false h3
          simp -implicitDefEqProofs (disch := first | omega | assumption | (simp only [QN, rows32_len] <;> omega)) only [QB, QL, Nat.reduceSub, Nat.reduceAdd, Nat.reduceLeDiff, Nat.reduceEqDiff, reduceCtorEq, ↓reduceIte, Int.reduceAdd, Int.reduceSub, Int.reduceToNat, Int.reduceLT, Int.reduceLE, Int.reduceEq, Int.reduceNeg, Nat.reduceLT, QT3, QT4, QT31, QT9, QT39, QT41, QT48, QT69, QT71, QT97, QT99, QT22, QT66, t_call imp55, t_call imp36, t_call imp49, t_call imp53, t_call imp44, hrd, hget, Nat.zero_mul, ev_rvalid, d3, g2]
          rw [hN (fun h => h3 ⟨hex.1, fun x hx => (hex.2 x hx).1, by have := h.2.2 (by rw [ht]; simp); rwa [ht, List.getD_cons_zero] at this⟩)]
    · simp -implicitDefEqProofs (disch := first | omega | assumption | (simp only [QN, rows32_len] <;> omega)) only [QB, QL, Nat.reduceSub, Nat.reduceAdd, Nat.reduceLeDiff, Nat.reduceEqDiff, reduceCtorEq, ↓reduceIte, Int.reduceAdd, Int.reduceSub, Int.reduceToNat, Int.reduceLT, Int.reduceLE, Int.reduceEq, Int.reduceNeg, Nat.reduceLT, QT3, QT4, QT31, QT9, QT39, QT41, QT48, QT69, QT71, QT97, QT99, QT22, QT66, t_call imp55, t_call imp36, t_call imp49, t_call imp53, t_call imp44, ev_rreadN]
      rw [hN (fun h => h2 h.2.1)]
theorem ev_RreadY (p : Po) (h : OKP p) (hc : ∀ j, j < p.terms.length → (p.terms.getD j default).coef.length ≤ 9 ∧ (p.terms.getD j default).exps.length ≤ 1000) (hl : p.terms.length ≤ 1000000) (n : Nat) (hn : 200000000000 < n) :
    pcall G n 44 [.agg [.t (.int .i64 p.vars), .t (tms p.terms)]] [] = some (.tup [.agg [.t (.int .i64 p.vars), .t (tms32 (p.terms.map rt))], boo true], []) :=
  ev_Rread0 p hc hl n hn _ (fun _ => rfl) (fun h' => absurd h h')
theorem ev_RreadN (p : Po) (h : ¬ OKP p) (hc : ∀ j, j < p.terms.length → (p.terms.getD j default).coef.length ≤ 9 ∧ (p.terms.getD j default).exps.length ≤ 1000) (hl : p.terms.length ≤ 1000000) (n : Nat) (hn : 200000000000 < n) :
    pcall G n 44 [.agg [.t (.int .i64 p.vars), .t (tms p.terms)]] [] = some (.tup [.agg [.t (.int .i64 0), .t (.sl 0 [])], boo false], []) :=
  ev_Rread0 p hc hl n hn _ (fun h' => absurd h' h) (fun _ => rfl)
def encR32 (x : RPo) : List T := [.int .i64 x.n, tms32 x.t]
theorem encR32_len (x : RPo) : (encR32 x).length = 2 := rfl
theorem rowsR32_len {xs : List RPo} : (rows encR32 xs).length = xs.length * 2 := rows_len encR32_len
theorem ev_readall0 (l : List Po) (hl : l.length ≤ 1000000) (hs : ∀ j, j < l.length → Smal (l.getD j default)) (n : Nat) (hn : 290000000000 < n) (R : V)
    (hY : (∀ p ∈ l, OKP p) → R = .tup [.c (.t (.sl l.length (rows encR32 (l.map rpo)))), boo true]) (hN : ¬ (∀ p ∈ l, OKP p) → R = .tup [.c (.t (.sl 0 [])), boo false]) : pcall G n 25 [.c (.t (.sl l.length (rows encPo l)))] [] = some (R, []) := by
  obtain ⟨n, rfl⟩ : ∃ m, n = m + 1 := ⟨n - 1, by omega⟩; rw [pcall_at fn25 rfl, imp25, G_tb]
  simp -implicitDefEqProofs (disch := first | omega | assumption | (simp only [QN, rows32_len, rowsR32_len] <;> omega)) only [QB, QL, Nat.reduceSub, Nat.reduceAdd, Nat.reduceLeDiff, Nat.reduceEqDiff, reduceCtorEq, ↓reduceIte, Int.reduceAdd, Int.reduceSub, Int.reduceToNat, Int.reduceLT, Int.reduceLE, Int.reduceEq, Int.reduceNeg, Nat.reduceLT, QT3, QT4, QT31, QT9, QT39, QT41, QT48, QT69, QT71, QT97, QT99, QT22, QT66, t_call imp55, t_call imp36, t_call imp49, t_call imp53, t_call imp44, ldS_rows0 encPo_len, ldS_Po]
  refine loop_up l.length (fun i fr H => fr = [.c (.t (.sl l.length (rows encPo l))), .any, .c (.t (.sl 0 [])), boo false, .c (.osl 0 0 ((l.take i).map rpo).length 2), num i, .any, .any, .any, .any, .any, .any, .any, .any, .any, .any, .any, .any, .any, .any, .any, .any, .any, .any, .any, .any, .any, .any, .any] ∧ (∀ j, j < i → OKP (l.getD j default)) ∧
    H = [.flat false (rows encR32 ((l.take i).map rpo))]) ?_ ?_ ?_
  · rintro i fr H n' hi ⟨rfl, hw, rfl⟩ IH
    simp -implicitDefEqProofs (disch := first | omega | assumption | (simp only [QN, rows32_len, rowsR32_len] <;> omega)) only [QB, QL, Nat.reduceSub, Nat.reduceAdd, Nat.reduceLeDiff, Nat.reduceEqDiff, reduceCtorEq, ↓reduceIte, Int.reduceAdd, Int.reduceSub, Int.reduceToNat, Int.reduceLT, Int.reduceLE, Int.reduceEq, Int.reduceNeg, Nat.reduceLT, QT3, QT4, QT31, QT9, QT39, QT41, QT48, QT69, QT71, QT97, QT99, QT22, QT66, t_call imp55, t_call imp36, t_call imp49, t_call imp53, t_call imp44, ldS_rows0 encPo_len, ldS_Po]
    by_cases h1 : (i : Int) < l.length <;> simp (disch := omega) only [h1, decide_true, decide_false, Bool.not_true, Bool.not_false, reduceCtorEq, ↓reduceIte, Option.bind_some]
    · have hb := hs i (by omega)
      have hb1 := hb.1
      have hb2 := hb.2
      by_cases h2 : OKP (l.getD i default)
      · simp -implicitDefEqProofs (disch := first | omega | assumption | (simp only [QN, rows32_len, rowsR32_len] <;> omega)) only [QB, QL, Nat.reduceSub, Nat.reduceAdd, Nat.reduceLeDiff, Nat.reduceEqDiff, reduceCtorEq, ↓reduceIte, Int.reduceAdd, Int.reduceSub, Int.reduceToNat, Int.reduceLT, Int.reduceLE, Int.reduceEq, Int.reduceNeg, Nat.reduceLT, QT3, QT4, QT31, QT9, QT39, QT41, QT48, QT69, QT71, QT97, QT99, QT22, QT66, t_call imp55, t_call imp36, t_call imp49, t_call imp53, t_call imp44, ldS_rows0 encPo_len, ldS_Po, ev_RreadY]
        have e3 : (l.take (i + 1)).map rpo = (l.take i).map rpo ++ [rpo (l.getD i default)] := by rw [take_snoc default (by omega), List.map_append]; rfl
        refine IH _ (by omega) ⟨_, _, ?_, rfl, ?_, rfl⟩
        · rw [show ((i + 1 : Nat) : Int) = (i : Int) + 1 by omega, e3, List.length_append, rows_app, rows_one]
          kernel_rfl
        · intro j hj
          by_cases hji : j < i
          · exact hw j hji
          · have : j = i := by omega
            subst this; exact h2
      · simp -implicitDefEqProofs (disch := first | omega | assumption | (simp only [QN, rows32_len, rowsR32_len] <;> omega)) only [QB, QL, Nat.reduceSub, Nat.reduceAdd, Nat.reduceLeDiff, Nat.reduceEqDiff, reduceCtorEq, ↓reduceIte, Int.reduceAdd, Int.reduceSub, Int.reduceToNat, Int.reduceLT, Int.reduceLE, Int.reduceEq, Int.reduceNeg, Nat.reduceLT, QT3, QT4, QT31, QT9, QT39, QT41, QT48, QT69, QT71, QT97, QT99, QT22, QT66, t_call imp55, t_call imp36, t_call imp49, t_call imp53, t_call imp44, ldS_rows0 encPo_len, ldS_Po, ev_RreadN]
        rw [hN (fun h => h2 (h _ (by rw [getD_lt (by omega)]; exact List.getElem_mem _)))]
    · simp -implicitDefEqProofs (disch := first | omega | assumption | (simp only [QN, rows32_len, rowsR32_len] <;> omega)) only [QB, QL, Nat.reduceSub, Nat.reduceAdd, Nat.reduceLeDiff, Nat.reduceEqDiff, reduceCtorEq, ↓reduceIte, Int.reduceAdd, Int.reduceSub, Int.reduceToNat, Int.reduceLT, Int.reduceLE, Int.reduceEq, Int.reduceNeg, Nat.reduceLT, QT3, QT4, QT31, QT9, QT39, QT41, QT48, QT69, QT71, QT97, QT99, QT22, QT66, t_call imp55, t_call imp36, t_call imp49, t_call imp53, t_call imp44, ldS_rows0 encPo_len, ldS_Po]
      have hie : i = l.length := by omega
      subst hie
      rw [hY (fun p hp => by
        obtain ⟨j, hj, rfl⟩ := List.getElem_of_mem hp
        have := hw j hj
        rwa [getD_lt hj] at this)]
      simp [sub_allN, rowsR32_len]
  · omega
  · refine ⟨_, _, ?_, rfl, by intro j hj; omega, rfl⟩
    kernel_rfl
end Go.Proofs.Ythjmbppofgadaaa
