import Derived.Test.YthjmbppofgadaaaW1
set_option linter.unusedVariables false
set_option linter.unnecessarySimpa false
set_option linter.all false
set_option linter.unusedSimpArgs false
set_option linter.defProp false
namespace Go.Proofs.Ythjmbppofgadaaa
open Go Go.AM
set_option maxHeartbeats 4000000
set_option maxRecDepth 100000
theorem ev_add (a b : Nat) (ha : (dig 4294967296 a).length ≤ 100000000) (hb : (dig 4294967296 b).length ≤ 100000000) (n : Nat) (hn : (dig 4294967296 a).length + (dig 4294967296 b).length + 20 ≤ n) : pcall G n 79 [.c (.t (N32 a)), .c (.t (N32 b))] [] = some (.c (.t (N32 (a + b))), []) := by
  have va : val 4294967296 (dig 4294967296 a) = a := dig_val (by decide) a
  have vb : val 4294967296 (dig 4294967296 b) = b := dig_val (by decide) b
  rw [ev_addL _ _ (dig_ws (by decide) a) (dig_ws (by decide) b) ha hb n hn, va, vb, show ((a : Int) + b).toNat = a + b by omega]
theorem ev_mul (a b : Nat) (ha : (dig 4294967296 a).length ≤ 100000000) (hb : (dig 4294967296 b).length ≤ 100000000) (n : Nat) (hn : (dig 4294967296 a).length + (dig 4294967296 b).length + 20 ≤ n) : pcall G n 80 [.c (.t (N32 a)), .c (.t (N32 b))] [] = some (.c (.t (N32 (a * b))), []) := by
  have va : val 4294967296 (dig 4294967296 a) = a := dig_val (by decide) a
  have vb : val 4294967296 (dig 4294967296 b) = b := dig_val (by decide) b
  rw [ev_mulL _ _ (dig_ws (by decide) a) (dig_ws (by decide) b) ha hb n hn, va, vb, show ((a : Int) * b).toNat = a * b by rw [← Int.natCast_mul]; rfl]
theorem ev_sd (a d : Nat) (hd : 0 < d ∧ d < 4294967296) (ha : (dig 4294967296 a).length ≤ 100000000) (n : Nat) (hn : (dig 4294967296 a).length + 20 ≤ n) : pcall G n 98 [.c (.t (N32 a)), hw d] [] = some (.tup [.c (.t (N32 (a / d))), hw ((a % d : Nat) : Int)], []) := by
  have va : val 4294967296 (dig 4294967296 a) = a := dig_val (by decide) a
  rw [ev_sdL _ _ (dig_ws (by decide) a) (by omega) ha n hn, va, show ((a : Int) / d).toNat = a / d by rw [← Int.natCast_ediv]; rfl, ← Int.natCast_emod]
theorem ev_div1 (a b : Nat) (hb : b ≠ 0) (h : a < b ∨ b < 4294967296) (ha : (dig 4294967296 a).length ≤ 100000000) (hb2 : (dig 4294967296 b).length ≤ 100000000) (n : Nat) (hn : (dig 4294967296 a).length + 60 ≤ n) : pcall G n 97 [.c (.t (N32 a)), .c (.t (N32 b))] [] = some (.tup [.c (.t (N32 (a / b))), .c (.t (N32 (a % b)))], []) := by
  have ha' : (dig 4294967296 a).length ≤ 100000000 := ha
  have hb' : (dig 4294967296 b).length ≤ 100000000 := hb2
  have hn' : (dig 4294967296 a).length + 60 ≤ n := hn
  obtain ⟨n, rfl⟩ : ∃ m, n = m + 1 := ⟨n - 1, by omega⟩; rw [pcall_at fn97 rfl, imp97, G_tb]
  simp -implicitDefEqProofs (disch := first | omega | assumption | (simp only [QN] <;> omega)) only [QB, QL, Nat.reduceSub, Nat.reduceAdd, Nat.reduceLeDiff, Nat.reduceEqDiff, reduceCtorEq, ↓reduceIte, Int.reduceAdd, Int.reduceSub, Int.reduceToNat, Int.reduceLT, Int.reduceLE, Int.reduceEq, Int.reduceNeg, Nat.reduceLT, QT3, QT4, QT85, QT93, QT87, QT63, t_cz1 imp81, t_cz2 imp81, t_cj1 imp81, t_cj2 imp81, t_cj3 imp81, t_call imp98, t_call imp102, ev_cmp]
  by_cases h1 : a < b
  · have e : cmpN a b = -1 := by simp [cmpN, h1]
    simp -implicitDefEqProofs (disch := first | omega | assumption | (simp only [QN] <;> omega)) only [QB, QL, Nat.reduceSub, Nat.reduceAdd, Nat.reduceLeDiff, Nat.reduceEqDiff, reduceCtorEq, ↓reduceIte, Int.reduceAdd, Int.reduceSub, Int.reduceToNat, Int.reduceLT, Int.reduceLE, Int.reduceEq, Int.reduceNeg, Nat.reduceLT, QT3, QT4, QT85, QT93, QT87, QT63, t_cz1 imp81, t_cz2 imp81, t_cj1 imp81, t_cj2 imp81, t_cj3 imp81, t_call imp98, t_call imp102, e]
    rw [Nat.mul_one, sub_all, Nat.div_eq_of_lt h1, Nat.mod_eq_of_lt h1]
    unfold N32
    rw [dig_zero]
    rfl
  · have e : decide (cmpN a b < 0) = false := by simp only [cmpN, h1, if_false]; split <;> rfl
    have l0 := dig_one (b := 4294967296) (by decide) (dig_len1 (b := 4294967296) (by decide) (show b < 4294967296 by omega) hb)
    have l1 := dig_len1 (b := 4294967296) (by decide) (show b < 4294967296 by omega) hb
    simp -implicitDefEqProofs (disch := first | omega | assumption | (simp only [QN] <;> omega)) only [QB, QL, Nat.reduceSub, Nat.reduceAdd, Nat.reduceLeDiff, Nat.reduceEqDiff, reduceCtorEq, ↓reduceIte, Int.reduceAdd, Int.reduceSub, Int.reduceToNat, Int.reduceLT, Int.reduceLE, Int.reduceEq, Int.reduceNeg, Nat.reduceLT, QT3, QT4, QT85, QT93, QT87, QT63, t_cz1 imp81, t_cz2 imp81, t_cj1 imp81, t_cj2 imp81, t_cj3 imp81, t_call imp98, t_call imp102, e, l0, List.getD_cons_zero, ev_sd, ev_trim]
    have hm := Nat.mod_lt a (show b > 0 by omega)
    rw [trim_row' (b := 4294967296) (v := a % b) (by decide) (Ws.cons.2 ⟨by omega, Ws.nil⟩) (by simp [val])]
end Go.Proofs.Ythjmbppofgadaaa

namespace Go.Proofs.Ythjmbppofgadaaa
open Go Go.AM
set_option maxHeartbeats 4000000
set_option maxRecDepth 100000
theorem ev_gcd (s t : Bool) (a b : Nat) (ha : (dig 4294967296 a).length ≤ 100000000) (hb : b < 4294967296) (n : Nat) (hn : (dig 4294967296 a).length + b + 100 ≤ n) :
    pcall G n 83 [.agg (Z32 s a), .agg (Z32 t b)] [] = some (.agg (Z32 false (Nat.gcd a b)), []) := by
  obtain ⟨n, rfl⟩ : ∃ m, n = m + 1 := ⟨n - 1, by omega⟩; rw [pcall_at fn83 rfl, imp83, G_tb]
  simp -implicitDefEqProofs (disch := first | omega | assumption | (simp only [QN] <;> omega)) only [QB, QL, Nat.reduceSub, Nat.reduceAdd, Nat.reduceLeDiff, Nat.reduceEqDiff, reduceCtorEq, ↓reduceIte, Int.reduceAdd, Int.reduceSub, Int.reduceToNat, Int.reduceLT, Int.reduceLE, Int.reduceEq, Int.reduceNeg, Nat.reduceLT, QT3, QT4, QT63, QT85, QT87, QT93, QT95, t_call imp97, t_call imp71, len_pos (b := 4294967296) (by decide), len_zero (b := 4294967296) (by decide)]
  refine loop_up b (fun i fr H => ∃ x y : Nat, fr = [.any, .any, .any, .any, .own [.t (.bool false), .t .nils], .c (.t (N32 x)), .c (.t (N32 y)), .any, .any, .any, .any, .any, .any, .any, .any, .any, .any, .any, .any, .any, .any, .any, .any, .any, .any, .any] ∧ H = [] ∧ y + i ≤ b ∧ (dig 4294967296 x).length ≤ (dig 4294967296 a).length + 1 ∧ (dig 4294967296 x).length ≤ 100000000 ∧ Nat.gcd x y = Nat.gcd a b) ?_ ?_ ?_
  · rintro i fr H n' hi ⟨x, y, rfl, rfl, hy, hx, hx2, hg⟩ IH
    simp -implicitDefEqProofs (disch := first | omega | assumption | (simp only [QN] <;> omega)) only [QB, QL, Nat.reduceSub, Nat.reduceAdd, Nat.reduceLeDiff, Nat.reduceEqDiff, reduceCtorEq, ↓reduceIte, Int.reduceAdd, Int.reduceSub, Int.reduceToNat, Int.reduceLT, Int.reduceLE, Int.reduceEq, Int.reduceNeg, Nat.reduceLT, QT3, QT4, QT63, QT85, QT87, QT93, QT95, t_call imp97, t_call imp71, len_pos (b := 4294967296) (by decide), len_zero (b := 4294967296) (by decide)]
    by_cases h : y = 0 <;> simp (disch := omega) only [h, decide_true, decide_false, Bool.not_true, Bool.not_false, reduceCtorEq, ↓reduceIte, Option.bind_some]
    · subst h
      simp -implicitDefEqProofs (disch := first | omega | assumption | (simp only [QN] <;> omega)) only [QB, QL, Nat.reduceSub, Nat.reduceAdd, Nat.reduceLeDiff, Nat.reduceEqDiff, reduceCtorEq, ↓reduceIte, Int.reduceAdd, Int.reduceSub, Int.reduceToNat, Int.reduceLT, Int.reduceLE, Int.reduceEq, Int.reduceNeg, Nat.reduceLT, QT3, QT4, QT63, QT85, QT87, QT93, QT95, t_call imp97, t_call imp71, len_pos (b := 4294967296) (by decide), len_zero (b := 4294967296) (by decide), ev_make1]
      rw [← hg, Nat.gcd_zero_right]
    · have hy1 := dig_small (b := 4294967296) (n := y) (by decide) (by omega)
      have hor : x < y ∨ y < 4294967296 := .inr (by omega)
      simp -implicitDefEqProofs (disch := first | omega | assumption | (simp only [QN] <;> omega)) only [QB, QL, Nat.reduceSub, Nat.reduceAdd, Nat.reduceLeDiff, Nat.reduceEqDiff, reduceCtorEq, ↓reduceIte, Int.reduceAdd, Int.reduceSub, Int.reduceToNat, Int.reduceLT, Int.reduceLE, Int.reduceEq, Int.reduceNeg, Nat.reduceLT, QT3, QT4, QT63, QT85, QT87, QT93, QT95, t_call imp97, t_call imp71, len_pos (b := 4294967296) (by decide), len_zero (b := 4294967296) (by decide), ev_div1]
      have hlt := Nat.mod_lt x (show y > 0 by omega)
      refine IH _ (by omega) ⟨_, _, ?_, y, x % y, rfl, rfl, by omega, by omega, by omega, ?_⟩
      · kernel_rfl
      · rw [← hg, Nat.gcd_comm y, ← Nat.gcd_rec, Nat.gcd_comm]
  · omega
  · refine ⟨_, _, ?_, a, b, rfl, rfl, by omega, by omega, ha, rfl⟩
    kernel_rfl
theorem ev_qr (s t : Bool) (a b : Nat) (hb : b ≠ 0) (h : a < b ∨ b < 4294967296) (ha : (dig 4294967296 a).length ≤ 100000000) (hb2 : (dig 4294967296 b).length ≤ 100000000) (n : Nat) (hn : (dig 4294967296 a).length + 80 ≤ n) :
    pcall G n 85 [.agg (Z32 s a), .agg (Z32 t b)] [] = some (.tup [.agg (Z32 ((!(s == t)) && !decide (a / b = 0)) (a / b)), .agg (Z32 (s && !decide (a % b = 0)) (a % b))], []) := by
  obtain ⟨n, rfl⟩ : ∃ m, n = m + 1 := ⟨n - 1, by omega⟩; rw [pcall_at fn85 rfl, imp85, G_tb]
  simp -implicitDefEqProofs (disch := first | omega | assumption | (simp only [QN] <;> omega)) only [QB, QL, Nat.reduceSub, Nat.reduceAdd, Nat.reduceLeDiff, Nat.reduceEqDiff, reduceCtorEq, ↓reduceIte, Int.reduceAdd, Int.reduceSub, Int.reduceToNat, Int.reduceLT, Int.reduceLE, Int.reduceEq, Int.reduceNeg, Nat.reduceLT, QT3, QT4, QT63, QT85, QT87, QT93, QT95, t_call imp97, t_call imp71, len_pos (b := 4294967296) (by decide), len_zero (b := 4294967296) (by decide), ev_div1, ev_make1]
theorem ev_bits (s : Bool) (a : Nat) (ha : (dig 4294967296 a).length ≤ 10000000) (n : Nat) (hn : 80 ≤ n) :
    ∃ k : Int, pcall G n 84 [.agg (Z32 s a)] [] = some (num k, []) ∧ (1 < k ↔ 2 ≤ a) ∧ (k = 1 ↔ a = 1) := by
  by_cases h0 : a = 0
  · refine ⟨0, ?_, by omega, by omega⟩
    subst h0
    obtain ⟨n, rfl⟩ : ∃ m, n = m + 1 := ⟨n - 1, by omega⟩; rw [pcall_at fn84 rfl, imp84, G_tb]
    simp -implicitDefEqProofs (disch := first | omega | assumption | (simp only [QN] <;> omega)) only [QB, QL, Nat.reduceSub, Nat.reduceAdd, Nat.reduceLeDiff, Nat.reduceEqDiff, reduceCtorEq, ↓reduceIte, Int.reduceAdd, Int.reduceSub, Int.reduceToNat, Int.reduceLT, Int.reduceLE, Int.reduceEq, Int.reduceNeg, Nat.reduceLT, QT3, QT4, QT63, QT85, QT87, QT93, QT95, t_call imp97, t_call imp71, len_pos (b := 4294967296) (by decide), len_zero (b := 4294967296) (by decide)]
  have hl : 0 < (dig 4294967296 a).length := List.length_pos_iff.2 fun e => h0 ((dig_nil (by decide)).1 e)
  have hd : Ws 4294967296 (dig 4294967296 a) := dig_ws (by decide) a
  have hq := hd.getD (by decide) ((dig 4294967296 a).length - 1)
  have ht : (dig 4294967296 a).getD ((dig 4294967296 a).length - 1) 0 ≠ 0 := dig_top (by decide) h0
  have e : (((dig 4294967296 a).length : Int) - 1).toNat = (dig 4294967296 a).length - 1 := by omega
  obtain ⟨r, hr, hr2, hr3⟩ := bits_ex hq (by omega)
  have hone : (dig 4294967296 a).length = 1 → (dig 4294967296 a).getD ((dig 4294967296 a).length - 1) 0 = a := fun h => by rw [dig_one (by decide) h]; rfl
  have hlong : 1 < (dig 4294967296 a).length → 4294967296 ≤ a := fun h => by
    by_cases h2 : a < 4294967296
    · have := dig_small (b := 4294967296) (by decide) h2; omega
    · omega
  refine ⟨32 * (((dig 4294967296 a).length : Int) - 1) + r, ?_, ?_, ?_⟩
  rotate_left
  · constructor
    · intro hk
      by_cases h1 : (dig 4294967296 a).length = 1
      · have := hone h1; omega
      · have := hlong (by omega); omega
    · intro h2
      by_cases h1 : (dig 4294967296 a).length = 1
      · have := hone h1; omega
      · omega
  · constructor
    · intro hk
      by_cases h1 : (dig 4294967296 a).length = 1
      · have := hone h1; omega
      · omega
    · intro h2
      have h1 := dig_len1 (b := 4294967296) (by decide) (show a < 4294967296 by omega) h0
      have := hone h1; omega
  obtain ⟨n, rfl⟩ : ∃ m, n = m + 1 := ⟨n - 1, by omega⟩; rw [pcall_at fn84 rfl, imp84, G_tb]
  simp -implicitDefEqProofs (disch := first | omega | assumption | (simp only [QN] <;> omega)) only [QB, QL, Nat.reduceSub, Nat.reduceAdd, Nat.reduceLeDiff, Nat.reduceEqDiff, reduceCtorEq, ↓reduceIte, Int.reduceAdd, Int.reduceSub, Int.reduceToNat, Int.reduceLT, Int.reduceLE, Int.reduceEq, Int.reduceNeg, Nat.reduceLT, QT3, QT4, QT63, QT85, QT87, QT93, QT95, t_call imp97, t_call imp71, len_pos (b := 4294967296) (by decide), len_zero (b := 4294967296) (by decide), h0, e]
  refine loop_up r (fun i fr H => fr = [.any, .any, num 0, num (32 * (((dig 4294967296 a).length : Int) - 1) + i), hw ((dig 4294967296 a).getD ((dig 4294967296 a).length - 1) 0 / 2 ^ i), .any, .any, .any, .any, .any, .any, .any, .any, .any, .any, .any, .any, .any, .any, .any, .any, .any, .any, .any, .any, .any, .any, .any, .any] ∧ H = []) ?_ ?_ ?_
  · rintro i fr H n' hi ⟨rfl, rfl⟩ IH
    simp -implicitDefEqProofs (disch := first | omega | assumption | (simp only [QN] <;> omega)) only [QB, QL, Nat.reduceSub, Nat.reduceAdd, Nat.reduceLeDiff, Nat.reduceEqDiff, reduceCtorEq, ↓reduceIte, Int.reduceAdd, Int.reduceSub, Int.reduceToNat, Int.reduceLT, Int.reduceLE, Int.reduceEq, Int.reduceNeg, Nat.reduceLT, QT3, QT4, QT63, QT85, QT87, QT93, QT95, t_call imp97, t_call imp71, len_pos (b := 4294967296) (by decide), len_zero (b := 4294967296) (by decide)]
    have hn0 := Int.ediv_nonneg hq.1 (Int.le_of_lt (Int.pow_pos (by decide : (0 : Int) < 2) (m := i)))
    by_cases h : (0 : Int) < (dig 4294967296 a).getD ((dig 4294967296 a).length - 1) 0 / 2 ^ i <;> simp (disch := omega) only [h, decide_true, decide_false, Bool.not_true, Bool.not_false, reduceCtorEq, ↓reduceIte, Option.bind_some]
    · simp -implicitDefEqProofs (disch := first | omega | assumption | (simp only [QN] <;> omega)) only [QB, QL, Nat.reduceSub, Nat.reduceAdd, Nat.reduceLeDiff, Nat.reduceEqDiff, reduceCtorEq, ↓reduceIte, Int.reduceAdd, Int.reduceSub, Int.reduceToNat, Int.reduceLT, Int.reduceLE, Int.reduceEq, Int.reduceNeg, Nat.reduceLT, QT3, QT4, QT63, QT85, QT87, QT93, QT95, t_call imp97, t_call imp71, len_pos (b := 4294967296) (by decide), len_zero (b := 4294967296) (by decide)]
      have hir : i ≠ r := by rintro rfl; omega
      refine IH _ (by omega) ⟨_, _, ?_, rfl, rfl⟩
      rw [show ((i + 1 : Nat) : Int) = i + 1 by omega, Int.pow_succ, ← Int.ediv_ediv_of_nonneg (y := 2 ^ i) (Int.le_of_lt (Int.pow_pos (by decide))), ← Int.add_assoc]
      kernel_rfl
    · simp -implicitDefEqProofs (disch := first | omega | assumption | (simp only [QN] <;> omega)) only [QB, QL, Nat.reduceSub, Nat.reduceAdd, Nat.reduceLeDiff, Nat.reduceEqDiff, reduceCtorEq, ↓reduceIte, Int.reduceAdd, Int.reduceSub, Int.reduceToNat, Int.reduceLT, Int.reduceLE, Int.reduceEq, Int.reduceNeg, Nat.reduceLT, QT3, QT4, QT63, QT85, QT87, QT93, QT95, t_call imp97, t_call imp71, len_pos (b := 4294967296) (by decide), len_zero (b := 4294967296) (by decide)]
      have hir : i = r := by
        by_cases h3 : i < r
        · have := hr2.2 i h3; omega
        · omega
      rw [hir]
  · omega
  · refine ⟨_, _, ?_, rfl, rfl⟩
    simp only [Int.natCast_zero, Int.add_zero, Int.pow_zero, Int.ediv_one]
    kernel_rfl
end Go.Proofs.Ythjmbppofgadaaa

namespace Go.Proofs.Ythjmbppofgadaaa
open Go Go.AM
set_option maxHeartbeats 4000000
set_option maxRecDepth 100000
def D32 (q : Nat) : List C := if q = 1 then [.t (.bool false), .t (.sl 0 [])] else Z32 false q
abbrev Q32 (s : Bool) (p q : Nat) : List C := .t (.bool s) :: .t (N32 p) :: D32 q
theorem D32_len (q : Nat) : (D32 q).length = 2 := by unfold D32; split <;> rfl
theorem D32_1 : D32 1 = [.t (.bool false), .t (.sl 0 [])] := if_pos rfl
theorem D32_n {q : Nat} (h : ¬ q = 1) : D32 q = Z32 false q := if_neg h
theorem ev_frac (s t : Bool) (a b : Nat) (hs : s = true → a ≠ 0) (hb : b ≠ 0) (hb1 : b < 4294967296) (ha : (dig 4294967296 a).length ≤ 1000000) (n : Nat) (hn : (dig 4294967296 a).length + b + 200 ≤ n) :
    pcall G n 73 [.agg (Z32 s a), .agg (Z32 t b)] [] = some (.agg (Q32 ((!(s == t)) && !decide (a = 0)) (a / Nat.gcd a b) (b / Nat.gcd a b)), []) := by
  have hg0 : Nat.gcd a b ≠ 0 := fun h => hb (Nat.gcd_eq_zero_iff.1 h).2
  have hg1 : Nat.gcd a b ≤ b := Nat.gcd_le_right a (by omega)
  have hg2 : (dig 4294967296 (Nat.gcd a b)).length ≤ 1 := dig_small (by decide) (by omega)
  have hb2 : (dig 4294967296 b).length ≤ 1 := dig_small (by decide) (by omega)
  have hor : a < Nat.gcd a b ∨ Nat.gcd a b < 4294967296 := .inr (by omega)
  have hor2 : b < Nat.gcd a b ∨ Nat.gcd a b < 4294967296 := .inr (by omega)
  have hdz : decide (a / Nat.gcd a b = 0) = decide (a = 0) := by
    have h1 := Nat.div_mul_cancel (Nat.gcd_dvd_left a b)
    by_cases h : a = 0
    · simp [h]
    · have : a / Nat.gcd a b ≠ 0 := by intro h2; rw [h2] at h1; omega
      simp [h, this]
  have hs2 : (s && !decide (a = 0)) = s := by
    cases s
    · rfl
    · simp [hs rfl]
  obtain ⟨n, rfl⟩ : ∃ m, n = m + 1 := ⟨n - 1, by omega⟩; rw [pcall_at fn73 rfl, imp73, G_tb]
  obtain ⟨k1, hk1, hk5, hk6⟩ := ev_bits false (Nat.gcd a b) (by omega) n (by omega)
  simp -implicitDefEqProofs (disch := first | omega | assumption | (simp only [QN] <;> omega)) only [QB, QL, Nat.reduceSub, Nat.reduceAdd, Nat.reduceLeDiff, Nat.reduceEqDiff, reduceCtorEq, ↓reduceIte, Int.reduceAdd, Int.reduceSub, Int.reduceToNat, Int.reduceLT, Int.reduceLE, Int.reduceEq, Int.reduceNeg, Nat.reduceLT, QT3, QT4, QT93, QT95, QT85, QT97, t_call imp83, t_call imp85, t_call imp84, t_call imp82, len_pos (b := 4294967296) (by decide), len_zero (b := 4294967296) (by decide)]
  cases t
  · simp -implicitDefEqProofs (disch := first | omega | assumption | (simp only [QN] <;> omega)) only [QB, QL, Nat.reduceSub, Nat.reduceAdd, Nat.reduceLeDiff, Nat.reduceEqDiff, reduceCtorEq, ↓reduceIte, Int.reduceAdd, Int.reduceSub, Int.reduceToNat, Int.reduceLT, Int.reduceLE, Int.reduceEq, Int.reduceNeg, Nat.reduceLT, QT3, QT4, QT93, QT95, QT85, QT97, t_call imp83, t_call imp85, t_call imp84, t_call imp82, len_pos (b := 4294967296) (by decide), len_zero (b := 4294967296) (by decide), ev_gcd, hk1]
    by_cases h4 : 1 < k1 <;> simp (disch := omega) only [h4, decide_true, decide_false, Bool.not_true, Bool.not_false, reduceCtorEq, ↓reduceIte, Option.bind_some]
    · have hb3 : (dig 4294967296 (b / Nat.gcd a b)).length ≤ 10000000 := by have := dig_small (b := 4294967296) (n := b / Nat.gcd a b) (by decide) (Nat.lt_of_le_of_lt (Nat.div_le_self _ _) hb1); omega
      obtain ⟨k2, hk2, hk3, hk4⟩ := ev_bits false (b / Nat.gcd a b) hb3 n (by omega)
      simp -implicitDefEqProofs (disch := first | omega | assumption | (simp only [QN] <;> omega)) only [QB, QL, Nat.reduceSub, Nat.reduceAdd, Nat.reduceLeDiff, Nat.reduceEqDiff, reduceCtorEq, ↓reduceIte, Int.reduceAdd, Int.reduceSub, Int.reduceToNat, Int.reduceLT, Int.reduceLE, Int.reduceEq, Int.reduceNeg, Nat.reduceLT, QT3, QT4, QT93, QT95, QT85, QT97, t_call imp83, t_call imp85, t_call imp84, t_call imp82, len_pos (b := 4294967296) (by decide), len_zero (b := 4294967296) (by decide), ev_qr, hk2]
      by_cases h5 : k2 = 1 <;> simp (disch := omega) only [h5, decide_true, decide_false, Bool.not_true, Bool.not_false, reduceCtorEq, ↓reduceIte, Option.bind_some]
      · have h6 := hk4.1 h5
        simp -implicitDefEqProofs (disch := first | omega | assumption | (simp only [QN] <;> omega)) only [QB, QL, Nat.reduceSub, Nat.reduceAdd, Nat.reduceLeDiff, Nat.reduceEqDiff, reduceCtorEq, ↓reduceIte, Int.reduceAdd, Int.reduceSub, Int.reduceToNat, Int.reduceLT, Int.reduceLE, Int.reduceEq, Int.reduceNeg, Nat.reduceLT, QT3, QT4, QT93, QT95, QT85, QT97, t_call imp83, t_call imp85, t_call imp84, t_call imp82, len_pos (b := 4294967296) (by decide), len_zero (b := 4294967296) (by decide)]
        unfold Q32; rw [h6, D32_1, hdz]
        try (generalize decide (a = 0) = z at hs2 ⊢; cases s <;> cases z <;> first | rfl | simp at hs2)
      · have h6 : ¬ b / Nat.gcd a b = 1 := fun h => h5 (hk4.2 h)
        simp -implicitDefEqProofs (disch := first | omega | assumption | (simp only [QN] <;> omega)) only [QB, QL, Nat.reduceSub, Nat.reduceAdd, Nat.reduceLeDiff, Nat.reduceEqDiff, reduceCtorEq, ↓reduceIte, Int.reduceAdd, Int.reduceSub, Int.reduceToNat, Int.reduceLT, Int.reduceLE, Int.reduceEq, Int.reduceNeg, Nat.reduceLT, QT3, QT4, QT93, QT95, QT85, QT97, t_call imp83, t_call imp85, t_call imp84, t_call imp82, len_pos (b := 4294967296) (by decide), len_zero (b := 4294967296) (by decide)]
        unfold Q32; rw [D32_n h6, hdz]
        try (generalize decide (a = 0) = z at hs2 ⊢; cases s <;> cases z <;> first | rfl | simp at hs2)
    · have hg : Nat.gcd a b = 1 := by omega
      obtain ⟨k2, hk2, hk3, hk4⟩ := ev_bits false b (by omega) n (by omega)
      simp -implicitDefEqProofs (disch := first | omega | assumption | (simp only [QN] <;> omega)) only [QB, QL, Nat.reduceSub, Nat.reduceAdd, Nat.reduceLeDiff, Nat.reduceEqDiff, reduceCtorEq, ↓reduceIte, Int.reduceAdd, Int.reduceSub, Int.reduceToNat, Int.reduceLT, Int.reduceLE, Int.reduceEq, Int.reduceNeg, Nat.reduceLT, QT3, QT4, QT93, QT95, QT85, QT97, t_call imp83, t_call imp85, t_call imp84, t_call imp82, len_pos (b := 4294967296) (by decide), len_zero (b := 4294967296) (by decide), hg, hk2]
      by_cases h5 : k2 = 1 <;> simp (disch := omega) only [h5, decide_true, decide_false, Bool.not_true, Bool.not_false, reduceCtorEq, ↓reduceIte, Option.bind_some]
      · have h6 := hk4.1 h5
        simp -implicitDefEqProofs (disch := first | omega | assumption | (simp only [QN] <;> omega)) only [QB, QL, Nat.reduceSub, Nat.reduceAdd, Nat.reduceLeDiff, Nat.reduceEqDiff, reduceCtorEq, ↓reduceIte, Int.reduceAdd, Int.reduceSub, Int.reduceToNat, Int.reduceLT, Int.reduceLE, Int.reduceEq, Int.reduceNeg, Nat.reduceLT, QT3, QT4, QT93, QT95, QT85, QT97, t_call imp83, t_call imp85, t_call imp84, t_call imp82, len_pos (b := 4294967296) (by decide), len_zero (b := 4294967296) (by decide)]
        unfold Q32; simp only [Nat.div_one]; rw [h6, D32_1]
        try (generalize decide (a = 0) = z at hs2 ⊢; cases s <;> cases z <;> first | rfl | simp at hs2)
      · have h6 : ¬ b = 1 := fun h => h5 (hk4.2 h)
        simp -implicitDefEqProofs (disch := first | omega | assumption | (simp only [QN] <;> omega)) only [QB, QL, Nat.reduceSub, Nat.reduceAdd, Nat.reduceLeDiff, Nat.reduceEqDiff, reduceCtorEq, ↓reduceIte, Int.reduceAdd, Int.reduceSub, Int.reduceToNat, Int.reduceLT, Int.reduceLE, Int.reduceEq, Int.reduceNeg, Nat.reduceLT, QT3, QT4, QT93, QT95, QT85, QT97, t_call imp83, t_call imp85, t_call imp84, t_call imp82, len_pos (b := 4294967296) (by decide), len_zero (b := 4294967296) (by decide)]
        unfold Q32; simp only [Nat.div_one]; rw [D32_n h6]
        try (generalize decide (a = 0) = z at hs2 ⊢; cases s <;> cases z <;> first | rfl | simp at hs2)
  · simp -implicitDefEqProofs (disch := first | omega | assumption | (simp only [QN] <;> omega)) only [QB, QL, Nat.reduceSub, Nat.reduceAdd, Nat.reduceLeDiff, Nat.reduceEqDiff, reduceCtorEq, ↓reduceIte, Int.reduceAdd, Int.reduceSub, Int.reduceToNat, Int.reduceLT, Int.reduceLE, Int.reduceEq, Int.reduceNeg, Nat.reduceLT, QT3, QT4, QT93, QT95, QT85, QT97, t_call imp83, t_call imp85, t_call imp84, t_call imp82, len_pos (b := 4294967296) (by decide), len_zero (b := 4294967296) (by decide), ev_neg, ev_gcd, hk1]
    by_cases h4 : 1 < k1 <;> simp (disch := omega) only [h4, decide_true, decide_false, Bool.not_true, Bool.not_false, reduceCtorEq, ↓reduceIte, Option.bind_some]
    · have hb3 : (dig 4294967296 (b / Nat.gcd a b)).length ≤ 10000000 := by have := dig_small (b := 4294967296) (n := b / Nat.gcd a b) (by decide) (Nat.lt_of_le_of_lt (Nat.div_le_self _ _) hb1); omega
      obtain ⟨k2, hk2, hk3, hk4⟩ := ev_bits false (b / Nat.gcd a b) hb3 n (by omega)
      simp -implicitDefEqProofs (disch := first | omega | assumption | (simp only [QN] <;> omega)) only [QB, QL, Nat.reduceSub, Nat.reduceAdd, Nat.reduceLeDiff, Nat.reduceEqDiff, reduceCtorEq, ↓reduceIte, Int.reduceAdd, Int.reduceSub, Int.reduceToNat, Int.reduceLT, Int.reduceLE, Int.reduceEq, Int.reduceNeg, Nat.reduceLT, QT3, QT4, QT93, QT95, QT85, QT97, t_call imp83, t_call imp85, t_call imp84, t_call imp82, len_pos (b := 4294967296) (by decide), len_zero (b := 4294967296) (by decide), ev_qr, hk2]
      by_cases h5 : k2 = 1 <;> simp (disch := omega) only [h5, decide_true, decide_false, Bool.not_true, Bool.not_false, reduceCtorEq, ↓reduceIte, Option.bind_some]
      · have h6 := hk4.1 h5
        simp -implicitDefEqProofs (disch := first | omega | assumption | (simp only [QN] <;> omega)) only [QB, QL, Nat.reduceSub, Nat.reduceAdd, Nat.reduceLeDiff, Nat.reduceEqDiff, reduceCtorEq, ↓reduceIte, Int.reduceAdd, Int.reduceSub, Int.reduceToNat, Int.reduceLT, Int.reduceLE, Int.reduceEq, Int.reduceNeg, Nat.reduceLT, QT3, QT4, QT93, QT95, QT85, QT97, t_call imp83, t_call imp85, t_call imp84, t_call imp82, len_pos (b := 4294967296) (by decide), len_zero (b := 4294967296) (by decide)]
        unfold Q32; rw [h6, D32_1, hdz]
        try (generalize decide (a = 0) = z at hs2 ⊢; cases s <;> cases z <;> first | rfl | simp at hs2)
      · have h6 : ¬ b / Nat.gcd a b = 1 := fun h => h5 (hk4.2 h)
        simp -implicitDefEqProofs (disch := first | omega | assumption | (simp only [QN] <;> omega)) only [QB, QL, Nat.reduceSub, Nat.reduceAdd, Nat.reduceLeDiff, Nat.reduceEqDiff, reduceCtorEq, ↓reduceIte, Int.reduceAdd, Int.reduceSub, Int.reduceToNat, Int.reduceLT, Int.reduceLE, Int.reduceEq, Int.reduceNeg, Nat.reduceLT, QT3, QT4, QT93, QT95, QT85, QT97, t_call imp83, t_call imp85, t_call imp84, t_call imp82, len_pos (b := 4294967296) (by decide), len_zero (b := 4294967296) (by decide)]
        unfold Q32; rw [D32_n h6, hdz]
        try (generalize decide (a = 0) = z at hs2 ⊢; cases s <;> cases z <;> first | rfl | simp at hs2)
    · have hg : Nat.gcd a b = 1 := by omega
      obtain ⟨k2, hk2, hk3, hk4⟩ := ev_bits false b (by omega) n (by omega)
      simp -implicitDefEqProofs (disch := first | omega | assumption | (simp only [QN] <;> omega)) only [QB, QL, Nat.reduceSub, Nat.reduceAdd, Nat.reduceLeDiff, Nat.reduceEqDiff, reduceCtorEq, ↓reduceIte, Int.reduceAdd, Int.reduceSub, Int.reduceToNat, Int.reduceLT, Int.reduceLE, Int.reduceEq, Int.reduceNeg, Nat.reduceLT, QT3, QT4, QT93, QT95, QT85, QT97, t_call imp83, t_call imp85, t_call imp84, t_call imp82, len_pos (b := 4294967296) (by decide), len_zero (b := 4294967296) (by decide), hg, hk2]
      by_cases h5 : k2 = 1 <;> simp (disch := omega) only [h5, decide_true, decide_false, Bool.not_true, Bool.not_false, reduceCtorEq, ↓reduceIte, Option.bind_some]
      · have h6 := hk4.1 h5
        simp -implicitDefEqProofs (disch := first | omega | assumption | (simp only [QN] <;> omega)) only [QB, QL, Nat.reduceSub, Nat.reduceAdd, Nat.reduceLeDiff, Nat.reduceEqDiff, reduceCtorEq, ↓reduceIte, Int.reduceAdd, Int.reduceSub, Int.reduceToNat, Int.reduceLT, Int.reduceLE, Int.reduceEq, Int.reduceNeg, Nat.reduceLT, QT3, QT4, QT93, QT95, QT85, QT97, t_call imp83, t_call imp85, t_call imp84, t_call imp82, len_pos (b := 4294967296) (by decide), len_zero (b := 4294967296) (by decide)]
        unfold Q32; simp only [Nat.div_one]; rw [h6, D32_1]
        try (generalize decide (a = 0) = z at hs2 ⊢; cases s <;> cases z <;> first | rfl | simp at hs2)
      · have h6 : ¬ b = 1 := fun h => h5 (hk4.2 h)
        simp -implicitDefEqProofs (disch := first | omega | assumption | (simp only [QN] <;> omega)) only [QB, QL, Nat.reduceSub, Nat.reduceAdd, Nat.reduceLeDiff, Nat.reduceEqDiff, reduceCtorEq, ↓reduceIte, Int.reduceAdd, Int.reduceSub, Int.reduceToNat, Int.reduceLT, Int.reduceLE, Int.reduceEq, Int.reduceNeg, Nat.reduceLT, QT3, QT4, QT93, QT95, QT85, QT97, t_call imp83, t_call imp85, t_call imp84, t_call imp82, len_pos (b := 4294967296) (by decide), len_zero (b := 4294967296) (by decide)]
        unfold Q32; simp only [Nat.div_one]; rw [D32_n h6]
        try (generalize decide (a = 0) = z at hs2 ⊢; cases s <;> cases z <;> first | rfl | simp at hs2)
end Go.Proofs.Ythjmbppofgadaaa

namespace Go.Proofs.Ythjmbppofgadaaa
open Go Go.AM
set_option maxHeartbeats 4000000
set_option maxRecDepth 100000
theorem ev_mul1 (a f : Nat) (ha : (dig 4294967296 a).length ≤ 100000000) (hf : f ≠ 0) (hf2 : f < 4294967296) (n : Nat) (hn : (dig 4294967296 a).length + 30 ≤ n) : pcall G n 80 [.c (.t (N32 a)), .c (.t (.sl 1 (ks .u32 [(f : Int)])))] [] = some (.c (.t (N32 (a * f))), []) := by
  have h1 := dig_len1 (b := 4294967296) (by decide) hf2 hf
  have h := ev_mul a f ha (by omega) n (by omega)
  unfold N32 rowK at h ⊢
  rw [h1, dig_one (by decide) h1] at h
  exact h
theorem trim_one (v : Nat) (hv : v < 4294967296) : T.sl (trimL [(v : Int)]).length (sub (ks .u32 [(v : Int)]) 0 ((trimL [(v : Int)]).length * 1)) = N32 v :=
  trim_row' (b := 4294967296) (by decide) (Ws.cons.2 ⟨by omega, Ws.nil⟩) (by simp [val])
abbrev zero32 : List C := [.t (.bool false), .t (.sl 0 [])]
theorem ev_fd0 (l : List UInt8) (hl : l.length ≤ 1000000) (R : V) (hA : dgs l → R = .tup [.agg (Z32 false (dv l)), boo (!decide (l = []))]) (hB : ¬ dgs l → R = .tup [.agg zero32, boo false]) (n : Nat) (hn : l.length + 100 ≤ n) :
    pcall G n 70 [st l] [] = some (R, []) := by
  obtain ⟨n, rfl⟩ : ∃ m, n = m + 1 := ⟨n - 1, by omega⟩; rw [pcall_at fn70 rfl, imp70, G_tb]
  simp -implicitDefEqProofs (disch := first | omega | assumption | (simp only [QN] <;> omega)) only [QB, QL, Nat.reduceSub, Nat.reduceAdd, Nat.reduceLeDiff, Nat.reduceEqDiff, reduceCtorEq, ↓reduceIte, Int.reduceAdd, Int.reduceSub, Int.reduceToNat, Int.reduceLT, Int.reduceLE, Int.reduceEq, Int.reduceNeg, Nat.reduceLT, QT3, QT4, QT85, QT93, QT87, QT95, QT5, QT9, t_cz1 imp81, t_cz2 imp81, t_cj1 imp81, t_cj2 imp81, t_cj3 imp81, t_call imp79, t_call imp80, t_call imp71, len_pos (b := 4294967296) (by decide), len_zero (b := 4294967296) (by decide)]
  refine loop_up l.length (fun r fr H => ∃ i : Nat, fr = [st l, .any, .own [.t (.bool false), .t .nils], boo false, .c (.t (N32 (dv (l.take i)))), num i, .any, .any, .any, .any, .any, .any, .any, .any, .any, .any, .any, .any, .any, .any, .any, .any, .any, .any, .any, .any, .any, .any, .any, .any, .any, .any, .any, .any, .any, .any, .any, .any, .any, .any, .any, .any, .any, .any, .any, .any, .any, .any, .any, .any, .any, .any, .any, .any, .any, .any, .any, .any] ∧ H = [] ∧ r ≤ i ∧ i ≤ l.length ∧ dgs (l.take i)) ?_ ?_ ?_
  · rintro r fr H n' hr ⟨i, rfl, rfl, hri, hi, hd⟩ IH
    have hmL := dv_len hd
    rw [List.length_take] at hmL
    simp -implicitDefEqProofs (disch := first | omega | assumption | (simp only [QN] <;> omega)) only [QB, QL, Nat.reduceSub, Nat.reduceAdd, Nat.reduceLeDiff, Nat.reduceEqDiff, reduceCtorEq, ↓reduceIte, Int.reduceAdd, Int.reduceSub, Int.reduceToNat, Int.reduceLT, Int.reduceLE, Int.reduceEq, Int.reduceNeg, Nat.reduceLT, QT3, QT4, QT85, QT93, QT87, QT95, QT5, QT9, t_cz1 imp81, t_cz2 imp81, t_cj1 imp81, t_cj2 imp81, t_cj3 imp81, t_call imp79, t_call imp80, t_call imp71, len_pos (b := 4294967296) (by decide), len_zero (b := 4294967296) (by decide)]
    by_cases h1 : (i : Int) < l.length <;> simp (disch := omega) only [h1, decide_true, decide_false, Bool.not_true, Bool.not_false, reduceCtorEq, ↓reduceIte, Option.bind_some]
    · simp -implicitDefEqProofs (disch := first | omega | assumption | (simp only [QN] <;> omega)) only [QB, QL, Nat.reduceSub, Nat.reduceAdd, Nat.reduceLeDiff, Nat.reduceEqDiff, reduceCtorEq, ↓reduceIte, Int.reduceAdd, Int.reduceSub, Int.reduceToNat, Int.reduceLT, Int.reduceLE, Int.reduceEq, Int.reduceNeg, Nat.reduceLT, QT3, QT4, QT85, QT93, QT87, QT95, QT5, QT9, t_cz1 imp81, t_cz2 imp81, t_cj1 imp81, t_cj2 imp81, t_cj3 imp81, t_call imp79, t_call imp80, t_call imp71, len_pos (b := 4294967296) (by decide), len_zero (b := 4294967296) (by decide)]
      refine loop_up 9 (fun k fr H => fr = [st l, .any, .own [.t (.bool false), .t .nils], boo false, .c (.t (N32 (dv (l.take i)))), num ((i : Int) + k), hw (dv ((l.drop i).take k)), hw ((10 ^ k : Nat) : Int), num k, .any, .any, .any, .any, .any, .any, .any, .any, .any, .any, .any, .any, .any, .any, .any, .any, .any, .any, .any, .any, .any, .any, .any, .any, .any, .any, .any, .any, .any, .any, .any, .any, .any, .any, .any, .any, .any, .any, .any, .any, .any, .any, .any, .any, .any, .any, .any, .any, .any] ∧ H = [] ∧ i + k ≤ l.length ∧ dgs ((l.drop i).take k)) ?_ ?_ ?_
      · rintro k fr H n'' hk ⟨rfl, rfl, hik, hdk⟩ IK
        have hv := dv_lt hdk
        rw [List.length_take] at hv
        simp -implicitDefEqProofs (disch := first | omega | assumption | (simp only [QN] <;> omega)) only [QB, QL, Nat.reduceSub, Nat.reduceAdd, Nat.reduceLeDiff, Nat.reduceEqDiff, reduceCtorEq, ↓reduceIte, Int.reduceAdd, Int.reduceSub, Int.reduceToNat, Int.reduceLT, Int.reduceLE, Int.reduceEq, Int.reduceNeg, Nat.reduceLT, QT3, QT4, QT85, QT93, QT87, QT95, QT5, QT9, t_cz1 imp81, t_cz2 imp81, t_cj1 imp81, t_cj2 imp81, t_cj3 imp81, t_call imp79, t_call imp80, t_call imp71, len_pos (b := 4294967296) (by decide), len_zero (b := 4294967296) (by decide)]
        by_cases h2 : (k : Int) < 9 <;> simp (disch := omega) only [h2, decide_true, decide_false, Bool.not_true, Bool.not_false, reduceCtorEq, ↓reduceIte, Option.bind_some]
        · simp -implicitDefEqProofs (disch := first | omega | assumption | (simp only [QN] <;> omega)) only [QB, QL, Nat.reduceSub, Nat.reduceAdd, Nat.reduceLeDiff, Nat.reduceEqDiff, reduceCtorEq, ↓reduceIte, Int.reduceAdd, Int.reduceSub, Int.reduceToNat, Int.reduceLT, Int.reduceLE, Int.reduceEq, Int.reduceNeg, Nat.reduceLT, QT3, QT4, QT85, QT93, QT87, QT95, QT5, QT9, t_cz1 imp81, t_cz2 imp81, t_cj1 imp81, t_cj2 imp81, t_cj3 imp81, t_call imp79, t_call imp80, t_call imp71, len_pos (b := 4294967296) (by decide), len_zero (b := 4294967296) (by decide)]
          by_cases h3 : (i : Int) + k < l.length <;> simp (disch := omega) only [h3, decide_true, decide_false, Bool.not_true, Bool.not_false, reduceCtorEq, ↓reduceIte, Option.bind_some]
          · have e : ((i : Int) + k).toNat = i + k := by omega
            simp -implicitDefEqProofs (disch := first | omega | assumption | (simp only [QN] <;> omega)) only [QB, QL, Nat.reduceSub, Nat.reduceAdd, Nat.reduceLeDiff, Nat.reduceEqDiff, reduceCtorEq, ↓reduceIte, Int.reduceAdd, Int.reduceSub, Int.reduceToNat, Int.reduceLT, Int.reduceLE, Int.reduceEq, Int.reduceNeg, Nat.reduceLT, QT3, QT4, QT85, QT93, QT87, QT95, QT5, QT9, t_cz1 imp81, t_cz2 imp81, t_cj1 imp81, t_cj2 imp81, t_cj3 imp81, t_call imp79, t_call imp80, t_call imp71, len_pos (b := 4294967296) (by decide), len_zero (b := 4294967296) (by decide), e]
            by_cases h4 : byt l (i + k) < 48 <;> simp (disch := omega) only [h4, decide_true, decide_false, Bool.not_true, Bool.not_false, reduceCtorEq, ↓reduceIte, Option.bind_some]
            · simp -implicitDefEqProofs (disch := first | omega | assumption | (simp only [QN] <;> omega)) only [QB, QL, Nat.reduceSub, Nat.reduceAdd, Nat.reduceLeDiff, Nat.reduceEqDiff, reduceCtorEq, ↓reduceIte, Int.reduceAdd, Int.reduceSub, Int.reduceToNat, Int.reduceLT, Int.reduceLE, Int.reduceEq, Int.reduceNeg, Nat.reduceLT, QT3, QT4, QT85, QT93, QT87, QT95, QT5, QT9, t_cz1 imp81, t_cz2 imp81, t_cj1 imp81, t_cj2 imp81, t_cj3 imp81, t_call imp79, t_call imp80, t_call imp71, len_pos (b := 4294967296) (by decide), len_zero (b := 4294967296) (by decide)]
              rw [hB (dgs_not (k := i + k) (by omega) (.inl h4))]
            · simp -implicitDefEqProofs (disch := first | omega | assumption | (simp only [QN] <;> omega)) only [QB, QL, Nat.reduceSub, Nat.reduceAdd, Nat.reduceLeDiff, Nat.reduceEqDiff, reduceCtorEq, ↓reduceIte, Int.reduceAdd, Int.reduceSub, Int.reduceToNat, Int.reduceLT, Int.reduceLE, Int.reduceEq, Int.reduceNeg, Nat.reduceLT, QT3, QT4, QT85, QT93, QT87, QT95, QT5, QT9, t_cz1 imp81, t_cz2 imp81, t_cj1 imp81, t_cj2 imp81, t_cj3 imp81, t_call imp79, t_call imp80, t_call imp71, len_pos (b := 4294967296) (by decide), len_zero (b := 4294967296) (by decide), e]
              by_cases h5 : 57 < byt l (i + k) <;> simp (disch := omega) only [h5, decide_true, decide_false, Bool.not_true, Bool.not_false, reduceCtorEq, ↓reduceIte, Option.bind_some]
              · simp -implicitDefEqProofs (disch := first | omega | assumption | (simp only [QN] <;> omega)) only [QB, QL, Nat.reduceSub, Nat.reduceAdd, Nat.reduceLeDiff, Nat.reduceEqDiff, reduceCtorEq, ↓reduceIte, Int.reduceAdd, Int.reduceSub, Int.reduceToNat, Int.reduceLT, Int.reduceLE, Int.reduceEq, Int.reduceNeg, Nat.reduceLT, QT3, QT4, QT85, QT93, QT87, QT95, QT5, QT9, t_cz1 imp81, t_cz2 imp81, t_cj1 imp81, t_cj2 imp81, t_cj3 imp81, t_call imp79, t_call imp80, t_call imp71, len_pos (b := 4294967296) (by decide), len_zero (b := 4294967296) (by decide)]
                rw [hB (dgs_not (k := i + k) (by omega) (.inr h5))]
              · have hp8 := pow10_le (k := k) (by omega)
                have hvb : dv ((l.drop i).take k) < 100000000 := by
                  have : 10 ^ min k (l.drop i).length ≤ 10 ^ k := Nat.pow_le_pow_right (by decide) (Nat.min_le_left _ _)
                  omega
                have hPs : 10 ^ (k + 1) = 10 ^ k * 10 := Nat.pow_succ ..
                generalize 10 ^ k = P at hp8 hPs ⊢
                simp -implicitDefEqProofs (disch := first | omega | assumption | (simp only [QN] <;> omega)) only [QB, QL, Nat.reduceSub, Nat.reduceAdd, Nat.reduceLeDiff, Nat.reduceEqDiff, reduceCtorEq, ↓reduceIte, Int.reduceAdd, Int.reduceSub, Int.reduceToNat, Int.reduceLT, Int.reduceLE, Int.reduceEq, Int.reduceNeg, Nat.reduceLT, QT3, QT4, QT85, QT93, QT87, QT95, QT5, QT9, t_cz1 imp81, t_cz2 imp81, t_cj1 imp81, t_cj2 imp81, t_cj3 imp81, t_call imp79, t_call imp80, t_call imp71, len_pos (b := 4294967296) (by decide), len_zero (b := 4294967296) (by decide), e, wu32', wu8']
                have hkd : k < (l.drop i).length := by rw [List.length_drop]; omega
                refine IK _ (by omega) ⟨_, _, ?_, rfl, rfl, by omega, dgs_snoc hdk hkd (by rw [byt_drop]; omega)⟩
                rw [dv_byt hkd (by rw [byt_drop]; omega), byt_drop, show ((10 ^ (k + 1) : Nat) : Int) = (P : Int) * 10 by rw [hPs]; omega, show ((k + 1 : Nat) : Int) = k + 1 by omega, ← Int.add_assoc]
                kernel_rfl
          · simp -implicitDefEqProofs (disch := first | omega | assumption | (simp only [QN] <;> omega)) only [QB, QL, Nat.reduceSub, Nat.reduceAdd, Nat.reduceLeDiff, Nat.reduceEqDiff, reduceCtorEq, ↓reduceIte, Int.reduceAdd, Int.reduceSub, Int.reduceToNat, Int.reduceLT, Int.reduceLE, Int.reduceEq, Int.reduceNeg, Nat.reduceLT, QT3, QT4, QT85, QT93, QT87, QT95, QT5, QT9, t_cz1 imp81, t_cz2 imp81, t_cj1 imp81, t_cj2 imp81, t_cj3 imp81, t_call imp79, t_call imp80, t_call imp71, len_pos (b := 4294967296) (by decide), len_zero (b := 4294967296) (by decide)]
            have hch : l.take (i + k) = l.take i ++ (l.drop i).take k := take_chunk
            have hkl : ((l.drop i).take k).length = k := by rw [List.length_take, List.length_drop]; omega
            have hdd : dgs (l.take (i + k)) := by
              rw [hch]; intro c hc
              rcases List.mem_append.1 hc with hc | hc
              · exact hd c hc
              · exact hdk c hc
            have hml := dv_len hdd
            rw [List.length_take] at hml
            have hp9 : 10 ^ k ≤ 1000000000 := Nat.pow_le_pow_right (n := 10) (by decide) (show k ≤ 9 by omega)
            have hp0 : 10 ^ k ≠ 0 := by have := Nat.pow_pos (n := k) (show 0 < 10 by decide); omega
            have hmul : dv (l.take i) * 10 ^ k + dv ((l.drop i).take k) = dv (l.take (i + k)) := by rw [hch, dv_append, hkl]
            have hmul2 : (dig 4294967296 (dv (l.take i) * 10 ^ k)).length ≤ l.length := dig_len_le (by decide) (by
              have h1 := dv_lt hdd
              have h2 : 10 ^ (l.take (i + k)).length ≤ 4294967296 ^ l.length := Nat.le_trans (Nat.pow_le_pow_left (by decide) _) (Nat.pow_le_pow_right (by decide) (by simp; omega))
              omega)
            have hv9 : dv ((l.drop i).take k) < 10 ^ k := by have := dv_lt hdk; rw [hkl] at this; exact this
            have hvs := dig_small (b := 4294967296) (n := dv ((l.drop i).take k)) (by decide) (by omega)
            simp -implicitDefEqProofs (disch := first | omega | assumption | (simp only [QN] <;> omega)) only [QB, QL, Nat.reduceSub, Nat.reduceAdd, Nat.reduceLeDiff, Nat.reduceEqDiff, reduceCtorEq, ↓reduceIte, Int.reduceAdd, Int.reduceSub, Int.reduceToNat, Int.reduceLT, Int.reduceLE, Int.reduceEq, Int.reduceNeg, Nat.reduceLT, QT3, QT4, QT85, QT93, QT87, QT95, QT5, QT9, t_cz1 imp81, t_cz2 imp81, t_cj1 imp81, t_cj2 imp81, t_cj3 imp81, t_call imp79, t_call imp80, t_call imp71, len_pos (b := 4294967296) (by decide), len_zero (b := 4294967296) (by decide), ev_mul1, ev_trim, ev_add, sub_one, trim_one, List.take_succ_cons, List.take_zero, hmul]
            refine IH _ (by omega) ⟨_, _, ?_, i + k, rfl, rfl, by omega, by omega, hdd⟩
            rw [show ((i + k : Nat) : Int) = (i : Int) + k by omega]
            kernel_rfl
        · simp -implicitDefEqProofs (disch := first | omega | assumption | (simp only [QN] <;> omega)) only [QB, QL, Nat.reduceSub, Nat.reduceAdd, Nat.reduceLeDiff, Nat.reduceEqDiff, reduceCtorEq, ↓reduceIte, Int.reduceAdd, Int.reduceSub, Int.reduceToNat, Int.reduceLT, Int.reduceLE, Int.reduceEq, Int.reduceNeg, Nat.reduceLT, QT3, QT4, QT85, QT93, QT87, QT95, QT5, QT9, t_cz1 imp81, t_cz2 imp81, t_cj1 imp81, t_cj2 imp81, t_cj3 imp81, t_call imp79, t_call imp80, t_call imp71, len_pos (b := 4294967296) (by decide), len_zero (b := 4294967296) (by decide)]
          have hch : l.take (i + k) = l.take i ++ (l.drop i).take k := take_chunk
          have hkl : ((l.drop i).take k).length = k := by rw [List.length_take, List.length_drop]; omega
          have hdd : dgs (l.take (i + k)) := by
            rw [hch]; intro c hc
            rcases List.mem_append.1 hc with hc | hc
            · exact hd c hc
            · exact hdk c hc
          have hml := dv_len hdd
          rw [List.length_take] at hml
          have hp9 : 10 ^ k ≤ 1000000000 := Nat.pow_le_pow_right (n := 10) (by decide) (show k ≤ 9 by omega)
          have hp0 : 10 ^ k ≠ 0 := by have := Nat.pow_pos (n := k) (show 0 < 10 by decide); omega
          have hmul : dv (l.take i) * 10 ^ k + dv ((l.drop i).take k) = dv (l.take (i + k)) := by rw [hch, dv_append, hkl]
          have hmul2 : (dig 4294967296 (dv (l.take i) * 10 ^ k)).length ≤ l.length := dig_len_le (by decide) (by
            have h1 := dv_lt hdd
            have h2 : 10 ^ (l.take (i + k)).length ≤ 4294967296 ^ l.length := Nat.le_trans (Nat.pow_le_pow_left (by decide) _) (Nat.pow_le_pow_right (by decide) (by simp; omega))
            omega)
          have hv9 : dv ((l.drop i).take k) < 10 ^ k := by have := dv_lt hdk; rw [hkl] at this; exact this
          have hvs := dig_small (b := 4294967296) (n := dv ((l.drop i).take k)) (by decide) (by omega)
          simp -implicitDefEqProofs (disch := first | omega | assumption | (simp only [QN] <;> omega)) only [QB, QL, Nat.reduceSub, Nat.reduceAdd, Nat.reduceLeDiff, Nat.reduceEqDiff, reduceCtorEq, ↓reduceIte, Int.reduceAdd, Int.reduceSub, Int.reduceToNat, Int.reduceLT, Int.reduceLE, Int.reduceEq, Int.reduceNeg, Nat.reduceLT, QT3, QT4, QT85, QT93, QT87, QT95, QT5, QT9, t_cz1 imp81, t_cz2 imp81, t_cj1 imp81, t_cj2 imp81, t_cj3 imp81, t_call imp79, t_call imp80, t_call imp71, len_pos (b := 4294967296) (by decide), len_zero (b := 4294967296) (by decide), ev_mul1, ev_trim, ev_add, sub_one, trim_one, List.take_succ_cons, List.take_zero, hmul]
          refine IH _ (by omega) ⟨_, _, ?_, i + k, rfl, rfl, by omega, by omega, hdd⟩
          rw [show ((i + k : Nat) : Int) = (i : Int) + k by omega]
          kernel_rfl
      · omega
      · refine ⟨_, _, ?_, rfl, rfl, by omega, by intro c hc; simp at hc⟩
        simp only [Int.natCast_zero, Int.add_zero]
        kernel_rfl
    · have hil : i = l.length := by omega
      subst hil
      rw [List.take_length] at hd
      rw [hA hd]
      simp -implicitDefEqProofs (disch := first | omega | assumption | (simp only [QN] <;> omega)) only [QB, QL, Nat.reduceSub, Nat.reduceAdd, Nat.reduceLeDiff, Nat.reduceEqDiff, reduceCtorEq, ↓reduceIte, Int.reduceAdd, Int.reduceSub, Int.reduceToNat, Int.reduceLT, Int.reduceLE, Int.reduceEq, Int.reduceNeg, Nat.reduceLT, QT3, QT4, QT85, QT93, QT87, QT95, QT5, QT9, t_cz1 imp81, t_cz2 imp81, t_cj1 imp81, t_cj2 imp81, t_cj3 imp81, t_call imp79, t_call imp80, t_call imp71, len_pos (b := 4294967296) (by decide), len_zero (b := 4294967296) (by decide), ev_make1, List.take_length]
  · omega
  · refine ⟨_, _, ?_, 0, rfl, rfl, by omega, by omega, by intro c hc; simp at hc⟩
    unfold N32
    rw [show dv (l.take 0) = 0 from rfl, dig_zero]
    kernel_rfl
end Go.Proofs.Ythjmbppofgadaaa

namespace Go.Proofs.Ythjmbppofgadaaa
open Go Go.AM
set_option maxHeartbeats 4000000
set_option maxRecDepth 100000
theorem ev_sd9 (a : Nat) (ha : (dig 4294967296 a).length ≤ 100000000) (n : Nat) (hn : (dig 4294967296 a).length + 20 ≤ n) : pcall G n 98 [.c (.t (N32 a)), hw 1000000000] [] = some (.tup [.c (.t (N32 (a / 1000000000))), hw ((a % 1000000000 : Nat) : Int)], []) := ev_sd a 1000000000 (by decide) ha n hn
theorem ev_dg0 (s : Bool) (n : Nat) (hn : 100 ≤ n) : pcall G n 86 [.agg (Z32 s 0)] [] = some (st [48], []) := by
  obtain ⟨n, rfl⟩ : ∃ m, n = m + 1 := ⟨n - 1, by omega⟩; rw [pcall_at fn86 rfl, imp86, G_tb]
  simp -implicitDefEqProofs (disch := first | omega | assumption | (simp only [QN] <;> omega)) only [QB, QL, Nat.reduceSub, Nat.reduceAdd, Nat.reduceLeDiff, Nat.reduceEqDiff, reduceCtorEq, ↓reduceIte, Int.reduceAdd, Int.reduceSub, Int.reduceToNat, Int.reduceLT, Int.reduceLE, Int.reduceEq, Int.reduceNeg, Nat.reduceLT, QT3, QT4, QT85, QT87, QT93, QT5, QT9, QT95, QT150, t_call imp98, len_pos (b := 4294967296) (by decide), len_zero (b := 4294967296) (by decide)]
theorem ev_dg (s : Bool) (a : Nat) (h0 : a ≠ 0) (ha : (dig 4294967296 a).length ≤ 1000000) (ha2 : (dig 1000000000 a).length ≤ 1000000) (n : Nat) (hn : (dig 4294967296 a).length + (dig 1000000000 a).length + a + 100 ≤ n) :
    pcall G n 86 [.agg (Z32 s a)] [] = some (st (dec a), []) := by
  obtain ⟨n, rfl⟩ : ∃ m, n = m + 1 := ⟨n - 1, by omega⟩; rw [pcall_at fn86 rfl, imp86, G_tb]
  simp -implicitDefEqProofs (disch := first | omega | assumption | (simp only [QN] <;> omega)) only [QB, QL, Nat.reduceSub, Nat.reduceAdd, Nat.reduceLeDiff, Nat.reduceEqDiff, reduceCtorEq, ↓reduceIte, Int.reduceAdd, Int.reduceSub, Int.reduceToNat, Int.reduceLT, Int.reduceLE, Int.reduceEq, Int.reduceNeg, Nat.reduceLT, QT3, QT4, QT85, QT87, QT93, QT5, QT9, QT95, QT150, t_call imp98, len_pos (b := 4294967296) (by decide), len_zero (b := 4294967296) (by decide), h0]
  refine loop_up a (fun r fr H => ∃ (m : Nat) (ps : List Int), fr = [.any, .any, st [], .c (.osl 0 0 ps.length 1), .c (.t (N32 m)), .any, .any, .any, .any, .any, .any, .any, .any, .any, .any, .any, .any, .any, .any, .any, .any, .any, .any, .any, .any, .any, .any, .any, .any, .any, .any, .any, .any, .any, .any, .any, .any, .any, .any, .any, .any, .any, .any, .any, .any, .any, .any, .any, .any, .any, .any, .any, .any, .any, .any, .any, .any, .any, .any, .any, .any, .any, .any] ∧ H = [objK .u32 ps] ∧ m + r ≤ a ∧ dig 1000000000 a = ps ++ dig 1000000000 m) ?_ ?_ ?_
  · rintro r fr H n' hr ⟨m, ps, rfl, rfl, hm, hp⟩ IH
    have hml := dig_len_mono (b := 4294967296) (m := m) (n := a) (by decide) (by omega)
    have hpl : ps.length + (dig 1000000000 m).length ≤ 1000000 := by rw [hp, List.length_append] at ha2; exact ha2
    simp -implicitDefEqProofs (disch := first | omega | assumption | (simp only [QN] <;> omega)) only [QB, QL, Nat.reduceSub, Nat.reduceAdd, Nat.reduceLeDiff, Nat.reduceEqDiff, reduceCtorEq, ↓reduceIte, Int.reduceAdd, Int.reduceSub, Int.reduceToNat, Int.reduceLT, Int.reduceLE, Int.reduceEq, Int.reduceNeg, Nat.reduceLT, QT3, QT4, QT85, QT87, QT93, QT5, QT9, QT95, QT150, t_call imp98, len_pos (b := 4294967296) (by decide), len_zero (b := 4294967296) (by decide)]
    by_cases h : m = 0 <;> simp (disch := omega) only [h, decide_true, decide_false, Bool.not_true, Bool.not_false, reduceCtorEq, ↓reduceIte, Option.bind_some]
    · subst h
      rw [dig_zero, List.append_nil] at hp
      have hpl2 : (dig 1000000000 a).length = ps.length := by rw [hp]
      have hps : Ws 1000000000 ps := by rw [← hp]; exact dig_ws (by decide) a
      have hpv : val 1000000000 ps = a := by rw [← hp]; exact dig_val (by decide) a
      simp -implicitDefEqProofs (disch := first | omega | assumption | (simp only [QN] <;> omega)) only [QB, QL, Nat.reduceSub, Nat.reduceAdd, Nat.reduceLeDiff, Nat.reduceEqDiff, reduceCtorEq, ↓reduceIte, Int.reduceAdd, Int.reduceSub, Int.reduceToNat, Int.reduceLT, Int.reduceLE, Int.reduceEq, Int.reduceNeg, Nat.reduceLT, QT3, QT4, QT85, QT87, QT93, QT5, QT9, QT95, QT150, t_call imp98, len_pos (b := 4294967296) (by decide), len_zero (b := 4294967296) (by decide)]
      refine loop_up ps.length (fun i fr H => ∃ o : List UInt8, fr = [.any, .any, st [], .c (.osl 0 0 ps.length 1), .any, .any, .any, .c (.osl 1 0 o.length 1), num ((ps.length : Int) - 1 - i), .any, .any, .any, .any, .any, .any, .any, .any, .any, .any, .any, .any, .any, .any, .any, .any, .any, .any, .any, .any, .any, .any, .any, .any, .any, .any, .any, .any, .any, .any, .any, .any, .any, .any, .any, .any, .any, .any, .any, .any, .any, .any, .any, .any, .any, .any, .any, .any, .any, .any, .any, .any, .any, .any] ∧ H = [objK .u32 ps, objK .u8 (ub o)] ∧ dgs o ∧ nolead o ∧ (dv o : Int) = val 1000000000 (ps.drop (ps.length - i)) ∧ o.length ≤ 9 * i) ?_ ?_ ?_
      · rintro i fr H n'' hi ⟨o, rfl, rfl, o1, o2, o3, o4⟩ IK
        simp -implicitDefEqProofs (disch := first | omega | assumption | (simp only [QN] <;> omega)) only [QB, QL, Nat.reduceSub, Nat.reduceAdd, Nat.reduceLeDiff, Nat.reduceEqDiff, reduceCtorEq, ↓reduceIte, Int.reduceAdd, Int.reduceSub, Int.reduceToNat, Int.reduceLT, Int.reduceLE, Int.reduceEq, Int.reduceNeg, Nat.reduceLT, QT3, QT4, QT85, QT87, QT93, QT5, QT9, QT95, QT150, t_call imp98, len_pos (b := 4294967296) (by decide), len_zero (b := 4294967296) (by decide)]
        by_cases h3 : (0 : Int) ≤ (ps.length : Int) - 1 - i <;> simp (disch := omega) only [h3, decide_true, decide_false, Bool.not_true, Bool.not_false, reduceCtorEq, ↓reduceIte, Option.bind_some]
        · have hP := hps.getD (by decide) (ps.length - 1 - i)
          obtain ⟨p, hp'⟩ := Int.eq_ofNat_of_zero_le hP.1
          rw [hp'] at hP
          have e : ((ps.length : Int) - 1 - i).toNat = ps.length - 1 - i := by omega
          simp -implicitDefEqProofs (disch := first | omega | assumption | (simp only [QN] <;> omega)) only [QB, QL, Nat.reduceSub, Nat.reduceAdd, Nat.reduceLeDiff, Nat.reduceEqDiff, reduceCtorEq, ↓reduceIte, Int.reduceAdd, Int.reduceSub, Int.reduceToNat, Int.reduceLT, Int.reduceLE, Int.reduceEq, Int.reduceNeg, Nat.reduceLT, QT3, QT4, QT85, QT87, QT93, QT5, QT9, QT95, QT150, t_call imp98, len_pos (b := 4294967296) (by decide), len_zero (b := 4294967296) (by decide)]
          refine loop_up 9 (fun j fr H => ∃ o' : List UInt8, fr = [.any, .any, st [], .c (.osl 0 0 ps.length 1), .any, .any, .any, .c (.osl 1 0 o'.length 1), num ((ps.length : Int) - 1 - i), hw ((100000000 / 10 ^ j : Nat) : Int), .any, .any, .any, .any, .any, .any, .any, .any, .any, .any, .any, .any, .any, .any, .any, .any, .any, .any, .any, .any, .any, .any, .any, .any, .any, .any, .any, .any, .any, .any, .any, .any, .any, .any, .any, .any, .any, .any, .any, .any, .any, .any, .any, .any, .any, .any, .any, .any, .any, .any, .any, .any, .any] ∧ H = [objK .u32 ps, objK .u8 (ub o')] ∧ dgs o' ∧ nolead o' ∧ dv o' = dv o * 10 ^ j + p / 10 ^ (9 - j) ∧ o'.length ≤ 9 * i + j) ?_ ?_ ?_
          · rintro j fr H n3 hj ⟨o', rfl, rfl, d1, d2, d3, d4⟩ IL
            by_cases hj9 : j < 9
            · have hd0 := dpos hj9
              have hst := dec_step (V := dv o) (p := p) hj9
              have hD2 : 100000000 / 10 ^ (j + 1) = 100000000 / 10 ^ j / 10 := by rw [Nat.div_div_eq_div_mul]; rfl
              have hDle : 100000000 / 10 ^ j ≤ 100000000 := Nat.div_le_self ..
              generalize 100000000 / 10 ^ j = D at hd0 hst hD2 hDle ⊢
              have hq : (p : Int).tdiv (D : Int) = ((p / D : Nat) : Int) := by rw [Int.tdiv_eq_ediv_of_nonneg (by omega)]; exact (Int.natCast_ediv ..).symm
              have hr : ∀ q : Nat, (q : Int).tmod 10 = ((q % 10 : Nat) : Int) := fun q => by rw [Int.tmod_eq_emod_of_nonneg (by omega)]; omega
              have hdt : (D : Int).tdiv 10 = ((D / 10 : Nat) : Int) := by rw [Int.tdiv_eq_ediv_of_nonneg (by omega)]; omega
              have hple : p / D ≤ p := Nat.div_le_self ..
              generalize p / D = q at hq hple hst ⊢
              have hm10 := Nat.mod_lt (q) (show 10 > 0 by decide)
              have hc48 : 48 ≤ (UInt8.ofNat (48 + q % 10)).toNat ∧ (UInt8.ofNat (48 + q % 10)).toNat ≤ 57 := by rw [ch_nat hm10]; omega
              have hpush := dpush_ok (c := UInt8.ofNat (48 + q % 10)) d1 d2 hc48
              rw [ch_nat hm10, show 48 + q % 10 - 48 = q % 10 by omega, d3, hst] at hpush
              simp -implicitDefEqProofs (disch := first | omega | assumption | (simp only [QN] <;> omega)) only [QB, QL, Nat.reduceSub, Nat.reduceAdd, Nat.reduceLeDiff, Nat.reduceEqDiff, reduceCtorEq, ↓reduceIte, Int.reduceAdd, Int.reduceSub, Int.reduceToNat, Int.reduceLT, Int.reduceLE, Int.reduceEq, Int.reduceNeg, Nat.reduceLT, QT3, QT4, QT85, QT87, QT93, QT5, QT9, QT95, QT150, t_call imp98, len_pos (b := 4294967296) (by decide), len_zero (b := 4294967296) (by decide)]
              by_cases h5 : (0 : Int) < D <;> simp (disch := omega) only [h5, decide_true, decide_false, Bool.not_true, Bool.not_false, reduceCtorEq, ↓reduceIte, Option.bind_some]
              · simp -implicitDefEqProofs (disch := first | omega | assumption | (simp only [QN] <;> omega)) only [QB, QL, Nat.reduceSub, Nat.reduceAdd, Nat.reduceLeDiff, Nat.reduceEqDiff, reduceCtorEq, ↓reduceIte, Int.reduceAdd, Int.reduceSub, Int.reduceToNat, Int.reduceLT, Int.reduceLE, Int.reduceEq, Int.reduceNeg, Nat.reduceLT, QT3, QT4, QT85, QT87, QT93, QT5, QT9, QT95, QT150, t_call imp98, len_pos (b := 4294967296) (by decide), len_zero (b := 4294967296) (by decide), e, hp', hq, hr, wu32', wu8']
                by_cases h6 : (0 : Int) < o'.length <;> simp (disch := omega) only [h6, decide_true, decide_false, Bool.not_true, Bool.not_false, reduceCtorEq, ↓reduceIte, Option.bind_some]
                · have hne : dpush o' (UInt8.ofNat (48 + q % 10)) = o' ++ [UInt8.ofNat (48 + q % 10)] := if_neg (fun h => by rw [h.1] at h6; simp at h6)
                  rw [hne] at hpush
                  simp -implicitDefEqProofs (disch := first | omega | assumption | (simp only [QN] <;> omega)) only [QB, QL, Nat.reduceSub, Nat.reduceAdd, Nat.reduceLeDiff, Nat.reduceEqDiff, reduceCtorEq, ↓reduceIte, Int.reduceAdd, Int.reduceSub, Int.reduceToNat, Int.reduceLT, Int.reduceLE, Int.reduceEq, Int.reduceNeg, Nat.reduceLT, QT3, QT4, QT85, QT87, QT93, QT5, QT9, QT95, QT150, t_call imp98, len_pos (b := 4294967296) (by decide), len_zero (b := 4294967296) (by decide), hdt, wu32', ub_push hm10]
                  refine IL _ (by omega) ⟨_, _, ?_, o' ++ [UInt8.ofNat (48 + q % 10)], rfl, rfl, hpush.1, hpush.2.1, hpush.2.2, by rw [List.length_append]; simp; omega⟩
                  rw [List.length_append, hD2]
                  kernel_rfl
                · have ho : o' = [] := List.eq_nil_of_length_eq_zero (by omega)
                  simp -implicitDefEqProofs (disch := first | omega | assumption | (simp only [QN] <;> omega)) only [QB, QL, Nat.reduceSub, Nat.reduceAdd, Nat.reduceLeDiff, Nat.reduceEqDiff, reduceCtorEq, ↓reduceIte, Int.reduceAdd, Int.reduceSub, Int.reduceToNat, Int.reduceLT, Int.reduceLE, Int.reduceEq, Int.reduceNeg, Nat.reduceLT, QT3, QT4, QT85, QT87, QT93, QT5, QT9, QT95, QT150, t_call imp98, len_pos (b := 4294967296) (by decide), len_zero (b := 4294967296) (by decide)]
                  by_cases h7 : (48 : Int) + ((q % 10 : Nat) : Int) = 48 <;> simp (disch := omega) only [h7, decide_true, decide_false, Bool.not_true, Bool.not_false, reduceCtorEq, ↓reduceIte, Option.bind_some]
                  · have hne : dpush o' (UInt8.ofNat (48 + q % 10)) = o' := by
                      rw [ho]; exact if_pos ⟨rfl, by rw [show q % 10 = 0 by omega]; rfl⟩
                    rw [hne] at hpush
                    simp -implicitDefEqProofs (disch := first | omega | assumption | (simp only [QN] <;> omega)) only [QB, QL, Nat.reduceSub, Nat.reduceAdd, Nat.reduceLeDiff, Nat.reduceEqDiff, reduceCtorEq, ↓reduceIte, Int.reduceAdd, Int.reduceSub, Int.reduceToNat, Int.reduceLT, Int.reduceLE, Int.reduceEq, Int.reduceNeg, Nat.reduceLT, QT3, QT4, QT85, QT87, QT93, QT5, QT9, QT95, QT150, t_call imp98, len_pos (b := 4294967296) (by decide), len_zero (b := 4294967296) (by decide), hdt, wu32']
                    refine IL _ (by omega) ⟨_, _, ?_, o', rfl, rfl, hpush.1, hpush.2.1, hpush.2.2, by omega⟩
                    rw [hD2]
                    kernel_rfl
                  · have hne : dpush o' (UInt8.ofNat (48 + q % 10)) = o' ++ [UInt8.ofNat (48 + q % 10)] := if_neg (fun h => h7 (by
                      have h8 := ch_nat hm10
                      rw [h.2] at h8
                      have : (48 : UInt8).toNat = 48 := rfl
                      omega))
                    rw [hne] at hpush
                    simp -implicitDefEqProofs (disch := first | omega | assumption | (simp only [QN] <;> omega)) only [QB, QL, Nat.reduceSub, Nat.reduceAdd, Nat.reduceLeDiff, Nat.reduceEqDiff, reduceCtorEq, ↓reduceIte, Int.reduceAdd, Int.reduceSub, Int.reduceToNat, Int.reduceLT, Int.reduceLE, Int.reduceEq, Int.reduceNeg, Nat.reduceLT, QT3, QT4, QT85, QT87, QT93, QT5, QT9, QT95, QT150, t_call imp98, len_pos (b := 4294967296) (by decide), len_zero (b := 4294967296) (by decide), hdt, wu32', ub_push hm10]
                    refine IL _ (by omega) ⟨_, _, ?_, o' ++ [UInt8.ofNat (48 + q % 10)], rfl, rfl, hpush.1, hpush.2.1, hpush.2.2, by rw [List.length_append]; simp; omega⟩
                    rw [List.length_append, hD2]
                    kernel_rfl
              · omega
            · have hj' : j = 9 := by omega
              subst hj'
              rw [show (100000000 / 10 ^ 9 : Nat) = 0 from rfl]
              simp -implicitDefEqProofs (disch := first | omega | assumption | (simp only [QN] <;> omega)) only [QB, QL, Nat.reduceSub, Nat.reduceAdd, Nat.reduceLeDiff, Nat.reduceEqDiff, reduceCtorEq, ↓reduceIte, Int.reduceAdd, Int.reduceSub, Int.reduceToNat, Int.reduceLT, Int.reduceLE, Int.reduceEq, Int.reduceNeg, Nat.reduceLT, QT3, QT4, QT85, QT87, QT93, QT5, QT9, QT95, QT150, t_call imp98, len_pos (b := 4294967296) (by decide), len_zero (b := 4294967296) (by decide)]
              rw [show 9 - 9 = 0 from rfl, Nat.pow_zero, Nat.div_one] at d3
              refine IK _ (by omega) ⟨_, _, ?_, o', rfl, rfl, d1, d2, ?_, by omega⟩
              · rw [show (ps.length : Int) - 1 - ((i + 1 : Nat) : Int) = (ps.length : Int) - 1 - i - 1 by omega]
                kernel_rfl
              · rw [show ps.length - (i + 1) = ps.length - 1 - i by omega, val_drop _ (by omega), hp', show ps.length - 1 - i + 1 = ps.length - i by omega, ← o3, d3]
                omega
          · omega
          · refine ⟨_, _, ?_, o, rfl, rfl, o1, o2, by simp; omega, by omega⟩
            kernel_rfl
        · have hil : i = ps.length := by omega
          subst hil
          simp -implicitDefEqProofs (disch := first | omega | assumption | (simp only [QN] <;> omega)) only [QB, QL, Nat.reduceSub, Nat.reduceAdd, Nat.reduceLeDiff, Nat.reduceEqDiff, reduceCtorEq, ↓reduceIte, Int.reduceAdd, Int.reduceSub, Int.reduceToNat, Int.reduceLT, Int.reduceLE, Int.reduceEq, Int.reduceNeg, Nat.reduceLT, QT3, QT4, QT85, QT87, QT93, QT5, QT9, QT95, QT150, t_call imp98, len_pos (b := 4294967296) (by decide), len_zero (b := 4294967296) (by decide)]
          rw [Nat.sub_self, List.drop_zero, hpv] at o3
          have := dec_of _ o rfl o1 o2
          rw [show dv o = a by omega] at this
          rw [this]
      · omega
      · refine ⟨_, _, ?_, [], rfl, rfl, by intro c hc; simp at hc, by unfold nolead; decide, by simp [val, dv], by simp⟩
        rw [show (ps.length : Int) - 1 - ((0 : Nat) : Int) = (ps.length : Int) - 1 by omega]
        kernel_rfl
    · simp -implicitDefEqProofs (disch := first | omega | assumption | (simp only [QN] <;> omega)) only [QB, QL, Nat.reduceSub, Nat.reduceAdd, Nat.reduceLeDiff, Nat.reduceEqDiff, reduceCtorEq, ↓reduceIte, Int.reduceAdd, Int.reduceSub, Int.reduceToNat, Int.reduceLT, Int.reduceLE, Int.reduceEq, Int.reduceNeg, Nat.reduceLT, QT3, QT4, QT85, QT87, QT93, QT5, QT9, QT95, QT150, t_call imp98, len_pos (b := 4294967296) (by decide), len_zero (b := 4294967296) (by decide), ev_sd9]
      have hlt : m / 1000000000 < m := Nat.div_lt_self (by omega) (by decide)
      refine IH _ (by omega) ⟨_, _, ?_, m / 1000000000, ps ++ [((m % 1000000000 : Nat) : Int)], rfl, rfl, by omega, by rw [hp, dig_app (by decide) h]⟩
      rw [List.length_append]
      kernel_rfl
  · omega
  · refine ⟨_, _, ?_, a, [], rfl, rfl, by omega, rfl⟩
    kernel_rfl
end Go.Proofs.Ythjmbppofgadaaa
