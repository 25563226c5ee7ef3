import Derived.Test.YthjmbppofgadaaaT4
import Derived.Test.YthjmbppofgadaaaB2
import Derived.Test.YthjmbppofgadaaaA5
import Derived.Test.YthjmbppofgadaaaW8
set_option linter.unusedVariables false
set_option linter.unnecessarySimpa false
set_option linter.all false
set_option linter.unusedSimpArgs false
set_option linter.defProp false
namespace Go.Proofs.Ythjmbppofgadaaa
open Go Go.AM
set_option maxHeartbeats 4000000
set_option maxRecDepth 100000
theorem ev_ones64 (x : Nat) (hx : x < 64) (n : Nat) (hn : 1 ≤ n) : pcall G n 42 [wd x] [] = some (num (pc x), []) := by
  obtain ⟨n, rfl⟩ : ∃ m, n = m + 1 := ⟨n - 1, by omega⟩; rw [pcall_at fn42 rfl, imp42, G_tb]
  simp -implicitDefEqProofs (disch := first | omega | assumption | (simp only [QN] <;> omega)) only [QB, QL, Nat.reduceSub, Nat.reduceAdd, Nat.reduceLeDiff, Nat.reduceEqDiff, reduceCtorEq, ↓reduceIte, Int.reduceAdd, Int.reduceSub, Int.reduceToNat, Int.reduceLT, Int.reduceLE, Int.reduceEq, Int.reduceNeg, Nat.reduceLT, QT3, QT21, QT59, QT63, QT87, QT85, QT4, QT25, QT31, t_call imp42, t_cz1 imp43, t_cz2 imp43, t_cj1 imp43, t_cj2 imp43, t_cj3 imp43]
  refine congrArg (fun z => some (V.c (C.t (T.int .i64 z)), [])) ?_
  clear hn
  revert x
  decide +kernel
theorem ev_ones (x : Nat) (hx : x < 64) (n : Nat) (hn : 2 ≤ n) : pcall G n 23 [wd x] [] = some (num (pc x), []) := by
  obtain ⟨n, rfl⟩ : ∃ m, n = m + 1 := ⟨n - 1, by omega⟩; rw [pcall_at fn23 rfl, imp23, G_tb]
  simp -implicitDefEqProofs (disch := first | omega | assumption | (simp only [QN] <;> omega)) only [QB, QL, Nat.reduceSub, Nat.reduceAdd, Nat.reduceLeDiff, Nat.reduceEqDiff, reduceCtorEq, ↓reduceIte, Int.reduceAdd, Int.reduceSub, Int.reduceToNat, Int.reduceLT, Int.reduceLE, Int.reduceEq, Int.reduceNeg, Nat.reduceLT, QT3, QT21, QT59, QT63, QT87, QT85, QT4, QT25, QT31, t_call imp42, t_cz1 imp43, t_cz2 imp43, t_cj1 imp43, t_cj2 imp43, t_cj3 imp43, ev_ones64]
theorem ev_odd (e : List Int) (he : e.length = 6) (hw : Within 1048576 e) (n : Nat) (hn : 30 ≤ n) : pcall G n 22 [.agg (mi .i32 e)] [] = some (num ((oddL e : Nat) : Int), []) := by
  obtain ⟨a, b, c, d, e1, f1, rfl⟩ := len6 he
  obtain ⟨n, rfl⟩ : ∃ m, n = m + 1 := ⟨n - 1, by omega⟩; rw [pcall_at fn22 rfl, imp22, G_tb]
  simp -implicitDefEqProofs (disch := first | omega | assumption | (simp only [QN] <;> omega)) only [QB, QL, Nat.reduceSub, Nat.reduceAdd, Nat.reduceLeDiff, Nat.reduceEqDiff, reduceCtorEq, ↓reduceIte, Int.reduceAdd, Int.reduceSub, Int.reduceToNat, Int.reduceLT, Int.reduceLE, Int.reduceEq, Int.reduceNeg, Nat.reduceLT, QT3, QT21, QT59, QT63, QT87, QT85, QT4, QT25, QT31, t_call imp42, t_cz1 imp43, t_cz2 imp43, t_cj1 imp43, t_cj2 imp43, t_cj3 imp43, bits32_1, bits_1, bits_or, bits_and, bits_xor, shrN, wu64', Nat.mul_one]
  refine loop_up 6 (fun i fr H => fr = [.any, .any, num 0, num ((oddL ([a, b, c, d, e1, f1].take i) : Nat) : Int), .any, .any, .agg (mi .i32 [a, b, c, d, e1, f1]), num i, .any, .any, .any, .any, .any, .any, .any, .any, .any, .any, .any, .any, .any] ∧ H = []) ?_ ?_ ?_
  · rintro i fr H n' hi ⟨rfl, rfl⟩ IH
    simp -implicitDefEqProofs (disch := first | omega | assumption | (simp only [QN] <;> omega)) only [QB, QL, Nat.reduceSub, Nat.reduceAdd, Nat.reduceLeDiff, Nat.reduceEqDiff, reduceCtorEq, ↓reduceIte, Int.reduceAdd, Int.reduceSub, Int.reduceToNat, Int.reduceLT, Int.reduceLE, Int.reduceEq, Int.reduceNeg, Nat.reduceLT, QT3, QT21, QT59, QT63, QT87, QT85, QT4, QT25, QT31, t_call imp42, t_cz1 imp43, t_cz2 imp43, t_cj1 imp43, t_cj2 imp43, t_cj3 imp43, bits32_1, bits_1, bits_or, bits_and, bits_xor, shrN, wu64', Nat.mul_one]
    by_cases h1 : (i : Int) < 6 <;> simp (disch := omega) only [h1, decide_true, decide_false, Bool.not_true, Bool.not_false, reduceCtorEq, ↓reduceIte, Option.bind_some]
    · have hx := hw.getD (by decide) i
      have ho := oddL_lt ([a, b, c, d, e1, f1].take i)
      have hol : ([a, b, c, d, e1, f1].take i).length = i := by simp; omega
      rw [hol] at ho
      have hp : 2 ^ i ≤ 32 := Nat.pow_le_pow_right (n := 2) (by decide) (show i ≤ 5 by omega)
      obtain ⟨z, hz, hz2⟩ : ∃ z : Nat, [a, b, c, d, e1, f1].getD i 0 % 2 = (z : Int) ∧ z ≤ 1 := ⟨([a, b, c, d, e1, f1].getD i 0 % 2).toNat, by omega, by omega⟩
      have hm : z * 2 ^ i ≤ 1 * 2 ^ i := Nat.mul_le_mul_right _ hz2
      have hsh := shlN (v := z) (i := i) (by omega) (by omega)
      simp -implicitDefEqProofs (disch := first | omega | assumption | (simp only [QN] <;> omega)) only [QB, QL, Nat.reduceSub, Nat.reduceAdd, Nat.reduceLeDiff, Nat.reduceEqDiff, reduceCtorEq, ↓reduceIte, Int.reduceAdd, Int.reduceSub, Int.reduceToNat, Int.reduceLT, Int.reduceLE, Int.reduceEq, Int.reduceNeg, Nat.reduceLT, QT3, QT21, QT59, QT63, QT87, QT85, QT4, QT25, QT31, t_call imp42, t_cz1 imp43, t_cz2 imp43, t_cj1 imp43, t_cj2 imp43, t_cj3 imp43, bits32_1, bits_1, bits_or, bits_and, bits_xor, shrN, wu64', Nat.mul_one, hz, hsh]
      rw [or_add ho]
      have hz3 : ([a, b, c, d, e1, f1].getD i 0 % 2).toNat = z := by omega
      have ht := oddL_take (xs := [a, b, c, d, e1, f1]) (i := i) (by simp; omega)
      rw [hz3] at ht
      rw [← ht]
      refine IH _ (by omega) ⟨_, _, ?_, rfl, rfl⟩
      rw [show ((i + 1 : Nat) : Int) = (i : Int) + 1 by omega]
      kernel_rfl
    · simp -implicitDefEqProofs (disch := first | omega | assumption | (simp only [QN] <;> omega)) only [QB, QL, Nat.reduceSub, Nat.reduceAdd, Nat.reduceLeDiff, Nat.reduceEqDiff, reduceCtorEq, ↓reduceIte, Int.reduceAdd, Int.reduceSub, Int.reduceToNat, Int.reduceLT, Int.reduceLE, Int.reduceEq, Int.reduceNeg, Nat.reduceLT, QT3, QT21, QT59, QT63, QT87, QT85, QT4, QT25, QT31, t_call imp42, t_cz1 imp43, t_cz2 imp43, t_cj1 imp43, t_cj2 imp43, t_cj3 imp43, bits32_1, bits_1, bits_or, bits_and, bits_xor, shrN, wu64', Nat.mul_one]
      have : i = 6 := by omega
      subst this
      rfl
  · omega
  · refine ⟨_, _, ?_, rfl, rfl⟩
    kernel_rfl
theorem ev_rev (xs : List (List Int)) (hl : xs.length ≤ 1000000) (n : Nat) (hn : xs.length + 20 ≤ n) : pcall G n 43 [.c (.osl 0 0 xs.length 1)] [.flat false (rows encI xs)] = some (.tup [], [.flat false (rows encI xs.reverse)]) := by
  obtain ⟨n, rfl⟩ : ∃ m, n = m + 1 := ⟨n - 1, by omega⟩; rw [pcall_at fn43 rfl, imp43, G_tb]
  simp -implicitDefEqProofs (disch := first | omega | assumption | (simp only [QN, rowsI_len] <;> omega)) only [QB, QL, Nat.reduceSub, Nat.reduceAdd, Nat.reduceLeDiff, Nat.reduceEqDiff, reduceCtorEq, ↓reduceIte, Int.reduceAdd, Int.reduceSub, Int.reduceToNat, Int.reduceLT, Int.reduceLE, Int.reduceEq, Int.reduceNeg, Nat.reduceLT, QT3, QT21, QT59, QT63, QT87, QT85, QT4, QT25, QT31, t_call imp42, t_cz1 imp43, t_cz2 imp43, t_cj1 imp43, t_cj2 imp43, t_cj3 imp43, bits32_1, bits_1, bits_or, bits_and, bits_xor, shrN, wu64', Nat.mul_one, rowsI_get, rowsI_set, f_i1u]
  refine loop_up xs.length (fun i fr H => ∃ ys : List (List Int), fr = [.c (.osl 0 0 xs.length 1), .any, num i, num ((xs.length : Int) - 1 - i), .any, .any, .any, .any, .any, .any, .any, .any, .any, .any, .any, .any, .any, .any, .any, .any, .any, .any, .any, .any, .any, .any, .any, .any] ∧ H = [.flat false (rows encI ys)] ∧ ys.length = xs.length ∧
    (i : Int) ≤ xs.length - i + 1 ∧ ∀ k, k < xs.length → ys.getD k [] = if k < i ∨ xs.length - 1 - i < k then xs.getD (xs.length - 1 - k) [] else xs.getD k []) ?_ ?_ ?_
  · rintro i fr H n' hi ⟨ys, rfl, rfl, hy, hii, hk⟩ IH
    simp -implicitDefEqProofs (disch := first | omega | assumption | (simp only [QN, rowsI_len] <;> omega)) only [QB, QL, Nat.reduceSub, Nat.reduceAdd, Nat.reduceLeDiff, Nat.reduceEqDiff, reduceCtorEq, ↓reduceIte, Int.reduceAdd, Int.reduceSub, Int.reduceToNat, Int.reduceLT, Int.reduceLE, Int.reduceEq, Int.reduceNeg, Nat.reduceLT, QT3, QT21, QT59, QT63, QT87, QT85, QT4, QT25, QT31, t_call imp42, t_cz1 imp43, t_cz2 imp43, t_cj1 imp43, t_cj2 imp43, t_cj3 imp43, bits32_1, bits_1, bits_or, bits_and, bits_xor, shrN, wu64', Nat.mul_one, rowsI_get, rowsI_set, f_i1u]
    by_cases h1 : (i : Int) < (xs.length : Int) - 1 - i <;> simp (disch := omega) only [h1, decide_true, decide_false, Bool.not_true, Bool.not_false, reduceCtorEq, ↓reduceIte, Option.bind_some]
    · have e1 : ((xs.length : Int) - 1 - i).toNat = xs.length - 1 - i := by omega
      simp -implicitDefEqProofs (disch := first | omega | assumption | (simp only [QN, rowsI_len] <;> omega)) only [QB, QL, Nat.reduceSub, Nat.reduceAdd, Nat.reduceLeDiff, Nat.reduceEqDiff, reduceCtorEq, ↓reduceIte, Int.reduceAdd, Int.reduceSub, Int.reduceToNat, Int.reduceLT, Int.reduceLE, Int.reduceEq, Int.reduceNeg, Nat.reduceLT, QT3, QT21, QT59, QT63, QT87, QT85, QT4, QT25, QT31, t_call imp42, t_cz1 imp43, t_cz2 imp43, t_cj1 imp43, t_cj2 imp43, t_cj3 imp43, bits32_1, bits_1, bits_or, bits_and, bits_xor, shrN, wu64', Nat.mul_one, rowsI_get, rowsI_set, f_i1u, e1]
      refine IH _ (by omega) ⟨_, _, ?_, (ys.set i (ys.getD (xs.length - 1 - i) [])).set (xs.length - 1 - i) (ys.getD i []), rfl, rfl, by simp [hy], by omega, ?_⟩
      · rw [show (xs.length : Int) - 1 - ((i + 1 : Nat) : Int) = (xs.length : Int) - 1 - i - 1 by omega, show ((i + 1 : Nat) : Int) = (i : Int) + 1 by omega]
        kernel_rfl
      · intro k hkl
        have hki := hk i (by omega)
        have hkj := hk (xs.length - 1 - i) (by omega)
        rw [if_neg (by omega)] at hki hkj
        rw [getD_setL (by simp; omega), getD_setL (by omega), hki, hkj, hk k hkl]
        by_cases hkj' : k = xs.length - 1 - i
        · subst hkj'
          rw [if_pos rfl, if_pos (by omega)]
          congr 1; omega
        · rw [if_neg hkj']
          by_cases hki' : k = i
          · subst hki'
            rw [if_pos rfl, if_pos (by omega)]
          · rw [if_neg hki']
            by_cases hc : k < i ∨ xs.length - 1 - i < k
            · rw [if_pos hc, if_pos (by omega)]
            · rw [if_neg hc, if_neg (by omega)]
    · simp -implicitDefEqProofs (disch := first | omega | assumption | (simp only [QN, rowsI_len] <;> omega)) only [QB, QL, Nat.reduceSub, Nat.reduceAdd, Nat.reduceLeDiff, Nat.reduceEqDiff, reduceCtorEq, ↓reduceIte, Int.reduceAdd, Int.reduceSub, Int.reduceToNat, Int.reduceLT, Int.reduceLE, Int.reduceEq, Int.reduceNeg, Nat.reduceLT, QT3, QT21, QT59, QT63, QT87, QT85, QT4, QT25, QT31, t_call imp42, t_cz1 imp43, t_cz2 imp43, t_cj1 imp43, t_cj2 imp43, t_cj3 imp43, bits32_1, bits_1, bits_or, bits_and, bits_xor, shrN, wu64', Nat.mul_one, rowsI_get, rowsI_set, f_i1u]
      have : ys = xs.reverse := by
        apply ext_getD [] (by simp [hy])
        intro k hkl
        rw [hy] at hkl
        rw [hk k hkl, getD_rev [] hkl]
        split
        · rfl
        · congr 1; omega
      rw [this]
  · omega
  · refine ⟨_, _, ?_, xs, rfl, rfl, rfl, by omega, ?_⟩
    · rw [show (xs.length : Int) - 1 - ((0 : Nat) : Int) = (xs.length : Int) - 1 by omega]
      kernel_rfl
    · intro k hkl
      rw [if_neg (by omega)]
theorem ev_red (m : Nat) (hm : m ≤ 6) (K : Nat → Prop) (hK : Spc m K) (span : List Nat) (hs : ∀ v ∈ span, K v ∧ v ≠ 0) (hall : ∀ v, K v → v ≠ 0 → v ∈ span) (hl : span.length ≤ 1000000) (n : Nat) (hn : 2000000 ≤ n) :
    ∃ P, Piv m K span P ∧ RedFrom m P 0 ∧ pcall G n 24 [.c (.t (rowK .i64 (nats span))), num m] [] = some (.c (.t (.sl (outs m P m).length (rows encI (outs m P m).reverse))), []) := by
  suffices h : ∀ R : V, (∀ P, Piv m K span P → RedFrom m P 0 → R = .c (.t (.sl (outs m P m).length (rows encI (outs m P m).reverse)))) → pcall G n 24 [.c (.t (rowK .i64 (nats span))), num m] [] = some (R, []) by
    by_cases hex : ∃ P, Piv m K span P ∧ RedFrom m P 0
    · obtain ⟨P, h1, h2⟩ := hex
      exact ⟨P, h1, h2, h _ fun P' h1' h2' => by rw [good_uniq hm hK hall h1 h2 h1' h2']⟩
    · have h1 := h .any fun P h1 h2 => absurd ⟨P, h1, h2⟩ hex
      have h2 := h (.agg []) fun P h1 h2 => absurd ⟨P, h1, h2⟩ hex
      rw [h1] at h2
      simp at h2
  intro R hR
  have hsl : (nats span).length = span.length := nats_len
  have h6 := pow_le6 hm
  obtain ⟨n, rfl⟩ : ∃ m, n = m + 1 := ⟨n - 1, by omega⟩; rw [pcall_at fn24 rfl, imp24, G_tb]
  simp -implicitDefEqProofs (disch := first | omega | assumption | (simp only [QN, rowsI_len, vecN_len] <;> omega)) only [QB, QL, Nat.reduceSub, Nat.reduceAdd, Nat.reduceLeDiff, Nat.reduceEqDiff, reduceCtorEq, ↓reduceIte, Int.reduceAdd, Int.reduceSub, Int.reduceToNat, Int.reduceLT, Int.reduceLE, Int.reduceEq, Int.reduceNeg, Nat.reduceLT, QT3, QT21, QT59, QT63, QT87, QT85, QT4, QT25, QT31, t_call imp42, t_cz1 imp43, t_cz2 imp43, t_cj1 imp43, t_cj2 imp43, t_cj3 imp43, bits32_1, bits_1, bits_or, bits_and, bits_xor, shrN, wu64', Nat.mul_one, rowsI_get, rowsI_set, f_i1u, nats_get, nats_set, ev_rev, cj_u, sub_allN rowsI_len]
  refine loop_up span.length (fun i fr H => ∃ P, fr = [.any, num m, .any, .any, .c (.t (.sl 0 [])), .c (.osl 0 0 m 1), .any, .any, .any, .any, .any, .any, .any, .any, .any, .any, .c (.t (rowK .i64 (nats span))), num (nats span).length, num i, .any, .any, .any, .any, .any, .any, .any, .any, .any, .any, .any, .any, .any, .any, .any, .any, .any, .any, .any, .any, .any, .any, .any, .any, .any, .any, .any, .any, .any, .any, .any, .any, .any, .any, .any, .any, .any, .any, .any, .any, .any, .any, .any, .any, .any, .any, .any, .any, .any, .any, .any, .any, .any, .any, .any, .any, .any, .any, .any, .any, .any, .any, .any, .any, .any, .any, .any, .any, .any, .any, .any, .any, .any, .any, .any, .any, .any, .any, .any, .any, .any, .any, .any, .any, .any, .any, .any, .any, .any, .any, .any, .any, .any, .any, .any, .any, .any, .any, .any, .any] ∧ H = [objK .i64 (nats P)] ∧ Piv m K (span.take i) P) ?_ ?_ ?_
  · rintro i fr H n' hi ⟨P, rfl, rfl, hP⟩ IH
    have hPl : P.length = m := hP.1.1
    simp -implicitDefEqProofs (disch := first | omega | assumption | (simp only [QN, rowsI_len, vecN_len] <;> omega)) only [QB, QL, Nat.reduceSub, Nat.reduceAdd, Nat.reduceLeDiff, Nat.reduceEqDiff, reduceCtorEq, ↓reduceIte, Int.reduceAdd, Int.reduceSub, Int.reduceToNat, Int.reduceLT, Int.reduceLE, Int.reduceEq, Int.reduceNeg, Nat.reduceLT, QT3, QT21, QT59, QT63, QT87, QT85, QT4, QT25, QT31, t_call imp42, t_cz1 imp43, t_cz2 imp43, t_cj1 imp43, t_cj2 imp43, t_cj3 imp43, bits32_1, bits_1, bits_or, bits_and, bits_xor, shrN, wu64', Nat.mul_one, rowsI_get, rowsI_set, f_i1u, nats_get, nats_set, ev_rev, cj_u, sub_allN rowsI_len]
    by_cases h1 : (i : Int) < (nats span).length <;> simp (disch := omega) only [h1, decide_true, decide_false, Bool.not_true, Bool.not_false, reduceCtorEq, ↓reduceIte, Option.bind_some]
    · have hv := hs (span.getD i 0) (by rw [getD_lt (by omega)]; exact List.getElem_mem _)
      have htk : span.take (i + 1) = span.take i ++ [span.getD i 0] := take_snoc 0 (by omega)
      simp -implicitDefEqProofs (disch := first | omega | assumption | (simp only [QN, rowsI_len, vecN_len] <;> omega)) only [QB, QL, Nat.reduceSub, Nat.reduceAdd, Nat.reduceLeDiff, Nat.reduceEqDiff, reduceCtorEq, ↓reduceIte, Int.reduceAdd, Int.reduceSub, Int.reduceToNat, Int.reduceLT, Int.reduceLE, Int.reduceEq, Int.reduceNeg, Nat.reduceLT, QT3, QT21, QT59, QT63, QT87, QT85, QT4, QT25, QT31, t_call imp42, t_cz1 imp43, t_cz2 imp43, t_cj1 imp43, t_cj2 imp43, t_cj3 imp43, bits32_1, bits_1, bits_or, bits_and, bits_xor, shrN, wu64', Nat.mul_one, rowsI_get, rowsI_set, f_i1u, nats_get, nats_set, ev_rev, cj_u, sub_allN rowsI_len]
      refine loop_up m (fun r fr H => ∃ v' : Nat, fr = [.any, num m, .any, .any, .c (.t (.sl 0 [])), .c (.osl 0 0 m 1), .any, num v', .any, .any, .any, .any, .any, .any, .any, .any, .c (.t (rowK .i64 (nats span))), num (nats span).length, num i, .any, .any, .any, num m, num r, .any, .any, .any, .any, .any, .any, .any, .any, .any, .any, .any, .any, .any, .any, .any, .any, .any, .any, .any, .any, .any, .any, .any, .any, .any, .any, .any, .any, .any, .any, .any, .any, .any, .any, .any, .any, .any, .any, .any, .any, .any, .any, .any, .any, .any, .any, .any, .any, .any, .any, .any, .any, .any, .any, .any, .any, .any, .any, .any, .any, .any, .any, .any, .any, .any, .any, .any, .any, .any, .any, .any, .any, .any, .any, .any, .any, .any, .any, .any, .any, .any, .any, .any, .any, .any, .any, .any, .any, .any, .any, .any, .any, .any, .any, .any] ∧ H = [objK .i64 (nats P)] ∧ Rdp m K P (span.getD i 0) r v') ?_ ?_ ?_
      · rintro r fr H n2 hr ⟨v', rfl, rfl, hv'⟩ IK
        have hlt := hv'.lt
        simp -implicitDefEqProofs (disch := first | omega | assumption | (simp only [QN, rowsI_len, vecN_len] <;> omega)) only [QB, QL, Nat.reduceSub, Nat.reduceAdd, Nat.reduceLeDiff, Nat.reduceEqDiff, reduceCtorEq, ↓reduceIte, Int.reduceAdd, Int.reduceSub, Int.reduceToNat, Int.reduceLT, Int.reduceLE, Int.reduceEq, Int.reduceNeg, Nat.reduceLT, QT3, QT21, QT59, QT63, QT87, QT85, QT4, QT25, QT31, t_call imp42, t_cz1 imp43, t_cz2 imp43, t_cj1 imp43, t_cj2 imp43, t_cj3 imp43, bits32_1, bits_1, bits_or, bits_and, bits_xor, shrN, wu64', Nat.mul_one, rowsI_get, rowsI_set, f_i1u, nats_get, nats_set, ev_rev, cj_u, sub_allN rowsI_len]
        by_cases h2 : (r : Int) < m <;> simp (disch := omega) only [h2, decide_true, decide_false, Bool.not_true, Bool.not_false, reduceCtorEq, ↓reduceIte, Option.bind_some]
        · have hdl : v' / 2 ^ r ≤ v' := Nat.div_le_self ..
          simp -implicitDefEqProofs (disch := first | omega | assumption | (simp only [QN, rowsI_len, vecN_len] <;> omega)) only [QB, QL, Nat.reduceSub, Nat.reduceAdd, Nat.reduceLeDiff, Nat.reduceEqDiff, reduceCtorEq, ↓reduceIte, Int.reduceAdd, Int.reduceSub, Int.reduceToNat, Int.reduceLT, Int.reduceLE, Int.reduceEq, Int.reduceNeg, Nat.reduceLT, QT3, QT21, QT59, QT63, QT87, QT85, QT4, QT25, QT31, t_call imp42, t_cz1 imp43, t_cz2 imp43, t_cj1 imp43, t_cj2 imp43, t_cj3 imp43, bits32_1, bits_1, bits_or, bits_and, bits_xor, shrN, wu64', Nat.mul_one, rowsI_get, rowsI_set, f_i1u, nats_get, nats_set, ev_rev, cj_u, sub_allN rowsI_len]
          by_cases h3 : ((v' / 2 ^ r % 2 : Nat) : Int) = 0 <;> simp (disch := omega) only [h3, decide_true, decide_false, Bool.not_true, Bool.not_false, reduceCtorEq, ↓reduceIte, Option.bind_some]
          · simp -implicitDefEqProofs (disch := first | omega | assumption | (simp only [QN, rowsI_len, vecN_len] <;> omega)) only [QB, QL, Nat.reduceSub, Nat.reduceAdd, Nat.reduceLeDiff, Nat.reduceEqDiff, reduceCtorEq, ↓reduceIte, Int.reduceAdd, Int.reduceSub, Int.reduceToNat, Int.reduceLT, Int.reduceLE, Int.reduceEq, Int.reduceNeg, Nat.reduceLT, QT3, QT21, QT59, QT63, QT87, QT85, QT4, QT25, QT31, t_call imp42, t_cz1 imp43, t_cz2 imp43, t_cj1 imp43, t_cj2 imp43, t_cj3 imp43, bits32_1, bits_1, bits_or, bits_and, bits_xor, shrN, wu64', Nat.mul_one, rowsI_get, rowsI_set, f_i1u, nats_get, nats_set, ev_rev, cj_u, sub_allN rowsI_len]
            refine IK _ (by omega) ⟨_, _, ?_, v', rfl, rfl, hv'.skip (by omega)⟩
            rw [show ((r + 1 : Nat) : Int) = (r : Int) + 1 by omega]
            kernel_rfl
          · simp -implicitDefEqProofs (disch := first | omega | assumption | (simp only [QN, rowsI_len, vecN_len] <;> omega)) only [QB, QL, Nat.reduceSub, Nat.reduceAdd, Nat.reduceLeDiff, Nat.reduceEqDiff, reduceCtorEq, ↓reduceIte, Int.reduceAdd, Int.reduceSub, Int.reduceToNat, Int.reduceLT, Int.reduceLE, Int.reduceEq, Int.reduceNeg, Nat.reduceLT, QT3, QT21, QT59, QT63, QT87, QT85, QT4, QT25, QT31, t_call imp42, t_cz1 imp43, t_cz2 imp43, t_cj1 imp43, t_cj2 imp43, t_cj3 imp43, bits32_1, bits_1, bits_or, bits_and, bits_xor, shrN, wu64', Nat.mul_one, rowsI_get, rowsI_set, f_i1u, nats_get, nats_set, ev_rev, cj_u, sub_allN rowsI_len]
            by_cases h4 : ((P.getD r 0 : Nat) : Int) = 0 <;> simp (disch := omega) only [h4, decide_true, decide_false, Bool.not_true, Bool.not_false, reduceCtorEq, ↓reduceIte, Option.bind_some]
            · simp -implicitDefEqProofs (disch := first | omega | assumption | (simp only [QN, rowsI_len, vecN_len] <;> omega)) only [QB, QL, Nat.reduceSub, Nat.reduceAdd, Nat.reduceLeDiff, Nat.reduceEqDiff, reduceCtorEq, ↓reduceIte, Int.reduceAdd, Int.reduceSub, Int.reduceToNat, Int.reduceLT, Int.reduceLE, Int.reduceEq, Int.reduceNeg, Nat.reduceLT, QT3, QT21, QT59, QT63, QT87, QT85, QT4, QT25, QT31, t_call imp42, t_cz1 imp43, t_cz2 imp43, t_cj1 imp43, t_cj2 imp43, t_cj3 imp43, bits32_1, bits_1, bits_or, bits_and, bits_xor, shrN, wu64', Nat.mul_one, rowsI_get, rowsI_set, f_i1u, nats_get, nats_set, ev_rev, cj_u, sub_allN rowsI_len]
              refine IH _ (by omega) ⟨_, _, ?_, P.set r v', rfl, rfl, by rw [htk]; exact hv'.put hP (by omega) (by omega)⟩
              rw [show ((i + 1 : Nat) : Int) = (i : Int) + 1 by omega]
              kernel_rfl
            · have hPr : P.getD r 0 < 2 ^ m := by
                rcases hP.1.2 r (by omega) with h | h
                · omega
                · exact h.1
              simp -implicitDefEqProofs (disch := first | omega | assumption | (simp only [QN, rowsI_len, vecN_len] <;> omega)) only [QB, QL, Nat.reduceSub, Nat.reduceAdd, Nat.reduceLeDiff, Nat.reduceEqDiff, reduceCtorEq, ↓reduceIte, Int.reduceAdd, Int.reduceSub, Int.reduceToNat, Int.reduceLT, Int.reduceLE, Int.reduceEq, Int.reduceNeg, Nat.reduceLT, QT3, QT21, QT59, QT63, QT87, QT85, QT4, QT25, QT31, t_call imp42, t_cz1 imp43, t_cz2 imp43, t_cj1 imp43, t_cj2 imp43, t_cj3 imp43, bits32_1, bits_1, bits_or, bits_and, bits_xor, shrN, wu64', Nat.mul_one, rowsI_get, rowsI_set, f_i1u, nats_get, nats_set, ev_rev, cj_u, sub_allN rowsI_len]
              refine IK _ (by omega) ⟨_, _, ?_, v' ^^^ P.getD r 0, rfl, rfl, hv'.step hm hK hP (by omega) (by omega) (by omega)⟩
              rw [show ((r + 1 : Nat) : Int) = (r : Int) + 1 by omega]
              kernel_rfl
        · have hrm : r = m := by omega
          subst hrm
          simp -implicitDefEqProofs (disch := first | omega | assumption | (simp only [QN, rowsI_len, vecN_len] <;> omega)) only [QB, QL, Nat.reduceSub, Nat.reduceAdd, Nat.reduceLeDiff, Nat.reduceEqDiff, reduceCtorEq, ↓reduceIte, Int.reduceAdd, Int.reduceSub, Int.reduceToNat, Int.reduceLT, Int.reduceLE, Int.reduceEq, Int.reduceNeg, Nat.reduceLT, QT3, QT21, QT59, QT63, QT87, QT85, QT4, QT25, QT31, t_call imp42, t_cz1 imp43, t_cz2 imp43, t_cj1 imp43, t_cj2 imp43, t_cj3 imp43, bits32_1, bits_1, bits_or, bits_and, bits_xor, shrN, wu64', Nat.mul_one, rowsI_get, rowsI_set, f_i1u, nats_get, nats_set, ev_rev, cj_u, sub_allN rowsI_len]
          refine IH _ (by omega) ⟨_, _, ?_, P, rfl, rfl, by rw [htk]; exact hv'.none hP hv.2⟩
          rw [show ((i + 1 : Nat) : Int) = (i : Int) + 1 by omega]
          kernel_rfl
      · omega
      · refine ⟨_, _, ?_, span.getD i 0, rfl, rfl, Rdp.start hK hv.1⟩
        kernel_rfl
    · have hie : i = span.length := by omega
      subst hie
      rw [List.take_length] at hP
      simp -implicitDefEqProofs (disch := first | omega | assumption | (simp only [QN, rowsI_len, vecN_len] <;> omega)) only [QB, QL, Nat.reduceSub, Nat.reduceAdd, Nat.reduceLeDiff, Nat.reduceEqDiff, reduceCtorEq, ↓reduceIte, Int.reduceAdd, Int.reduceSub, Int.reduceToNat, Int.reduceLT, Int.reduceLE, Int.reduceEq, Int.reduceNeg, Nat.reduceLT, QT3, QT21, QT59, QT63, QT87, QT85, QT4, QT25, QT31, t_call imp42, t_cz1 imp43, t_cz2 imp43, t_cj1 imp43, t_cj2 imp43, t_cj3 imp43, bits32_1, bits_1, bits_or, bits_and, bits_xor, shrN, wu64', Nat.mul_one, rowsI_get, rowsI_set, f_i1u, nats_get, nats_set, ev_rev, cj_u, sub_allN rowsI_len]
      refine loop_up m (fun r fr H => ∃ P, fr = [.any, num m, .any, .any, .c (.t (.sl 0 [])), .c (.osl 0 0 m 1), .any, .any, .any, .c (.osl 1 0 (outs m P r).length 1), num ((m : Int) - 1 - r), .any, .any, .any, .any, .any, .any, .any, .any, .any, .any, .any, .any, .any, .any, .any, .any, .any, .any, .any, .any, .any, .any, .any, .any, .any, .any, .any, .any, .any, .any, .any, .any, .any, .any, .any, .any, .any, .any, .any, .any, .any, .any, .any, .any, .any, .any, .any, .any, .any, .any, .any, .any, .any, .any, .any, .any, .any, .any, .any, .any, .any, .any, .any, .any, .any, .any, .any, .any, .any, .any, .any, .any, .any, .any, .any, .any, .any, .any, .any, .any, .any, .any, .any, .any, .any, .any, .any, .any, .any, .any, .any, .any, .any, .any, .any, .any, .any, .any, .any, .any, .any, .any, .any, .any, .any, .any, .any, .any] ∧ H = [objK .i64 (nats P), .flat false (rows encI (outs m P r))] ∧ Piv m K span P ∧ RedFrom m P (m - r)) ?_ ?_ ?_
      · rintro r fr H n2 hr ⟨P, rfl, rfl, hP, hRF⟩ IK
        have hPl : P.length = m := hP.1.1
        have hol : (outs m P r).length ≤ r := by
          clear IK hRF
          induction r with
          | zero => simp [outs]
          | succ r ih =>
            simp only [outs, List.length_append]
            have := ih (by omega)
            split <;> simp <;> omega
        simp -implicitDefEqProofs (disch := first | omega | assumption | (simp only [QN, rowsI_len, vecN_len] <;> omega)) only [QB, QL, Nat.reduceSub, Nat.reduceAdd, Nat.reduceLeDiff, Nat.reduceEqDiff, reduceCtorEq, ↓reduceIte, Int.reduceAdd, Int.reduceSub, Int.reduceToNat, Int.reduceLT, Int.reduceLE, Int.reduceEq, Int.reduceNeg, Nat.reduceLT, QT3, QT21, QT59, QT63, QT87, QT85, QT4, QT25, QT31, t_call imp42, t_cz1 imp43, t_cz2 imp43, t_cj1 imp43, t_cj2 imp43, t_cj3 imp43, bits32_1, bits_1, bits_or, bits_and, bits_xor, shrN, wu64', Nat.mul_one, rowsI_get, rowsI_set, f_i1u, nats_get, nats_set, ev_rev, cj_u, sub_allN rowsI_len]
        by_cases h2 : (0 : Int) ≤ (m : Int) - 1 - r <;> simp (disch := omega) only [h2, decide_true, decide_false, Bool.not_true, Bool.not_false, reduceCtorEq, ↓reduceIte, Option.bind_some]
        · have ei : ((m : Int) - 1 - r).toNat = m - 1 - r := by omega
          simp -implicitDefEqProofs (disch := first | omega | assumption | (simp only [QN, rowsI_len, vecN_len] <;> omega)) only [QB, QL, Nat.reduceSub, Nat.reduceAdd, Nat.reduceLeDiff, Nat.reduceEqDiff, reduceCtorEq, ↓reduceIte, Int.reduceAdd, Int.reduceSub, Int.reduceToNat, Int.reduceLT, Int.reduceLE, Int.reduceEq, Int.reduceNeg, Nat.reduceLT, QT3, QT21, QT59, QT63, QT87, QT85, QT4, QT25, QT31, t_call imp42, t_cz1 imp43, t_cz2 imp43, t_cj1 imp43, t_cj2 imp43, t_cj3 imp43, bits32_1, bits_1, bits_or, bits_and, bits_xor, shrN, wu64', Nat.mul_one, rowsI_get, rowsI_set, f_i1u, nats_get, nats_set, ev_rev, cj_u, sub_allN rowsI_len, ei]
          by_cases h3 : ((P.getD (m - 1 - r) 0 : Nat) : Int) = 0 <;> simp (disch := omega) only [h3, decide_true, decide_false, Bool.not_true, Bool.not_false, reduceCtorEq, ↓reduceIte, Option.bind_some]
          · have h30 : P.getD (m - 1 - r) 0 = 0 := by omega
            simp -implicitDefEqProofs (disch := first | omega | assumption | (simp only [QN, rowsI_len, vecN_len] <;> omega)) only [QB, QL, Nat.reduceSub, Nat.reduceAdd, Nat.reduceLeDiff, Nat.reduceEqDiff, reduceCtorEq, ↓reduceIte, Int.reduceAdd, Int.reduceSub, Int.reduceToNat, Int.reduceLT, Int.reduceLE, Int.reduceEq, Int.reduceNeg, Nat.reduceLT, QT3, QT21, QT59, QT63, QT87, QT85, QT4, QT25, QT31, t_call imp42, t_cz1 imp43, t_cz2 imp43, t_cj1 imp43, t_cj2 imp43, t_cj3 imp43, bits32_1, bits_1, bits_or, bits_and, bits_xor, shrN, wu64', Nat.mul_one, rowsI_get, rowsI_set, f_i1u, nats_get, nats_set, ev_rev, cj_u, sub_allN rowsI_len]
            have ho : outs m P (r + 1) = outs m P r := by simp only [outs]; rw [if_pos h30, List.append_nil]
            refine IK _ (by omega) ⟨_, _, ?_, P, rfl, by rw [ho], hP, bs_done (by rw [show m - (r + 1) + 1 = m - r by omega]; exact hRF) (fun h => absurd (by rw [show m - (r + 1) = m - 1 - r by omega]; exact h30) h)⟩
            rw [ho, show (m : Int) - 1 - ((r + 1 : Nat) : Int) = (m : Int) - 1 - r - 1 by omega]
            kernel_rfl
          · simp -implicitDefEqProofs (disch := first | omega | assumption | (simp only [QN, rowsI_len, vecN_len] <;> omega)) only [QB, QL, Nat.reduceSub, Nat.reduceAdd, Nat.reduceLeDiff, Nat.reduceEqDiff, reduceCtorEq, ↓reduceIte, Int.reduceAdd, Int.reduceSub, Int.reduceToNat, Int.reduceLT, Int.reduceLE, Int.reduceEq, Int.reduceNeg, Nat.reduceLT, QT3, QT21, QT59, QT63, QT87, QT85, QT4, QT25, QT31, t_call imp42, t_cz1 imp43, t_cz2 imp43, t_cj1 imp43, t_cj2 imp43, t_cj3 imp43, bits32_1, bits_1, bits_or, bits_and, bits_xor, shrN, wu64', Nat.mul_one, rowsI_get, rowsI_set, f_i1u, nats_get, nats_set, ev_rev, cj_u, sub_allN rowsI_len]
            refine loop_up r (fun q fr H => ∃ P2, fr = [.any, num m, .any, .any, .c (.t (.sl 0 [])), .c (.osl 0 0 m 1), .any, .any, .any, .c (.osl 1 0 (outs m P2 r).length 1), num ((m : Int) - 1 - r), num ((m : Int) - r + q), .any, .any, .any, .any, .any, .any, .any, .any, .any, .any, .any, .any, .any, .any, .any, .any, .any, .any, .any, .any, .any, .any, .any, .any, .any, .any, .any, .any, .any, .any, .any, .any, .any, .any, .any, .any, .any, .any, .any, .any, .any, .any, .any, .any, .any, .any, .any, .any, .any, .any, .any, .any, .any, .any, .any, .any, .any, .any, .any, .any, .any, .any, .any, .any, .any, .any, .any, .any, .any, .any, .any, .any, .any, .any, .any, .any, .any, .any, .any, .any, .any, .any, .any, .any, .any, .any, .any, .any, .any, .any, .any, .any, .any, .any, .any, .any, .any, .any, .any, .any, .any, .any, .any, .any, .any, .any, .any] ∧ H = [objK .i64 (nats P2), .flat false (rows encI (outs m P2 r))] ∧
              Piv m K span P2 ∧ P2.getD (m - 1 - r) 0 ≠ 0 ∧ RedFrom m P2 (m - r) ∧ RedTo m P2 (m - 1 - r) (m - r + q) ∧ (outs m P2 r).length ≤ r) ?_ ?_ ?_
            · rintro q fr H n3 hq ⟨P2, rfl, rfl, hP2, hn0, hF2, hT2, hol2⟩ IQ
              have hPl2 : P2.length = m := hP2.1.1
              have hbi : ∀ j, j < m → P2.getD j 0 < 2 ^ m := fun j hj => by
                rcases hP2.1.2 j hj with h | h
                · rw [h]; exact Nat.pow_pos (by decide)
                · exact h.1
              have hb1 := hbi (m - 1 - r) (by omega)
              simp -implicitDefEqProofs (disch := first | omega | assumption | (simp only [QN, rowsI_len, vecN_len] <;> omega)) only [QB, QL, Nat.reduceSub, Nat.reduceAdd, Nat.reduceLeDiff, Nat.reduceEqDiff, reduceCtorEq, ↓reduceIte, Int.reduceAdd, Int.reduceSub, Int.reduceToNat, Int.reduceLT, Int.reduceLE, Int.reduceEq, Int.reduceNeg, Nat.reduceLT, QT3, QT21, QT59, QT63, QT87, QT85, QT4, QT25, QT31, t_call imp42, t_cz1 imp43, t_cz2 imp43, t_cj1 imp43, t_cj2 imp43, t_cj3 imp43, bits32_1, bits_1, bits_or, bits_and, bits_xor, shrN, wu64', Nat.mul_one, rowsI_get, rowsI_set, f_i1u, nats_get, nats_set, ev_rev, cj_u, sub_allN rowsI_len]
              by_cases h5 : (m : Int) - r + q < m <;> simp (disch := omega) only [h5, decide_true, decide_false, Bool.not_true, Bool.not_false, reduceCtorEq, ↓reduceIte, Option.bind_some]
              · have ek : ((m : Int) - r + q).toNat = m - r + q := by omega
                have ek2 : IntKind.u64.wrap ((m : Int) - r + q) = (m : Int) - r + q := wu64' (by omega) (by omega)
                have hb2 := hbi (m - r + q) (by omega)
                have hdl : P2.getD (m - 1 - r) 0 / 2 ^ (m - r + q) ≤ P2.getD (m - 1 - r) 0 := Nat.div_le_self ..
                by_cases h6 : P2.getD (m - r + q) 0 = 0
                · have d6 : decide (((P2.getD (m - r + q) 0 : Nat) : Int) = 0) = true := decide_eq_true (by omega)
                  simp -implicitDefEqProofs (disch := first | omega | assumption | (simp only [QN, rowsI_len, vecN_len] <;> omega)) only [QB, QL, Nat.reduceSub, Nat.reduceAdd, Nat.reduceLeDiff, Nat.reduceEqDiff, reduceCtorEq, ↓reduceIte, Int.reduceAdd, Int.reduceSub, Int.reduceToNat, Int.reduceLT, Int.reduceLE, Int.reduceEq, Int.reduceNeg, Nat.reduceLT, QT3, QT21, QT59, QT63, QT87, QT85, QT4, QT25, QT31, t_call imp42, t_cz1 imp43, t_cz2 imp43, t_cj1 imp43, t_cj2 imp43, t_cj3 imp43, bits32_1, bits_1, bits_or, bits_and, bits_xor, shrN, wu64', Nat.mul_one, rowsI_get, rowsI_set, f_i1u, nats_get, nats_set, ev_rev, cj_u, sub_allN rowsI_len, ek, ek2, ei, d6]
                  refine IQ _ (by omega) ⟨_, _, ?_, P2, rfl, rfl, hP2, hn0, hF2, bs_skip hT2 (fun h => h.1 h6), hol2⟩
                  rw [show (m : Int) - r + ((q + 1 : Nat) : Int) = (m : Int) - r + q + 1 by omega]
                  kernel_rfl
                · have d6 : decide (((P2.getD (m - r + q) 0 : Nat) : Int) = 0) = false := decide_eq_false (by omega)
                  by_cases h7 : P2.getD (m - 1 - r) 0 / 2 ^ (m - r + q) % 2 = 1
                  · have d7 : decide (((P2.getD (m - 1 - r) 0 / 2 ^ (m - r + q) % 2 : Nat) : Int) = 1) = true := decide_eq_true (by omega)
                    have hbs := bs_step hm hK hP2 (i := m - 1 - r) (k := m - r + q) (by omega) (by omega) hn0 h6 (by rw [show m - 1 - r + 1 = m - r by omega]; exact hF2) hT2 h7
                    simp -implicitDefEqProofs (disch := first | omega | assumption | (simp only [QN, rowsI_len, vecN_len] <;> omega)) only [QB, QL, Nat.reduceSub, Nat.reduceAdd, Nat.reduceLeDiff, Nat.reduceEqDiff, reduceCtorEq, ↓reduceIte, Int.reduceAdd, Int.reduceSub, Int.reduceToNat, Int.reduceLT, Int.reduceLE, Int.reduceEq, Int.reduceNeg, Nat.reduceLT, QT3, QT21, QT59, QT63, QT87, QT85, QT4, QT25, QT31, t_call imp42, t_cz1 imp43, t_cz2 imp43, t_cj1 imp43, t_cj2 imp43, t_cj3 imp43, bits32_1, bits_1, bits_or, bits_and, bits_xor, shrN, wu64', Nat.mul_one, rowsI_get, rowsI_set, f_i1u, nats_get, nats_set, ev_rev, cj_u, sub_allN rowsI_len, ek, ek2, ei, d6, d7]
                    have ho : outs m (P2.set (m - 1 - r) (P2.getD (m - 1 - r) 0 ^^^ P2.getD (m - r + q) 0)) r = outs m P2 r := outs_eq (fun j h1 h2 => hbs.2.2.2.2 j (by omega)) (by omega)
                    refine IQ _ (by omega) ⟨_, _, ?_, P2.set (m - 1 - r) (P2.getD (m - 1 - r) 0 ^^^ P2.getD (m - r + q) 0), rfl, rfl, hbs.1, hbs.2.1, by have := hbs.2.2.1; rwa [show m - 1 - r + 1 = m - r by omega] at this, hbs.2.2.2.1, by rw [ho]; exact hol2⟩
                    rw [ho, show (m : Int) - r + ((q + 1 : Nat) : Int) = (m : Int) - r + q + 1 by omega]
                    kernel_rfl
                  · have d7 : decide (((P2.getD (m - 1 - r) 0 / 2 ^ (m - r + q) % 2 : Nat) : Int) = 1) = false := decide_eq_false (by omega)
                    simp -implicitDefEqProofs (disch := first | omega | assumption | (simp only [QN, rowsI_len, vecN_len] <;> omega)) only [QB, QL, Nat.reduceSub, Nat.reduceAdd, Nat.reduceLeDiff, Nat.reduceEqDiff, reduceCtorEq, ↓reduceIte, Int.reduceAdd, Int.reduceSub, Int.reduceToNat, Int.reduceLT, Int.reduceLE, Int.reduceEq, Int.reduceNeg, Nat.reduceLT, QT3, QT21, QT59, QT63, QT87, QT85, QT4, QT25, QT31, t_call imp42, t_cz1 imp43, t_cz2 imp43, t_cj1 imp43, t_cj2 imp43, t_cj3 imp43, bits32_1, bits_1, bits_or, bits_and, bits_xor, shrN, wu64', Nat.mul_one, rowsI_get, rowsI_set, f_i1u, nats_get, nats_set, ev_rev, cj_u, sub_allN rowsI_len, ek, ek2, ei, d6, d7]
                    refine IQ _ (by omega) ⟨_, _, ?_, P2, rfl, rfl, hP2, hn0, hF2, bs_skip hT2 (fun h => h7 h.2), hol2⟩
                    rw [show (m : Int) - r + ((q + 1 : Nat) : Int) = (m : Int) - r + q + 1 by omega]
                    kernel_rfl
              · simp -implicitDefEqProofs (disch := first | omega | assumption | (simp only [QN, rowsI_len, vecN_len] <;> omega)) only [QB, QL, Nat.reduceSub, Nat.reduceAdd, Nat.reduceLeDiff, Nat.reduceEqDiff, reduceCtorEq, ↓reduceIte, Int.reduceAdd, Int.reduceSub, Int.reduceToNat, Int.reduceLT, Int.reduceLE, Int.reduceEq, Int.reduceNeg, Nat.reduceLT, QT3, QT21, QT59, QT63, QT87, QT85, QT4, QT25, QT31, t_call imp42, t_cz1 imp43, t_cz2 imp43, t_cj1 imp43, t_cj2 imp43, t_cj3 imp43, bits32_1, bits_1, bits_or, bits_and, bits_xor, shrN, wu64', Nat.mul_one, rowsI_get, rowsI_set, f_i1u, nats_get, nats_set, ev_rev, cj_u, sub_allN rowsI_len]
                have hqr : q = r := by omega
                subst hqr
                refine loop_up m (fun k fr H => fr = [.any, num m, .any, .any, .c (.t (.sl 0 [])), .c (.osl 0 0 m 1), .any, .any, .any, .c (.osl 1 0 (outs m P2 q).length 1), num ((m : Int) - 1 - q), .any, .c (.osl 2 0 m 1), .any, .any, .any, .any, .any, .any, .any, .any, .any, .any, .any, .any, .any, .any, .any, .any, .any, .any, .any, .any, .any, .any, .any, .any, .any, .any, .any, .any, .any, .any, .any, .any, .any, .any, .any, .any, .any, .any, .any, .any, .any, .any, .any, .any, .any, .any, .any, .any, .any, .any, .any, .any, .any, .any, .any, .any, .any, .any, .any, .any, .any, .any, .any, .any, .any, .any, .any, .any, .any, .any, .any, .any, .any, .any, .any, .any, .any, .any, .any, .any, .any, .any, .any, num m, num k, .any, .any, .any, .any, .any, .any, .any, .any, .any, .any, .any, .any, .any, .any, .any, .any, .any, .any, .any, .any, .any] ∧
                  H = [objK .i64 (nats P2), .flat false (rows encI (outs m P2 q)), objK .i64 ((vecN m (P2.getD (m - 1 - q) 0)).take k ++ List.replicate (m - k) 0)]) ?_ ?_ ?_
                · rintro k fr H n4 hk ⟨rfl, rfl⟩ IL
                  have hvl := vecN_len (n := m) (w := P2.getD (m - 1 - q) 0)
                  simp -implicitDefEqProofs (disch := first | omega | assumption | (simp only [QN, rowsI_len, vecN_len] <;> omega)) only [QB, QL, Nat.reduceSub, Nat.reduceAdd, Nat.reduceLeDiff, Nat.reduceEqDiff, reduceCtorEq, ↓reduceIte, Int.reduceAdd, Int.reduceSub, Int.reduceToNat, Int.reduceLT, Int.reduceLE, Int.reduceEq, Int.reduceNeg, Nat.reduceLT, QT3, QT21, QT59, QT63, QT87, QT85, QT4, QT25, QT31, t_call imp42, t_cz1 imp43, t_cz2 imp43, t_cj1 imp43, t_cj2 imp43, t_cj3 imp43, bits32_1, bits_1, bits_or, bits_and, bits_xor, shrN, wu64', Nat.mul_one, rowsI_get, rowsI_set, f_i1u, nats_get, nats_set, ev_rev, cj_u, sub_allN rowsI_len]
                  by_cases h6 : (k : Int) < m <;> simp (disch := omega) only [h6, decide_true, decide_false, Bool.not_true, Bool.not_false, reduceCtorEq, ↓reduceIte, Option.bind_some]
                  · have hdl : P2.getD (m - 1 - q) 0 / 2 ^ k ≤ P2.getD (m - 1 - q) 0 := Nat.div_le_self ..
                    simp -implicitDefEqProofs (disch := first | omega | assumption | (simp only [QN, rowsI_len, vecN_len] <;> omega)) only [QB, QL, Nat.reduceSub, Nat.reduceAdd, Nat.reduceLeDiff, Nat.reduceEqDiff, reduceCtorEq, ↓reduceIte, Int.reduceAdd, Int.reduceSub, Int.reduceToNat, Int.reduceLT, Int.reduceLE, Int.reduceEq, Int.reduceNeg, Nat.reduceLT, QT3, QT21, QT59, QT63, QT87, QT85, QT4, QT25, QT31, t_call imp42, t_cz1 imp43, t_cz2 imp43, t_cj1 imp43, t_cj2 imp43, t_cj3 imp43, bits32_1, bits_1, bits_or, bits_and, bits_xor, shrN, wu64', Nat.mul_one, rowsI_get, rowsI_set, f_i1u, nats_get, nats_set, ev_rev, cj_u, sub_allN rowsI_len, ei]
                    have htk2 : ((vecN m (P2.getD (m - 1 - q) 0)).take k).length = k := by rw [List.length_take, hvl]; omega
                    rw [set_fill htk2 (by omega), ← vecN_get (n := m) (w := P2.getD (m - 1 - q) 0) (k := k) (by omega), ← take_snoc 0 (by omega)]
                    refine IL _ (by omega) ⟨_, _, ?_, rfl, rfl⟩
                    rw [show m - k - 1 = m - (k + 1) by omega, show ((k + 1 : Nat) : Int) = (k : Int) + 1 by omega]
                    kernel_rfl
                  · have hkm : k = m := by omega
                    rw [hkm]
                    have htl : (vecN m (P2.getD (m - 1 - q) 0)).take m = vecN m (P2.getD (m - 1 - q) 0) := List.take_of_length_le (by omega)
                    rw [htl, Nat.sub_self, List.replicate_zero, List.append_nil]
                    simp -implicitDefEqProofs (disch := first | omega | assumption | (simp only [QN, rowsI_len, vecN_len] <;> omega)) only [QB, QL, Nat.reduceSub, Nat.reduceAdd, Nat.reduceLeDiff, Nat.reduceEqDiff, reduceCtorEq, ↓reduceIte, Int.reduceAdd, Int.reduceSub, Int.reduceToNat, Int.reduceLT, Int.reduceLE, Int.reduceEq, Int.reduceNeg, Nat.reduceLT, QT3, QT21, QT59, QT63, QT87, QT85, QT4, QT25, QT31, t_call imp42, t_cz1 imp43, t_cz2 imp43, t_cj1 imp43, t_cj2 imp43, t_cj3 imp43, bits32_1, bits_1, bits_or, bits_and, bits_xor, shrN, wu64', Nat.mul_one, rowsI_get, rowsI_set, f_i1u, nats_get, nats_set, ev_rev, cj_u, sub_allN rowsI_len]
                    have ho : outs m P2 (q + 1) = outs m P2 q ++ [vecN m (P2.getD (m - 1 - q) 0)] := by simp only [outs]; rw [if_neg hn0]
                    refine IK _ (by omega) ⟨_, _, ?_, P2, rfl, rfl, hP2, bs_done (by rw [show m - (q + 1) + 1 = m - q by omega]; exact hF2) (fun _ => by rw [show m - (q + 1) = m - 1 - q by omega]; rw [show m - q + q = m by omega] at hT2; exact hT2)⟩
                    have hrow : encI (vecN m (P2.getD (m - 1 - q) 0)) = [T.sl m (ks .i64 (vecN m (P2.getD (m - 1 - q) 0)))] := by simp [encI, vecN_len]
                    have hsub : sub (ks .i64 (vecN m (P2.getD (m - 1 - q) 0))) 0 m = ks .i64 (vecN m (P2.getD (m - 1 - q) 0)) := sub_allN (by rw [ks_len, vecN_len])
                    rw [hsub, ho, List.length_append, rows_app, rows_one, hrow, show (m : Int) - 1 - ((q + 1 : Nat) : Int) = (m : Int) - 1 - q - 1 by omega]
                    show _ = _
                    kernel_rfl
                · omega
                · refine ⟨_, _, ?_, rfl, rfl⟩
                  rw [Nat.sub_zero]
                  kernel_rfl
            · omega
            · refine ⟨_, _, ?_, P, rfl, rfl, hP, by omega, hRF, fun a g1 g2 _ _ => by omega, hol⟩
              rw [show (m : Int) - r + ((0 : Nat) : Int) = (m : Int) - 1 - r + 1 by omega]
              kernel_rfl
        · have hrm : r = m := by omega
          subst hrm
          simp -implicitDefEqProofs (disch := first | omega | assumption | (simp only [QN, rowsI_len, vecN_len] <;> omega)) only [QB, QL, Nat.reduceSub, Nat.reduceAdd, Nat.reduceLeDiff, Nat.reduceEqDiff, reduceCtorEq, ↓reduceIte, Int.reduceAdd, Int.reduceSub, Int.reduceToNat, Int.reduceLT, Int.reduceLE, Int.reduceEq, Int.reduceNeg, Nat.reduceLT, QT3, QT21, QT59, QT63, QT87, QT85, QT4, QT25, QT31, t_call imp42, t_cz1 imp43, t_cz2 imp43, t_cj1 imp43, t_cj2 imp43, t_cj3 imp43, bits32_1, bits_1, bits_or, bits_and, bits_xor, shrN, wu64', Nat.mul_one, rowsI_get, rowsI_set, f_i1u, nats_get, nats_set, ev_rev, cj_u, sub_allN rowsI_len]
          rw [hR P hP (by rw [Nat.sub_self] at hRF; exact hRF), sub_allN (by rw [rowsI_len, List.length_reverse])]
      · omega
      · refine ⟨_, _, ?_, P, rfl, rfl, hP, fun j h1 h2 => by omega⟩
        rw [show (m : Int) - 1 - ((0 : Nat) : Int) = (m : Int) - 1 by omega]
        kernel_rfl
  · omega
  · refine ⟨_, _, ?_, List.replicate m 0, rfl, rfl, Piv.nil hK⟩
    rw [nats_rep]
    kernel_rfl
end Go.Proofs.Ythjmbppofgadaaa
