import Derived.Test.YthjmbppofgadaaaW9
import Derived.Test.YthjmbppofgadaaaW8
import Derived.Test.YthjmbppofgadaaaB2
set_option linter.unusedVariables false
set_option linter.unnecessarySimpa false
set_option linter.all false
set_option linter.unusedSimpArgs false
set_option linter.defProp false
namespace Go.Proofs.Ythjmbppofgadaaa
open Go Go.AM
set_option maxHeartbeats 4000000
set_option maxRecDepth 100000
theorem tm2 {a : Nat} : (a : Int).tmod 2 = ((a % 2 : Nat) : Int) := by rw [Int.tmod_eq_emod_of_nonneg (by omega)]; exact (Int.natCast_emod ..).symm
noncomputable def vOf (x : RTm) : Nat := oddL (ex6 x.e)
noncomputable def vv (xs : List RPo) : List Nat := xs.flatMap fun p => p.t.map vOf
theorem ldS_R (x : RPo) : ldS [.int .i64, .sl 9] (encR64 x) 0 = some (.agg [.t (.int .i64 x.n), .t (tms64 x.t)], []) := rfl
theorem ldS_T (x : RTm) : ldS [.int .i64, .int .i64, .ptr, .int .i32, .int .i32, .int .i32, .int .i32, .int .i32, .int .i32] (enc64 x) 0 = some (.agg (.t (.int .i64 (zn x.s x.p)) :: .t (.int .i64 (zq x.p x.q)) :: .t .nilp :: mi .i32 (ex6 x.e)), []) := by
  unfold enc64
  obtain ⟨a, b, c, d, e, f, h⟩ := len6 (ex6_len x.e)
  rw [h]
  rfl
theorem get64_n (x : RPo) (xs : List RPo) : (rows encR64 (x :: xs))[0]? = some (.int .i64 x.n) := rfl
theorem take_E {zs : List Int} {k : IntKind} (h : zs.length = 6) : (mi k zs).take 6 = mi k zs := List.take_of_length_le (by rw [mi_len]; omega)
def orthB (R : List Nat) (s : Nat) : Bool := R.all fun r => !od (r &&& s)
theorem orthB_iff {R : List Nat} {s : Nat} : orthB R s = true ↔ orth R s := by simp [orthB, orth]
def spanB (R : List Nat) (q : Nat) : List Nat := (List.range' 1 q).filter (orthB R)
theorem spanB_succ (R : List Nat) (q : Nat) : spanB R (q + 1) = spanB R q ++ (if orthB R (1 + q) then [1 + q] else []) := by
  unfold spanB
  rw [List.range'_concat, List.filter_append, Nat.one_mul]
  congr 1
  simp [List.filter_cons]
theorem spanB_len (R : List Nat) (q : Nat) : (spanB R q).length ≤ q := by
  have := List.length_filter_le (orthB R) (List.range' 1 q)
  simpa [spanB] using this
theorem spanB_mem {R : List Nat} {q v : Nat} : v ∈ spanB R q ↔ (1 ≤ v ∧ v < 1 + q) ∧ orth R v := by
  unfold spanB
  rw [List.mem_filter, orthB_iff, List.mem_range'_1]
theorem ev_signs0 (xs : List RPo) (m : Nat) (hm : m ≤ 6) (hl : xs.length ≤ 1000) (hx : ∀ x ∈ xs, x.t.length ≤ 1000000 ∧ ∀ y ∈ x.t, x.n = m → vOf y < 2 ^ m) (h0 : ∃ x l, xs = x :: l ∧ x.n = m)
    (l : List Po) (n : Nat) (hn : 300000000000 < n) (hlist : ∀ n, 300000000000 ≤ n → pcall G n 21 [.c (.t (.sl l.length (rows encPo l)))] [] = some (.tup [.c (.t (.sl xs.length (rows encR64 xs))), boo true], [])) (R : V)
    (hS : (¬ ∀ x ∈ xs, x.n = m) → R = .tup [.c (.t (.sl 0 [])), num 4])
    (hY : (∀ x ∈ xs, x.n = m) → ∀ Q P, (∀ s, orth Q s ↔ orth (vv xs) s) → Piv m (Ker m Q) (spanB Q (2 ^ m - 1)) P → RedFrom m P 0 → R = .tup [.c (.t (.sl (outs m P m).length (rows encI (outs m P m).reverse))), num 0]) :
    pcall G n 8 [.c (.t (.sl l.length (rows encPo l)))] [] = some (R, []) := by
  have h6 := pow_le6 hm
  obtain ⟨x0, l0, hx0, hx0n⟩ := h0
  have hxl : 0 < xs.length := by rw [hx0]; simp
  have hg0 : (rows encR64 xs)[0]? = some (.int .i64 m) := by rw [hx0, get64_n, hx0n]
  have dz : decide ((xs.length : Int) = 0) = false := decide_eq_false (by omega)
  obtain ⟨n, rfl⟩ : ∃ m, n = m + 1 := ⟨n - 1, by omega⟩; rw [pcall_at fn8 rfl, imp8, G_tb]
  simp -implicitDefEqProofs (disch := first | omega | assumption | (simp only [QN, rowsR_len, rows64_len] <;> omega)) only [QB, QL, Nat.reduceSub, Nat.reduceAdd, Nat.reduceLeDiff, Nat.reduceEqDiff, reduceCtorEq, ↓reduceIte, Int.reduceAdd, Int.reduceSub, Int.reduceToNat, Int.reduceLT, Int.reduceLE, Int.reduceEq, Int.reduceNeg, Nat.reduceLT, QT3, QT21, QT59, QT63, QT85, QT87, QT4, QT25, QT31, QT22, QT41, QT49, QT54, QT26, QT52, QT61, t_call imp22, t_call imp23, t_call imp24, t_call imp21, mi_len, ex6_len, take_E, put_E, bits_1, bits_and, bits_xor, shrN, shlN1, wu64', Nat.mul_one, nats_get, nats_set, ldS_rows0 encR64_len, ldS_rows0 enc64_len, hlist, dz, hg0, Nat.zero_mul]
  refine loop_up xs.length (fun i fr H => ∃ Q, fr = [.any, .any, .c (.t (.sl 0 [])), num 0, .any, .any, num m, .c (.osl 0 0 m 1), .any, .any, .any, .any, .any, .any, .any, .any, .any, .any, .any, .any, .any, .any, .any, .any, .any, .any, .any, .any, .any, .any, .any, .any, .any, .any, .any, .c (.t (.sl xs.length (rows encR64 xs))), num xs.length, num i, .any, .any, .any, .any, .any, .any, .any, .any, .any, .any, .any, .any, .any, .any, .any, .any, .any, .any, .any, .any, .any, .any, .any, .any, .any, .any, .any, .any, .any, .any, .any, .any, .any, .any, .any, .any, .any, .any, .any, .any, .any, .any, .any, .any, .any, .any, .any, .any, .any, .any, .any, .any, .any, .any, .any, .any, .any, .any, .any, .any, .any, .any, .any, .any, .any, .any, .any, .any, .any, .any, .any, .any, .any, .any, .any, .any, .any] ∧ H = [objK .i64 (nats Q)] ∧
    Ech m Q ∧ (∀ j, j < i → (xs.getD j default).n = m) ∧ ∀ s, orth Q s ↔ orth (vv (xs.take i)) s) ?_ ?_ ?_
  · rintro i fr H n1 hi ⟨Q, rfl, rfl, hE, hj, hQ⟩ IH
    have hQl : Q.length = m := hE.1
    simp -implicitDefEqProofs (disch := first | omega | assumption | (simp only [QN, rowsR_len, rows64_len] <;> omega)) only [QB, QL, Nat.reduceSub, Nat.reduceAdd, Nat.reduceLeDiff, Nat.reduceEqDiff, reduceCtorEq, ↓reduceIte, Int.reduceAdd, Int.reduceSub, Int.reduceToNat, Int.reduceLT, Int.reduceLE, Int.reduceEq, Int.reduceNeg, Nat.reduceLT, QT3, QT21, QT59, QT63, QT85, QT87, QT4, QT25, QT31, QT22, QT41, QT49, QT54, QT26, QT52, QT61, t_call imp22, t_call imp23, t_call imp24, t_call imp21, mi_len, ex6_len, take_E, put_E, bits_1, bits_and, bits_xor, shrN, shlN1, wu64', Nat.mul_one, nats_get, nats_set, ldS_rows0 encR64_len, ldS_rows0 enc64_len]
    by_cases h1 : (i : Int) < xs.length <;> simp (disch := omega) only [h1, decide_true, decide_false, Bool.not_true, Bool.not_false, reduceCtorEq, ↓reduceIte, Option.bind_some]
    · have hmem : xs.getD i default ∈ xs := by rw [getD_lt (by omega)]; exact List.getElem_mem _
      have hxi := hx _ hmem
      have htk : xs.take (i + 1) = xs.take i ++ [xs.getD i default] := take_snoc default (by omega)
      simp -implicitDefEqProofs (disch := first | omega | assumption | (simp only [QN, rowsR_len, rows64_len] <;> omega)) only [QB, QL, Nat.reduceSub, Nat.reduceAdd, Nat.reduceLeDiff, Nat.reduceEqDiff, reduceCtorEq, ↓reduceIte, Int.reduceAdd, Int.reduceSub, Int.reduceToNat, Int.reduceLT, Int.reduceLE, Int.reduceEq, Int.reduceNeg, Nat.reduceLT, QT3, QT21, QT59, QT63, QT85, QT87, QT4, QT25, QT31, QT22, QT41, QT49, QT54, QT26, QT52, QT61, t_call imp22, t_call imp23, t_call imp24, t_call imp21, mi_len, ex6_len, take_E, put_E, bits_1, bits_and, bits_xor, shrN, shlN1, wu64', Nat.mul_one, nats_get, nats_set, ldS_rows0 encR64_len, ldS_rows0 enc64_len, ldS_R]
      generalize hX : xs.getD i default = X at *
      by_cases h2 : X.n = m
      · have d2 : decide (X.n = (m : Int)) = true := decide_eq_true h2
        have hXt := hxi.1
        simp -implicitDefEqProofs (disch := first | omega | assumption | (simp only [QN, rowsR_len, rows64_len] <;> omega)) only [QB, QL, Nat.reduceSub, Nat.reduceAdd, Nat.reduceLeDiff, Nat.reduceEqDiff, reduceCtorEq, ↓reduceIte, Int.reduceAdd, Int.reduceSub, Int.reduceToNat, Int.reduceLT, Int.reduceLE, Int.reduceEq, Int.reduceNeg, Nat.reduceLT, QT3, QT21, QT59, QT63, QT85, QT87, QT4, QT25, QT31, QT22, QT41, QT49, QT54, QT26, QT52, QT61, t_call imp22, t_call imp23, t_call imp24, t_call imp21, mi_len, ex6_len, take_E, put_E, bits_1, bits_and, bits_xor, shrN, shlN1, wu64', Nat.mul_one, nats_get, nats_set, ldS_rows0 encR64_len, ldS_rows0 enc64_len, d2]
        refine loop_up X.t.length (fun k fr H => ∃ Q, fr = [.any, .any, .c (.t (.sl 0 [])), num 0, .any, .any, num m, .c (.osl 0 0 m 1), .any, .any, .any, .any, .any, .any, .any, .any, .any, .any, .any, .any, .any, .any, .any, .any, .any, .any, .any, .any, .any, .any, .any, .any, .any, .any, .any, .c (.t (.sl xs.length (rows encR64 xs))), num xs.length, num i, .any, .any, .any, .any, .any, .any, .any, .any, .c (.t (tms64 X.t)), num X.t.length, num k, .any, .any, .any, .any, .any, .any, .any, .any, .any, .any, .any, .any, .any, .any, .any, .any, .any, .any, .any, .any, .any, .any, .any, .any, .any, .any, .any, .any, .any, .any, .any, .any, .any, .any, .any, .any, .any, .any, .any, .any, .any, .any, .any, .any, .any, .any, .any, .any, .any, .any, .any, .any, .any, .any, .any, .any, .any, .any, .any, .any, .any, .any, .any, .any, .any, .any] ∧ H = [objK .i64 (nats Q)] ∧
          Ech m Q ∧ ∀ s, orth Q s ↔ orth (vv (xs.take i)) s ∧ orth ((X.t.take k).map vOf) s) ?_ ?_ ?_
        · rintro k fr H n2 hk ⟨Q, rfl, rfl, hE, hQ⟩ IK
          have hQl : Q.length = m := hE.1
          simp -implicitDefEqProofs (disch := first | omega | assumption | (simp only [QN, rowsR_len, rows64_len] <;> omega)) only [QB, QL, Nat.reduceSub, Nat.reduceAdd, Nat.reduceLeDiff, Nat.reduceEqDiff, reduceCtorEq, ↓reduceIte, Int.reduceAdd, Int.reduceSub, Int.reduceToNat, Int.reduceLT, Int.reduceLE, Int.reduceEq, Int.reduceNeg, Nat.reduceLT, QT3, QT21, QT59, QT63, QT85, QT87, QT4, QT25, QT31, QT22, QT41, QT49, QT54, QT26, QT52, QT61, t_call imp22, t_call imp23, t_call imp24, t_call imp21, mi_len, ex6_len, take_E, put_E, bits_1, bits_and, bits_xor, shrN, shlN1, wu64', Nat.mul_one, nats_get, nats_set, ldS_rows0 encR64_len, ldS_rows0 enc64_len]
          by_cases h3 : (k : Int) < X.t.length <;> simp (disch := omega) only [h3, decide_true, decide_false, Bool.not_true, Bool.not_false, reduceCtorEq, ↓reduceIte, Option.bind_some]
          · have hym : X.t.getD k default ∈ X.t := by rw [getD_lt (by omega)]; exact List.getElem_mem _
            have hyv := hxi.2 _ hym h2
            have htk2 : X.t.take (k + 1) = X.t.take k ++ [X.t.getD k default] := take_snoc default (by omega)
            simp -implicitDefEqProofs (disch := first | omega | assumption | (simp only [QN, rowsR_len, rows64_len] <;> omega)) only [QB, QL, Nat.reduceSub, Nat.reduceAdd, Nat.reduceLeDiff, Nat.reduceEqDiff, reduceCtorEq, ↓reduceIte, Int.reduceAdd, Int.reduceSub, Int.reduceToNat, Int.reduceLT, Int.reduceLE, Int.reduceEq, Int.reduceNeg, Nat.reduceLT, QT3, QT21, QT59, QT63, QT85, QT87, QT4, QT25, QT31, QT22, QT41, QT49, QT54, QT26, QT52, QT61, t_call imp22, t_call imp23, t_call imp24, t_call imp21, mi_len, ex6_len, take_E, put_E, bits_1, bits_and, bits_xor, shrN, shlN1, wu64', Nat.mul_one, nats_get, nats_set, ldS_rows0 encR64_len, ldS_rows0 enc64_len, ldS_T]
            generalize hY0 : X.t.getD k default = y at *
            have hw6 := ex6_in y.e
            have hl6 := ex6_len y.e
            have hvo : oddL (ex6 y.e) = vOf y := rfl
            simp -implicitDefEqProofs (disch := first | omega | assumption | (simp only [QN, rowsR_len, rows64_len] <;> omega)) only [QB, QL, Nat.reduceSub, Nat.reduceAdd, Nat.reduceLeDiff, Nat.reduceEqDiff, reduceCtorEq, ↓reduceIte, Int.reduceAdd, Int.reduceSub, Int.reduceToNat, Int.reduceLT, Int.reduceLE, Int.reduceEq, Int.reduceNeg, Nat.reduceLT, QT3, QT21, QT59, QT63, QT85, QT87, QT4, QT25, QT31, QT22, QT41, QT49, QT54, QT26, QT52, QT61, t_call imp22, t_call imp23, t_call imp24, t_call imp21, mi_len, ex6_len, take_E, put_E, bits_1, bits_and, bits_xor, shrN, shlN1, wu64', Nat.mul_one, nats_get, nats_set, ldS_rows0 encR64_len, ldS_rows0 enc64_len, ev_odd, hvo]
            have fin : ∀ Q', Ech m Q' → (∀ s, orth Q' s ↔ orth Q s ∧ od (vOf y &&& s) = false) → ∀ s, orth Q' s ↔ orth (vv (xs.take i)) s ∧ orth ((X.t.take (k + 1)).map vOf) s := by
              intro Q' _ h s
              rw [h s, hQ s, htk2, List.map_append]
              simp only [orth, List.mem_append, List.map_cons, List.map_nil, List.mem_singleton]
              constructor
              · rintro ⟨⟨a1, a2⟩, a3⟩
                refine ⟨a1, ?_⟩
                rintro r (hr | rfl)
                · exact a2 r hr
                · exact a3
              · rintro ⟨a1, a2⟩
                exact ⟨⟨a1, fun r hr => a2 r (.inl hr)⟩, a2 _ (.inr rfl)⟩
            refine loop_up m (fun r fr H => ∃ v' : Nat, fr = [.any, .any, .c (.t (.sl 0 [])), num 0, .any, .any, num m, .c (.osl 0 0 m 1), .any, .any, .any, .any, num v', .any, .any, .any, .any, .any, .any, .any, .any, .any, .any, .any, .any, .any, .any, .any, .any, .any, .any, .any, .any, .any, .any, .c (.t (.sl xs.length (rows encR64 xs))), num xs.length, num i, .any, .any, .any, .any, .any, .any, .any, .any, .c (.t (tms64 X.t)), num X.t.length, num k, .any, .any, .any, .any, .any, .any, num m, num r, .any, .any, .any, .any, .any, .any, .any, .any, .any, .any, .any, .any, .any, .any, .any, .any, .any, .any, .any, .any, .any, .any, .any, .any, .any, .any, .any, .any, .any, .any, .any, .any, .any, .any, .any, .any, .any, .any, .any, .any, .any, .any, .any, .any, .any, .any, .any, .any, .any, .any, .any, .any, .any, .any, .any, .any, .any, .any] ∧ H = [objK .i64 (nats Q)] ∧ Red m Q (vOf y) r v') ?_ ?_ ?_
            · rintro r fr H n3 hr ⟨v', rfl, rfl, hv'⟩ IR
              have hlt := hv'.lt
              simp -implicitDefEqProofs (disch := first | omega | assumption | (simp only [QN, rowsR_len, rows64_len] <;> omega)) only [QB, QL, Nat.reduceSub, Nat.reduceAdd, Nat.reduceLeDiff, Nat.reduceEqDiff, reduceCtorEq, ↓reduceIte, Int.reduceAdd, Int.reduceSub, Int.reduceToNat, Int.reduceLT, Int.reduceLE, Int.reduceEq, Int.reduceNeg, Nat.reduceLT, QT3, QT21, QT59, QT63, QT85, QT87, QT4, QT25, QT31, QT22, QT41, QT49, QT54, QT26, QT52, QT61, t_call imp22, t_call imp23, t_call imp24, t_call imp21, mi_len, ex6_len, take_E, put_E, bits_1, bits_and, bits_xor, shrN, shlN1, wu64', Nat.mul_one, nats_get, nats_set, ldS_rows0 encR64_len, ldS_rows0 enc64_len]
              by_cases h4 : (r : Int) < m <;> simp (disch := omega) only [h4, decide_true, decide_false, Bool.not_true, Bool.not_false, reduceCtorEq, ↓reduceIte, Option.bind_some]
              · have hdl : v' / 2 ^ r ≤ v' := Nat.div_le_self ..
                simp -implicitDefEqProofs (disch := first | omega | assumption | (simp only [QN, rowsR_len, rows64_len] <;> omega)) only [QB, QL, Nat.reduceSub, Nat.reduceAdd, Nat.reduceLeDiff, Nat.reduceEqDiff, reduceCtorEq, ↓reduceIte, Int.reduceAdd, Int.reduceSub, Int.reduceToNat, Int.reduceLT, Int.reduceLE, Int.reduceEq, Int.reduceNeg, Nat.reduceLT, QT3, QT21, QT59, QT63, QT85, QT87, QT4, QT25, QT31, QT22, QT41, QT49, QT54, QT26, QT52, QT61, t_call imp22, t_call imp23, t_call imp24, t_call imp21, mi_len, ex6_len, take_E, put_E, bits_1, bits_and, bits_xor, shrN, shlN1, wu64', Nat.mul_one, nats_get, nats_set, ldS_rows0 encR64_len, ldS_rows0 enc64_len]
                by_cases h5 : ((v' / 2 ^ r % 2 : Nat) : Int) = 0 <;> simp (disch := omega) only [h5, decide_true, decide_false, Bool.not_true, Bool.not_false, reduceCtorEq, ↓reduceIte, Option.bind_some]
                · simp -implicitDefEqProofs (disch := first | omega | assumption | (simp only [QN, rowsR_len, rows64_len] <;> omega)) only [QB, QL, Nat.reduceSub, Nat.reduceAdd, Nat.reduceLeDiff, Nat.reduceEqDiff, reduceCtorEq, ↓reduceIte, Int.reduceAdd, Int.reduceSub, Int.reduceToNat, Int.reduceLT, Int.reduceLE, Int.reduceEq, Int.reduceNeg, Nat.reduceLT, QT3, QT21, QT59, QT63, QT85, QT87, QT4, QT25, QT31, QT22, QT41, QT49, QT54, QT26, QT52, QT61, t_call imp22, t_call imp23, t_call imp24, t_call imp21, mi_len, ex6_len, take_E, put_E, bits_1, bits_and, bits_xor, shrN, shlN1, wu64', Nat.mul_one, nats_get, nats_set, ldS_rows0 encR64_len, ldS_rows0 enc64_len]
                  refine IR _ (by omega) ⟨_, _, ?_, v', rfl, rfl, hv'.skip (by omega)⟩
                  rw [show ((r + 1 : Nat) : Int) = (r : Int) + 1 by omega]
                  kernel_rfl
                · simp -implicitDefEqProofs (disch := first | omega | assumption | (simp only [QN, rowsR_len, rows64_len] <;> omega)) only [QB, QL, Nat.reduceSub, Nat.reduceAdd, Nat.reduceLeDiff, Nat.reduceEqDiff, reduceCtorEq, ↓reduceIte, Int.reduceAdd, Int.reduceSub, Int.reduceToNat, Int.reduceLT, Int.reduceLE, Int.reduceEq, Int.reduceNeg, Nat.reduceLT, QT3, QT21, QT59, QT63, QT85, QT87, QT4, QT25, QT31, QT22, QT41, QT49, QT54, QT26, QT52, QT61, t_call imp22, t_call imp23, t_call imp24, t_call imp21, mi_len, ex6_len, take_E, put_E, bits_1, bits_and, bits_xor, shrN, shlN1, wu64', Nat.mul_one, nats_get, nats_set, ldS_rows0 encR64_len, ldS_rows0 enc64_len]
                  by_cases h7 : ((Q.getD r 0 : Nat) : Int) = 0 <;> simp (disch := omega) only [h7, decide_true, decide_false, Bool.not_true, Bool.not_false, reduceCtorEq, ↓reduceIte, Option.bind_some]
                  · simp -implicitDefEqProofs (disch := first | omega | assumption | (simp only [QN, rowsR_len, rows64_len] <;> omega)) only [QB, QL, Nat.reduceSub, Nat.reduceAdd, Nat.reduceLeDiff, Nat.reduceEqDiff, reduceCtorEq, ↓reduceIte, Int.reduceAdd, Int.reduceSub, Int.reduceToNat, Int.reduceLT, Int.reduceLE, Int.reduceEq, Int.reduceNeg, Nat.reduceLT, QT3, QT21, QT59, QT63, QT85, QT87, QT4, QT25, QT31, QT22, QT41, QT49, QT54, QT26, QT52, QT61, t_call imp22, t_call imp23, t_call imp24, t_call imp21, mi_len, ex6_len, take_E, put_E, bits_1, bits_and, bits_xor, shrN, shlN1, wu64', Nat.mul_one, nats_get, nats_set, ldS_rows0 encR64_len, ldS_rows0 enc64_len]
                    have hput := hv'.put hE (by omega) (by omega) (by omega)
                    refine IK _ (by omega) ⟨_, _, ?_, Q.set r v', rfl, rfl, hput.1, fin _ hput.1 hput.2⟩
                    rw [show ((k + 1 : Nat) : Int) = (k : Int) + 1 by omega]
                    kernel_rfl
                  · have hPr : Q.getD r 0 < 2 ^ m := by
                      rcases hE.2 r (by omega) with h | h
                      · omega
                      · exact h.1
                    simp -implicitDefEqProofs (disch := first | omega | assumption | (simp only [QN, rowsR_len, rows64_len] <;> omega)) only [QB, QL, Nat.reduceSub, Nat.reduceAdd, Nat.reduceLeDiff, Nat.reduceEqDiff, reduceCtorEq, ↓reduceIte, Int.reduceAdd, Int.reduceSub, Int.reduceToNat, Int.reduceLT, Int.reduceLE, Int.reduceEq, Int.reduceNeg, Nat.reduceLT, QT3, QT21, QT59, QT63, QT85, QT87, QT4, QT25, QT31, QT22, QT41, QT49, QT54, QT26, QT52, QT61, t_call imp22, t_call imp23, t_call imp24, t_call imp21, mi_len, ex6_len, take_E, put_E, bits_1, bits_and, bits_xor, shrN, shlN1, wu64', Nat.mul_one, nats_get, nats_set, ldS_rows0 encR64_len, ldS_rows0 enc64_len]
                    refine IR _ (by omega) ⟨_, _, ?_, v' ^^^ Q.getD r 0, rfl, rfl, hv'.step hm hE (by omega) (by omega) (by omega)⟩
                    rw [show ((r + 1 : Nat) : Int) = (r : Int) + 1 by omega]
                    kernel_rfl
              · have hrm : r = m := by omega
                subst hrm
                simp -implicitDefEqProofs (disch := first | omega | assumption | (simp only [QN, rowsR_len, rows64_len] <;> omega)) only [QB, QL, Nat.reduceSub, Nat.reduceAdd, Nat.reduceLeDiff, Nat.reduceEqDiff, reduceCtorEq, ↓reduceIte, Int.reduceAdd, Int.reduceSub, Int.reduceToNat, Int.reduceLT, Int.reduceLE, Int.reduceEq, Int.reduceNeg, Nat.reduceLT, QT3, QT21, QT59, QT63, QT85, QT87, QT4, QT25, QT31, QT22, QT41, QT49, QT54, QT26, QT52, QT61, t_call imp22, t_call imp23, t_call imp24, t_call imp21, mi_len, ex6_len, take_E, put_E, bits_1, bits_and, bits_xor, shrN, shlN1, wu64', Nat.mul_one, nats_get, nats_set, ldS_rows0 encR64_len, ldS_rows0 enc64_len]
                refine IK _ (by omega) ⟨_, _, ?_, Q, rfl, rfl, hE, fin Q hE hv'.none⟩
                rw [show ((k + 1 : Nat) : Int) = (k : Int) + 1 by omega]
                kernel_rfl
            · omega
            · refine ⟨_, _, ?_, vOf y, rfl, rfl, Red.start hyv⟩
              kernel_rfl
          · have hke : k = X.t.length := by omega
            rw [hke, List.take_length] at hQ
            simp -implicitDefEqProofs (disch := first | omega | assumption | (simp only [QN, rowsR_len, rows64_len] <;> omega)) only [QB, QL, Nat.reduceSub, Nat.reduceAdd, Nat.reduceLeDiff, Nat.reduceEqDiff, reduceCtorEq, ↓reduceIte, Int.reduceAdd, Int.reduceSub, Int.reduceToNat, Int.reduceLT, Int.reduceLE, Int.reduceEq, Int.reduceNeg, Nat.reduceLT, QT3, QT21, QT59, QT63, QT85, QT87, QT4, QT25, QT31, QT22, QT41, QT49, QT54, QT26, QT52, QT61, t_call imp22, t_call imp23, t_call imp24, t_call imp21, mi_len, ex6_len, take_E, put_E, bits_1, bits_and, bits_xor, shrN, shlN1, wu64', Nat.mul_one, nats_get, nats_set, ldS_rows0 encR64_len, ldS_rows0 enc64_len]
            refine IH _ (by omega) ⟨_, _, ?_, Q, rfl, rfl, hE, ?_, fun s => ?_⟩
            · rw [show ((i + 1 : Nat) : Int) = (i : Int) + 1 by omega]
              kernel_rfl
            · intro j hj2
              by_cases hji : j < i
              · exact hj j hji
              · have : j = i := by omega
                subst this; rw [hX]; exact h2
            · rw [hQ s, htk]
              simp only [vv, List.flatMap_append, List.flatMap_cons, List.flatMap_nil, List.append_nil, orth, List.mem_append]
              exact ⟨fun ⟨a, b⟩ r hr => hr.elim (a r) (b r), fun h => ⟨fun r hr => h r (.inl hr), fun r hr => h r (.inr hr)⟩⟩
        · omega
        · refine ⟨_, _, ?_, Q, rfl, rfl, hE, fun s => ?_⟩
          · kernel_rfl
          · rw [hQ s]
            exact ⟨fun h => ⟨h, by intro r hr; simp at hr⟩, fun h => h.1⟩
      · have d2 : decide (X.n = (m : Int)) = false := decide_eq_false h2
        simp -implicitDefEqProofs (disch := first | omega | assumption | (simp only [QN, rowsR_len, rows64_len] <;> omega)) only [QB, QL, Nat.reduceSub, Nat.reduceAdd, Nat.reduceLeDiff, Nat.reduceEqDiff, reduceCtorEq, ↓reduceIte, Int.reduceAdd, Int.reduceSub, Int.reduceToNat, Int.reduceLT, Int.reduceLE, Int.reduceEq, Int.reduceNeg, Nat.reduceLT, QT3, QT21, QT59, QT63, QT85, QT87, QT4, QT25, QT31, QT22, QT41, QT49, QT54, QT26, QT52, QT61, t_call imp22, t_call imp23, t_call imp24, t_call imp21, mi_len, ex6_len, take_E, put_E, bits_1, bits_and, bits_xor, shrN, shlN1, wu64', Nat.mul_one, nats_get, nats_set, ldS_rows0 encR64_len, ldS_rows0 enc64_len, d2]
        rw [hS (fun h => h2 (h _ hmem))]
    · have hie : i = xs.length := by omega
      rw [hie, List.take_length] at hQ
      have hall : ∀ x ∈ xs, x.n = m := fun x hx => by
        obtain ⟨j, hj2, rfl⟩ := List.getElem_of_mem hx
        have := hj j (by omega)
        rwa [getD_lt hj2] at this
      simp -implicitDefEqProofs (disch := first | omega | assumption | (simp only [QN, rowsR_len, rows64_len] <;> omega)) only [QB, QL, Nat.reduceSub, Nat.reduceAdd, Nat.reduceLeDiff, Nat.reduceEqDiff, reduceCtorEq, ↓reduceIte, Int.reduceAdd, Int.reduceSub, Int.reduceToNat, Int.reduceLT, Int.reduceLE, Int.reduceEq, Int.reduceNeg, Nat.reduceLT, QT3, QT21, QT59, QT63, QT85, QT87, QT4, QT25, QT31, QT22, QT41, QT49, QT54, QT26, QT52, QT61, t_call imp22, t_call imp23, t_call imp24, t_call imp21, mi_len, ex6_len, take_E, put_E, bits_1, bits_and, bits_xor, shrN, shlN1, wu64', Nat.mul_one, nats_get, nats_set, ldS_rows0 encR64_len, ldS_rows0 enc64_len]
      have hEb : ∀ j, Q.getD j 0 < 2 ^ m := fun j => by
        by_cases hjm : j < m
        · rcases hE.2 j hjm with h | h
          · rw [h]; exact Nat.pow_pos (by decide)
          · exact h.1
        · rw [List.getD_eq_getElem?_getD, List.getElem?_eq_none (by omega)]; exact Nat.pow_pos (by decide)
      refine loop_up (2 ^ m) (fun q fr H => fr = [.any, .any, .c (.t (.sl 0 [])), num 0, .any, .any, num m, .c (.osl 0 0 m 1), .any, .any, .any, .any, .any, .any, .c (.osl 1 0 (nats (spanB Q q)).length 1), num ((1 + q : Nat) : Int), .any, .any, .any, .any, .any, .any, .any, .any, .any, .any, .any, .any, .any, .any, .any, .any, .any, .any, .any, .any, .any, .any, .any, .any, .any, .any, .any, .any, .any, .any, .any, .any, .any, .any, .any, .any, .any, .any, .any, .any, .any, .any, .any, .any, .any, .any, .any, .any, .any, .any, .any, .any, .any, .any, .any, .any, .any, .any, .any, .any, .any, .any, .any, .any, .any, .any, .any, .any, .any, .any, .any, .any, .any, .any, .any, .any, .any, .any, .any, .any, .any, .any, .any, .any, .any, .any, .any, .any, .any, .any, .any, .any, .any, .any, .any, .any, .any, .any, .any] ∧ H = [objK .i64 (nats Q), objK .i64 (nats (spanB Q q))] ∧ 1 + q ≤ 2 ^ m) ?_ ?_ ?_
      · rintro q fr H n2 hq ⟨rfl, rfl, hqm⟩ IK
        have hsl := spanB_len Q q
        simp -implicitDefEqProofs (disch := first | omega | assumption | (simp only [QN, rowsR_len, rows64_len] <;> omega)) only [QB, QL, Nat.reduceSub, Nat.reduceAdd, Nat.reduceLeDiff, Nat.reduceEqDiff, reduceCtorEq, ↓reduceIte, Int.reduceAdd, Int.reduceSub, Int.reduceToNat, Int.reduceLT, Int.reduceLE, Int.reduceEq, Int.reduceNeg, Nat.reduceLT, QT3, QT21, QT59, QT63, QT85, QT87, QT4, QT25, QT31, QT22, QT41, QT49, QT54, QT26, QT52, QT61, t_call imp22, t_call imp23, t_call imp24, t_call imp21, mi_len, ex6_len, take_E, put_E, bits_1, bits_and, bits_xor, shrN, shlN1, wu64', Nat.mul_one, nats_get, nats_set, ldS_rows0 encR64_len, ldS_rows0 enc64_len]
        by_cases h3 : ((1 + q : Nat) : Int) < ((2 ^ m : Nat) : Int) <;> simp (disch := omega) only [h3, decide_true, decide_false, Bool.not_true, Bool.not_false, reduceCtorEq, ↓reduceIte, Option.bind_some]
        · simp -implicitDefEqProofs (disch := first | omega | assumption | (simp only [QN, rowsR_len, rows64_len] <;> omega)) only [QB, QL, Nat.reduceSub, Nat.reduceAdd, Nat.reduceLeDiff, Nat.reduceEqDiff, reduceCtorEq, ↓reduceIte, Int.reduceAdd, Int.reduceSub, Int.reduceToNat, Int.reduceLT, Int.reduceLE, Int.reduceEq, Int.reduceNeg, Nat.reduceLT, QT3, QT21, QT59, QT63, QT85, QT87, QT4, QT25, QT31, QT22, QT41, QT49, QT54, QT26, QT52, QT61, t_call imp22, t_call imp23, t_call imp24, t_call imp21, mi_len, ex6_len, take_E, put_E, bits_1, bits_and, bits_xor, shrN, shlN1, wu64', Nat.mul_one, nats_get, nats_set, ldS_rows0 encR64_len, ldS_rows0 enc64_len]
          refine loop_up m (fun k fr H => fr = [.any, .any, .c (.t (.sl 0 [])), num 0, .any, .any, num m, .c (.osl 0 0 m 1), .any, .any, .any, .any, .any, .any, .c (.osl 1 0 (nats (spanB Q q)).length 1), num ((1 + q : Nat) : Int), boo (orthB (Q.take k) (1 + q)), .any, .any, .any, .any, .any, .any, .any, .any, .any, .any, .any, .any, .any, .any, .any, .any, .any, .any, .any, .any, .any, .any, .any, .any, .any, .any, .any, .any, .any, .any, .any, .any, .any, .any, .any, .any, .any, .any, .any, .any, .any, .any, .any, .any, .any, .any, .any, .any, .any, .any, .any, .any, .any, .any, .any, .any, .any, .any, .any, .any, .any, .any, .any, .any, .any, .any, .any, .any, .any, .any, .any, .any, .any, .c (.osl 0 0 m 1), num m, num k, .any, .any, .any, .any, .any, .any, .any, .any, .any, .any, .any, .any, .any, .any, .any, .any, .any, .any, .any, .any, .any, .any] ∧ H = [objK .i64 (nats Q), objK .i64 (nats (spanB Q q))]) ?_ ?_ ?_
          · rintro k fr H n3 hk ⟨rfl, rfl⟩ IR
            simp -implicitDefEqProofs (disch := first | omega | assumption | (simp only [QN, rowsR_len, rows64_len] <;> omega)) only [QB, QL, Nat.reduceSub, Nat.reduceAdd, Nat.reduceLeDiff, Nat.reduceEqDiff, reduceCtorEq, ↓reduceIte, Int.reduceAdd, Int.reduceSub, Int.reduceToNat, Int.reduceLT, Int.reduceLE, Int.reduceEq, Int.reduceNeg, Nat.reduceLT, QT3, QT21, QT59, QT63, QT85, QT87, QT4, QT25, QT31, QT22, QT41, QT49, QT54, QT26, QT52, QT61, t_call imp22, t_call imp23, t_call imp24, t_call imp21, mi_len, ex6_len, take_E, put_E, bits_1, bits_and, bits_xor, shrN, shlN1, wu64', Nat.mul_one, nats_get, nats_set, ldS_rows0 encR64_len, ldS_rows0 enc64_len]
            by_cases h4 : (k : Int) < m <;> simp (disch := omega) only [h4, decide_true, decide_false, Bool.not_true, Bool.not_false, reduceCtorEq, ↓reduceIte, Option.bind_some]
            · have hbk := hEb k
              have hand : Q.getD k 0 &&& (1 + q) ≤ 1 + q := Nat.and_le_right
              have htk : Q.take (k + 1) = Q.take k ++ [Q.getD k 0] := take_snoc 0 (by omega)
              have hod : decide (((pc (Q.getD k 0 &&& (1 + q)) % 2 : Nat) : Int) = 0) = !od (Q.getD k 0 &&& (1 + q)) := by
                rw [← pc_od _ (by omega)]
                by_cases hz : pc (Q.getD k 0 &&& (1 + q)) % 2 = 0
                · rw [decide_eq_true hz, decide_eq_true (by omega)]
                · rw [decide_eq_false hz, decide_eq_false (by omega)]
              have hor : orthB (Q.take (k + 1)) (1 + q) = (orthB (Q.take k) (1 + q) && !od (Q.getD k 0 &&& (1 + q))) := by
                rw [htk, orthB, List.all_append]; simp [orthB]
              cases hb : orthB (Q.take k) (1 + q)
              · rw [hb, Bool.false_and] at hor
                simp -implicitDefEqProofs (disch := first | omega | assumption | (simp only [QN, rowsR_len, rows64_len] <;> omega)) only [QB, QL, Nat.reduceSub, Nat.reduceAdd, Nat.reduceLeDiff, Nat.reduceEqDiff, reduceCtorEq, ↓reduceIte, Int.reduceAdd, Int.reduceSub, Int.reduceToNat, Int.reduceLT, Int.reduceLE, Int.reduceEq, Int.reduceNeg, Nat.reduceLT, QT3, QT21, QT59, QT63, QT85, QT87, QT4, QT25, QT31, QT22, QT41, QT49, QT54, QT26, QT52, QT61, t_call imp22, t_call imp23, t_call imp24, t_call imp21, mi_len, ex6_len, take_E, put_E, bits_1, bits_and, bits_xor, shrN, shlN1, wu64', Nat.mul_one, nats_get, nats_set, ldS_rows0 encR64_len, ldS_rows0 enc64_len]
                refine IR _ (by omega) ⟨_, _, ?_, rfl, rfl⟩
                rw [hor, show ((k + 1 : Nat) : Int) = (k : Int) + 1 by omega]
                kernel_rfl
              · rw [hb, Bool.true_and] at hor
                simp -implicitDefEqProofs (disch := first | omega | assumption | (simp only [QN, rowsR_len, rows64_len] <;> omega)) only [QB, QL, Nat.reduceSub, Nat.reduceAdd, Nat.reduceLeDiff, Nat.reduceEqDiff, reduceCtorEq, ↓reduceIte, Int.reduceAdd, Int.reduceSub, Int.reduceToNat, Int.reduceLT, Int.reduceLE, Int.reduceEq, Int.reduceNeg, Nat.reduceLT, QT3, QT21, QT59, QT63, QT85, QT87, QT4, QT25, QT31, QT22, QT41, QT49, QT54, QT26, QT52, QT61, t_call imp22, t_call imp23, t_call imp24, t_call imp21, mi_len, ex6_len, take_E, put_E, bits_1, bits_and, bits_xor, shrN, shlN1, wu64', Nat.mul_one, nats_get, nats_set, ldS_rows0 encR64_len, ldS_rows0 enc64_len, ev_ones, tm2, hod]
                refine IR _ (by omega) ⟨_, _, ?_, rfl, rfl⟩
                rw [hor, show ((k + 1 : Nat) : Int) = (k : Int) + 1 by omega]
                kernel_rfl
            · have hkm : k = m := by omega
              have hQt : Q.take k = Q := List.take_of_length_le (by omega)
              rw [hQt]
              have hss := spanB_succ Q q
              cases hb : orthB Q (1 + q)
              · rw [hb] at hss
                simp -implicitDefEqProofs (disch := first | omega | assumption | (simp only [QN, rowsR_len, rows64_len] <;> omega)) only [QB, QL, Nat.reduceSub, Nat.reduceAdd, Nat.reduceLeDiff, Nat.reduceEqDiff, reduceCtorEq, ↓reduceIte, Int.reduceAdd, Int.reduceSub, Int.reduceToNat, Int.reduceLT, Int.reduceLE, Int.reduceEq, Int.reduceNeg, Nat.reduceLT, QT3, QT21, QT59, QT63, QT85, QT87, QT4, QT25, QT31, QT22, QT41, QT49, QT54, QT26, QT52, QT61, t_call imp22, t_call imp23, t_call imp24, t_call imp21, mi_len, ex6_len, take_E, put_E, bits_1, bits_and, bits_xor, shrN, shlN1, wu64', Nat.mul_one, nats_get, nats_set, ldS_rows0 encR64_len, ldS_rows0 enc64_len]
                refine IK _ (by omega) ⟨_, _, ?_, rfl, rfl, by omega⟩
                rw [hss, if_neg (by decide), List.append_nil, show ((1 + (q + 1) : Nat) : Int) = ((1 + q : Nat) : Int) + 1 by omega]
                kernel_rfl
              · rw [hb] at hss
                simp -implicitDefEqProofs (disch := first | omega | assumption | (simp only [QN, rowsR_len, rows64_len] <;> omega)) only [QB, QL, Nat.reduceSub, Nat.reduceAdd, Nat.reduceLeDiff, Nat.reduceEqDiff, reduceCtorEq, ↓reduceIte, Int.reduceAdd, Int.reduceSub, Int.reduceToNat, Int.reduceLT, Int.reduceLE, Int.reduceEq, Int.reduceNeg, Nat.reduceLT, QT3, QT21, QT59, QT63, QT85, QT87, QT4, QT25, QT31, QT22, QT41, QT49, QT54, QT26, QT52, QT61, t_call imp22, t_call imp23, t_call imp24, t_call imp21, mi_len, ex6_len, take_E, put_E, bits_1, bits_and, bits_xor, shrN, shlN1, wu64', Nat.mul_one, nats_get, nats_set, ldS_rows0 encR64_len, ldS_rows0 enc64_len]
                refine IK _ (by omega) ⟨_, _, ?_, rfl, rfl, by omega⟩
                rw [hss, if_pos rfl, nats_app, List.length_append, show ((1 + (q + 1) : Nat) : Int) = ((1 + q : Nat) : Int) + 1 by omega]
                kernel_rfl
          · omega
          · refine ⟨_, _, ?_, rfl, rfl⟩
            kernel_rfl
        · have hqe : q = 2 ^ m - 1 := by omega
          have hp1 : 1 ≤ 2 ^ m := Nat.pow_pos (by decide)
          obtain ⟨P, hP1, hP2, hred⟩ := ev_red m hm (Ker m Q) (Ker.spc m Q) (spanB Q q) (fun v hv => by
              have := spanB_mem.1 hv
              exact ⟨⟨by omega, this.2⟩, by omega⟩) (fun v hv hv0 => spanB_mem.2 ⟨⟨by omega, by have := hv.1; omega⟩, hv.2⟩) (by omega) n (by omega)
          simp -implicitDefEqProofs (disch := first | omega | assumption | (simp only [QN, rowsR_len, rows64_len] <;> omega)) only [QB, QL, Nat.reduceSub, Nat.reduceAdd, Nat.reduceLeDiff, Nat.reduceEqDiff, reduceCtorEq, ↓reduceIte, Int.reduceAdd, Int.reduceSub, Int.reduceToNat, Int.reduceLT, Int.reduceLE, Int.reduceEq, Int.reduceNeg, Nat.reduceLT, QT3, QT21, QT59, QT63, QT85, QT87, QT4, QT25, QT31, QT22, QT41, QT49, QT54, QT26, QT52, QT61, t_call imp22, t_call imp23, t_call imp24, t_call imp21, mi_len, ex6_len, take_E, put_E, bits_1, bits_and, bits_xor, shrN, shlN1, wu64', Nat.mul_one, nats_get, nats_set, ldS_rows0 encR64_len, ldS_rows0 enc64_len, hred, sub_all]
          rw [hY hall Q P hQ (by rw [← hqe]; exact hP1) hP2]
      · omega
      · refine ⟨_, _, ?_, rfl, rfl, Nat.pow_pos (by decide)⟩
        kernel_rfl
  · omega
  · refine ⟨_, _, ?_, List.replicate m 0, rfl, rfl, Ech.nil m, by intro j hj; omega, fun s => ⟨fun _ => by intro r hr; simp [vv] at hr, fun _ => orth_nil m s⟩⟩
    rw [nats_rep]
    kernel_rfl
end Go.Proofs.Ythjmbppofgadaaa
