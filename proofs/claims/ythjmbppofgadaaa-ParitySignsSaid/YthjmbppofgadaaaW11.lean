import Derived.Test.YthjmbppofgadaaaT4
import Derived.Test.YthjmbppofgadaaaB2
import Derived.Test.YthjmbppofgadaaaA5
import Derived.Test.YthjmbppofgadaaaW8
import Derived.Test.YthjmbppofgadaaaW10
set_option linter.unusedVariables false
set_option linter.unnecessarySimpa false
set_option linter.all false
set_option linter.unusedSimpArgs false
set_option linter.defProp false
namespace Go.Proofs.Ythjmbppofgadaaa
open Go Go.AM
set_option maxHeartbeats 4000000
set_option maxRecDepth 100000
theorem dotL_take : ∀ {xs ys : List Int} {i : Nat}, i < xs.length → i < ys.length → dotL (xs.take (i + 1)) (ys.take (i + 1)) = dotL (xs.take i) (ys.take i) + xs.getD i 0 * ys.getD i 0
  | x :: xs, y :: ys, 0, _, _ => by simp [dotL]
  | x :: xs, y :: ys, i + 1, h, h2 => by
    have ih := dotL_take (xs := xs) (ys := ys) (i := i) (by simpa using h) (by simpa using h2)
    simp only [List.take_succ_cons, dotL, ih, List.getD_cons_succ]
    omega
theorem dotL_all {xs ys : List Int} (h : ys.length ≤ xs.length) : dotL (xs.take ys.length) (ys.take ys.length) = dotL xs ys := by
  rw [List.take_length]
  induction ys generalizing xs with
  | nil => cases xs <;> simp [dotL]
  | cons y ys ih =>
    cases xs with
    | nil => simp at h
    | cons x xs => simp only [List.length_cons, List.take_succ_cons, dotL]; rw [ih (by simpa using h)]
theorem dotL_bd : ∀ {xs ys : List Int}, Within 1048576 xs → Within 1 ys → 0 ≤ dotL xs ys ∧ dotL xs ys ≤ 1048576 * ys.length
  | [], ys, _, _ => by
    have : dotL [] ys = 0 := by simp [dotL]
    rw [this]; omega
  | x :: xs, [], _, _ => by simp [dotL]
  | x :: xs, y :: ys, h, h2 => by
    have h3 := dotL_bd (xs := xs) (ys := ys) (fun a ha => h a (by simp [ha])) (fun a ha => h2 a (by simp [ha]))
    have h4 := h x (by simp)
    have h5 := h2 y (by simp)
    simp only [dotL, List.length_cons]
    have : y = 0 ∨ y = 1 := by omega
    rcases this with rfl | rfl <;> omega
theorem ev_dot (a s : List Int) (ha : Within 1048576 a) (hs : Within 1 s) (hl : s.length ≤ a.length) (hl2 : s.length ≤ 1000) (n : Nat) (hn : 1100 ≤ n) : pcall G n 50 [.c (.t (ints a)), .c (.t (ints s))] [] = some (num (dotL a s % 2), []) := by
  obtain ⟨n, rfl⟩ : ∃ m, n = m + 1 := ⟨n - 1, by omega⟩; rw [pcall_at fn50 rfl, imp50, G_tb]
  simp -implicitDefEqProofs (disch := first | omega | assumption | (simp only [QN, rowsI_len, vecN_len, vecR_len] <;> omega)) only [QB, QL, Nat.reduceSub, Nat.reduceAdd, Nat.reduceLeDiff, Nat.reduceEqDiff, reduceCtorEq, ↓reduceIte, Int.reduceAdd, Int.reduceSub, Int.reduceToNat, Int.reduceLT, Int.reduceLE, Int.reduceEq, Int.reduceNeg, Nat.reduceLT, QT3, QT4, QT31, QT25, t_call imp50, t_call imp45, t_call imp54, t_call imp46]
  refine loop_up s.length (fun i fr H => fr = [.c (.t (ints a)), .c (.t (ints s)), .any, .any, num 0, num (dotL (a.take i) (s.take i)), num i, .any, .any, .any, .any, .any, .any, .any, .any, .any, .any, .any, .any, .any, .any, .any, .any, .any, .any, .any] ∧ H = []) ?_ ?_ ?_
  · rintro i fr H n1 hi ⟨rfl, rfl⟩ IH
    simp -implicitDefEqProofs (disch := first | omega | assumption | (simp only [QN, rowsI_len, vecN_len, vecR_len] <;> omega)) only [QB, QL, Nat.reduceSub, Nat.reduceAdd, Nat.reduceLeDiff, Nat.reduceEqDiff, reduceCtorEq, ↓reduceIte, Int.reduceAdd, Int.reduceSub, Int.reduceToNat, Int.reduceLT, Int.reduceLE, Int.reduceEq, Int.reduceNeg, Nat.reduceLT, QT3, QT4, QT31, QT25, t_call imp50, t_call imp45, t_call imp54, t_call imp46]
    by_cases h1 : (i : Int) < s.length <;> simp (disch := omega) only [h1, decide_true, decide_false, Bool.not_true, Bool.not_false, reduceCtorEq, ↓reduceIte, Option.bind_some]
    · have hx := ha.getD (by decide) i
      have hy := hs.getD (by decide) i
      have hb := dotL_bd (ha.take i) (hs.take i)
      have hlt : (s.take i).length ≤ 1000 := by simp; omega
      have hm : a.getD i 0 * s.getD i 0 = 0 ∨ a.getD i 0 * s.getD i 0 = a.getD i 0 := by
        have : s.getD i 0 = 0 ∨ s.getD i 0 = 1 := by omega
        rcases this with h | h <;> rw [h] <;> simp
      simp -implicitDefEqProofs (disch := first | omega | assumption | (simp only [QN, rowsI_len, vecN_len, vecR_len] <;> omega)) only [QB, QL, Nat.reduceSub, Nat.reduceAdd, Nat.reduceLeDiff, Nat.reduceEqDiff, reduceCtorEq, ↓reduceIte, Int.reduceAdd, Int.reduceSub, Int.reduceToNat, Int.reduceLT, Int.reduceLE, Int.reduceEq, Int.reduceNeg, Nat.reduceLT, QT3, QT4, QT31, QT25, t_call imp50, t_call imp45, t_call imp54, t_call imp46]
      rw [← dotL_take (by omega) (by omega)]
      refine IH _ (by omega) ⟨_, _, ?_, rfl, rfl⟩
      rw [show ((i + 1 : Nat) : Int) = (i : Int) + 1 by omega]
      kernel_rfl
    · have hie : i = s.length := by omega
      rw [hie, dotL_all hl]
      have hb := dotL_bd ha hs
      have ht : (dotL a s).tmod 2 = dotL a s % 2 := Int.tmod_eq_emod_of_nonneg hb.1
      simp -implicitDefEqProofs (disch := first | omega | assumption | (simp only [QN, rowsI_len, vecN_len, vecR_len] <;> omega)) only [QB, QL, Nat.reduceSub, Nat.reduceAdd, Nat.reduceLeDiff, Nat.reduceEqDiff, reduceCtorEq, ↓reduceIte, Int.reduceAdd, Int.reduceSub, Int.reduceToNat, Int.reduceLT, Int.reduceLE, Int.reduceEq, Int.reduceNeg, Nat.reduceLT, QT3, QT4, QT31, QT25, t_call imp50, t_call imp45, t_call imp54, t_call imp46, ht]
  · omega
  · refine ⟨_, _, ?_, rfl, rfl⟩
    kernel_rfl
def orthV (es : List (List Int)) (w : Nat) : Prop := orth (es.map oddL) w
def ExpR (n : Nat) (es : List (List Int)) : Prop := ∀ e ∈ es, e.length = n ∧ Within 1048576 e
theorem ExpR.get {n : Nat} {es : List (List Int)} (h : ExpR n es) {i : Nat} (hi : i < es.length) : (es.getD i []).length = n ∧ Within 1048576 (es.getD i []) := h _ (by rw [getD_lt hi]; exact List.getElem_mem _)
theorem ev_orthog0 (es : List (List Int)) (m w : Nat) (hm : m ≤ 6) (hw : w < 2 ^ m) (he : ExpR m es) (hl : es.length ≤ 1000000) (n : Nat) (hn : 1000100 ≤ n) (R : V) (hY : orthV es w → R = boo true) (hN : ¬ orthV es w → R = boo false) :
    pcall G n 45 [.c (.t (.sl es.length (rows encI es))), .c (.t (.sl m (ks .i64 (vecN m w))))] [] = some (R, []) := by
  have hv : T.sl m (ks .i64 (vecN m w)) = ints (vecN m w) := by unfold ints; rw [vecN_len]
  rw [hv]
  obtain ⟨n, rfl⟩ : ∃ m, n = m + 1 := ⟨n - 1, by omega⟩; rw [pcall_at fn45 rfl, imp45, G_tb]
  simp -implicitDefEqProofs (disch := first | omega | assumption | (simp only [QN, rowsI_len, vecN_len, vecR_len] <;> omega)) only [QB, QL, Nat.reduceSub, Nat.reduceAdd, Nat.reduceLeDiff, Nat.reduceEqDiff, reduceCtorEq, ↓reduceIte, Int.reduceAdd, Int.reduceSub, Int.reduceToNat, Int.reduceLT, Int.reduceLE, Int.reduceEq, Int.reduceNeg, Nat.reduceLT, QT3, QT4, QT31, QT25, t_call imp50, t_call imp45, t_call imp54, t_call imp46, rowsI_get, rowsI_set, Nat.mul_one, bits_1, shrN, wu64', shlN1, nats_get]
  refine loop_up es.length (fun i fr H => fr = [.c (.t (.sl es.length (rows encI es))), .c (.t (ints (vecN m w))), .any, .any, boo false, num i, .any, .any, .any, .any, .any, .any, .any, .any, .any, .any, .any, .any, .any] ∧ H = [] ∧ orthV (es.take i) w) ?_ ?_ ?_
  · rintro i fr H n1 hi ⟨rfl, rfl, ho⟩ IH
    simp -implicitDefEqProofs (disch := first | omega | assumption | (simp only [QN, rowsI_len, vecN_len, vecR_len] <;> omega)) only [QB, QL, Nat.reduceSub, Nat.reduceAdd, Nat.reduceLeDiff, Nat.reduceEqDiff, reduceCtorEq, ↓reduceIte, Int.reduceAdd, Int.reduceSub, Int.reduceToNat, Int.reduceLT, Int.reduceLE, Int.reduceEq, Int.reduceNeg, Nat.reduceLT, QT3, QT4, QT31, QT25, t_call imp50, t_call imp45, t_call imp54, t_call imp46, rowsI_get, rowsI_set, Nat.mul_one, bits_1, shrN, wu64', shlN1, nats_get]
    by_cases h1 : (i : Int) < es.length <;> simp (disch := omega) only [h1, decide_true, decide_false, Bool.not_true, Bool.not_false, reduceCtorEq, ↓reduceIte, Option.bind_some]
    · have hg := he.get (i := i) (by omega)
      have hg2 := hg.2
      have hg1 := hg.1
      have hvi := vecN_in (n := m) (w := w)
      have hvl := vecN_len (n := m) (w := w)
      have hd := dot_od hg.1 hm hw
      have htk : es.take (i + 1) = es.take i ++ [es.getD i []] := take_snoc [] (by omega)
      simp -implicitDefEqProofs (disch := first | omega | assumption | (simp only [QN, rowsI_len, vecN_len, vecR_len] <;> omega)) only [QB, QL, Nat.reduceSub, Nat.reduceAdd, Nat.reduceLeDiff, Nat.reduceEqDiff, reduceCtorEq, ↓reduceIte, Int.reduceAdd, Int.reduceSub, Int.reduceToNat, Int.reduceLT, Int.reduceLE, Int.reduceEq, Int.reduceNeg, Nat.reduceLT, QT3, QT4, QT31, QT25, t_call imp50, t_call imp45, t_call imp54, t_call imp46, rowsI_get, rowsI_set, Nat.mul_one, bits_1, shrN, wu64', shlN1, nats_get, ev_dot]
      by_cases h2 : dotL (es.getD i []) (vecN m w) % 2 = 0
      · have d2 : decide (dotL (es.getD i []) (vecN m w) % 2 = 0) = true := decide_eq_true h2
        simp -implicitDefEqProofs (disch := first | omega | assumption | (simp only [QN, rowsI_len, vecN_len, vecR_len] <;> omega)) only [QB, QL, Nat.reduceSub, Nat.reduceAdd, Nat.reduceLeDiff, Nat.reduceEqDiff, reduceCtorEq, ↓reduceIte, Int.reduceAdd, Int.reduceSub, Int.reduceToNat, Int.reduceLT, Int.reduceLE, Int.reduceEq, Int.reduceNeg, Nat.reduceLT, QT3, QT4, QT31, QT25, t_call imp50, t_call imp45, t_call imp54, t_call imp46, rowsI_get, rowsI_set, Nat.mul_one, bits_1, shrN, wu64', shlN1, nats_get, d2]
        refine IH _ (by omega) ⟨_, _, ?_, rfl, rfl, ?_⟩
        · rw [show ((i + 1 : Nat) : Int) = (i : Int) + 1 by omega]
          kernel_rfl
        · rw [htk]
          intro r hr
          rw [List.map_append, List.mem_append] at hr
          rcases hr with hr | hr
          · exact ho r hr
          · simp at hr; subst hr; exact hd.1 h2
      · have d2 : decide (dotL (es.getD i []) (vecN m w) % 2 = 0) = false := decide_eq_false h2
        simp -implicitDefEqProofs (disch := first | omega | assumption | (simp only [QN, rowsI_len, vecN_len, vecR_len] <;> omega)) only [QB, QL, Nat.reduceSub, Nat.reduceAdd, Nat.reduceLeDiff, Nat.reduceEqDiff, reduceCtorEq, ↓reduceIte, Int.reduceAdd, Int.reduceSub, Int.reduceToNat, Int.reduceLT, Int.reduceLE, Int.reduceEq, Int.reduceNeg, Nat.reduceLT, QT3, QT4, QT31, QT25, t_call imp50, t_call imp45, t_call imp54, t_call imp46, rowsI_get, rowsI_set, Nat.mul_one, bits_1, shrN, wu64', shlN1, nats_get, d2]
        rw [hN (fun h => h2 (hd.2 (h _ (List.mem_map.2 ⟨es.getD i [], by rw [getD_lt (by omega)]; exact List.getElem_mem _, rfl⟩))))]
    · have hie : i = es.length := by omega
      rw [hie, List.take_length] at ho
      simp -implicitDefEqProofs (disch := first | omega | assumption | (simp only [QN, rowsI_len, vecN_len, vecR_len] <;> omega)) only [QB, QL, Nat.reduceSub, Nat.reduceAdd, Nat.reduceLeDiff, Nat.reduceEqDiff, reduceCtorEq, ↓reduceIte, Int.reduceAdd, Int.reduceSub, Int.reduceToNat, Int.reduceLT, Int.reduceLE, Int.reduceEq, Int.reduceNeg, Nat.reduceLT, QT3, QT4, QT31, QT25, t_call imp50, t_call imp45, t_call imp54, t_call imp46, rowsI_get, rowsI_set, Nat.mul_one, bits_1, shrN, wu64', shlN1, nats_get]
      rw [hY ho]
  · omega
  · refine ⟨_, _, ?_, rfl, rfl, by intro r hr; simp at hr⟩
    kernel_rfl
open Classical in
theorem ev_orthog (es : List (List Int)) (m w : Nat) (hm : m ≤ 6) (hw : w < 2 ^ m) (he : ExpR m es) (hl : es.length ≤ 1000000) (n : Nat) (hn : 1000100 ≤ n) :
    pcall G n 45 [.c (.t (.sl es.length (rows encI es))), .c (.t (.sl m (ks .i64 (vecN m w))))] [] = some (boo (decide (orthV es w)), []) :=
  ev_orthog0 es m w hm hw he hl n hn _ (fun h => by rw [decide_eq_true h]) (fun h => by rw [decide_eq_false h])
theorem ev_leading (m w f : Nat) (hm : m ≤ 6) (hf : f < m) (hw : fst w f) (n : Nat) (hn : 20 ≤ n) : pcall G n 54 [.c (.t (.sl m (ks .i64 (vecN m w))))] [] = some (num f, []) := by
  have hv : T.sl m (ks .i64 (vecN m w)) = ints (vecN m w) := by unfold ints; rw [vecN_len]
  rw [hv]
  have hvl := vecN_len (n := m) (w := w)
  obtain ⟨n, rfl⟩ : ∃ m, n = m + 1 := ⟨n - 1, by omega⟩; rw [pcall_at fn54 rfl, imp54, G_tb]
  simp -implicitDefEqProofs (disch := first | omega | assumption | (simp only [QN, rowsI_len, vecN_len, vecR_len] <;> omega)) only [QB, QL, Nat.reduceSub, Nat.reduceAdd, Nat.reduceLeDiff, Nat.reduceEqDiff, reduceCtorEq, ↓reduceIte, Int.reduceAdd, Int.reduceSub, Int.reduceToNat, Int.reduceLT, Int.reduceLE, Int.reduceEq, Int.reduceNeg, Nat.reduceLT, QT3, QT4, QT31, QT25, t_call imp50, t_call imp45, t_call imp54, t_call imp46, rowsI_get, rowsI_set, Nat.mul_one, bits_1, shrN, wu64', shlN1, nats_get]
  refine loop_up f (fun i fr H => fr = [.c (.t (ints (vecN m w))), .any, num 0, num i, .any, .any, .any, .any, .any, .any, .any, .any, .any, .any, .any, .any, .any, .any] ∧ H = []) ?_ ?_ ?_
  · rintro i fr H n1 hi ⟨rfl, rfl⟩ IH
    have d1 : decide ((i : Int) < (vecN m w).length) = true := decide_eq_true (by omega)
    simp -implicitDefEqProofs (disch := first | omega | assumption | (simp only [QN, rowsI_len, vecN_len, vecR_len] <;> omega)) only [QB, QL, Nat.reduceSub, Nat.reduceAdd, Nat.reduceLeDiff, Nat.reduceEqDiff, reduceCtorEq, ↓reduceIte, Int.reduceAdd, Int.reduceSub, Int.reduceToNat, Int.reduceLT, Int.reduceLE, Int.reduceEq, Int.reduceNeg, Nat.reduceLT, QT3, QT4, QT31, QT25, t_call imp50, t_call imp45, t_call imp54, t_call imp46, rowsI_get, rowsI_set, Nat.mul_one, bits_1, shrN, wu64', shlN1, nats_get, d1, vecN_get]
    by_cases hif : i = f
    · have d2 : decide (((w / 2 ^ i % 2 : Nat) : Int) = 1) = true := decide_eq_true (by rw [hif, hw.2]; rfl)
      simp -implicitDefEqProofs (disch := first | omega | assumption | (simp only [QN, rowsI_len, vecN_len, vecR_len] <;> omega)) only [QB, QL, Nat.reduceSub, Nat.reduceAdd, Nat.reduceLeDiff, Nat.reduceEqDiff, reduceCtorEq, ↓reduceIte, Int.reduceAdd, Int.reduceSub, Int.reduceToNat, Int.reduceLT, Int.reduceLE, Int.reduceEq, Int.reduceNeg, Nat.reduceLT, QT3, QT4, QT31, QT25, t_call imp50, t_call imp45, t_call imp54, t_call imp46, rowsI_get, rowsI_set, Nat.mul_one, bits_1, shrN, wu64', shlN1, nats_get, d1, d2, vecN_get]
      rw [hif]
    · have hbit : w / 2 ^ i % 2 = 0 := by
        have h3 : w % 2 ^ (i + 1) = 0 := Nat.mod_eq_zero_of_dvd (Nat.dvd_trans (Nat.pow_dvd_pow 2 (by omega)) (Nat.dvd_of_mod_eq_zero hw.1))
        rw [Nat.pow_succ, Nat.mod_mul] at h3
        have h5 : 0 < 2 ^ i := Nat.pow_pos (by decide)
        have h6 : 2 ^ i * (w / 2 ^ i % 2) = 0 := by omega
        rcases Nat.mul_eq_zero.1 h6 with h7 | h7
        · omega
        · exact h7
      have d2 : decide (((w / 2 ^ i % 2 : Nat) : Int) = 1) = false := decide_eq_false (by rw [hbit]; decide)
      simp -implicitDefEqProofs (disch := first | omega | assumption | (simp only [QN, rowsI_len, vecN_len, vecR_len] <;> omega)) only [QB, QL, Nat.reduceSub, Nat.reduceAdd, Nat.reduceLeDiff, Nat.reduceEqDiff, reduceCtorEq, ↓reduceIte, Int.reduceAdd, Int.reduceSub, Int.reduceToNat, Int.reduceLT, Int.reduceLE, Int.reduceEq, Int.reduceNeg, Nat.reduceLT, QT3, QT4, QT31, QT25, t_call imp50, t_call imp45, t_call imp54, t_call imp46, rowsI_get, rowsI_set, Nat.mul_one, bits_1, shrN, wu64', shlN1, nats_get, d1, d2, vecN_get]
      refine IH _ (by omega) ⟨_, _, ?_, rfl, rfl⟩
      rw [show ((i + 1 : Nat) : Int) = (i : Int) + 1 by omega]
      kernel_rfl
  · omega
  · refine ⟨_, _, ?_, rfl, rfl⟩
    kernel_rfl
def RW (m : Nat) (es : List (List Int)) (w f : Nat) : Prop := ∀ k, Lead m (Ker m (es.map oddL)) k → f < k → w / 2 ^ k % 2 = 0
theorem sub_vec {m x : Nat} : sub (ks .i64 (vecN m x)) 0 m = ks .i64 (vecN m x) := sub_allN (by rw [ks_len, vecN_len])
open Classical in
theorem ev_redwith0 (es : List (List Int)) (m w f : Nat) (hm : m ≤ 6) (hw : w < 2 ^ m) (hf : f < m) (hwf : fst w f) (he : ExpR m es) (hl : es.length ≤ 1000000) (n : Nat) (hn : 2000100 ≤ n) (R : V) (hY : RW m es w f → R = boo true) (hN : ¬ RW m es w f → R = boo false) :
    pcall G n 46 [.c (.t (.sl es.length (rows encI es))), .c (.t (.sl m (ks .i64 (vecN m w)))), num m] [] = some (R, []) := by
  have h6 := pow_le6 hm
  obtain ⟨n, rfl⟩ : ∃ m, n = m + 1 := ⟨n - 1, by omega⟩; rw [pcall_at fn46 rfl, imp46, G_tb]
  simp -implicitDefEqProofs (disch := first | omega | assumption | (simp only [QN, rowsI_len, vecN_len, vecR_len] <;> omega)) only [QB, QL, Nat.reduceSub, Nat.reduceAdd, Nat.reduceLeDiff, Nat.reduceEqDiff, reduceCtorEq, ↓reduceIte, Int.reduceAdd, Int.reduceSub, Int.reduceToNat, Int.reduceLT, Int.reduceLE, Int.reduceEq, Int.reduceNeg, Nat.reduceLT, QT3, QT4, QT31, QT25, t_call imp50, t_call imp45, t_call imp54, t_call imp46, rowsI_get, rowsI_set, Nat.mul_one, bits_1, shrN, wu64', shlN1, nats_get, sub_vec, vecN_get, vecR_get]
  refine loop_up (2 ^ m) (fun q fr H => fr = [.c (.t (.sl es.length (rows encI es))), .c (.t (.sl m (ks .i64 (vecN m w)))), num m, .any, .any, .any, boo false, num ((1 + q : Nat) : Int), .any, .any, .any, .any, .any, .any, .any, .any, .any, .any, .any, .any, .any, .any, .any, .any, .any, .any, .any, .any, .any, .any, .any, .any, .any, .any, .any, .any, .any, .any, .any, .any, .any, .any, .any, .any, .any, .any, .any, .any, .any, .any, .any, .any] ∧ H = [] ∧ 1 + q ≤ 2 ^ m ∧
    ∀ v, 1 ≤ v → v < 1 + q → ∀ k, fst (rv m v) k → f < k → w / 2 ^ k % 2 = 1 → ¬ orthV es (rv m v)) ?_ ?_ ?_
  · rintro q fr H n1 hq ⟨rfl, rfl, hqm, hb⟩ IH
    simp -implicitDefEqProofs (disch := first | omega | assumption | (simp only [QN, rowsI_len, vecN_len, vecR_len] <;> omega)) only [QB, QL, Nat.reduceSub, Nat.reduceAdd, Nat.reduceLeDiff, Nat.reduceEqDiff, reduceCtorEq, ↓reduceIte, Int.reduceAdd, Int.reduceSub, Int.reduceToNat, Int.reduceLT, Int.reduceLE, Int.reduceEq, Int.reduceNeg, Nat.reduceLT, QT3, QT4, QT31, QT25, t_call imp50, t_call imp45, t_call imp54, t_call imp46, rowsI_get, rowsI_set, Nat.mul_one, bits_1, shrN, wu64', shlN1, nats_get, sub_vec, vecN_get, vecR_get]
    by_cases h1 : ((1 + q : Nat) : Int) < ((2 ^ m : Nat) : Int) <;> simp (disch := omega) only [h1, decide_true, decide_false, Bool.not_true, Bool.not_false, reduceCtorEq, ↓reduceIte, Option.bind_some]
    · simp -implicitDefEqProofs (disch := first | omega | assumption | (simp only [QN, rowsI_len, vecN_len, vecR_len] <;> omega)) only [QB, QL, Nat.reduceSub, Nat.reduceAdd, Nat.reduceLeDiff, Nat.reduceEqDiff, reduceCtorEq, ↓reduceIte, Int.reduceAdd, Int.reduceSub, Int.reduceToNat, Int.reduceLT, Int.reduceLE, Int.reduceEq, Int.reduceNeg, Nat.reduceLT, QT3, QT4, QT31, QT25, t_call imp50, t_call imp45, t_call imp54, t_call imp46, rowsI_get, rowsI_set, Nat.mul_one, bits_1, shrN, wu64', shlN1, nats_get, sub_vec, vecN_get, vecR_get]
      refine loop_up m (fun k fr H => fr = [.c (.t (.sl es.length (rows encI es))), .c (.t (.sl m (ks .i64 (vecN m w)))), num m, .any, .any, .any, boo false, num ((1 + q : Nat) : Int), .c (.osl 0 0 m 1), num k, .any, .any, .any, .any, .any, .any, .any, .any, .any, .any, .any, .any, .any, .any, .any, .any, .any, .any, .any, .any, .any, .any, .any, .any, .any, .any, .any, .any, .any, .any, .any, .any, .any, .any, .any, .any, .any, .any, .any, .any, .any, .any] ∧ H = [objK .i64 ((vecR m (1 + q)).take k ++ List.replicate (m - k) 0)]) ?_ ?_ ?_
      · rintro k fr H n2 hk ⟨rfl, rfl⟩ IK
        have hvl := vecR_len (n := m) (v := 1 + q)
        simp -implicitDefEqProofs (disch := first | omega | assumption | (simp only [QN, rowsI_len, vecN_len, vecR_len] <;> omega)) only [QB, QL, Nat.reduceSub, Nat.reduceAdd, Nat.reduceLeDiff, Nat.reduceEqDiff, reduceCtorEq, ↓reduceIte, Int.reduceAdd, Int.reduceSub, Int.reduceToNat, Int.reduceLT, Int.reduceLE, Int.reduceEq, Int.reduceNeg, Nat.reduceLT, QT3, QT4, QT31, QT25, t_call imp50, t_call imp45, t_call imp54, t_call imp46, rowsI_get, rowsI_set, Nat.mul_one, bits_1, shrN, wu64', shlN1, nats_get, sub_vec, vecN_get, vecR_get]
        by_cases h2 : (k : Int) < m <;> simp (disch := omega) only [h2, decide_true, decide_false, Bool.not_true, Bool.not_false, reduceCtorEq, ↓reduceIte, Option.bind_some]
        · have e1 : ((m : Int) - 1 - k).toNat = m - 1 - k := by omega
          have hdl : (1 + q) / 2 ^ (m - 1 - k) ≤ 1 + q := Nat.div_le_self ..
          simp -implicitDefEqProofs (disch := first | omega | assumption | (simp only [QN, rowsI_len, vecN_len, vecR_len] <;> omega)) only [QB, QL, Nat.reduceSub, Nat.reduceAdd, Nat.reduceLeDiff, Nat.reduceEqDiff, reduceCtorEq, ↓reduceIte, Int.reduceAdd, Int.reduceSub, Int.reduceToNat, Int.reduceLT, Int.reduceLE, Int.reduceEq, Int.reduceNeg, Nat.reduceLT, QT3, QT4, QT31, QT25, t_call imp50, t_call imp45, t_call imp54, t_call imp46, rowsI_get, rowsI_set, Nat.mul_one, bits_1, shrN, wu64', shlN1, nats_get, sub_vec, vecN_get, vecR_get, e1]
          have htk2 : ((vecR m (1 + q)).take k).length = k := by rw [List.length_take, hvl]; omega
          rw [set_fill htk2 (by omega), ← vecR_get (n := m) (v := 1 + q) (k := k) (by omega), ← take_snoc 0 (by omega)]
          refine IK _ (by omega) ⟨_, _, ?_, rfl, rfl⟩
          rw [show m - k - 1 = m - (k + 1) by omega, show ((k + 1 : Nat) : Int) = (k : Int) + 1 by omega]
          kernel_rfl
        · have hkm : k = m := by omega
          have hrv := rv_ok (v := 1 + q) hm (by omega)
          have htl : (vecR m (1 + q)).take m = vecN m (rv m (1 + q)) := by rw [hrv.1]; exact List.take_of_length_le (by omega)
          rw [hkm, htl, Nat.sub_self, List.replicate_zero, List.append_nil]
          obtain ⟨g, hg, hgf⟩ := rv_f (v := 1 + q) hm (by omega) (by omega)
          have hgn := fun n hn => ev_leading m (rv m (1 + q)) g hm hg hgf n hn
          have hfn := fun n hn => ev_leading m w f hm hf hwf n hn
          have hvlt := hrv.2.1
          have next : (f < g → w / 2 ^ g % 2 = 1 → ¬ orthV es (rv m (1 + q))) → ∀ v, 1 ≤ v → v < 1 + (q + 1) → ∀ k, fst (rv m v) k → f < k → w / 2 ^ k % 2 = 1 → ¬ orthV es (rv m v) := by
            intro hx v hv1 hv2 k' hk' hfk hbk
            by_cases hvq : v < 1 + q
            · exact hb v hv1 hvq k' hk' hfk hbk
            · have : v = 1 + q := by omega
              subst this
              have := fst_uniq _ (by omega) k' (by have := fst_lt hvlt hk'; omega) g (by omega) hk' hgf
              subst this
              exact hx hfk hbk
          simp -implicitDefEqProofs (disch := first | omega | assumption | (simp only [QN, rowsI_len, vecN_len, vecR_len] <;> omega)) only [QB, QL, Nat.reduceSub, Nat.reduceAdd, Nat.reduceLeDiff, Nat.reduceEqDiff, reduceCtorEq, ↓reduceIte, Int.reduceAdd, Int.reduceSub, Int.reduceToNat, Int.reduceLT, Int.reduceLE, Int.reduceEq, Int.reduceNeg, Nat.reduceLT, QT3, QT4, QT31, QT25, t_call imp50, t_call imp45, t_call imp54, t_call imp46, rowsI_get, rowsI_set, Nat.mul_one, bits_1, shrN, wu64', shlN1, nats_get, sub_vec, vecN_get, vecR_get, hgn, hfn]
          by_cases c1 : (f : Int) < g
          · have d1 : decide ((f : Int) < g) = true := decide_eq_true c1
            by_cases c2 : ((w / 2 ^ g % 2 : Nat) : Int) = 1
            · have d2 : decide (((w / 2 ^ g % 2 : Nat) : Int) = 1) = true := decide_eq_true c2
              by_cases c3 : orthV es (rv m (1 + q))
              · have d3 : decide (orthV es (rv m (1 + q))) = true := decide_eq_true c3
                simp -implicitDefEqProofs (disch := first | omega | assumption | (simp only [QN, rowsI_len, vecN_len, vecR_len] <;> omega)) only [QB, QL, Nat.reduceSub, Nat.reduceAdd, Nat.reduceLeDiff, Nat.reduceEqDiff, reduceCtorEq, ↓reduceIte, Int.reduceAdd, Int.reduceSub, Int.reduceToNat, Int.reduceLT, Int.reduceLE, Int.reduceEq, Int.reduceNeg, Nat.reduceLT, QT3, QT4, QT31, QT25, t_call imp50, t_call imp45, t_call imp54, t_call imp46, rowsI_get, rowsI_set, Nat.mul_one, bits_1, shrN, wu64', shlN1, nats_get, sub_vec, vecN_get, vecR_get, d1, d2, d3, ev_orthog]
                rw [hN (fun h => by have := h g ⟨hg, _, ⟨hvlt, c3⟩, hgf⟩ (by omega); omega)]
              · have d3 : decide (orthV es (rv m (1 + q))) = false := decide_eq_false c3
                simp -implicitDefEqProofs (disch := first | omega | assumption | (simp only [QN, rowsI_len, vecN_len, vecR_len] <;> omega)) only [QB, QL, Nat.reduceSub, Nat.reduceAdd, Nat.reduceLeDiff, Nat.reduceEqDiff, reduceCtorEq, ↓reduceIte, Int.reduceAdd, Int.reduceSub, Int.reduceToNat, Int.reduceLT, Int.reduceLE, Int.reduceEq, Int.reduceNeg, Nat.reduceLT, QT3, QT4, QT31, QT25, t_call imp50, t_call imp45, t_call imp54, t_call imp46, rowsI_get, rowsI_set, Nat.mul_one, bits_1, shrN, wu64', shlN1, nats_get, sub_vec, vecN_get, vecR_get, d1, d2, d3, ev_orthog]
                refine IH _ (by omega) ⟨_, _, ?_, rfl, rfl, by omega, next fun _ _ => c3⟩
                rw [show ((1 + (q + 1) : Nat) : Int) = ((1 + q : Nat) : Int) + 1 by omega]
                kernel_rfl
            · have d2 : decide (((w / 2 ^ g % 2 : Nat) : Int) = 1) = false := decide_eq_false c2
              simp -implicitDefEqProofs (disch := first | omega | assumption | (simp only [QN, rowsI_len, vecN_len, vecR_len] <;> omega)) only [QB, QL, Nat.reduceSub, Nat.reduceAdd, Nat.reduceLeDiff, Nat.reduceEqDiff, reduceCtorEq, ↓reduceIte, Int.reduceAdd, Int.reduceSub, Int.reduceToNat, Int.reduceLT, Int.reduceLE, Int.reduceEq, Int.reduceNeg, Nat.reduceLT, QT3, QT4, QT31, QT25, t_call imp50, t_call imp45, t_call imp54, t_call imp46, rowsI_get, rowsI_set, Nat.mul_one, bits_1, shrN, wu64', shlN1, nats_get, sub_vec, vecN_get, vecR_get, d1, d2]
              refine IH _ (by omega) ⟨_, _, ?_, rfl, rfl, by omega, next fun _ h => absurd (by omega) c2⟩
              rw [show ((1 + (q + 1) : Nat) : Int) = ((1 + q : Nat) : Int) + 1 by omega]
              kernel_rfl
          · have d1 : decide ((f : Int) < g) = false := decide_eq_false c1
            simp -implicitDefEqProofs (disch := first | omega | assumption | (simp only [QN, rowsI_len, vecN_len, vecR_len] <;> omega)) only [QB, QL, Nat.reduceSub, Nat.reduceAdd, Nat.reduceLeDiff, Nat.reduceEqDiff, reduceCtorEq, ↓reduceIte, Int.reduceAdd, Int.reduceSub, Int.reduceToNat, Int.reduceLT, Int.reduceLE, Int.reduceEq, Int.reduceNeg, Nat.reduceLT, QT3, QT4, QT31, QT25, t_call imp50, t_call imp45, t_call imp54, t_call imp46, rowsI_get, rowsI_set, Nat.mul_one, bits_1, shrN, wu64', shlN1, nats_get, sub_vec, vecN_get, vecR_get, d1]
            refine IH _ (by omega) ⟨_, _, ?_, rfl, rfl, by omega, next fun h => absurd (by omega) c1⟩
            rw [show ((1 + (q + 1) : Nat) : Int) = ((1 + q : Nat) : Int) + 1 by omega]
            kernel_rfl
      · omega
      · refine ⟨_, _, ?_, rfl, rfl⟩
        rw [Nat.sub_zero]
        kernel_rfl
    · simp -implicitDefEqProofs (disch := first | omega | assumption | (simp only [QN, rowsI_len, vecN_len, vecR_len] <;> omega)) only [QB, QL, Nat.reduceSub, Nat.reduceAdd, Nat.reduceLeDiff, Nat.reduceEqDiff, reduceCtorEq, ↓reduceIte, Int.reduceAdd, Int.reduceSub, Int.reduceToNat, Int.reduceLT, Int.reduceLE, Int.reduceEq, Int.reduceNeg, Nat.reduceLT, QT3, QT4, QT31, QT25, t_call imp50, t_call imp45, t_call imp54, t_call imp46, rowsI_get, rowsI_set, Nat.mul_one, bits_1, shrN, wu64', shlN1, nats_get, sub_vec, vecN_get, vecR_get]
      rw [hY (fun k hk hfk => by
        obtain ⟨hkm, t, ht, htf⟩ := hk
        have hr := rv_ok hm ht.1
        have ht0 : t ≠ 0 := by intro h; subst h; have := htf.2; simp at this
        have hrn := rv_ne hm ht.1 ht0
        have := hb (rv m t) (by omega) (by omega) k (by rw [hr.2.2]; exact htf) hfk
        rw [hr.2.2] at this
        rcases bit_cases w k with h | h
        · exact h
        · exact absurd ht.2 (this h))]
  · omega
  · refine ⟨_, _, ?_, rfl, rfl, Nat.pow_pos (by decide), fun v h1 h2 => by omega⟩
    kernel_rfl
end Go.Proofs.Ythjmbppofgadaaa

namespace Go.Proofs.Ythjmbppofgadaaa
open Go Go.AM
set_option maxHeartbeats 4000000
set_option maxRecDepth 100000
open Classical in
theorem ev_redwith (es : List (List Int)) (m w f : Nat) (hm : m ≤ 6) (hw : w < 2 ^ m) (hf : f < m) (hwf : fst w f) (he : ExpR m es) (hl : es.length ≤ 1000000) (n : Nat) (hn : 2000100 ≤ n) :
    pcall G n 46 [.c (.t (.sl es.length (rows encI es))), .c (.t (.sl m (ks .i64 (vecN m w)))), num m] [] = some (boo (decide (RW m es w f)), []) :=
  ev_redwith0 es m w f hm hw hf hwf he hl n hn _ (fun h => by rw [decide_eq_true h]) (fun h => by rw [decide_eq_false h])
open Classical in
noncomputable def keepP (m : Nat) (es : List (List Int)) (v : Nat) : Bool := decide (∃ i, Rdd m (Ker m (es.map oddL)) (rv m v) i)
noncomputable def refL (m : Nat) (es : List (List Int)) : List (List Int) := ((down (2 ^ m - 1)).filter (keepP m es)).map fun v => vecN m (rv m v)
open Classical in
theorem ev_kernel (es : List (List Int)) (m : Nat) (hm : m ≤ 6) (he : ExpR m es) (hl : es.length ≤ 1000000) (n : Nat) (hn : 3000100 ≤ n) :
    pcall G n 26 [.c (.t (.sl es.length (rows encI es))), num m] [] = some (.c (.t (.sl (refL m es).length (rows encI (refL m es)))), []) := by
  have h6 := pow_le6 hm
  have hp1 : 0 < 2 ^ m := Nat.pow_pos (by decide)
  obtain ⟨n, rfl⟩ : ∃ m, n = m + 1 := ⟨n - 1, by omega⟩; rw [pcall_at fn26 rfl, imp26, G_tb]
  simp -implicitDefEqProofs (disch := first | omega | assumption | (simp only [QN, rowsI_len, vecN_len, vecR_len] <;> omega)) only [QB, QL, Nat.reduceSub, Nat.reduceAdd, Nat.reduceLeDiff, Nat.reduceEqDiff, reduceCtorEq, ↓reduceIte, Int.reduceAdd, Int.reduceSub, Int.reduceToNat, Int.reduceLT, Int.reduceLE, Int.reduceEq, Int.reduceNeg, Nat.reduceLT, QT3, QT4, QT25, QT31, QT66, QT69, QT71, QT99, QT22, QT41, QT26, t_call imp45, t_call imp46, t_call imp26, t_call imp27, t_call imp25, rowsI_get, rowsI_set, Nat.mul_one, bits_1, shrN, wu64', shlN1, nats_get, sub_vec, vecN_get, vecR_get, sub_allN rowsI_len]
  refine loop_up (2 ^ m) (fun q fr H => ∃ out : List (List Int), fr = [.c (.t (.sl es.length (rows encI es))), num m, .any, .any, .c (.t (.sl 0 [])), .c (.osl 0 0 out.length 1), num (((2 ^ m : Nat) : Int) - 1 - q), .any, .any, .any, .any, .any, .any, .any, .any, .any, .any, .any, .any, .any, .any, .any, .any, .any, .any, .any, .any, .any, .any, .any, .any, .any, .any, .any, .any, .any, .any, .any, .any, .any, .any, .any, .any, .any, .any, .any, .any] ∧ H = [.flat false (rows encI out)] ∧ q + 1 ≤ 2 ^ m ∧ out.length ≤ q ∧
    out ++ ((down (2 ^ m - 1 - q)).filter (keepP m es)).map (fun v => vecN m (rv m v)) = refL m es) ?_ ?_ ?_
  · rintro q fr H n1 hq ⟨out, rfl, rfl, hqm, hol, hout⟩ IH
    simp -implicitDefEqProofs (disch := first | omega | assumption | (simp only [QN, rowsI_len, vecN_len, vecR_len] <;> omega)) only [QB, QL, Nat.reduceSub, Nat.reduceAdd, Nat.reduceLeDiff, Nat.reduceEqDiff, reduceCtorEq, ↓reduceIte, Int.reduceAdd, Int.reduceSub, Int.reduceToNat, Int.reduceLT, Int.reduceLE, Int.reduceEq, Int.reduceNeg, Nat.reduceLT, QT3, QT4, QT25, QT31, QT66, QT69, QT71, QT99, QT22, QT41, QT26, t_call imp45, t_call imp46, t_call imp26, t_call imp27, t_call imp25, rowsI_get, rowsI_set, Nat.mul_one, bits_1, shrN, wu64', shlN1, nats_get, sub_vec, vecN_get, vecR_get, sub_allN rowsI_len]
    by_cases h1 : (0 : Int) < ((2 ^ m : Nat) : Int) - 1 - q <;> simp (disch := omega) only [h1, decide_true, decide_false, Bool.not_true, Bool.not_false, reduceCtorEq, ↓reduceIte, Option.bind_some]
    · obtain ⟨v, hv⟩ : ∃ v, 2 ^ m - 1 - q = v + 1 := ⟨2 ^ m - 1 - q - 1, by omega⟩
      have hvi : ((2 ^ m : Nat) : Int) - 1 - q = ((v + 1 : Nat) : Int) := by omega
      rw [hv] at hout
      simp only [down, List.filter_cons] at hout
      simp -implicitDefEqProofs (disch := first | omega | assumption | (simp only [QN, rowsI_len, vecN_len, vecR_len] <;> omega)) only [QB, QL, Nat.reduceSub, Nat.reduceAdd, Nat.reduceLeDiff, Nat.reduceEqDiff, reduceCtorEq, ↓reduceIte, Int.reduceAdd, Int.reduceSub, Int.reduceToNat, Int.reduceLT, Int.reduceLE, Int.reduceEq, Int.reduceNeg, Nat.reduceLT, QT3, QT4, QT25, QT31, QT66, QT69, QT71, QT99, QT22, QT41, QT26, t_call imp45, t_call imp46, t_call imp26, t_call imp27, t_call imp25, rowsI_get, rowsI_set, Nat.mul_one, bits_1, shrN, wu64', shlN1, nats_get, sub_vec, vecN_get, vecR_get, sub_allN rowsI_len, hvi]
      refine loop_up m (fun k fr H => fr = [.c (.t (.sl es.length (rows encI es))), num m, .any, .any, .c (.t (.sl 0 [])), .c (.osl 0 0 out.length 1), num ((v + 1 : Nat) : Int), .c (.osl 1 0 m 1), num k, .any, .any, .any, .any, .any, .any, .any, .any, .any, .any, .any, .any, .any, .any, .any, .any, .any, .any, .any, .any, .any, .any, .any, .any, .any, .any, .any, .any, .any, .any, .any, .any, .any, .any, .any, .any, .any, .any] ∧ H = [.flat false (rows encI out), objK .i64 ((vecR m (v + 1)).take k ++ List.replicate (m - k) 0)]) ?_ ?_ ?_
      · rintro k fr H n2 hk ⟨rfl, rfl⟩ IK
        have hvl := vecR_len (n := m) (v := v + 1)
        simp -implicitDefEqProofs (disch := first | omega | assumption | (simp only [QN, rowsI_len, vecN_len, vecR_len] <;> omega)) only [QB, QL, Nat.reduceSub, Nat.reduceAdd, Nat.reduceLeDiff, Nat.reduceEqDiff, reduceCtorEq, ↓reduceIte, Int.reduceAdd, Int.reduceSub, Int.reduceToNat, Int.reduceLT, Int.reduceLE, Int.reduceEq, Int.reduceNeg, Nat.reduceLT, QT3, QT4, QT25, QT31, QT66, QT69, QT71, QT99, QT22, QT41, QT26, t_call imp45, t_call imp46, t_call imp26, t_call imp27, t_call imp25, rowsI_get, rowsI_set, Nat.mul_one, bits_1, shrN, wu64', shlN1, nats_get, sub_vec, vecN_get, vecR_get, sub_allN rowsI_len]
        by_cases h2 : (k : Int) < m <;> simp (disch := omega) only [h2, decide_true, decide_false, Bool.not_true, Bool.not_false, reduceCtorEq, ↓reduceIte, Option.bind_some]
        · have e1 : ((m : Int) - 1 - k).toNat = m - 1 - k := by omega
          have hdl : (v + 1) / 2 ^ (m - 1 - k) ≤ v + 1 := Nat.div_le_self ..
          simp -implicitDefEqProofs (disch := first | omega | assumption | (simp only [QN, rowsI_len, vecN_len, vecR_len] <;> omega)) only [QB, QL, Nat.reduceSub, Nat.reduceAdd, Nat.reduceLeDiff, Nat.reduceEqDiff, reduceCtorEq, ↓reduceIte, Int.reduceAdd, Int.reduceSub, Int.reduceToNat, Int.reduceLT, Int.reduceLE, Int.reduceEq, Int.reduceNeg, Nat.reduceLT, QT3, QT4, QT25, QT31, QT66, QT69, QT71, QT99, QT22, QT41, QT26, t_call imp45, t_call imp46, t_call imp26, t_call imp27, t_call imp25, rowsI_get, rowsI_set, Nat.mul_one, bits_1, shrN, wu64', shlN1, nats_get, sub_vec, vecN_get, vecR_get, sub_allN rowsI_len, e1]
          have htk2 : ((vecR m (v + 1)).take k).length = k := by rw [List.length_take, hvl]; omega
          rw [set_fill htk2 (by omega), ← vecR_get (n := m) (v := v + 1) (k := k) (by omega), ← take_snoc 0 (by omega)]
          refine IK _ (by omega) ⟨_, _, ?_, rfl, rfl⟩
          rw [show m - k - 1 = m - (k + 1) by omega, show ((k + 1 : Nat) : Int) = (k : Int) + 1 by omega]
          kernel_rfl
        · have hkm : k = m := by omega
          have hrv := rv_ok (v := v + 1) hm (by omega)
          have htl : (vecR m (v + 1)).take m = vecN m (rv m (v + 1)) := by rw [hrv.1]; exact List.take_of_length_le (by omega)
          rw [hkm, htl, Nat.sub_self, List.replicate_zero, List.append_nil]
          obtain ⟨g, hg, hgf⟩ := rv_f (v := v + 1) hm (by omega) (by omega)
          have hvlt := hrv.2.1
          have hrw := fun n hn => ev_redwith es m (rv m (v + 1)) g hm hvlt hg hgf he hl n hn
          have hkeep : keepP m es (v + 1) = true ↔ orthV es (rv m (v + 1)) ∧ RW m es (rv m (v + 1)) g := by
            unfold keepP
            rw [decide_eq_true_iff]
            constructor
            · rintro ⟨i, hi⟩
              have := fst_uniq _ (by omega) i (by have := hi.2.2.1; omega) g (by omega) hi.2.1 hgf
              subst this
              exact ⟨hi.1.2, fun k hk hik => hi.2.2.2 k hk hik⟩
            · rintro ⟨a, b⟩
              exact ⟨g, ⟨hvlt, a⟩, hgf, hg, b⟩
          have no : ¬ (orthV es (rv m (v + 1)) ∧ RW m es (rv m (v + 1)) g) → out ++ ((down (2 ^ m - 1 - (q + 1))).filter (keepP m es)).map (fun v => vecN m (rv m v)) = refL m es := by
            intro h
            rw [if_neg (fun h' => h (hkeep.1 h'))] at hout
            rw [show 2 ^ m - 1 - (q + 1) = v by omega]; exact hout
          by_cases c1 : orthV es (rv m (v + 1))
          · have d1 : decide (orthV es (rv m (v + 1))) = true := decide_eq_true c1
            by_cases c2 : RW m es (rv m (v + 1)) g
            · have d2 : decide (RW m es (rv m (v + 1)) g) = true := decide_eq_true c2
              rw [if_pos (hkeep.2 ⟨c1, c2⟩)] at hout
              simp -implicitDefEqProofs (disch := first | omega | assumption | (simp only [QN, rowsI_len, vecN_len, vecR_len] <;> omega)) only [QB, QL, Nat.reduceSub, Nat.reduceAdd, Nat.reduceLeDiff, Nat.reduceEqDiff, reduceCtorEq, ↓reduceIte, Int.reduceAdd, Int.reduceSub, Int.reduceToNat, Int.reduceLT, Int.reduceLE, Int.reduceEq, Int.reduceNeg, Nat.reduceLT, QT3, QT4, QT25, QT31, QT66, QT69, QT71, QT99, QT22, QT41, QT26, t_call imp45, t_call imp46, t_call imp26, t_call imp27, t_call imp25, rowsI_get, rowsI_set, Nat.mul_one, bits_1, shrN, wu64', shlN1, nats_get, sub_vec, vecN_get, vecR_get, sub_allN rowsI_len, d1, d2, ev_orthog, hrw]
              refine IH _ (by omega) ⟨_, _, ?_, out ++ [vecN m (rv m (v + 1))], rfl, rfl, by omega, by simp; omega, by rw [show 2 ^ m - 1 - (q + 1) = v by omega, List.append_assoc]; exact hout⟩
              have hrow : encI (vecN m (rv m (v + 1))) = [T.sl m (ks .i64 (vecN m (rv m (v + 1))))] := by simp [encI, vecN_len]
              rw [List.length_append, rows_app, rows_one, hrow, show ((2 ^ m : Nat) : Int) - 1 - ((q + 1 : Nat) : Int) = ((v + 1 : Nat) : Int) - 1 by omega]
              show _ = _
              kernel_rfl
            · have d2 : decide (RW m es (rv m (v + 1)) g) = false := decide_eq_false c2
              simp -implicitDefEqProofs (disch := first | omega | assumption | (simp only [QN, rowsI_len, vecN_len, vecR_len] <;> omega)) only [QB, QL, Nat.reduceSub, Nat.reduceAdd, Nat.reduceLeDiff, Nat.reduceEqDiff, reduceCtorEq, ↓reduceIte, Int.reduceAdd, Int.reduceSub, Int.reduceToNat, Int.reduceLT, Int.reduceLE, Int.reduceEq, Int.reduceNeg, Nat.reduceLT, QT3, QT4, QT25, QT31, QT66, QT69, QT71, QT99, QT22, QT41, QT26, t_call imp45, t_call imp46, t_call imp26, t_call imp27, t_call imp25, rowsI_get, rowsI_set, Nat.mul_one, bits_1, shrN, wu64', shlN1, nats_get, sub_vec, vecN_get, vecR_get, sub_allN rowsI_len, d1, d2, ev_orthog, hrw]
              refine IH _ (by omega) ⟨_, _, ?_, out, rfl, rfl, by omega, by omega, no fun h => c2 h.2⟩
              rw [show ((2 ^ m : Nat) : Int) - 1 - ((q + 1 : Nat) : Int) = ((v + 1 : Nat) : Int) - 1 by omega]
              kernel_rfl
          · have d1 : decide (orthV es (rv m (v + 1))) = false := decide_eq_false c1
            simp -implicitDefEqProofs (disch := first | omega | assumption | (simp only [QN, rowsI_len, vecN_len, vecR_len] <;> omega)) only [QB, QL, Nat.reduceSub, Nat.reduceAdd, Nat.reduceLeDiff, Nat.reduceEqDiff, reduceCtorEq, ↓reduceIte, Int.reduceAdd, Int.reduceSub, Int.reduceToNat, Int.reduceLT, Int.reduceLE, Int.reduceEq, Int.reduceNeg, Nat.reduceLT, QT3, QT4, QT25, QT31, QT66, QT69, QT71, QT99, QT22, QT41, QT26, t_call imp45, t_call imp46, t_call imp26, t_call imp27, t_call imp25, rowsI_get, rowsI_set, Nat.mul_one, bits_1, shrN, wu64', shlN1, nats_get, sub_vec, vecN_get, vecR_get, sub_allN rowsI_len, d1, ev_orthog]
            refine IH _ (by omega) ⟨_, _, ?_, out, rfl, rfl, by omega, by omega, no fun h => c1 h.1⟩
            rw [show ((2 ^ m : Nat) : Int) - 1 - ((q + 1 : Nat) : Int) = ((v + 1 : Nat) : Int) - 1 by omega]
            kernel_rfl
      · omega
      · refine ⟨_, _, ?_, rfl, rfl⟩
        rw [Nat.sub_zero]
        kernel_rfl
    · have hq0 : 2 ^ m - 1 - q = 0 := by omega
      rw [hq0] at hout
      simp only [down, List.filter_nil, List.map_nil, List.append_nil] at hout
      simp -implicitDefEqProofs (disch := first | omega | assumption | (simp only [QN, rowsI_len, vecN_len, vecR_len] <;> omega)) only [QB, QL, Nat.reduceSub, Nat.reduceAdd, Nat.reduceLeDiff, Nat.reduceEqDiff, reduceCtorEq, ↓reduceIte, Int.reduceAdd, Int.reduceSub, Int.reduceToNat, Int.reduceLT, Int.reduceLE, Int.reduceEq, Int.reduceNeg, Nat.reduceLT, QT3, QT4, QT25, QT31, QT66, QT69, QT71, QT99, QT22, QT41, QT26, t_call imp45, t_call imp46, t_call imp26, t_call imp27, t_call imp25, rowsI_get, rowsI_set, Nat.mul_one, bits_1, shrN, wu64', shlN1, nats_get, sub_vec, vecN_get, vecR_get, sub_allN rowsI_len]
      rw [hout]
  · omega
  · refine ⟨_, _, ?_, [], rfl, rfl, by omega, by simp, by rw [Nat.sub_zero]; rfl⟩
    rw [show ((2 ^ m : Nat) : Int) - 1 - ((0 : Nat) : Int) = ((2 ^ m : Nat) : Int) - 1 by omega]
    kernel_rfl
def esOf (xs : List RPo) : List (List Int) := xs.flatMap fun p => p.t.map fun y => y.e
theorem esOf_take (xs : List RPo) (i k : Nat) (hi : i < xs.length) : (esOf (xs.take i) ++ ((xs.getD i default).t.take k).map fun y => y.e).length ≤ (esOf xs).length := by
  have h1 : xs = xs.take i ++ (xs.getD i default :: xs.drop (i + 1)) := by rw [getD_lt hi, ← List.drop_eq_getElem_cons, List.take_append_drop]
  have h2 : esOf xs = esOf (xs.take i) ++ (((xs.getD i default).t.map fun y => y.e) ++ esOf (xs.drop (i + 1))) := by
    conv => lhs; rw [h1]
    simp [esOf]
  rw [h2]
  simp only [List.length_append, List.length_map, List.length_take]
  omega
theorem encR32_0 (x : RPo) : (encR32 x)[0]? = some (.int .i64 x.n) := rfl
theorem encR32_1 (x : RPo) : (encR32 x)[1]? = some (tms32 x.t) := rfl
theorem enc32_4 (x : RTm) : (enc32 x)[4]? = some (ints x.e) := rfl
theorem ev_rowsf (xs : List RPo) (hl : xs.length ≤ 1000000) (ht : ∀ x ∈ xs, x.t.length ≤ 1000000) (hE : (esOf xs).length ≤ 1000000) (n : Nat) (hn : 1000100 ≤ n) :
    pcall G n 27 [.c (.t (.sl xs.length (rows encR32 xs)))] [] = some (.c (.t (.sl (esOf xs).length (rows encI (esOf xs)))), []) := by
  obtain ⟨n, rfl⟩ : ∃ m, n = m + 1 := ⟨n - 1, by omega⟩; rw [pcall_at fn27 rfl, imp27, G_tb]
  simp -implicitDefEqProofs (disch := first | omega | assumption | (simp only [QN, rowsI_len, vecN_len, vecR_len] <;> omega)) only [QB, QL, Nat.reduceSub, Nat.reduceAdd, Nat.reduceLeDiff, Nat.reduceEqDiff, reduceCtorEq, ↓reduceIte, Int.reduceAdd, Int.reduceSub, Int.reduceToNat, Int.reduceLT, Int.reduceLE, Int.reduceEq, Int.reduceNeg, Nat.reduceLT, QT3, QT4, QT25, QT31, QT66, QT69, QT71, QT99, QT22, QT41, QT26, t_call imp45, t_call imp46, t_call imp26, t_call imp27, t_call imp25, rowsI_get, rowsI_set, Nat.mul_one, bits_1, shrN, wu64', shlN1, nats_get, sub_vec, vecN_get, vecR_get, sub_allN rowsI_len, rows_get encR32_len, rows_get0 encR32_len, rows_get enc32_len, encR32_0, encR32_1, enc32_4]
  refine loop_up xs.length (fun i fr H => fr = [.c (.t (.sl xs.length (rows encR32 xs))), .any, .c (.t (.sl 0 [])), .c (.osl 0 0 (esOf (xs.take i)).length 1), num i, .any, .any, .any, .any, .any, .any, .any, .any, .any, .any, .any, .any, .any, .any, .any, .any, .any, .any, .any, .any, .any, .any, .any, .any, .any, .any, .any, .any, .any, .any] ∧ H = [.flat false (rows encI (esOf (xs.take i)))]) ?_ ?_ ?_
  · rintro i fr H n1 hi ⟨rfl, rfl⟩ IH
    simp -implicitDefEqProofs (disch := first | omega | assumption | (simp only [QN, rowsI_len, vecN_len, vecR_len] <;> omega)) only [QB, QL, Nat.reduceSub, Nat.reduceAdd, Nat.reduceLeDiff, Nat.reduceEqDiff, reduceCtorEq, ↓reduceIte, Int.reduceAdd, Int.reduceSub, Int.reduceToNat, Int.reduceLT, Int.reduceLE, Int.reduceEq, Int.reduceNeg, Nat.reduceLT, QT3, QT4, QT25, QT31, QT66, QT69, QT71, QT99, QT22, QT41, QT26, t_call imp45, t_call imp46, t_call imp26, t_call imp27, t_call imp25, rowsI_get, rowsI_set, Nat.mul_one, bits_1, shrN, wu64', shlN1, nats_get, sub_vec, vecN_get, vecR_get, sub_allN rowsI_len, rows_get encR32_len, rows_get0 encR32_len, rows_get enc32_len, encR32_0, encR32_1, enc32_4]
    by_cases h1 : (i : Int) < xs.length <;> simp (disch := omega) only [h1, decide_true, decide_false, Bool.not_true, Bool.not_false, reduceCtorEq, ↓reduceIte, Option.bind_some]
    · have hmem : xs.getD i default ∈ xs := by rw [getD_lt (by omega)]; exact List.getElem_mem _
      have hxt := ht _ hmem
      have htk : xs.take (i + 1) = xs.take i ++ [xs.getD i default] := take_snoc default (by omega)
      have hbd := fun k => esOf_take xs i k (by omega)
      simp -implicitDefEqProofs (disch := first | omega | assumption | (simp only [QN, rowsI_len, vecN_len, vecR_len] <;> omega)) only [QB, QL, Nat.reduceSub, Nat.reduceAdd, Nat.reduceLeDiff, Nat.reduceEqDiff, reduceCtorEq, ↓reduceIte, Int.reduceAdd, Int.reduceSub, Int.reduceToNat, Int.reduceLT, Int.reduceLE, Int.reduceEq, Int.reduceNeg, Nat.reduceLT, QT3, QT4, QT25, QT31, QT66, QT69, QT71, QT99, QT22, QT41, QT26, t_call imp45, t_call imp46, t_call imp26, t_call imp27, t_call imp25, rowsI_get, rowsI_set, Nat.mul_one, bits_1, shrN, wu64', shlN1, nats_get, sub_vec, vecN_get, vecR_get, sub_allN rowsI_len, rows_get encR32_len, rows_get0 encR32_len, rows_get enc32_len, encR32_0, encR32_1, enc32_4]
      generalize hX : xs.getD i default = X at *
      refine loop_up X.t.length (fun k fr H => ∃ out, out = esOf (xs.take i) ++ (X.t.take k).map (fun y => y.e) ∧ fr = [.c (.t (.sl xs.length (rows encR32 xs))), .any, .c (.t (.sl 0 [])), .c (.osl 0 0 out.length 1), num i, num k, .any, .any, .any, .any, .any, .any, .any, .any, .any, .any, .any, .any, .any, .any, .any, .any, .any, .any, .any, .any, .any, .any, .any, .any, .any, .any, .any, .any, .any] ∧ H = [.flat false (rows encI out)]) ?_ ?_ ?_
      · rintro k fr H n2 hk ⟨out, ho, rfl, rfl⟩ IK
        have hol : out.length ≤ 1000000 := by have := hbd k; rw [← ho] at this; omega
        simp -implicitDefEqProofs (disch := first | omega | assumption | (simp only [QN, rowsI_len, vecN_len, vecR_len] <;> omega)) only [QB, QL, Nat.reduceSub, Nat.reduceAdd, Nat.reduceLeDiff, Nat.reduceEqDiff, reduceCtorEq, ↓reduceIte, Int.reduceAdd, Int.reduceSub, Int.reduceToNat, Int.reduceLT, Int.reduceLE, Int.reduceEq, Int.reduceNeg, Nat.reduceLT, QT3, QT4, QT25, QT31, QT66, QT69, QT71, QT99, QT22, QT41, QT26, t_call imp45, t_call imp46, t_call imp26, t_call imp27, t_call imp25, rowsI_get, rowsI_set, Nat.mul_one, bits_1, shrN, wu64', shlN1, nats_get, sub_vec, vecN_get, vecR_get, sub_allN rowsI_len, rows_get encR32_len, rows_get0 encR32_len, rows_get enc32_len, encR32_0, encR32_1, enc32_4, hX]
        by_cases h2 : (k : Int) < X.t.length <;> simp (disch := omega) only [h2, decide_true, decide_false, Bool.not_true, Bool.not_false, reduceCtorEq, ↓reduceIte, Option.bind_some]
        · simp -implicitDefEqProofs (disch := first | omega | assumption | (simp only [QN, rowsI_len, vecN_len, vecR_len] <;> omega)) only [QB, QL, Nat.reduceSub, Nat.reduceAdd, Nat.reduceLeDiff, Nat.reduceEqDiff, reduceCtorEq, ↓reduceIte, Int.reduceAdd, Int.reduceSub, Int.reduceToNat, Int.reduceLT, Int.reduceLE, Int.reduceEq, Int.reduceNeg, Nat.reduceLT, QT3, QT4, QT25, QT31, QT66, QT69, QT71, QT99, QT22, QT41, QT26, t_call imp45, t_call imp46, t_call imp26, t_call imp27, t_call imp25, rowsI_get, rowsI_set, Nat.mul_one, bits_1, shrN, wu64', shlN1, nats_get, sub_vec, vecN_get, vecR_get, sub_allN rowsI_len, rows_get encR32_len, rows_get0 encR32_len, rows_get enc32_len, encR32_0, encR32_1, enc32_4, hX]
          have htk2 : X.t.take (k + 1) = X.t.take k ++ [X.t.getD k default] := take_snoc default (by omega)
          refine IK _ (by omega) ⟨_, _, ?_, out ++ [(X.t.getD k default).e], by rw [htk2, List.map_append, ho, List.append_assoc]; rfl, rfl, rfl⟩
          rw [List.length_append, rows_app, rows_one, show ((k + 1 : Nat) : Int) = (k : Int) + 1 by omega]
          kernel_rfl
        · simp -implicitDefEqProofs (disch := first | omega | assumption | (simp only [QN, rowsI_len, vecN_len, vecR_len] <;> omega)) only [QB, QL, Nat.reduceSub, Nat.reduceAdd, Nat.reduceLeDiff, Nat.reduceEqDiff, reduceCtorEq, ↓reduceIte, Int.reduceAdd, Int.reduceSub, Int.reduceToNat, Int.reduceLT, Int.reduceLE, Int.reduceEq, Int.reduceNeg, Nat.reduceLT, QT3, QT4, QT25, QT31, QT66, QT69, QT71, QT99, QT22, QT41, QT26, t_call imp45, t_call imp46, t_call imp26, t_call imp27, t_call imp25, rowsI_get, rowsI_set, Nat.mul_one, bits_1, shrN, wu64', shlN1, nats_get, sub_vec, vecN_get, vecR_get, sub_allN rowsI_len, rows_get encR32_len, rows_get0 encR32_len, rows_get enc32_len, encR32_0, encR32_1, enc32_4, hX]
          have hke : k = X.t.length := by omega
          rw [hke, List.take_length] at ho
          have ho2 : esOf (xs.take (i + 1)) = out := by rw [htk, ho]; simp [esOf]
          refine IH _ (by omega) ⟨_, _, ?_, rfl, rfl⟩
          rw [ho2, show ((i + 1 : Nat) : Int) = (i : Int) + 1 by omega]
          kernel_rfl
      · omega
      · refine ⟨_, _, ?_, esOf (xs.take i), by simp, rfl, rfl⟩
        kernel_rfl
    · have hie : i = xs.length := by omega
      rw [hie, List.take_length]
      simp -implicitDefEqProofs (disch := first | omega | assumption | (simp only [QN, rowsI_len, vecN_len, vecR_len] <;> omega)) only [QB, QL, Nat.reduceSub, Nat.reduceAdd, Nat.reduceLeDiff, Nat.reduceEqDiff, reduceCtorEq, ↓reduceIte, Int.reduceAdd, Int.reduceSub, Int.reduceToNat, Int.reduceLT, Int.reduceLE, Int.reduceEq, Int.reduceNeg, Nat.reduceLT, QT3, QT4, QT25, QT31, QT66, QT69, QT71, QT99, QT22, QT41, QT26, t_call imp45, t_call imp46, t_call imp26, t_call imp27, t_call imp25, rowsI_get, rowsI_set, Nat.mul_one, bits_1, shrN, wu64', shlN1, nats_get, sub_vec, vecN_get, vecR_get, sub_allN rowsI_len, rows_get encR32_len, rows_get0 encR32_len, rows_get enc32_len, encR32_0, encR32_1, enc32_4]
  · omega
  · refine ⟨_, _, ?_, rfl, rfl⟩
    kernel_rfl
theorem ev_rsigns0 (xs : List RPo) (m : Nat) (hm : m ≤ 6) (hl : xs.length ≤ 1000) (ht : ∀ x ∈ xs, x.t.length ≤ 1000000) (hE : (esOf xs).length ≤ 1000000) (h0 : ∃ x l, xs = x :: l ∧ x.n = m) (he : (∀ x ∈ xs, x.n = m) → ExpR m (esOf xs))
    (l : List Po) (n : Nat) (hn : 300000000000 < n) (hlist : ∀ n, 300000000000 ≤ n → pcall G n 25 [.c (.t (.sl l.length (rows encPo l)))] [] = some (.tup [.c (.t (.sl xs.length (rows encR32 xs))), boo true], [])) (R : V)
    (hS : (¬ ∀ x ∈ xs, x.n = m) → R = .tup [.c (.t (.sl 0 [])), num 4])
    (hY : (∀ x ∈ xs, x.n = m) → R = .tup [.c (.t (.sl (refL m (esOf xs)).length (rows encI (refL m (esOf xs))))), num 0]) :
    pcall G n 9 [.c (.t (.sl l.length (rows encPo l)))] [] = some (R, []) := by
  obtain ⟨x0, l0, hx0, hx0n⟩ := h0
  have hxl : 0 < xs.length := by rw [hx0]; simp
  have hg0 : (rows encR32 xs)[0]? = some (.int .i64 m) := by rw [hx0, ← hx0n]; rfl
  have dz : decide ((xs.length : Int) = 0) = false := decide_eq_false (by omega)
  obtain ⟨n, rfl⟩ : ∃ m, n = m + 1 := ⟨n - 1, by omega⟩; rw [pcall_at fn9 rfl, imp9, G_tb]
  simp -implicitDefEqProofs (disch := first | omega | assumption | (simp only [QN, rowsI_len, vecN_len, vecR_len] <;> omega)) only [QB, QL, Nat.reduceSub, Nat.reduceAdd, Nat.reduceLeDiff, Nat.reduceEqDiff, reduceCtorEq, ↓reduceIte, Int.reduceAdd, Int.reduceSub, Int.reduceToNat, Int.reduceLT, Int.reduceLE, Int.reduceEq, Int.reduceNeg, Nat.reduceLT, QT3, QT4, QT25, QT31, QT66, QT69, QT71, QT99, QT22, QT41, QT26, t_call imp45, t_call imp46, t_call imp26, t_call imp27, t_call imp25, rowsI_get, rowsI_set, Nat.mul_one, bits_1, shrN, wu64', shlN1, nats_get, sub_vec, vecN_get, vecR_get, sub_allN rowsI_len, rows_get encR32_len, rows_get0 encR32_len, rows_get enc32_len, encR32_0, encR32_1, enc32_4, hlist, dz]
  refine loop_up xs.length (fun i fr H => fr = [.any, .any, .c (.t (.sl 0 [])), num 0, .c (.t (.sl xs.length (rows encR32 xs))), .any, num i, .any, .any, .any, .any, .any, .any, .any, .any, .any, .any, .any, .any, .any, .any, .any, .any, .any, .any, .any, .any, .any, .any, .any, .any, .any, .any, .any, .any, .any, .any, .any, .any, .any] ∧ H = [] ∧ ∀ j, j < i → (xs.getD j default).n = m) ?_ ?_ ?_
  · rintro i fr H n1 hi ⟨rfl, rfl, hj⟩ IH
    simp -implicitDefEqProofs (disch := first | omega | assumption | (simp only [QN, rowsI_len, vecN_len, vecR_len] <;> omega)) only [QB, QL, Nat.reduceSub, Nat.reduceAdd, Nat.reduceLeDiff, Nat.reduceEqDiff, reduceCtorEq, ↓reduceIte, Int.reduceAdd, Int.reduceSub, Int.reduceToNat, Int.reduceLT, Int.reduceLE, Int.reduceEq, Int.reduceNeg, Nat.reduceLT, QT3, QT4, QT25, QT31, QT66, QT69, QT71, QT99, QT22, QT41, QT26, t_call imp45, t_call imp46, t_call imp26, t_call imp27, t_call imp25, rowsI_get, rowsI_set, Nat.mul_one, bits_1, shrN, wu64', shlN1, nats_get, sub_vec, vecN_get, vecR_get, sub_allN rowsI_len, rows_get encR32_len, rows_get0 encR32_len, rows_get enc32_len, encR32_0, encR32_1, enc32_4]
    by_cases h1 : (i : Int) < xs.length <;> simp (disch := omega) only [h1, decide_true, decide_false, Bool.not_true, Bool.not_false, reduceCtorEq, ↓reduceIte, Option.bind_some]
    · have hmem : xs.getD i default ∈ xs := by rw [getD_lt (by omega)]; exact List.getElem_mem _
      simp -implicitDefEqProofs (disch := first | omega | assumption | (simp only [QN, rowsI_len, vecN_len, vecR_len] <;> omega)) only [QB, QL, Nat.reduceSub, Nat.reduceAdd, Nat.reduceLeDiff, Nat.reduceEqDiff, reduceCtorEq, ↓reduceIte, Int.reduceAdd, Int.reduceSub, Int.reduceToNat, Int.reduceLT, Int.reduceLE, Int.reduceEq, Int.reduceNeg, Nat.reduceLT, QT3, QT4, QT25, QT31, QT66, QT69, QT71, QT99, QT22, QT41, QT26, t_call imp45, t_call imp46, t_call imp26, t_call imp27, t_call imp25, rowsI_get, rowsI_set, Nat.mul_one, bits_1, shrN, wu64', shlN1, nats_get, sub_vec, vecN_get, vecR_get, sub_allN rowsI_len, rows_get encR32_len, rows_get0 encR32_len, rows_get enc32_len, encR32_0, encR32_1, enc32_4, Nat.zero_mul, hg0]
      by_cases h2 : (xs.getD i default).n = m
      · have d2 : decide ((xs.getD i default).n = (m : Int)) = true := decide_eq_true h2
        simp -implicitDefEqProofs (disch := first | omega | assumption | (simp only [QN, rowsI_len, vecN_len, vecR_len] <;> omega)) only [QB, QL, Nat.reduceSub, Nat.reduceAdd, Nat.reduceLeDiff, Nat.reduceEqDiff, reduceCtorEq, ↓reduceIte, Int.reduceAdd, Int.reduceSub, Int.reduceToNat, Int.reduceLT, Int.reduceLE, Int.reduceEq, Int.reduceNeg, Nat.reduceLT, QT3, QT4, QT25, QT31, QT66, QT69, QT71, QT99, QT22, QT41, QT26, t_call imp45, t_call imp46, t_call imp26, t_call imp27, t_call imp25, rowsI_get, rowsI_set, Nat.mul_one, bits_1, shrN, wu64', shlN1, nats_get, sub_vec, vecN_get, vecR_get, sub_allN rowsI_len, rows_get encR32_len, rows_get0 encR32_len, rows_get enc32_len, encR32_0, encR32_1, enc32_4, d2]
        refine IH _ (by omega) ⟨_, _, ?_, rfl, rfl, ?_⟩
        · rw [show ((i + 1 : Nat) : Int) = (i : Int) + 1 by omega]
          kernel_rfl
        · intro j hj2
          by_cases hji : j < i
          · exact hj j hji
          · have : j = i := by omega
            subst this; exact h2
      · have d2 : decide ((xs.getD i default).n = (m : Int)) = false := decide_eq_false h2
        simp -implicitDefEqProofs (disch := first | omega | assumption | (simp only [QN, rowsI_len, vecN_len, vecR_len] <;> omega)) only [QB, QL, Nat.reduceSub, Nat.reduceAdd, Nat.reduceLeDiff, Nat.reduceEqDiff, reduceCtorEq, ↓reduceIte, Int.reduceAdd, Int.reduceSub, Int.reduceToNat, Int.reduceLT, Int.reduceLE, Int.reduceEq, Int.reduceNeg, Nat.reduceLT, QT3, QT4, QT25, QT31, QT66, QT69, QT71, QT99, QT22, QT41, QT26, t_call imp45, t_call imp46, t_call imp26, t_call imp27, t_call imp25, rowsI_get, rowsI_set, Nat.mul_one, bits_1, shrN, wu64', shlN1, nats_get, sub_vec, vecN_get, vecR_get, sub_allN rowsI_len, rows_get encR32_len, rows_get0 encR32_len, rows_get enc32_len, encR32_0, encR32_1, enc32_4, d2]
        rw [hS (fun h => h2 (h _ hmem))]
    · have hall : ∀ x ∈ xs, x.n = m := fun x hx => by
        obtain ⟨j, hj2, rfl⟩ := List.getElem_of_mem hx
        have := hj j (by omega)
        rwa [getD_lt hj2] at this
      have hex := he hall
      simp -implicitDefEqProofs (disch := first | omega | assumption | (simp only [QN, rowsI_len, vecN_len, vecR_len] <;> omega)) only [QB, QL, Nat.reduceSub, Nat.reduceAdd, Nat.reduceLeDiff, Nat.reduceEqDiff, reduceCtorEq, ↓reduceIte, Int.reduceAdd, Int.reduceSub, Int.reduceToNat, Int.reduceLT, Int.reduceLE, Int.reduceEq, Int.reduceNeg, Nat.reduceLT, QT3, QT4, QT25, QT31, QT66, QT69, QT71, QT99, QT22, QT41, QT26, t_call imp45, t_call imp46, t_call imp26, t_call imp27, t_call imp25, rowsI_get, rowsI_set, Nat.mul_one, bits_1, shrN, wu64', shlN1, nats_get, sub_vec, vecN_get, vecR_get, sub_allN rowsI_len, rows_get encR32_len, rows_get0 encR32_len, rows_get enc32_len, encR32_0, encR32_1, enc32_4, Nat.zero_mul, hg0, ev_rowsf, ev_kernel]
      rw [hY hall]
  · omega
  · refine ⟨_, _, ?_, rfl, rfl, by intro j hj; omega⟩
    kernel_rfl
end Go.Proofs.Ythjmbppofgadaaa
