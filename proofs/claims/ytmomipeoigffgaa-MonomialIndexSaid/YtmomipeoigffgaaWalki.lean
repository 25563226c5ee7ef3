/- The law on the order. -/
import Derived.Test.YtmomipeoigffgaaWalkh
set_option linter.unusedSimpArgs false
set_option linter.unusedVariables false
namespace Go.Proofs.Ytmomipeoigffgaa
open Go Go.AM
theorem fn7 : G.fn 7 = some F7 := by kernel_rfl
theorem imp7 : G.imp 7 = false := rfl

theorem cmpK_range (xs ys : List Int) : ∀ k, cmpK xs ys k = -1 ∨ cmpK xs ys k = 0 ∨ cmpK xs ys k = 1
  | 0 => by simp [cmpK]
  | k + 1 => by
    have := cmpK_range xs ys k
    unfold cmpK
    split
    · simp
    · split
      · simp
      · exact this
theorem cmpK_neg (xs ys : List Int) : ∀ k, cmpK ys xs k = - cmpK xs ys k
  | 0 => by simp [cmpK]
  | k + 1 => by
    have := cmpK_neg xs ys k
    unfold cmpK
    split <;> split <;> (try split) <;> omega
theorem cmpK_zero (xs ys : List Int) : ∀ k, cmpK xs ys k = 0 → ∀ i, i < k → xs.getD i 0 = ys.getD i 0
  | 0, _, i, hi => by omega
  | k + 1, h, i, hi => by
    unfold cmpK at h
    split at h
    · omega
    · split at h
      · omega
      · rcases Nat.lt_or_eq_of_le (Nat.lt_succ_iff.1 hi) with h2 | rfl
        · exact cmpK_zero xs ys k h i h2
        · omega
theorem cmpK_trans (xs ys zs : List Int) : ∀ k, cmpK xs ys k ≤ 0 → cmpK ys zs k ≤ 0 → cmpK xs zs k ≤ 0 ∧ (cmpK xs ys k < 0 → cmpK xs zs k < 0) ∧ (cmpK ys zs k < 0 → cmpK xs zs k < 0)
  | 0, _, _ => by simp [cmpK]
  | k + 1, h1, h2 => by
    have ih := cmpK_trans xs ys zs k
    unfold cmpK at h1 h2 ⊢
    split at h1 <;> split at h2 <;> (try split at h1) <;> (try split at h2) <;> split <;> (try split) <;> first | omega | (have := ih (by omega) (by omega); omega)
theorem cmpK_add (xs ys us vs : List Int) : ∀ k, (∀ i, i < k → (us.getD i 0 < vs.getD i 0 ↔ xs.getD i 0 < ys.getD i 0) ∧ (vs.getD i 0 < us.getD i 0 ↔ ys.getD i 0 < xs.getD i 0)) → cmpK us vs k = cmpK xs ys k
  | 0, _ => rfl
  | k + 1, h => by
    have ih := cmpK_add xs ys us vs k fun i hi => h i (by omega)
    have hk := h k (by omega)
    unfold cmpK
    rw [ih]
    split <;> split <;> (try split) <;> (try split) <;> first | rfl | omega

theorem pair_mk {xs ys : List Int} (hl : (xs.length : Int) = ys.length) (hx : valid xs = true) (hy : valid ys = true) : pair xs ys = true := by
  simp only [pair, hx, hy, decide_eq_true hl, Bool.and_self]
theorem cmp_val {xs ys : List Int} (hl : (xs.length : Int) = ys.length) (hx : valid xs = true) (hy : valid ys = true) : compare xs ys = if degree xs < degree ys then -1 else if degree ys < degree xs then 1 else cmpK xs ys xs.length :=
  (pair_yes (pair_mk hl hx hy)).2.2.2
theorem cmp_range {xs ys : List Int} (hl : (xs.length : Int) = ys.length) (hx : valid xs = true) (hy : valid ys = true) : compare xs ys = -1 ∨ compare xs ys = 0 ∨ compare xs ys = 1 := by
  rw [cmp_val hl hx hy]
  split
  · simp
  · split
    · simp
    · exact cmpK_range _ _ _
theorem cmp_neg {xs ys : List Int} (hl : (xs.length : Int) = ys.length) (hx : valid xs = true) (hy : valid ys = true) : compare ys xs = - compare xs ys := by
  rw [cmp_val hl hx hy, cmp_val hl.symm hy hx]
  have := cmpK_neg xs ys xs.length
  rw [show ys.length = xs.length by omega]
  split <;> split <;> (try split) <;> omega
theorem cmp_zero {xs ys : List Int} (hl : (xs.length : Int) = ys.length) (hx : valid xs = true) (hy : valid ys = true) : compare xs ys = 0 ↔ xs = ys := by
  rw [cmp_val hl hx hy]
  constructor
  · intro h
    split at h
    · omega
    · split at h
      · omega
      · have h2 := cmpK_zero xs ys _ h
        apply List.ext_getElem (by omega)
        intro i h3 h4
        have := h2 i h3
        simpa [List.getD_eq_getElem?_getD, h3, h4] using this
  · rintro rfl
    rw [if_neg (by omega), if_neg (by omega)]
    have := cmpK_neg xs xs xs.length
    omega
theorem cmp_trans {xs ys zs : List Int} (hl : (xs.length : Int) = ys.length) (hl2 : (xs.length : Int) = zs.length) (hx : valid xs = true) (hy : valid ys = true) (hz : valid zs = true) (h1 : compare xs ys ≤ 0) (h2 : compare ys zs ≤ 0) :
    compare xs zs ≤ 0 ∧ (compare xs ys < 0 → compare xs zs < 0) ∧ (compare ys zs < 0 → compare xs zs < 0) := by
  rw [cmp_val hl hx hy] at h1 ⊢
  rw [cmp_val (by omega) hy hz] at h2 ⊢
  rw [cmp_val hl2 hx hz]
  rw [show ys.length = xs.length by omega] at h2 ⊢
  have ht := cmpK_trans xs ys zs xs.length
  split at h1
  · split at h2
    · rw [if_pos (by omega)]; omega
    · split at h2
      · omega
      · rw [if_pos (by omega)]; omega
  · split at h1
    · omega
    · split at h2
      · rw [if_pos (by omega)]; omega
      · split at h2
        · omega
        · rw [if_neg (by omega), if_neg (by omega), if_neg (by omega), if_neg (by omega), if_neg (by omega), if_neg (by omega)]
          exact ht h1 h2
theorem mem_le_sum : ∀ (l : List Int), (∀ x ∈ l, 0 ≤ x) → 0 ≤ l.sum ∧ ∀ x ∈ l, x ≤ l.sum
  | [], _ => by simp
  | y :: l, h => by
    have ih := mem_le_sum l fun x hx => h x (by simp [hx])
    have hy := h y (by simp)
    rw [List.sum_cons]
    refine ⟨by omega, fun x hx => ?_⟩
    rcases List.mem_cons.1 hx with rfl | hx
    · omega
    · have := ih.2 x hx; omega
theorem cmp_least {xs : List Int} (hx : valid xs = true) : compare (List.replicate xs.length 0) xs ≤ 0 := by
  obtain ⟨p1, p2, p3, p4, p5⟩ := valid_ok hx
  unfold compare
  split
  · rename_i h
    obtain ⟨h1, h2, h3, _⟩ := pair_yes h
    obtain ⟨q1, q2, q3, q4, q5⟩ := valid_ok h2
    have hs : (List.replicate xs.length (0 : Int)).sum = 0 := by simp
    split
    · omega
    · split
      · omega
      · have hn : ∀ x ∈ xs, 0 ≤ x := by
          intro x hx
          obtain ⟨i, hi⟩ := List.getElem?_of_mem hx
          have := p2 i
          rw [List.getD_eq_getElem?_getD, hi] at this
          exact this.1
        have hm := mem_le_sum xs hn
        have h0 : ∀ k, xs.getD k 0 = 0 := by
          intro k
          by_cases hk : k < xs.length
          · have h4 := hm.2 _ (getD_mem hk)
            have h5 := p2 k
            omega
          · rw [List.getD_eq_getElem?_getD, List.getElem?_eq_none (by omega)]; rfl
        have : ∀ k, cmpK (List.replicate xs.length 0) xs k = 0 := by
          intro k
          induction k with
          | zero => simp [cmpK]
          | succ k ih =>
            have hz : (List.replicate xs.length (0 : Int)).getD k 0 = 0 := by
              rw [List.getD_eq_getElem?_getD, List.getElem?_replicate]; split <;> rfl
            unfold cmpK
            rw [hz, h0 k, ih]
            simp
        rw [this]
        omega
  · omega
theorem sum_add (f g : Nat → Int) : ∀ n, ((List.range n).map fun j => f j + g j).sum = ((List.range n).map f).sum + ((List.range n).map g).sum
  | 0 => by simp
  | n + 1 => by
    have := sum_add f g n
    simp only [List.range_succ, List.map_append, List.sum_append, List.map_cons, List.map_nil, List.sum_cons, List.sum_nil]
    omega
theorem add_sum {xs zs : List Int} (hl : (xs.length : Int) = zs.length) : (zipf (· + ·) xs zs).sum = xs.sum + zs.sum := by
  have h1 := range_getD xs
  have h2 := range_getD zs
  rw [show zs.length = xs.length by omega] at h2
  have := sum_add (fun j => xs.getD j 0) (fun j => zs.getD j 0) xs.length
  rw [h1, h2] at this
  exact this
theorem zipf_get {f : Int → Int → Int} {xs ys : List Int} {i : Nat} (hi : i < xs.length) : (zipf f xs ys).getD i 0 = f (xs.getD i 0) (ys.getD i 0) := by
  rw [List.getD_eq_getElem?_getD]; simp [zipf, hi]
theorem zipf_len {f : Int → Int → Int} {xs ys : List Int} : (zipf f xs ys).length = xs.length := by simp [zipf]
theorem cmp_add {xs ys zs : List Int} (hl : (xs.length : Int) = ys.length) (hl2 : (xs.length : Int) = zs.length) (hx : valid xs = true) (hy : valid ys = true) (h1 : valid (zipf (· + ·) xs zs) = true) (h2 : valid (zipf (· + ·) ys zs) = true) :
    compare (zipf (· + ·) xs zs) (zipf (· + ·) ys zs) = compare xs ys := by
  rw [cmp_val hl hx hy, cmp_val (by simp only [zipf_len]; exact hl) h1 h2]
  rw [(valid_ok h1).2.2.1, (valid_ok h2).2.2.1, (valid_ok hx).2.2.1, (valid_ok hy).2.2.1, add_sum hl2, add_sum (by omega), zipf_len]
  rw [cmpK_add xs ys]
  · split <;> split <;> (try split) <;> (try split) <;> first | rfl | omega
  · intro i hi
    rw [zipf_get hi, zipf_get (by omega)]
    constructor <;> omega

theorem ev19z (xs : List Int) (n : Nat) (hn : 41 ≤ n) : pcall G n 19 [.c (.t (.sl xs.length ((List.replicate xs.length (0 : Int)).map (.int .i64)))), nums xs] [] = some (num (compare (List.replicate xs.length 0) xs), []) := by
  have := ev19 (List.replicate xs.length 0) xs n hn
  simpa only [nums, List.length_replicate] using this
set_option maxHeartbeats 16000000
theorem ev7 (xs ys zs : List Int) (n : Nat) (hn : 61 ≤ n) : pcall G n 7 [nums xs, nums ys, nums zs] [] = some (tru, []) := by
  obtain ⟨n0, rfl⟩ : ∃ m, n = m + 1 := ⟨n - 1, by omega⟩
  rw [pcall_at fn7, imp7, G_tb]
  have el := ev16_3 xs ys zs n0 (by omega)
  generalize (decide (20 < (xs.length : Int)) || (decide (20 < (ys.length : Int)) || decide (20 < (zs.length : Int)))) = lo at el
  have vx := ev17 xs n0 (by omega)
  have vy := ev17 ys n0 (by omega)
  have vz := ev17 zs n0 (by omega)
  cases hlo : lo
  rotate_left
  · rw [hlo] at el
    simp -implicitDefEqProofs (disch := (first | omega | (simp only [bld_len, List.length_map, List.length_range, List.length_cons, List.length_nil, List.length_replicate, parity, zipf] <;> omega))) only [List.length_cons, List.length_nil, Nat.reduceSub, Nat.reduceAdd, List.replicate_succ, List.replicate_zero, List.cons_append, List.nil_append, x_seq, x_skip, x_reg, x_block, x_exit, x_ret, x_loop, x_cond, c_true, c_false, k_seqn, k_seqr, k_seqx, k_blkn, k_blkr, k_blkx, k_loopn, k_loopr, k_loopx, k_finn, k_finr, r_nil, r_cons, s_do, s_g, a_none, a_pure, a_ite, p_some, p_none, v_tmp, v_int, v_bool, v_nils, List.getD_cons_zero, List.getD_cons_succ, List.set_cons_zero, List.set_cons_succ, List.map_cons, List.map_nil, t_mv, t_pick, t_not, t_neg, e_0, e_1, t_max, t_bin, b_add, b_sub, b_mul, b_quo, b_rem, b_and, b_eql, b_neq, b_lss, b_gtr, b_geq, b_leq, plainT, p_callP, p_callR, w64, Int.toNat_natCast, Option.bind_some, Option.map_some, f_one, f_two, z_t, z_tt, decide_true, decide_false, eq_self, beq_self_eq_true, Bool.not_true, Bool.not_false, reduceCtorEq, ↓reduceIte, t_beq tb4, t_bne tb4, t_len tb31, t_len tb26, t_lenn tb31, t_idx tb31 ok3 sz3, t_idx tb26 ok31 sz31, t_loadi tb3, t_loadl tb31, t_make tb31 tb3, t_leno tb31, t_idxo tb31 ok3 sz3, t_stores tb3, t_storea tb3, m_s, m_a, a_eff, ap_nil, ap_push, ap_pusha, ap_set, Nat.zero_add, t_callv, t_mkfn, z_o1, z_o2, m_own, t_mkone tb31 tb3, t_app1 tb31 tb3, t_mk2 tb26 tb31, t_mk3 tb26 tb31, p_callE, v_func, Int.reduceLT, Int.reduceLE, Int.reduceNeg, Int.reduceSub, Int.reduceEq, Bool.false_eq_true, beq_iff_eq, Bool.not_eq_true', bne_self_eq_false, Bool.true_beq, Bool.false_beq, t_c0, t_c1, t_c2, t_c3, t_calls imp16, el]
    simp -implicitDefEqProofs (disch := (first | omega | (simp only [bld_len, List.length_map, List.length_range, List.length_cons, List.length_nil, List.length_replicate, parity, zipf] <;> omega))) only [List.length_cons, List.length_nil, Nat.reduceSub, Nat.reduceAdd, List.replicate_succ, List.replicate_zero, List.cons_append, List.nil_append, x_seq, x_skip, x_reg, x_block, x_exit, x_ret, x_loop, x_cond, c_true, c_false, k_seqn, k_seqr, k_seqx, k_blkn, k_blkr, k_blkx, k_loopn, k_loopr, k_loopx, k_finn, k_finr, r_nil, r_cons, s_do, s_g, a_none, a_pure, a_ite, p_some, p_none, v_tmp, v_int, v_bool, v_nils, List.getD_cons_zero, List.getD_cons_succ, List.set_cons_zero, List.set_cons_succ, List.map_cons, List.map_nil, t_mv, t_pick, t_not, t_neg, e_0, e_1, t_max, t_bin, b_add, b_sub, b_mul, b_quo, b_rem, b_and, b_eql, b_neq, b_lss, b_gtr, b_geq, b_leq, plainT, p_callP, p_callR, w64, Int.toNat_natCast, Option.bind_some, Option.map_some, f_one, f_two, z_t, z_tt, decide_true, decide_false, eq_self, beq_self_eq_true, Bool.not_true, Bool.not_false, reduceCtorEq, ↓reduceIte, t_beq tb4, t_bne tb4, t_len tb31, t_len tb26, t_lenn tb31, t_idx tb31 ok3 sz3, t_idx tb26 ok31 sz31, t_loadi tb3, t_loadl tb31, t_make tb31 tb3, t_leno tb31, t_idxo tb31 ok3 sz3, t_stores tb3, t_storea tb3, m_s, m_a, a_eff, ap_nil, ap_push, ap_pusha, ap_set, Nat.zero_add, t_callv, t_mkfn, z_o1, z_o2, m_own, t_mkone tb31 tb3, t_app1 tb31 tb3, t_mk2 tb26 tb31, t_mk3 tb26 tb31, p_callE, v_func, Int.reduceLT, Int.reduceLE, Int.reduceNeg, Int.reduceSub, Int.reduceEq, Bool.false_eq_true, beq_iff_eq, Bool.not_eq_true', bne_self_eq_false, Bool.true_beq, Bool.false_beq, t_c0, t_c1, t_c2, t_c3, imp12, ev12]
  rw [hlo] at el
  simp -implicitDefEqProofs (disch := (first | omega | (simp only [bld_len, List.length_map, List.length_range, List.length_cons, List.length_nil, List.length_replicate, parity, zipf] <;> omega))) only [List.length_cons, List.length_nil, Nat.reduceSub, Nat.reduceAdd, List.replicate_succ, List.replicate_zero, List.cons_append, List.nil_append, x_seq, x_skip, x_reg, x_block, x_exit, x_ret, x_loop, x_cond, c_true, c_false, k_seqn, k_seqr, k_seqx, k_blkn, k_blkr, k_blkx, k_loopn, k_loopr, k_loopx, k_finn, k_finr, r_nil, r_cons, s_do, s_g, a_none, a_pure, a_ite, p_some, p_none, v_tmp, v_int, v_bool, v_nils, List.getD_cons_zero, List.getD_cons_succ, List.set_cons_zero, List.set_cons_succ, List.map_cons, List.map_nil, t_mv, t_pick, t_not, t_neg, e_0, e_1, t_max, t_bin, b_add, b_sub, b_mul, b_quo, b_rem, b_and, b_eql, b_neq, b_lss, b_gtr, b_geq, b_leq, plainT, p_callP, p_callR, w64, Int.toNat_natCast, Option.bind_some, Option.map_some, f_one, f_two, z_t, z_tt, decide_true, decide_false, eq_self, beq_self_eq_true, Bool.not_true, Bool.not_false, reduceCtorEq, ↓reduceIte, t_beq tb4, t_bne tb4, t_len tb31, t_len tb26, t_lenn tb31, t_idx tb31 ok3 sz3, t_idx tb26 ok31 sz31, t_loadi tb3, t_loadl tb31, t_make tb31 tb3, t_leno tb31, t_idxo tb31 ok3 sz3, t_stores tb3, t_storea tb3, m_s, m_a, a_eff, ap_nil, ap_push, ap_pusha, ap_set, Nat.zero_add, t_callv, t_mkfn, z_o1, z_o2, m_own, t_mkone tb31 tb3, t_app1 tb31 tb3, t_mk2 tb26 tb31, t_mk3 tb26 tb31, p_callE, v_func, Int.reduceLT, Int.reduceLE, Int.reduceNeg, Int.reduceSub, Int.reduceEq, Bool.false_eq_true, beq_iff_eq, Bool.not_eq_true', bne_self_eq_false, Bool.true_beq, Bool.false_beq, t_c0, t_c1, t_c2, t_c3, t_calls imp16, el]
  cases hx : valid xs
  · rw [hx] at vx
    simp -implicitDefEqProofs (disch := (first | omega | (simp only [bld_len, List.length_map, List.length_range, List.length_cons, List.length_nil, List.length_replicate, parity, zipf] <;> omega))) only [List.length_cons, List.length_nil, Nat.reduceSub, Nat.reduceAdd, List.replicate_succ, List.replicate_zero, List.cons_append, List.nil_append, x_seq, x_skip, x_reg, x_block, x_exit, x_ret, x_loop, x_cond, c_true, c_false, k_seqn, k_seqr, k_seqx, k_blkn, k_blkr, k_blkx, k_loopn, k_loopr, k_loopx, k_finn, k_finr, r_nil, r_cons, s_do, s_g, a_none, a_pure, a_ite, p_some, p_none, v_tmp, v_int, v_bool, v_nils, List.getD_cons_zero, List.getD_cons_succ, List.set_cons_zero, List.set_cons_succ, List.map_cons, List.map_nil, t_mv, t_pick, t_not, t_neg, e_0, e_1, t_max, t_bin, b_add, b_sub, b_mul, b_quo, b_rem, b_and, b_eql, b_neq, b_lss, b_gtr, b_geq, b_leq, plainT, p_callP, p_callR, w64, Int.toNat_natCast, Option.bind_some, Option.map_some, f_one, f_two, z_t, z_tt, decide_true, decide_false, eq_self, beq_self_eq_true, Bool.not_true, Bool.not_false, reduceCtorEq, ↓reduceIte, t_beq tb4, t_bne tb4, t_len tb31, t_len tb26, t_lenn tb31, t_idx tb31 ok3 sz3, t_idx tb26 ok31 sz31, t_loadi tb3, t_loadl tb31, t_make tb31 tb3, t_leno tb31, t_idxo tb31 ok3 sz3, t_stores tb3, t_storea tb3, m_s, m_a, a_eff, ap_nil, ap_push, ap_pusha, ap_set, Nat.zero_add, t_callv, t_mkfn, z_o1, z_o2, m_own, t_mkone tb31 tb3, t_app1 tb31 tb3, t_mk2 tb26 tb31, t_mk3 tb26 tb31, p_callE, v_func, Int.reduceLT, Int.reduceLE, Int.reduceNeg, Int.reduceSub, Int.reduceEq, Bool.false_eq_true, beq_iff_eq, Bool.not_eq_true', bne_self_eq_false, Bool.true_beq, Bool.false_beq, t_c0, t_c1, t_c2, t_c3, imp17, vx, imp12, ev12]
  rw [hx] at vx
  simp -implicitDefEqProofs (disch := (first | omega | (simp only [bld_len, List.length_map, List.length_range, List.length_cons, List.length_nil, List.length_replicate, parity, zipf] <;> omega))) only [List.length_cons, List.length_nil, Nat.reduceSub, Nat.reduceAdd, List.replicate_succ, List.replicate_zero, List.cons_append, List.nil_append, x_seq, x_skip, x_reg, x_block, x_exit, x_ret, x_loop, x_cond, c_true, c_false, k_seqn, k_seqr, k_seqx, k_blkn, k_blkr, k_blkx, k_loopn, k_loopr, k_loopx, k_finn, k_finr, r_nil, r_cons, s_do, s_g, a_none, a_pure, a_ite, p_some, p_none, v_tmp, v_int, v_bool, v_nils, List.getD_cons_zero, List.getD_cons_succ, List.set_cons_zero, List.set_cons_succ, List.map_cons, List.map_nil, t_mv, t_pick, t_not, t_neg, e_0, e_1, t_max, t_bin, b_add, b_sub, b_mul, b_quo, b_rem, b_and, b_eql, b_neq, b_lss, b_gtr, b_geq, b_leq, plainT, p_callP, p_callR, w64, Int.toNat_natCast, Option.bind_some, Option.map_some, f_one, f_two, z_t, z_tt, decide_true, decide_false, eq_self, beq_self_eq_true, Bool.not_true, Bool.not_false, reduceCtorEq, ↓reduceIte, t_beq tb4, t_bne tb4, t_len tb31, t_len tb26, t_lenn tb31, t_idx tb31 ok3 sz3, t_idx tb26 ok31 sz31, t_loadi tb3, t_loadl tb31, t_make tb31 tb3, t_leno tb31, t_idxo tb31 ok3 sz3, t_stores tb3, t_storea tb3, m_s, m_a, a_eff, ap_nil, ap_push, ap_pusha, ap_set, Nat.zero_add, t_callv, t_mkfn, z_o1, z_o2, m_own, t_mkone tb31 tb3, t_app1 tb31 tb3, t_mk2 tb26 tb31, t_mk3 tb26 tb31, p_callE, v_func, Int.reduceLT, Int.reduceLE, Int.reduceNeg, Int.reduceSub, Int.reduceEq, Bool.false_eq_true, beq_iff_eq, Bool.not_eq_true', bne_self_eq_false, Bool.true_beq, Bool.false_beq, t_c0, t_c1, t_c2, t_c3, imp17, vx]
  cases hy : valid ys
  · rw [hy] at vy
    simp -implicitDefEqProofs (disch := (first | omega | (simp only [bld_len, List.length_map, List.length_range, List.length_cons, List.length_nil, List.length_replicate, parity, zipf] <;> omega))) only [List.length_cons, List.length_nil, Nat.reduceSub, Nat.reduceAdd, List.replicate_succ, List.replicate_zero, List.cons_append, List.nil_append, x_seq, x_skip, x_reg, x_block, x_exit, x_ret, x_loop, x_cond, c_true, c_false, k_seqn, k_seqr, k_seqx, k_blkn, k_blkr, k_blkx, k_loopn, k_loopr, k_loopx, k_finn, k_finr, r_nil, r_cons, s_do, s_g, a_none, a_pure, a_ite, p_some, p_none, v_tmp, v_int, v_bool, v_nils, List.getD_cons_zero, List.getD_cons_succ, List.set_cons_zero, List.set_cons_succ, List.map_cons, List.map_nil, t_mv, t_pick, t_not, t_neg, e_0, e_1, t_max, t_bin, b_add, b_sub, b_mul, b_quo, b_rem, b_and, b_eql, b_neq, b_lss, b_gtr, b_geq, b_leq, plainT, p_callP, p_callR, w64, Int.toNat_natCast, Option.bind_some, Option.map_some, f_one, f_two, z_t, z_tt, decide_true, decide_false, eq_self, beq_self_eq_true, Bool.not_true, Bool.not_false, reduceCtorEq, ↓reduceIte, t_beq tb4, t_bne tb4, t_len tb31, t_len tb26, t_lenn tb31, t_idx tb31 ok3 sz3, t_idx tb26 ok31 sz31, t_loadi tb3, t_loadl tb31, t_make tb31 tb3, t_leno tb31, t_idxo tb31 ok3 sz3, t_stores tb3, t_storea tb3, m_s, m_a, a_eff, ap_nil, ap_push, ap_pusha, ap_set, Nat.zero_add, t_callv, t_mkfn, z_o1, z_o2, m_own, t_mkone tb31 tb3, t_app1 tb31 tb3, t_mk2 tb26 tb31, t_mk3 tb26 tb31, p_callE, v_func, Int.reduceLT, Int.reduceLE, Int.reduceNeg, Int.reduceSub, Int.reduceEq, Bool.false_eq_true, beq_iff_eq, Bool.not_eq_true', bne_self_eq_false, Bool.true_beq, Bool.false_beq, t_c0, t_c1, t_c2, t_c3, imp17, vy, imp12, ev12]
  rw [hy] at vy
  simp -implicitDefEqProofs (disch := (first | omega | (simp only [bld_len, List.length_map, List.length_range, List.length_cons, List.length_nil, List.length_replicate, parity, zipf] <;> omega))) only [List.length_cons, List.length_nil, Nat.reduceSub, Nat.reduceAdd, List.replicate_succ, List.replicate_zero, List.cons_append, List.nil_append, x_seq, x_skip, x_reg, x_block, x_exit, x_ret, x_loop, x_cond, c_true, c_false, k_seqn, k_seqr, k_seqx, k_blkn, k_blkr, k_blkx, k_loopn, k_loopr, k_loopx, k_finn, k_finr, r_nil, r_cons, s_do, s_g, a_none, a_pure, a_ite, p_some, p_none, v_tmp, v_int, v_bool, v_nils, List.getD_cons_zero, List.getD_cons_succ, List.set_cons_zero, List.set_cons_succ, List.map_cons, List.map_nil, t_mv, t_pick, t_not, t_neg, e_0, e_1, t_max, t_bin, b_add, b_sub, b_mul, b_quo, b_rem, b_and, b_eql, b_neq, b_lss, b_gtr, b_geq, b_leq, plainT, p_callP, p_callR, w64, Int.toNat_natCast, Option.bind_some, Option.map_some, f_one, f_two, z_t, z_tt, decide_true, decide_false, eq_self, beq_self_eq_true, Bool.not_true, Bool.not_false, reduceCtorEq, ↓reduceIte, t_beq tb4, t_bne tb4, t_len tb31, t_len tb26, t_lenn tb31, t_idx tb31 ok3 sz3, t_idx tb26 ok31 sz31, t_loadi tb3, t_loadl tb31, t_make tb31 tb3, t_leno tb31, t_idxo tb31 ok3 sz3, t_stores tb3, t_storea tb3, m_s, m_a, a_eff, ap_nil, ap_push, ap_pusha, ap_set, Nat.zero_add, t_callv, t_mkfn, z_o1, z_o2, m_own, t_mkone tb31 tb3, t_app1 tb31 tb3, t_mk2 tb26 tb31, t_mk3 tb26 tb31, p_callE, v_func, Int.reduceLT, Int.reduceLE, Int.reduceNeg, Int.reduceSub, Int.reduceEq, Bool.false_eq_true, beq_iff_eq, Bool.not_eq_true', bne_self_eq_false, Bool.true_beq, Bool.false_beq, t_c0, t_c1, t_c2, t_c3, imp17, vy]
  cases hz : valid zs
  · rw [hz] at vz
    simp -implicitDefEqProofs (disch := (first | omega | (simp only [bld_len, List.length_map, List.length_range, List.length_cons, List.length_nil, List.length_replicate, parity, zipf] <;> omega))) only [List.length_cons, List.length_nil, Nat.reduceSub, Nat.reduceAdd, List.replicate_succ, List.replicate_zero, List.cons_append, List.nil_append, x_seq, x_skip, x_reg, x_block, x_exit, x_ret, x_loop, x_cond, c_true, c_false, k_seqn, k_seqr, k_seqx, k_blkn, k_blkr, k_blkx, k_loopn, k_loopr, k_loopx, k_finn, k_finr, r_nil, r_cons, s_do, s_g, a_none, a_pure, a_ite, p_some, p_none, v_tmp, v_int, v_bool, v_nils, List.getD_cons_zero, List.getD_cons_succ, List.set_cons_zero, List.set_cons_succ, List.map_cons, List.map_nil, t_mv, t_pick, t_not, t_neg, e_0, e_1, t_max, t_bin, b_add, b_sub, b_mul, b_quo, b_rem, b_and, b_eql, b_neq, b_lss, b_gtr, b_geq, b_leq, plainT, p_callP, p_callR, w64, Int.toNat_natCast, Option.bind_some, Option.map_some, f_one, f_two, z_t, z_tt, decide_true, decide_false, eq_self, beq_self_eq_true, Bool.not_true, Bool.not_false, reduceCtorEq, ↓reduceIte, t_beq tb4, t_bne tb4, t_len tb31, t_len tb26, t_lenn tb31, t_idx tb31 ok3 sz3, t_idx tb26 ok31 sz31, t_loadi tb3, t_loadl tb31, t_make tb31 tb3, t_leno tb31, t_idxo tb31 ok3 sz3, t_stores tb3, t_storea tb3, m_s, m_a, a_eff, ap_nil, ap_push, ap_pusha, ap_set, Nat.zero_add, t_callv, t_mkfn, z_o1, z_o2, m_own, t_mkone tb31 tb3, t_app1 tb31 tb3, t_mk2 tb26 tb31, t_mk3 tb26 tb31, p_callE, v_func, Int.reduceLT, Int.reduceLE, Int.reduceNeg, Int.reduceSub, Int.reduceEq, Bool.false_eq_true, beq_iff_eq, Bool.not_eq_true', bne_self_eq_false, Bool.true_beq, Bool.false_beq, t_c0, t_c1, t_c2, t_c3, imp17, vz, imp12, ev12]
  rw [hz] at vz
  simp -implicitDefEqProofs (disch := (first | omega | (simp only [bld_len, List.length_map, List.length_range, List.length_cons, List.length_nil, List.length_replicate, parity, zipf] <;> omega))) only [List.length_cons, List.length_nil, Nat.reduceSub, Nat.reduceAdd, List.replicate_succ, List.replicate_zero, List.cons_append, List.nil_append, x_seq, x_skip, x_reg, x_block, x_exit, x_ret, x_loop, x_cond, c_true, c_false, k_seqn, k_seqr, k_seqx, k_blkn, k_blkr, k_blkx, k_loopn, k_loopr, k_loopx, k_finn, k_finr, r_nil, r_cons, s_do, s_g, a_none, a_pure, a_ite, p_some, p_none, v_tmp, v_int, v_bool, v_nils, List.getD_cons_zero, List.getD_cons_succ, List.set_cons_zero, List.set_cons_succ, List.map_cons, List.map_nil, t_mv, t_pick, t_not, t_neg, e_0, e_1, t_max, t_bin, b_add, b_sub, b_mul, b_quo, b_rem, b_and, b_eql, b_neq, b_lss, b_gtr, b_geq, b_leq, plainT, p_callP, p_callR, w64, Int.toNat_natCast, Option.bind_some, Option.map_some, f_one, f_two, z_t, z_tt, decide_true, decide_false, eq_self, beq_self_eq_true, Bool.not_true, Bool.not_false, reduceCtorEq, ↓reduceIte, t_beq tb4, t_bne tb4, t_len tb31, t_len tb26, t_lenn tb31, t_idx tb31 ok3 sz3, t_idx tb26 ok31 sz31, t_loadi tb3, t_loadl tb31, t_make tb31 tb3, t_leno tb31, t_idxo tb31 ok3 sz3, t_stores tb3, t_storea tb3, m_s, m_a, a_eff, ap_nil, ap_push, ap_pusha, ap_set, Nat.zero_add, t_callv, t_mkfn, z_o1, z_o2, m_own, t_mkone tb31 tb3, t_app1 tb31 tb3, t_mk2 tb26 tb31, t_mk3 tb26 tb31, p_callE, v_func, Int.reduceLT, Int.reduceLE, Int.reduceNeg, Int.reduceSub, Int.reduceEq, Bool.false_eq_true, beq_iff_eq, Bool.not_eq_true', bne_self_eq_false, Bool.true_beq, Bool.false_beq, t_c0, t_c1, t_c2, t_c3, imp17, vz]
  by_cases hl : (xs.length : Int) = ys.length <;> simp (disch := omega) only [hl, decide_true, decide_false, Bool.not_true, Bool.not_false, reduceCtorEq, ↓reduceIte, Option.bind_some]
  rotate_left
  · simp -implicitDefEqProofs (disch := (first | omega | (simp only [bld_len, List.length_map, List.length_range, List.length_cons, List.length_nil, List.length_replicate, parity, zipf] <;> omega))) only [List.length_cons, List.length_nil, Nat.reduceSub, Nat.reduceAdd, List.replicate_succ, List.replicate_zero, List.cons_append, List.nil_append, x_seq, x_skip, x_reg, x_block, x_exit, x_ret, x_loop, x_cond, c_true, c_false, k_seqn, k_seqr, k_seqx, k_blkn, k_blkr, k_blkx, k_loopn, k_loopr, k_loopx, k_finn, k_finr, r_nil, r_cons, s_do, s_g, a_none, a_pure, a_ite, p_some, p_none, v_tmp, v_int, v_bool, v_nils, List.getD_cons_zero, List.getD_cons_succ, List.set_cons_zero, List.set_cons_succ, List.map_cons, List.map_nil, t_mv, t_pick, t_not, t_neg, e_0, e_1, t_max, t_bin, b_add, b_sub, b_mul, b_quo, b_rem, b_and, b_eql, b_neq, b_lss, b_gtr, b_geq, b_leq, plainT, p_callP, p_callR, w64, Int.toNat_natCast, Option.bind_some, Option.map_some, f_one, f_two, z_t, z_tt, decide_true, decide_false, eq_self, beq_self_eq_true, Bool.not_true, Bool.not_false, reduceCtorEq, ↓reduceIte, t_beq tb4, t_bne tb4, t_len tb31, t_len tb26, t_lenn tb31, t_idx tb31 ok3 sz3, t_idx tb26 ok31 sz31, t_loadi tb3, t_loadl tb31, t_make tb31 tb3, t_leno tb31, t_idxo tb31 ok3 sz3, t_stores tb3, t_storea tb3, m_s, m_a, a_eff, ap_nil, ap_push, ap_pusha, ap_set, Nat.zero_add, t_callv, t_mkfn, z_o1, z_o2, m_own, t_mkone tb31 tb3, t_app1 tb31 tb3, t_mk2 tb26 tb31, t_mk3 tb26 tb31, p_callE, v_func, Int.reduceLT, Int.reduceLE, Int.reduceNeg, Int.reduceSub, Int.reduceEq, Bool.false_eq_true, beq_iff_eq, Bool.not_eq_true', bne_self_eq_false, Bool.true_beq, Bool.false_beq, t_c0, t_c1, t_c2, t_c3, imp12, ev12]
  simp -implicitDefEqProofs (disch := (first | omega | (simp only [bld_len, List.length_map, List.length_range, List.length_cons, List.length_nil, List.length_replicate, parity, zipf] <;> omega))) only [List.length_cons, List.length_nil, Nat.reduceSub, Nat.reduceAdd, List.replicate_succ, List.replicate_zero, List.cons_append, List.nil_append, x_seq, x_skip, x_reg, x_block, x_exit, x_ret, x_loop, x_cond, c_true, c_false, k_seqn, k_seqr, k_seqx, k_blkn, k_blkr, k_blkx, k_loopn, k_loopr, k_loopx, k_finn, k_finr, r_nil, r_cons, s_do, s_g, a_none, a_pure, a_ite, p_some, p_none, v_tmp, v_int, v_bool, v_nils, List.getD_cons_zero, List.getD_cons_succ, List.set_cons_zero, List.set_cons_succ, List.map_cons, List.map_nil, t_mv, t_pick, t_not, t_neg, e_0, e_1, t_max, t_bin, b_add, b_sub, b_mul, b_quo, b_rem, b_and, b_eql, b_neq, b_lss, b_gtr, b_geq, b_leq, plainT, p_callP, p_callR, w64, Int.toNat_natCast, Option.bind_some, Option.map_some, f_one, f_two, z_t, z_tt, decide_true, decide_false, eq_self, beq_self_eq_true, Bool.not_true, Bool.not_false, reduceCtorEq, ↓reduceIte, t_beq tb4, t_bne tb4, t_len tb31, t_len tb26, t_lenn tb31, t_idx tb31 ok3 sz3, t_idx tb26 ok31 sz31, t_loadi tb3, t_loadl tb31, t_make tb31 tb3, t_leno tb31, t_idxo tb31 ok3 sz3, t_stores tb3, t_storea tb3, m_s, m_a, a_eff, ap_nil, ap_push, ap_pusha, ap_set, Nat.zero_add, t_callv, t_mkfn, z_o1, z_o2, m_own, t_mkone tb31 tb3, t_app1 tb31 tb3, t_mk2 tb26 tb31, t_mk3 tb26 tb31, p_callE, v_func, Int.reduceLT, Int.reduceLE, Int.reduceNeg, Int.reduceSub, Int.reduceEq, Bool.false_eq_true, beq_iff_eq, Bool.not_eq_true', bne_self_eq_false, Bool.true_beq, Bool.false_beq, t_c0, t_c1, t_c2, t_c3]
  by_cases hl2 : (xs.length : Int) = zs.length <;> simp (disch := omega) only [hl2, decide_true, decide_false, Bool.not_true, Bool.not_false, reduceCtorEq, ↓reduceIte, Option.bind_some]
  rotate_left
  · simp -implicitDefEqProofs (disch := (first | omega | (simp only [bld_len, List.length_map, List.length_range, List.length_cons, List.length_nil, List.length_replicate, parity, zipf] <;> omega))) only [List.length_cons, List.length_nil, Nat.reduceSub, Nat.reduceAdd, List.replicate_succ, List.replicate_zero, List.cons_append, List.nil_append, x_seq, x_skip, x_reg, x_block, x_exit, x_ret, x_loop, x_cond, c_true, c_false, k_seqn, k_seqr, k_seqx, k_blkn, k_blkr, k_blkx, k_loopn, k_loopr, k_loopx, k_finn, k_finr, r_nil, r_cons, s_do, s_g, a_none, a_pure, a_ite, p_some, p_none, v_tmp, v_int, v_bool, v_nils, List.getD_cons_zero, List.getD_cons_succ, List.set_cons_zero, List.set_cons_succ, List.map_cons, List.map_nil, t_mv, t_pick, t_not, t_neg, e_0, e_1, t_max, t_bin, b_add, b_sub, b_mul, b_quo, b_rem, b_and, b_eql, b_neq, b_lss, b_gtr, b_geq, b_leq, plainT, p_callP, p_callR, w64, Int.toNat_natCast, Option.bind_some, Option.map_some, f_one, f_two, z_t, z_tt, decide_true, decide_false, eq_self, beq_self_eq_true, Bool.not_true, Bool.not_false, reduceCtorEq, ↓reduceIte, t_beq tb4, t_bne tb4, t_len tb31, t_len tb26, t_lenn tb31, t_idx tb31 ok3 sz3, t_idx tb26 ok31 sz31, t_loadi tb3, t_loadl tb31, t_make tb31 tb3, t_leno tb31, t_idxo tb31 ok3 sz3, t_stores tb3, t_storea tb3, m_s, m_a, a_eff, ap_nil, ap_push, ap_pusha, ap_set, Nat.zero_add, t_callv, t_mkfn, z_o1, z_o2, m_own, t_mkone tb31 tb3, t_app1 tb31 tb3, t_mk2 tb26 tb31, t_mk3 tb26 tb31, p_callE, v_func, Int.reduceLT, Int.reduceLE, Int.reduceNeg, Int.reduceSub, Int.reduceEq, Bool.false_eq_true, beq_iff_eq, Bool.not_eq_true', bne_self_eq_false, Bool.true_beq, Bool.false_beq, t_c0, t_c1, t_c2, t_c3, imp12, ev12]
  have x1 := ev19 xs ys n0 (by omega)
  have x2 := ev19 ys zs n0 (by omega)
  have x3 := ev19 xs zs n0 (by omega)
  have x4 := ev19 ys xs n0 (by omega)
  have x5 := ev19z xs n0 (by omega)
  have hneg := cmp_neg hl hx hy
  have hr1 := cmp_range hl hx hy
  have hr2 := cmp_range (show (ys.length : Int) = zs.length by omega) hy hz
  have hr3 := cmp_range hl2 hx hz
  have hzero := cmp_zero hl hx hy
  have htr := cmp_trans hl hl2 hx hy hz
  have hle := cmp_least hx
  have hadd := cmp_add hl hl2 hx hy
  have e21 := ev21 xs ys n0 (by have := (valid_ok hx).1; omega) (by omega)
  generalize compare xs ys = X at *
  generalize compare ys zs = Y at *
  generalize compare xs zs = Z at *
  generalize compare ys xs = X4 at *
  generalize compare (List.replicate xs.length 0) xs = X5 at *
  subst hneg
  have e28 := ev28 xs zs n0 (by omega)
  have e28' := ev28 ys zs n0 (by omega)
  rw [pair_mk hl2 hx hz] at e28
  rw [pair_mk (by omega) hy hz] at e28'
  have x6 := ev19 (zipf (· + ·) xs zs) (zipf (· + ·) ys zs) n0 (by omega)
  simp only [Bool.true_and, goodV] at e28 e28'
  have h5 : decide (0 < X5) = false := decide_eq_false (by omega)
  rw [show decide (xs = ys) = decide (X = 0) from decide_eq_decide.2 hzero.symm] at e21
  have hx6 := (valid_ok hx).1
  have hy6 := (valid_ok hy).1
  have key : ∀ b1 b2, valid (zipf (· + ·) xs zs) = b1 → valid (zipf (· + ·) ys zs) = b2 → b1 = true → b2 = true → compare (zipf (· + ·) xs zs) (zipf (· + ·) ys zs) = X := by
    rintro b1 b2 rfl rfl h h2; exact hadd h h2
  rcases hr1 with rfl | rfl | rfl <;> rcases hr2 with rfl | rfl | rfl <;> rcases hr3 with rfl | rfl | rfl <;> first
    | (exfalso; omega)
    | (simp -implicitDefEqProofs (disch := (first | omega | (simp only [bld_len, List.length_map, List.length_range, List.length_cons, List.length_nil, List.length_replicate, parity, zipf] <;> omega))) only [List.length_cons, List.length_nil, Nat.reduceSub, Nat.reduceAdd, List.replicate_succ, List.replicate_zero, List.cons_append, List.nil_append, x_seq, x_skip, x_reg, x_block, x_exit, x_ret, x_loop, x_cond, c_true, c_false, k_seqn, k_seqr, k_seqx, k_blkn, k_blkr, k_blkx, k_loopn, k_loopr, k_loopx, k_finn, k_finr, r_nil, r_cons, s_do, s_g, a_none, a_pure, a_ite, p_some, p_none, v_tmp, v_int, v_bool, v_nils, List.getD_cons_zero, List.getD_cons_succ, List.set_cons_zero, List.set_cons_succ, List.map_cons, List.map_nil, t_mv, t_pick, t_not, t_neg, e_0, e_1, t_max, t_bin, b_add, b_sub, b_mul, b_quo, b_rem, b_and, b_eql, b_neq, b_lss, b_gtr, b_geq, b_leq, plainT, p_callP, p_callR, w64, Int.toNat_natCast, Option.bind_some, Option.map_some, f_one, f_two, z_t, z_tt, decide_true, decide_false, eq_self, beq_self_eq_true, Bool.not_true, Bool.not_false, reduceCtorEq, ↓reduceIte, t_beq tb4, t_bne tb4, t_len tb31, t_len tb26, t_lenn tb31, t_idx tb31 ok3 sz3, t_idx tb26 ok31 sz31, t_loadi tb3, t_loadl tb31, t_make tb31 tb3, t_leno tb31, t_idxo tb31 ok3 sz3, t_stores tb3, t_storea tb3, m_s, m_a, a_eff, ap_nil, ap_push, ap_pusha, ap_set, Nat.zero_add, t_callv, t_mkfn, z_o1, z_o2, m_own, t_mkone tb31 tb3, t_app1 tb31 tb3, t_mk2 tb26 tb31, t_mk3 tb26 tb31, p_callE, v_func, Int.reduceLT, Int.reduceLE, Int.reduceNeg, Int.reduceSub, Int.reduceEq, Bool.false_eq_true, beq_iff_eq, Bool.not_eq_true', bne_self_eq_false, Bool.true_beq, Bool.false_beq, t_c0, t_c1, t_c2, t_c3, imp19, x1, x2, x3, x4, t_calls2 imp19, x5, h5, imp21, e21]
       clear x1 x2 x3 x4 x5 htr hle
       cases hb1 : valid (zipf (· + ·) xs zs) <;> cases hb2 : valid (zipf (· + ·) ys zs) <;> rw [hb1] at e28 <;> rw [hb2] at e28' <;> simp only [Bool.false_eq_true, ↓reduceIte] at e28 e28'
       · simp -implicitDefEqProofs (disch := (first | omega | (simp only [bld_len, List.length_map, List.length_range, List.length_cons, List.length_nil, List.length_replicate, parity, zipf] <;> omega))) only [List.length_cons, List.length_nil, Nat.reduceSub, Nat.reduceAdd, List.replicate_succ, List.replicate_zero, List.cons_append, List.nil_append, x_seq, x_skip, x_reg, x_block, x_exit, x_ret, x_loop, x_cond, c_true, c_false, k_seqn, k_seqr, k_seqx, k_blkn, k_blkr, k_blkx, k_loopn, k_loopr, k_loopx, k_finn, k_finr, r_nil, r_cons, s_do, s_g, a_none, a_pure, a_ite, p_some, p_none, v_tmp, v_int, v_bool, v_nils, List.getD_cons_zero, List.getD_cons_succ, List.set_cons_zero, List.set_cons_succ, List.map_cons, List.map_nil, t_mv, t_pick, t_not, t_neg, e_0, e_1, t_max, t_bin, b_add, b_sub, b_mul, b_quo, b_rem, b_and, b_eql, b_neq, b_lss, b_gtr, b_geq, b_leq, plainT, p_callP, p_callR, w64, Int.toNat_natCast, Option.bind_some, Option.map_some, f_one, f_two, z_t, z_tt, decide_true, decide_false, eq_self, beq_self_eq_true, Bool.not_true, Bool.not_false, reduceCtorEq, ↓reduceIte, t_beq tb4, t_bne tb4, t_len tb31, t_len tb26, t_lenn tb31, t_idx tb31 ok3 sz3, t_idx tb26 ok31 sz31, t_loadi tb3, t_loadl tb31, t_make tb31 tb3, t_leno tb31, t_idxo tb31 ok3 sz3, t_stores tb3, t_storea tb3, m_s, m_a, a_eff, ap_nil, ap_push, ap_pusha, ap_set, Nat.zero_add, t_callv, t_mkfn, z_o1, z_o2, m_own, t_mkone tb31 tb3, t_app1 tb31 tb3, t_mk2 tb26 tb31, t_mk3 tb26 tb31, p_callE, v_func, Int.reduceLT, Int.reduceLE, Int.reduceNeg, Int.reduceSub, Int.reduceEq, Bool.false_eq_true, beq_iff_eq, Bool.not_eq_true', bne_self_eq_false, Bool.true_beq, Bool.false_beq, t_c0, t_c1, t_c2, t_c3, imp28, e28, e28', imp12, ev12]
       · simp -implicitDefEqProofs (disch := (first | omega | (simp only [bld_len, List.length_map, List.length_range, List.length_cons, List.length_nil, List.length_replicate, parity, zipf] <;> omega))) only [List.length_cons, List.length_nil, Nat.reduceSub, Nat.reduceAdd, List.replicate_succ, List.replicate_zero, List.cons_append, List.nil_append, x_seq, x_skip, x_reg, x_block, x_exit, x_ret, x_loop, x_cond, c_true, c_false, k_seqn, k_seqr, k_seqx, k_blkn, k_blkr, k_blkx, k_loopn, k_loopr, k_loopx, k_finn, k_finr, r_nil, r_cons, s_do, s_g, a_none, a_pure, a_ite, p_some, p_none, v_tmp, v_int, v_bool, v_nils, List.getD_cons_zero, List.getD_cons_succ, List.set_cons_zero, List.set_cons_succ, List.map_cons, List.map_nil, t_mv, t_pick, t_not, t_neg, e_0, e_1, t_max, t_bin, b_add, b_sub, b_mul, b_quo, b_rem, b_and, b_eql, b_neq, b_lss, b_gtr, b_geq, b_leq, plainT, p_callP, p_callR, w64, Int.toNat_natCast, Option.bind_some, Option.map_some, f_one, f_two, z_t, z_tt, decide_true, decide_false, eq_self, beq_self_eq_true, Bool.not_true, Bool.not_false, reduceCtorEq, ↓reduceIte, t_beq tb4, t_bne tb4, t_len tb31, t_len tb26, t_lenn tb31, t_idx tb31 ok3 sz3, t_idx tb26 ok31 sz31, t_loadi tb3, t_loadl tb31, t_make tb31 tb3, t_leno tb31, t_idxo tb31 ok3 sz3, t_stores tb3, t_storea tb3, m_s, m_a, a_eff, ap_nil, ap_push, ap_pusha, ap_set, Nat.zero_add, t_callv, t_mkfn, z_o1, z_o2, m_own, t_mkone tb31 tb3, t_app1 tb31 tb3, t_mk2 tb26 tb31, t_mk3 tb26 tb31, p_callE, v_func, Int.reduceLT, Int.reduceLE, Int.reduceNeg, Int.reduceSub, Int.reduceEq, Bool.false_eq_true, beq_iff_eq, Bool.not_eq_true', bne_self_eq_false, Bool.true_beq, Bool.false_beq, t_c0, t_c1, t_c2, t_c3, imp28, e28, e28', imp12, ev12]
       · simp -implicitDefEqProofs (disch := (first | omega | (simp only [bld_len, List.length_map, List.length_range, List.length_cons, List.length_nil, List.length_replicate, parity, zipf] <;> omega))) only [List.length_cons, List.length_nil, Nat.reduceSub, Nat.reduceAdd, List.replicate_succ, List.replicate_zero, List.cons_append, List.nil_append, x_seq, x_skip, x_reg, x_block, x_exit, x_ret, x_loop, x_cond, c_true, c_false, k_seqn, k_seqr, k_seqx, k_blkn, k_blkr, k_blkx, k_loopn, k_loopr, k_loopx, k_finn, k_finr, r_nil, r_cons, s_do, s_g, a_none, a_pure, a_ite, p_some, p_none, v_tmp, v_int, v_bool, v_nils, List.getD_cons_zero, List.getD_cons_succ, List.set_cons_zero, List.set_cons_succ, List.map_cons, List.map_nil, t_mv, t_pick, t_not, t_neg, e_0, e_1, t_max, t_bin, b_add, b_sub, b_mul, b_quo, b_rem, b_and, b_eql, b_neq, b_lss, b_gtr, b_geq, b_leq, plainT, p_callP, p_callR, w64, Int.toNat_natCast, Option.bind_some, Option.map_some, f_one, f_two, z_t, z_tt, decide_true, decide_false, eq_self, beq_self_eq_true, Bool.not_true, Bool.not_false, reduceCtorEq, ↓reduceIte, t_beq tb4, t_bne tb4, t_len tb31, t_len tb26, t_lenn tb31, t_idx tb31 ok3 sz3, t_idx tb26 ok31 sz31, t_loadi tb3, t_loadl tb31, t_make tb31 tb3, t_leno tb31, t_idxo tb31 ok3 sz3, t_stores tb3, t_storea tb3, m_s, m_a, a_eff, ap_nil, ap_push, ap_pusha, ap_set, Nat.zero_add, t_callv, t_mkfn, z_o1, z_o2, m_own, t_mkone tb31 tb3, t_app1 tb31 tb3, t_mk2 tb26 tb31, t_mk3 tb26 tb31, p_callE, v_func, Int.reduceLT, Int.reduceLE, Int.reduceNeg, Int.reduceSub, Int.reduceEq, Bool.false_eq_true, beq_iff_eq, Bool.not_eq_true', bne_self_eq_false, Bool.true_beq, Bool.false_beq, t_c0, t_c1, t_c2, t_c3, imp28, e28, e28', imp12, ev12]
       · rw [hadd hb1 hb2] at x6
         simp -implicitDefEqProofs (disch := (first | omega | (simp only [bld_len, List.length_map, List.length_range, List.length_cons, List.length_nil, List.length_replicate, parity, zipf] <;> omega))) only [List.length_cons, List.length_nil, Nat.reduceSub, Nat.reduceAdd, List.replicate_succ, List.replicate_zero, List.cons_append, List.nil_append, x_seq, x_skip, x_reg, x_block, x_exit, x_ret, x_loop, x_cond, c_true, c_false, k_seqn, k_seqr, k_seqx, k_blkn, k_blkr, k_blkx, k_loopn, k_loopr, k_loopx, k_finn, k_finr, r_nil, r_cons, s_do, s_g, a_none, a_pure, a_ite, p_some, p_none, v_tmp, v_int, v_bool, v_nils, List.getD_cons_zero, List.getD_cons_succ, List.set_cons_zero, List.set_cons_succ, List.map_cons, List.map_nil, t_mv, t_pick, t_not, t_neg, e_0, e_1, t_max, t_bin, b_add, b_sub, b_mul, b_quo, b_rem, b_and, b_eql, b_neq, b_lss, b_gtr, b_geq, b_leq, plainT, p_callP, p_callR, w64, Int.toNat_natCast, Option.bind_some, Option.map_some, f_one, f_two, z_t, z_tt, decide_true, decide_false, eq_self, beq_self_eq_true, Bool.not_true, Bool.not_false, reduceCtorEq, ↓reduceIte, t_beq tb4, t_bne tb4, t_len tb31, t_len tb26, t_lenn tb31, t_idx tb31 ok3 sz3, t_idx tb26 ok31 sz31, t_loadi tb3, t_loadl tb31, t_make tb31 tb3, t_leno tb31, t_idxo tb31 ok3 sz3, t_stores tb3, t_storea tb3, m_s, m_a, a_eff, ap_nil, ap_push, ap_pusha, ap_set, Nat.zero_add, t_callv, t_mkfn, z_o1, z_o2, m_own, t_mkone tb31 tb3, t_app1 tb31 tb3, t_mk2 tb26 tb31, t_mk3 tb26 tb31, p_callE, v_func, Int.reduceLT, Int.reduceLE, Int.reduceNeg, Int.reduceSub, Int.reduceEq, Bool.false_eq_true, beq_iff_eq, Bool.not_eq_true', bne_self_eq_false, Bool.true_beq, Bool.false_beq, t_c0, t_c1, t_c2, t_c3, imp28, e28, e28', imp19, x6, imp12, ev12])
end Go.Proofs.Ytmomipeoigffgaa
