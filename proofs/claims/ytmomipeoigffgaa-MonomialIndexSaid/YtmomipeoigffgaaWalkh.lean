/- The law on Mul, Div, Lcm and Divides. -/
import Derived.Test.YtmomipeoigffgaaWalkg
set_option linter.unusedSimpArgs false
set_option linter.unusedVariables false
namespace Go.Proofs.Ytmomipeoigffgaa
open Go Go.AM
theorem fn8 : G.fn 8 = some F8 := by kernel_rfl
theorem imp8 : G.imp 8 = false := rfl
set_option maxHeartbeats 8000000
theorem ev8 (xs ys : List Int) (n : Nat) (hn : 61 ≤ n) : pcall G n 8 [nums xs, nums ys] [] = some (tru, []) := by
  obtain ⟨n0, rfl⟩ : ∃ m, n = m + 1 := ⟨n - 1, by omega⟩
  rw [pcall_at fn8, imp8, G_tb]
  simp -implicitDefEqProofs (disch := (first | omega | (simp only [bld_len, List.length_map, List.length_range, List.length_cons, List.length_nil, parity, zipf] <;> omega))) only [List.length_cons, List.length_nil, Nat.reduceSub, Nat.reduceAdd, List.replicate_succ, List.replicate_zero, List.cons_append, List.nil_append, x_seq, x_skip, x_reg, x_block, x_exit, x_ret, x_loop, x_cond, c_true, c_false, k_seqn, k_seqr, k_seqx, k_blkn, k_blkr, k_blkx, k_loopn, k_loopr, k_loopx, k_finn, k_finr, r_nil, r_cons, s_do, s_g, a_none, a_pure, a_ite, p_some, p_none, v_tmp, v_int, v_bool, v_nils, List.getD_cons_zero, List.getD_cons_succ, List.set_cons_zero, List.set_cons_succ, List.map_cons, List.map_nil, t_mv, t_pick, t_not, t_neg, e_0, e_1, t_max, t_bin, b_add, b_sub, b_mul, b_quo, b_rem, b_and, b_eql, b_neq, b_lss, b_gtr, b_geq, b_leq, plainT, p_callP, p_callR, w64, Int.toNat_natCast, Option.bind_some, Option.map_some, f_one, f_two, z_t, z_tt, decide_true, decide_false, eq_self, beq_self_eq_true, Bool.not_true, Bool.not_false, reduceCtorEq, ↓reduceIte, t_beq tb4, t_bne tb4, t_len tb31, t_len tb26, t_lenn tb31, t_idx tb31 ok3 sz3, t_idx tb26 ok31 sz31, t_loadi tb3, t_loadl tb31, t_make tb31 tb3, t_leno tb31, t_idxo tb31 ok3 sz3, t_stores tb3, t_storea tb3, m_s, m_a, a_eff, ap_nil, ap_push, ap_pusha, ap_set, Nat.zero_add, t_callv, t_mkfn, z_o1, z_o2, m_own, t_mkone tb31 tb3, t_app1 tb31 tb3, t_mk2 tb26 tb31, t_mk3 tb26 tb31, p_callE, v_func, t_calls imp16, ev16_2]
  refine c_if (fun h1 => ?_) (fun h1 => ?_) <;> simp only [decide_eq_true_eq, decide_eq_false_iff_not, Int.not_lt, Int.not_le, Bool.not_eq_true, Bool.not_eq_false, Bool.not_eq_true', Bool.not_eq_false', Bool.or_eq_true, Bool.or_eq_false_iff, Bool.and_eq_true, Bool.and_eq_false_imp] at h1
  · simp -implicitDefEqProofs (disch := (first | omega | (simp only [bld_len, List.length_map, List.length_range, List.length_cons, List.length_nil, parity, zipf] <;> omega))) only [List.length_cons, List.length_nil, Nat.reduceSub, Nat.reduceAdd, List.replicate_succ, List.replicate_zero, List.cons_append, List.nil_append, x_seq, x_skip, x_reg, x_block, x_exit, x_ret, x_loop, x_cond, c_true, c_false, k_seqn, k_seqr, k_seqx, k_blkn, k_blkr, k_blkx, k_loopn, k_loopr, k_loopx, k_finn, k_finr, r_nil, r_cons, s_do, s_g, a_none, a_pure, a_ite, p_some, p_none, v_tmp, v_int, v_bool, v_nils, List.getD_cons_zero, List.getD_cons_succ, List.set_cons_zero, List.set_cons_succ, List.map_cons, List.map_nil, t_mv, t_pick, t_not, t_neg, e_0, e_1, t_max, t_bin, b_add, b_sub, b_mul, b_quo, b_rem, b_and, b_eql, b_neq, b_lss, b_gtr, b_geq, b_leq, t_call, plainT, p_callP, p_callR, w64, Int.toNat_natCast, Option.bind_some, Option.map_some, f_one, f_two, z_t, z_tt, decide_true, decide_false, eq_self, beq_self_eq_true, Bool.not_true, Bool.not_false, reduceCtorEq, ↓reduceIte, t_beq tb4, t_bne tb4, t_len tb31, t_len tb26, t_lenn tb31, t_idx tb31 ok3 sz3, t_idx tb26 ok31 sz31, t_loadi tb3, t_loadl tb31, t_make tb31 tb3, t_leno tb31, t_idxo tb31 ok3 sz3, t_stores tb3, t_storea tb3, m_s, m_a, a_eff, ap_nil, ap_push, ap_pusha, ap_set, Nat.zero_add, t_callv, t_mkfn, z_o1, z_o2, m_own, t_mkone tb31 tb3, t_app1 tb31 tb3, t_mk2 tb26 tb31, t_mk3 tb26 tb31, p_callE, v_func, imp12, ev12]
  have e28 := ev28 xs ys n0 (by omega)
  have e29 := ev29 xs ys n0 (by omega)
  have e30 := ev30 xs ys n0 (by omega)
  have e31 := ev31 xs ys n0 (by omega)
  have e32 := ev32 xs ys n0 (by omega)
  have e33 := ev33 xs ys n0 (by omega)
  rw [div_ok] at e30
  generalize (pair xs ys && valid (zipf (· + ·) xs ys)) = b1 at e28 e29
  generalize divides ys xs = b2 at e30 e31
  generalize (pair xs ys && valid (zipf mx xs ys)) = b3 at e32 e33
  unfold goodV at e28 e29 e30 e31 e32 e33
  cases b1 <;> cases b2 <;> cases b3 <;> simp only [Bool.false_eq_true, ↓reduceIte] at e28 e29 e30 e31 e32 e33
  all_goals
    simp -implicitDefEqProofs (disch := (first | omega | (simp only [bld_len, List.length_map, List.length_range, List.length_cons, List.length_nil, parity, zipf] <;> omega))) only [List.length_cons, List.length_nil, Nat.reduceSub, Nat.reduceAdd, List.replicate_succ, List.replicate_zero, List.cons_append, List.nil_append, x_seq, x_skip, x_reg, x_block, x_exit, x_ret, x_loop, x_cond, c_true, c_false, k_seqn, k_seqr, k_seqx, k_blkn, k_blkr, k_blkx, k_loopn, k_loopr, k_loopx, k_finn, k_finr, r_nil, r_cons, s_do, s_g, a_none, a_pure, a_ite, p_some, p_none, v_tmp, v_int, v_bool, v_nils, List.getD_cons_zero, List.getD_cons_succ, List.set_cons_zero, List.set_cons_succ, List.map_cons, List.map_nil, t_mv, t_pick, t_not, t_neg, e_0, e_1, t_max, t_bin, b_add, b_sub, b_mul, b_quo, b_rem, b_and, b_eql, b_neq, b_lss, b_gtr, b_geq, b_leq, t_call, plainT, p_callP, p_callR, w64, Int.toNat_natCast, Option.bind_some, Option.map_some, f_one, f_two, z_t, z_tt, decide_true, decide_false, eq_self, beq_self_eq_true, Bool.not_true, Bool.not_false, reduceCtorEq, ↓reduceIte, t_beq tb4, t_bne tb4, t_len tb31, t_len tb26, t_lenn tb31, t_idx tb31 ok3 sz3, t_idx tb26 ok31 sz31, t_loadi tb3, t_loadl tb31, t_make tb31 tb3, t_leno tb31, t_idxo tb31 ok3 sz3, t_stores tb3, t_storea tb3, m_s, m_a, a_eff, ap_nil, ap_push, ap_pusha, ap_set, Nat.zero_add, t_callv, t_mkfn, z_o1, z_o2, m_own, t_mkone tb31 tb3, t_app1 tb31 tb3, t_mk2 tb26 tb31, t_mk3 tb26 tb31, p_callE, v_func, imp12, ev12, imp28, e28, imp29, e29, imp30, e30, imp31, e31, imp32, e32, imp33, e33, imp34, ev34, imp35, ev35, imp21, ev21n, ev21]
end Go.Proofs.Ytmomipeoigffgaa
