/- All: the closure that fills, and the list. -/
import Derived.Test.YtmomipeoigffgaaWalkl
set_option linter.unusedSimpArgs false
set_option linter.unusedVariables false
namespace Go.Proofs.Ytmomipeoigffgaa
open Go Go.AM
theorem fn37 : G.fn 37 = some F37 := by kernel_rfl
theorem imp37 : G.imp 37 = true := rfl
theorem fn13 : G.fn 13 = some F13 := by kernel_rfl
theorem imp13 : G.imp 13 = false := rfl
theorem tb43 : Tab.at tb 43 = ⟨.func, 1, 8, [.fn]⟩ := rfl
section
variable {tb : Tab} {imp : FuncId → Bool} {orc : Orc} {own : Bool} {get : Nat → Option Ob} {nx L0 : Nat} {H : List Ob}
def ldM (j : Nat) : Option Ob → Out
  | some (.mix _ cs) => match cs[j]? with | some c => some (.c c, []) | none => none
  | _ => none
theorem ldM_m {b : Bool} {c : C} {l : List C} : ldM 0 (some (.mix b (c :: l))) = some (.c c, []) := rfl
theorem t_ldM {t : TypeId} {id j : Nat} (h : tb.at t = ⟨.func, 1, 8, [.fn]⟩) : Go.AM.step tb imp orc own get nx (.load t) [.c (.ref id j)] = match get id with
    | some (.flat _ cs) => (match loadT ⟨.func, 1, 8, [.fn]⟩ cs j with | some v => some (v, []) | none => none)
    | some (.mix _ cs) => ldM j (some (.mix true cs))
    | _ => none := by
  simp only [Go.AM.step, sLoad, h, isOther]
  cases hg : get id with
  | none => rfl
  | some o => cases o with
    | flat b cs => rfl
    | gone => rfl
    | mix b cs =>
      show (match (match cs[j]? with | some c => some (V.c c) | none => none) with | some v => some (v, []) | none => none) = (match cs[j]? with | some c => some (V.c c, []) | none => none)
      cases cs[j]? <;> rfl
theorem ap_seta {o : Ob} {id : Nat} {es : List Eff} (h : L0 ≤ id) : applyE .al L0 (.set id o :: es) H = applyE .al L0 es (H.set id o) := by simp [applyE, h]
end
def stI2 (t : TypeId) (get : Nat → Option Ob) (nx id j : Nat) (v : Int) : Option Ob → Out
  | some (.flat false cs) => if j + 1 ≤ cs.length then some (.tup [], [.set id (.flat false (putCells cs j [T.int .i64 v]))]) else none
  | _ => sStore get nx (Tab.at tb t) [.c (.ref id j), .c (.t (.int .i64 v))]
section
variable {imp : FuncId → Bool} {orc : Orc} {own : Bool} {get : Nat → Option Ob} {nx L0 : Nat} {H : List Ob}
def stV (t : TypeId) (get : Nat → Option Ob) (nx id j : Nat) (v : V) (c : C) : Option Ob → Out
  | some (.mix false cs) => if j + 1 ≤ cs.length then some (.tup [], [.set id (.mix false (putCells cs j [c]))]) else none
  | _ => sStore get nx (Tab.at tb t) [.c (.ref id j), v]
theorem stV_m {t : TypeId} {get : Nat → Option Ob} {nx id : Nat} {v : V} {c c0 : C} : stV t get nx id 0 v c (some (.mix false [c0])) = some (.tup [], [.set id (.mix false [c])]) := rfl
theorem t_stV {t id j i2 off len sz : Nat} (h : Tab.at tb t = ⟨.slice (Tab.at tb t).elem, 1, 24, [.sl 1]⟩) : Go.AM.step tb imp orc own get nx (.store t) [.c (.ref id j), .c (.osl i2 off len sz)] = stV t get nx id j (.c (.osl i2 off len sz)) (.osl i2 off len sz) (get id) := by
  simp only [Go.AM.step]
  cases hg : get id with
  | none => rfl
  | some o => cases o with
    | flat b cs => rfl
    | gone => rfl
    | mix b cs =>
      cases b
      · rw [h]
        simp only [sStore, hg, isOther, cellsC, stV, nilsOf, phants, List.length_singleton, Bool.false_eq_true, if_false, List.replicate_zero, List.nil_append]
        by_cases hc : j + 1 ≤ cs.length
        · rw [if_pos hc, if_pos ⟨⟨trivial, Nat.le_refl _⟩, hc⟩]
        · rw [if_neg hc, if_neg (fun h => hc h.2)]
      · rfl
theorem t_stVf {t id j f : Nat} {l : List (Nat × Nat)} (h : Tab.at tb t = ⟨.func, 1, 8, [.fn]⟩) : Go.AM.step tb imp orc own get nx (.store t) [.c (.ref id j), .c (.fn f l)] = stV t get nx id j (.c (.fn f l)) (.fn f l) (get id) := by
  simp only [Go.AM.step]
  cases hg : get id with
  | none => rfl
  | some o => cases o with
    | flat b cs => rfl
    | gone => rfl
    | mix b cs =>
      cases b
      · rw [h]
        simp only [sStore, hg, isOther, cellsC, stV, nilsOf, phants, List.length_singleton, Bool.false_eq_true, if_false, List.replicate_zero, List.nil_append]
        by_cases hc : j + 1 ≤ cs.length
        · rw [if_pos hc, if_pos ⟨⟨trivial, Nat.le_refl _⟩, hc⟩]
        · rw [if_neg hc, if_neg (fun h => hc h.2)]
      · rfl
theorem t_stI {t id j : Nat} {v : Int} (h : Tab.at tb t = ⟨.int .i64, 1, 8, [.int .i64]⟩) : Go.AM.step tb imp orc own get nx (.store t) [.c (.ref id j), .c (.t (.int .i64 v))] = stI2 t get nx id j v (get id) := by
  simp only [Go.AM.step]
  cases hg : get id with
  | none => rfl
  | some o => cases o with
    | mix b cs => rfl
    | gone => rfl
    | flat b cs =>
      cases b
      · rw [h]
        simp only [sStore, hg, isOther, cellsT, frzC, stI2, Option.map_some, noSet, List.length_singleton, Bool.false_eq_true, if_false, List.nil_append]
        by_cases hc : j + 1 ≤ cs.length
        · rw [if_pos hc, if_pos ⟨trivial, ⟨trivial, Nat.le_refl _⟩, hc⟩]
        · rw [if_neg hc, if_neg (fun h => hc h.2.2)]
      · rfl
theorem stI2_f {t id j : Nat} {get : Nat → Option Ob} {v : Int} {zs : List Int} (h : j < zs.length) : stI2 t get nx id j v (some (.flat false (zs.map (T.int .i64)))) = some (.tup [], [.set id (.flat false ((zs.set j v).map (T.int .i64)))]) := by
  show (if j + 1 ≤ (zs.map (T.int .i64)).length then _ else _) = _
  rw [if_pos (by rw [List.length_map]; omega), put_ints]
end
abbrev caps3 : List (Nat × Nat) := [(0, 0), (1, 0), (2, 0)]
abbrev HS (nn : Nat) (os : List (List Int)) (ms : List Int) : List Ob := [.mix false [.osl 3 0 os.length 1], .mix false [.osl 4 0 nn 1], .mix false [.fn 37 caps3], objR os, objI ms]
abbrev HG (nn : Nat) (os : List (List Int)) (ms : List Int) : List Ob := [.mix false [.osl 5 0 os.length 1], .mix false [.osl 4 0 nn 1], .mix false [.fn 37 caps3], .gone, objI ms, objR os]
abbrev args37 (x y : T) : List V := [.c (.t x), .c (.t y), .c (.ref 0 0), .c (.ref 1 0), .c (.ref 2 0)]
theorem call37a {orc : Orc} {L0 nn : Nat} {x y : T} {os rs : List (List Int)} {ms : List Int} (h : orc 37 (args37 x y) (HS nn os ms) = some (.tup [], HG nn rs ms)) :
    Go.AM.step tb G.imp orc true (getM .sync L0 (HS nn os ms)) 5 .callv [.c (.fn 37 caps3), .c (.t x), .c (.t y)] = some (.tup [], [.set 0 (.mix false [.osl 5 0 rs.length 1]), .set 1 (.mix false [.osl 4 0 nn 1]), .set 2 (.mix false [.fn 37 caps3]), .set 3 .gone, .set 4 (objI ms), .push (objR rs)]) := by
  show callF G.imp orc (getM .sync L0 (HS nn os ms)) 5 37 (args37 x y) = _
  have hl : reach (getM .sync L0 (HS nn os ms)) depth ((args37 x y).flatMap idsV) [] = [0, 1, 2, 3, 4] := by kernel_rfl
  have hv : (args37 x y).map (renV (pos [0, 1, 2, 3, 4])) = args37 x y := rfl
  have ho : getAllO (getM .sync L0 (HS nn os ms)) [0, 1, 2, 3, 4] = some (HS nn os ms) := rfl
  have ho2 : (HS nn os ms).map (renO (pos [0, 1, 2, 3, 4])) = HS nn os ms := rfl
  unfold callF
  rw [imp37, if_pos rfl, hl]
  simp only [hv, ho, ho2, h]
  show _ = _
  kernel_rfl
theorem call37b {orc : Orc} {L0 nn : Nat} {x y : T} {os rs : List (List Int)} {ms : List Int} (h : orc 37 (args37 x y) (HS nn os ms) = some (.tup [], HG nn rs ms)) :
    Go.AM.step tb G.imp orc true (getM .sync L0 (HG nn os ms)) 6 .callv [.c (.fn 37 caps3), .c (.t x), .c (.t y)] = some (.tup [], [.set 0 (.mix false [.osl 6 0 rs.length 1]), .set 1 (.mix false [.osl 4 0 nn 1]), .set 2 (.mix false [.fn 37 caps3]), .set 5 .gone, .set 4 (objI ms), .push (objR rs)]) := by
  show callF G.imp orc (getM .sync L0 (HG nn os ms)) 6 37 (args37 x y) = _
  have hl : reach (getM .sync L0 (HG nn os ms)) depth ((args37 x y).flatMap idsV) [] = [0, 1, 2, 5, 4] := by kernel_rfl
  have hv : (args37 x y).map (renV (pos [0, 1, 2, 5, 4])) = args37 x y := rfl
  have ho : (getAllO (getM .sync L0 (HG nn os ms)) [0, 1, 2, 5, 4]).map (fun l => l.map (renO (pos [0, 1, 2, 5, 4]))) = some (HS nn os ms) := rfl
  unfold callF
  rw [imp37, if_pos rfl, hl]
  cases hg : getAllO (getM .sync L0 (HG nn os ms)) [0, 1, 2, 5, 4] with
  | none => rw [hg] at ho; cases ho
  | some l =>
    rw [hg] at ho
    simp only [Option.map_some, Option.some.injEq] at ho
    simp only [hg, hv, ho, h]
    show _ = _
    kernel_rfl
theorem call37c {orc : Orc} {L0 nn : Nat} {x y : T} {os : List (List Int)} {ms : List Int} (h : orc 37 (args37 x y) (HS nn os ms) = some (.tup [], HS nn os ms)) :
    Go.AM.step tb G.imp orc true (getM .sync L0 (HG nn os ms)) 6 .callv [.c (.fn 37 caps3), .c (.t x), .c (.t y)] = some (.tup [], [.set 0 (.mix false [.osl 5 0 os.length 1]), .set 1 (.mix false [.osl 4 0 nn 1]), .set 2 (.mix false [.fn 37 caps3]), .set 5 (objR os), .set 4 (objI ms)]) := by
  show callF G.imp orc (getM .sync L0 (HG nn os ms)) 6 37 (args37 x y) = _
  have hl : reach (getM .sync L0 (HG nn os ms)) depth ((args37 x y).flatMap idsV) [] = [0, 1, 2, 5, 4] := by kernel_rfl
  have hv : (args37 x y).map (renV (pos [0, 1, 2, 5, 4])) = args37 x y := rfl
  have ho : (getAllO (getM .sync L0 (HG nn os ms)) [0, 1, 2, 5, 4]).map (fun l => l.map (renO (pos [0, 1, 2, 5, 4]))) = some (HS nn os ms) := rfl
  unfold callF
  rw [imp37, if_pos rfl, hl]
  cases hg : getAllO (getM .sync L0 (HG nn os ms)) [0, 1, 2, 5, 4] with
  | none => rw [hg] at ho; cases ho
  | some l =>
    rw [hg] at ho
    simp only [Option.map_some, Option.some.injEq] at ho
    simp only [hg, hv, ho, h]
    show _ = _
    kernel_rfl
set_option maxHeartbeats 4000000
theorem ev37z (nn : Nat) (os : List (List Int)) (ms : List Int) (ho : os.length ≤ 1000000) (hnn : ms.length = nn) (hm : nn ≤ 6) (n : Nat) (hn : 40 ≤ n) : pcall G n 37 (args37 (.int .i64 (-1)) (.int .i64 0)) (HS nn os ms) = some (.tup [], HG nn (os ++ [ms]) ms) := by
  obtain ⟨n0, rfl⟩ : ∃ m, n = m + 1 := ⟨n - 1, by omega⟩
  rw [pcall_at fn37, imp37, G_tb]
  subst hnn
  simp -implicitDefEqProofs (disch := (first | omega | rfl | (simp only [List.length_map, List.length_range, List.length_cons, List.length_nil, List.length_append, List.length_replicate, List.length_take, List.length_set, true_and, and_true] <;> omega) | fail)) only [List.length_cons, List.length_nil, Nat.reduceSub, Nat.reduceAdd, List.replicate_succ, List.replicate_zero, List.cons_append, List.nil_append, x_seq, x_skip, x_reg, x_block, x_exit, x_ret, x_loop, x_cond, c_true, c_false, k_seqn, k_seqr, k_seqx, k_blkn, k_blkr, k_blkx, k_loopn, k_loopr, k_loopx, k_finn, k_finr, r_nil, r_cons, s_do, s_g, a_none, a_pure, a_ite, p_some, p_none, v_tmp, v_int, v_bool, v_nils, List.getD_cons_zero, List.getD_cons_succ, List.set_cons_zero, List.set_cons_succ, List.map_cons, List.map_nil, t_mv, t_pick, t_not, t_neg, e_0, e_1, t_max, t_bin, b_add, b_sub, b_mul, b_quo, b_rem, b_and, b_eql, b_neq, b_lss, b_gtr, b_geq, b_leq, plainT, p_callP, p_callR, w64, Int.toNat_natCast, Option.bind_some, Option.map_some, f_one, f_two, z_t, z_tt, decide_true, decide_false, eq_self, beq_self_eq_true, Bool.not_true, Bool.not_false, reduceCtorEq, ↓reduceIte, t_beq tb4, t_bne tb4, t_len tb31, t_len tb26, t_lenn tb31, t_lenn tb26, t_idx tb31 ok3 sz3, t_idx tb26 ok31 sz31, t_loadi tb3, t_loadl tb31, t_make tb31 tb3, t_leno tb31, t_leno tb26, t_idxo tb31 ok3 sz3, t_idxo tb26 ok31 sz31, m_s, m_a, a_eff, ap_nil, ap_push, ap_pusha, ap_set, Nat.zero_add, t_mkfn, z_o1, z_o2, m_own, t_mkone tb31 tb3, t_mk2 tb26 tb31, t_mk3 tb26 tb31, p_callE, v_func, Int.reduceLT, Int.reduceLE, Int.reduceNeg, Int.reduceSub, Int.reduceEq, Bool.false_eq_true, beq_iff_eq, Bool.not_eq_true', bne_self_eq_false, Bool.true_beq, Bool.false_beq, t_c0, t_c1, t_c2, t_c3, g_s0, g_s1, g_s2, g_s3, g_s4, g_s5, g_s6, g_s7, g_s8, g_s9, t_mk0 tb31 tb3, t_mknil tb26 tb31, t_mkR tb26 tb31, mkR_f, t_ldR tb31, t_ldR tb26, ldR_f, ldR_m, t_apF tb31 tb3 rfl (by decide), t_apF tb26 tb31 rfl (by decide), t_apN tb31 tb3 rfl (by decide), t_apN tb26 tb31 rfl (by decide), apF_go, apN_go, row_O, slot_f, row_T, row_N, sub_a, p_callRt, p_callFI3 imp46, cI_some, b_osl, b_flat, Nat.add_zero, g_al, g_low, m_ow2, ap_seta, t_stI tb3, stI2_f, t_stV tb26, t_stV tb31, t_stVf tb43, stV_m, t_ldM tb43, ldM_m]
  rw [show rows os ++ [T.sl ms.length (ms.map (T.int .i64))] = rows (os ++ [ms]) by simp only [rows, List.map_append]; rfl, show os.length + 1 = (os ++ [ms]).length by rw [List.length_append]; rfl]
  kernel_rfl
theorem ev37e (nn : Nat) (os : List (List Int)) (ms : List Int) (left : Int) (hl : left ≠ 0) (n : Nat) (hn : 40 ≤ n) : pcall G n 37 (args37 (.int .i64 (-1)) (.int .i64 left)) (HS nn os ms) = some (.tup [], HS nn os ms) := by
  obtain ⟨n0, rfl⟩ : ∃ m, n = m + 1 := ⟨n - 1, by omega⟩
  rw [pcall_at fn37, imp37, G_tb]
  simp -implicitDefEqProofs (disch := (first | omega | rfl | (simp only [List.length_map, List.length_range, List.length_cons, List.length_nil, List.length_append, List.length_replicate, List.length_take, List.length_set, true_and, and_true] <;> omega) | fail)) only [List.length_cons, List.length_nil, Nat.reduceSub, Nat.reduceAdd, List.replicate_succ, List.replicate_zero, List.cons_append, List.nil_append, x_seq, x_skip, x_reg, x_block, x_exit, x_ret, x_loop, x_cond, c_true, c_false, k_seqn, k_seqr, k_seqx, k_blkn, k_blkr, k_blkx, k_loopn, k_loopr, k_loopx, k_finn, k_finr, r_nil, r_cons, s_do, s_g, a_none, a_pure, a_ite, p_some, p_none, v_tmp, v_int, v_bool, v_nils, List.getD_cons_zero, List.getD_cons_succ, List.set_cons_zero, List.set_cons_succ, List.map_cons, List.map_nil, t_mv, t_pick, t_not, t_neg, e_0, e_1, t_max, t_bin, b_add, b_sub, b_mul, b_quo, b_rem, b_and, b_eql, b_neq, b_lss, b_gtr, b_geq, b_leq, plainT, p_callP, p_callR, w64, Int.toNat_natCast, Option.bind_some, Option.map_some, f_one, f_two, z_t, z_tt, decide_true, decide_false, eq_self, beq_self_eq_true, Bool.not_true, Bool.not_false, reduceCtorEq, ↓reduceIte, t_beq tb4, t_bne tb4, t_len tb31, t_len tb26, t_lenn tb31, t_lenn tb26, t_idx tb31 ok3 sz3, t_idx tb26 ok31 sz31, t_loadi tb3, t_loadl tb31, t_make tb31 tb3, t_leno tb31, t_leno tb26, t_idxo tb31 ok3 sz3, t_idxo tb26 ok31 sz31, m_s, m_a, a_eff, ap_nil, ap_push, ap_pusha, ap_set, Nat.zero_add, t_mkfn, z_o1, z_o2, m_own, t_mkone tb31 tb3, t_mk2 tb26 tb31, t_mk3 tb26 tb31, p_callE, v_func, Int.reduceLT, Int.reduceLE, Int.reduceNeg, Int.reduceSub, Int.reduceEq, Bool.false_eq_true, beq_iff_eq, Bool.not_eq_true', bne_self_eq_false, Bool.true_beq, Bool.false_beq, t_c0, t_c1, t_c2, t_c3, g_s0, g_s1, g_s2, g_s3, g_s4, g_s5, g_s6, g_s7, g_s8, g_s9, t_mk0 tb31 tb3, t_mknil tb26 tb31, t_mkR tb26 tb31, mkR_f, t_ldR tb31, t_ldR tb26, ldR_f, ldR_m, t_apF tb31 tb3 rfl (by decide), t_apF tb26 tb31 rfl (by decide), t_apN tb31 tb3 rfl (by decide), t_apN tb26 tb31 rfl (by decide), apF_go, apN_go, row_O, slot_f, row_T, row_N, sub_a, p_callRt, p_callFI3 imp46, cI_some, b_osl, b_flat, Nat.add_zero, g_al, g_low, m_ow2, ap_seta, t_stI tb3, stI2_f, t_stV tb26, t_stV tb31, t_stVf tb43, stV_m, t_ldM tb43, ldM_m, hl]
  kernel_rfl
/-- What filling adds. -/
def addL (i left : Nat) (ms : List Int) : List (List Int) := (exactL i left).map (· ++ ms.drop i)
theorem drop_set {ms : List Int} {i : Nat} {e : Int} (h : i < ms.length) : (ms.set i e).drop i = e :: ms.drop (i + 1) := by
  rw [List.drop_eq_getElem_cons (by simpa using h), List.getElem_set_self, List.drop_set_of_lt (by omega)]
theorem addL_set {i left : Nat} {ms : List Int} {e : Int} (h : i < ms.length) : addL i left (ms.set i e) = ((exactL i left).map (· ++ [e])).map (· ++ ms.drop (i + 1)) := by
  simp only [addL, drop_set h, List.map_map]
  congr 1
  funext l
  simp
def addU (i left j : Nat) (ms : List Int) : List (List Int) := (exactU i left j).map (· ++ ms.drop (i + 1))
theorem addU_succ {i left j : Nat} {ms : List Int} (hj : j ≤ left) (h : i < ms.length) : addU i left (j + 1) ms = addU i left j ms ++ addL i j (ms.set i ((left : Int) - j)) := by
  rw [addL_set h, addU, addU, exactU_succ' hj, List.map_append]
theorem addU_all {i left : Nat} {ms : List Int} : addU i left (left + 1) ms = addL (i + 1) left ms := rfl
theorem addL_len {i left : Nat} {ms : List Int} : (addL i left ms).length = (exactL i left).length := by simp [addL]
theorem exactL_zero {d : Nat} (h : d ≠ 0) : exactL 0 d = [] := by simp [exactL, h]
theorem exactL_pos {n d : Nat} (h : n ≠ 0 ∨ d = 0) : 0 < (exactL n d).length := by
  cases n with
  | zero => rcases h with h | rfl; exact absurd rfl h; decide
  | succ n => rw [exactL_len]; exact B_pos n d
theorem exactL_bnd {n d j : Nat} (h : B d n ≤ 500) (hj : j ≤ d) : (exactL n j).length ≤ 500 ∧ (exactU n d j).length + (exactL n j).length ≤ 500 := by
  cases n with
  | zero =>
    have : ∀ j, (exactU 0 d j).length ≤ 1 := by
      intro j
      induction j with
      | zero => simp [exactU]
      | succ j ih =>
        rw [exactU_succ, List.length_append, List.length_map]
        cases j with
        | zero => simp [exactU, exactL]
        | succ j => rw [exactL_zero (by omega)]; simpa using ih
    have h2 := this j
    have : (exactL 0 j).length ≤ 1 := by unfold exactL; split <;> simp
    omega
  | succ n =>
    have := exactU_le n d j hj
    omega
theorem ev37 (nn : Nat) (hnn : nn ≤ 6) : ∀ (i : Nat), i ≤ nn → ∀ (left : Nat), left ≤ 24 → (i = 0 ∨ B left (i - 1) ≤ 500) → ∀ (os : List (List Int)) (ms : List Int), os.length ≤ 800000 + 1000 * (6 - i) → ms.length = nn → (∀ j, j < i → ms[j]? = some 0) → ∀ (n : Nat), 600 + i ≤ n →
    pcall G n 37 (args37 (.int .i64 ((i : Int) - 1)) (.int .i64 left)) (HS nn os ms) = some (.tup [], if i = 0 ∧ left ≠ 0 then HS nn os ms else HG nn (os ++ addL i left ms) ms)
  | 0, _, left, hl, _, os, ms, ho, hm, hz, n, hn => by
    by_cases h : left = 0
    · subst h
      rw [if_neg (by simp)]
      exact ev37z nn os ms (by omega) hm hnn n (by omega)
    · rw [if_pos ⟨rfl, h⟩]
      exact ev37e nn os ms left (by omega) n (by omega)
  | i + 1, hi6, left, hl, hB, os, ms, ho, hm, hz, n, hn => by
    obtain ⟨n0, rfl⟩ : ∃ m, n = m + 1 := ⟨n - 1, by omega⟩
    have hB : B left i ≤ 500 := by rcases hB with hB | hB; omega; exact hB
    rw [if_neg (by simp)]
    rw [pcall_at fn37, imp37, G_tb, show ((i + 1 : Nat) : Int) - 1 = (i : Int) by omega]
    simp -implicitDefEqProofs (disch := (first | omega | rfl | (simp only [List.length_map, List.length_range, List.length_cons, List.length_nil, List.length_append, List.length_replicate, List.length_take, List.length_set, true_and, and_true] <;> omega) | fail)) only [List.length_cons, List.length_nil, Nat.reduceSub, Nat.reduceAdd, List.replicate_succ, List.replicate_zero, List.cons_append, List.nil_append, x_seq, x_skip, x_reg, x_block, x_exit, x_ret, x_loop, x_cond, c_true, c_false, k_seqn, k_seqr, k_seqx, k_blkn, k_blkr, k_blkx, k_loopn, k_loopr, k_loopx, k_finn, k_finr, r_nil, r_cons, s_do, s_g, a_none, a_pure, a_ite, p_some, p_none, v_tmp, v_int, v_bool, v_nils, List.getD_cons_zero, List.getD_cons_succ, List.set_cons_zero, List.set_cons_succ, List.map_cons, List.map_nil, t_mv, t_pick, t_not, t_neg, e_0, e_1, t_max, t_bin, b_add, b_sub, b_mul, b_quo, b_rem, b_and, b_eql, b_neq, b_lss, b_gtr, b_geq, b_leq, plainT, p_callP, p_callR, w64, Int.toNat_natCast, Option.bind_some, Option.map_some, f_one, f_two, z_t, z_tt, decide_true, decide_false, eq_self, beq_self_eq_true, Bool.not_true, Bool.not_false, reduceCtorEq, ↓reduceIte, t_beq tb4, t_bne tb4, t_len tb31, t_len tb26, t_lenn tb31, t_lenn tb26, t_idx tb31 ok3 sz3, t_idx tb26 ok31 sz31, t_loadi tb3, t_loadl tb31, t_make tb31 tb3, t_leno tb31, t_leno tb26, t_idxo tb31 ok3 sz3, t_idxo tb26 ok31 sz31, m_s, m_a, a_eff, ap_nil, ap_push, ap_pusha, ap_set, Nat.zero_add, t_mkfn, z_o1, z_o2, m_own, t_mkone tb31 tb3, t_mk2 tb26 tb31, t_mk3 tb26 tb31, p_callE, v_func, Int.reduceLT, Int.reduceLE, Int.reduceNeg, Int.reduceSub, Int.reduceEq, Bool.false_eq_true, beq_iff_eq, Bool.not_eq_true', bne_self_eq_false, Bool.true_beq, Bool.false_beq, t_c0, t_c1, t_c2, t_c3, g_s0, g_s1, g_s2, g_s3, g_s4, g_s5, g_s6, g_s7, g_s8, g_s9, t_mk0 tb31 tb3, t_mknil tb26 tb31, t_mkR tb26 tb31, mkR_f, t_ldR tb31, t_ldR tb26, ldR_f, ldR_m, t_apF tb31 tb3 rfl (by decide), t_apF tb26 tb31 rfl (by decide), t_apN tb31 tb3 rfl (by decide), t_apN tb26 tb31 rfl (by decide), apF_go, apN_go, row_O, slot_f, row_T, row_N, sub_a, p_callRt, p_callFI3 imp46, cI_some, b_osl, b_flat, Nat.add_zero, g_al, g_low, m_ow2, ap_seta, t_stI tb3, stI2_f, t_stV tb26, t_stV tb31, t_stVf tb43, stV_m, t_ldM tb43, ldM_m]
    have hrest : ∀ e : Int, ∀ j, j < i → (ms.set i e)[j]? = some 0 := fun e j hj => by rw [List.getElem?_set_ne (by omega)]; exact hz j (by omega)
    refine loop_upo (left + 1) (fun j fr H => (j = 0 ∧ fr = [num i, num left, .any, .c (.ref 1 0), .c (.ref 2 0), .any, .any, num ((left : Int) - j), .any, .any, .any, .any, .any, .any, .any, .any, .any, .any, .any, .any, .any, .any, .any, .any, .any, .any, .any, .any, .any, .any, .any, .any, .any, .any, .any, .any, .any] ∧ H = HS nn os ms) ∨
      (0 < j ∧ ∃ mm : List Int, fr = [num i, num left, .any, .c (.ref 1 0), .c (.ref 2 0), .any, .any, num ((left : Int) - j), .any, .any, .any, .any, .any, .any, .any, .any, .any, .any, .any, .any, .any, .any, .any, .any, .any, .any, .any, .any, .any, .any, .any, .any, .any, .any, .any, .any, .any] ∧ H = HG nn (os ++ addU i left j ms) mm ∧ mm.length = nn ∧ ∀ e, mm.set i e = ms.set i e)) ?_ ?_ ?_
    · rintro j fr H n hj hInv IH
      rcases hInv with ⟨h0, rfl, rfl⟩ | ⟨h0, mm, rfl, rfl, hml, hms⟩
      · subst h0
        simp -implicitDefEqProofs (disch := (first | omega | rfl | (simp only [List.length_map, List.length_range, List.length_cons, List.length_nil, List.length_append, List.length_replicate, List.length_take, List.length_set, true_and, and_true] <;> omega) | fail)) only [List.length_cons, List.length_nil, Nat.reduceSub, Nat.reduceAdd, List.replicate_succ, List.replicate_zero, List.cons_append, List.nil_append, x_seq, x_skip, x_reg, x_block, x_exit, x_ret, x_loop, x_cond, c_true, c_false, k_seqn, k_seqr, k_seqx, k_blkn, k_blkr, k_blkx, k_loopn, k_loopr, k_loopx, k_finn, k_finr, r_nil, r_cons, s_do, s_g, a_none, a_pure, a_ite, p_some, p_none, v_tmp, v_int, v_bool, v_nils, List.getD_cons_zero, List.getD_cons_succ, List.set_cons_zero, List.set_cons_succ, List.map_cons, List.map_nil, t_mv, t_pick, t_not, t_neg, e_0, e_1, t_max, t_bin, b_add, b_sub, b_mul, b_quo, b_rem, b_and, b_eql, b_neq, b_lss, b_gtr, b_geq, b_leq, plainT, p_callP, p_callR, w64, Int.toNat_natCast, Option.bind_some, Option.map_some, f_one, f_two, z_t, z_tt, decide_true, decide_false, eq_self, beq_self_eq_true, Bool.not_true, Bool.not_false, reduceCtorEq, ↓reduceIte, t_beq tb4, t_bne tb4, t_len tb31, t_len tb26, t_lenn tb31, t_lenn tb26, t_idx tb31 ok3 sz3, t_idx tb26 ok31 sz31, t_loadi tb3, t_loadl tb31, t_make tb31 tb3, t_leno tb31, t_leno tb26, t_idxo tb31 ok3 sz3, t_idxo tb26 ok31 sz31, m_s, m_a, a_eff, ap_nil, ap_push, ap_pusha, ap_set, Nat.zero_add, t_mkfn, z_o1, z_o2, m_own, t_mkone tb31 tb3, t_mk2 tb26 tb31, t_mk3 tb26 tb31, p_callE, v_func, Int.reduceLT, Int.reduceLE, Int.reduceNeg, Int.reduceSub, Int.reduceEq, Bool.false_eq_true, beq_iff_eq, Bool.not_eq_true', bne_self_eq_false, Bool.true_beq, Bool.false_beq, t_c0, t_c1, t_c2, t_c3, g_s0, g_s1, g_s2, g_s3, g_s4, g_s5, g_s6, g_s7, g_s8, g_s9, t_mk0 tb31 tb3, t_mknil tb26 tb31, t_mkR tb26 tb31, mkR_f, t_ldR tb31, t_ldR tb26, ldR_f, ldR_m, t_apF tb31 tb3 rfl (by decide), t_apF tb26 tb31 rfl (by decide), t_apN tb31 tb3 rfl (by decide), t_apN tb26 tb31 rfl (by decide), apF_go, apN_go, row_O, slot_f, row_T, row_N, sub_a, p_callRt, p_callFI3 imp46, cI_some, b_osl, b_flat, Nat.add_zero, g_al, g_low, m_ow2, ap_seta, t_stI tb3, stI2_f, t_stV tb26, t_stV tb31, t_stVf tb43, stV_m, t_ldM tb43, ldM_m]
        refine c_if (fun h1 => ?_) (fun h1 => ?_) <;> simp only [decide_eq_true_eq, decide_eq_false_iff_not, Int.not_lt, Int.not_le, Bool.not_eq_true, Bool.not_eq_false, Bool.not_eq_true', Bool.not_eq_false', Bool.or_eq_true, Bool.or_eq_false_iff, Bool.and_eq_true, Bool.and_eq_false_imp] at h1
        rotate_left
        · exact absurd h1 (by omega)
        have e := ev37 nn hnn i (by omega) 0 (by omega) (by have := B_zero (i - 1); omega) os (ms.set i ((left : Int) - (0 : Nat))) (by omega) (by rw [List.length_set]; omega) (hrest _) n0 (by omega)
        rw [if_neg (by simp)] at e
        simp -implicitDefEqProofs (disch := (first | omega | rfl | (simp only [List.length_map, List.length_range, List.length_cons, List.length_nil, List.length_append, List.length_replicate, List.length_take, List.length_set, true_and, and_true] <;> omega) | fail)) only [List.length_cons, List.length_nil, Nat.reduceSub, Nat.reduceAdd, List.replicate_succ, List.replicate_zero, List.cons_append, List.nil_append, x_seq, x_skip, x_reg, x_block, x_exit, x_ret, x_loop, x_cond, c_true, c_false, k_seqn, k_seqr, k_seqx, k_blkn, k_blkr, k_blkx, k_loopn, k_loopr, k_loopx, k_finn, k_finr, r_nil, r_cons, s_do, s_g, a_none, a_pure, a_ite, p_some, p_none, v_tmp, v_int, v_bool, v_nils, List.getD_cons_zero, List.getD_cons_succ, List.set_cons_zero, List.set_cons_succ, List.map_cons, List.map_nil, t_mv, t_pick, t_not, t_neg, e_0, e_1, t_max, t_bin, b_add, b_sub, b_mul, b_quo, b_rem, b_and, b_eql, b_neq, b_lss, b_gtr, b_geq, b_leq, plainT, p_callP, p_callR, w64, Int.toNat_natCast, Option.bind_some, Option.map_some, f_one, f_two, z_t, z_tt, decide_true, decide_false, eq_self, beq_self_eq_true, Bool.not_true, Bool.not_false, reduceCtorEq, ↓reduceIte, t_beq tb4, t_bne tb4, t_len tb31, t_len tb26, t_lenn tb31, t_lenn tb26, t_idx tb31 ok3 sz3, t_idx tb26 ok31 sz31, t_loadi tb3, t_loadl tb31, t_make tb31 tb3, t_leno tb31, t_leno tb26, t_idxo tb31 ok3 sz3, t_idxo tb26 ok31 sz31, m_s, m_a, a_eff, ap_nil, ap_push, ap_pusha, ap_set, Nat.zero_add, t_mkfn, z_o1, z_o2, m_own, t_mkone tb31 tb3, t_mk2 tb26 tb31, t_mk3 tb26 tb31, p_callE, v_func, Int.reduceLT, Int.reduceLE, Int.reduceNeg, Int.reduceSub, Int.reduceEq, Bool.false_eq_true, beq_iff_eq, Bool.not_eq_true', bne_self_eq_false, Bool.true_beq, Bool.false_beq, t_c0, t_c1, t_c2, t_c3, g_s0, g_s1, g_s2, g_s3, g_s4, g_s5, g_s6, g_s7, g_s8, g_s9, t_mk0 tb31 tb3, t_mknil tb26 tb31, t_mkR tb26 tb31, mkR_f, t_ldR tb31, t_ldR tb26, ldR_f, ldR_m, t_apF tb31 tb3 rfl (by decide), t_apF tb26 tb31 rfl (by decide), t_apN tb31 tb3 rfl (by decide), t_apN tb26 tb31 rfl (by decide), apF_go, apN_go, row_O, slot_f, row_T, row_N, sub_a, p_callRt, p_callFI3 imp46, cI_some, b_osl, b_flat, Nat.add_zero, g_al, g_low, m_ow2, ap_seta, t_stI tb3, stI2_f, t_stV tb26, t_stV tb31, t_stVf tb43, stV_m, t_ldM tb43, ldM_m, show (left : Int) - ((left : Int) - ((0 : Nat) : Int)) = ((0 : Nat) : Int) by omega, call37a e]
        have hu := addU_succ (i := i) (left := left) (j := 0) (ms := ms) (by omega) (by omega)
        rw [show addU i left 0 ms = [] from rfl, List.nil_append] at hu
        rw [← hu, show (left : Int) - (0 : Nat) - 1 = left - (0 + 1 : Nat) by omega]
        exact IH _ (by omega) ⟨_, _, by kernel_rfl, .inr ⟨by omega, ms.set i ((left : Int) - (0 : Nat)), rfl, rfl, by rw [List.length_set]; omega, fun e => by rw [List.set_set]⟩⟩
      · simp -implicitDefEqProofs (disch := (first | omega | rfl | (simp only [List.length_map, List.length_range, List.length_cons, List.length_nil, List.length_append, List.length_replicate, List.length_take, List.length_set, true_and, and_true] <;> omega) | fail)) only [List.length_cons, List.length_nil, Nat.reduceSub, Nat.reduceAdd, List.replicate_succ, List.replicate_zero, List.cons_append, List.nil_append, x_seq, x_skip, x_reg, x_block, x_exit, x_ret, x_loop, x_cond, c_true, c_false, k_seqn, k_seqr, k_seqx, k_blkn, k_blkr, k_blkx, k_loopn, k_loopr, k_loopx, k_finn, k_finr, r_nil, r_cons, s_do, s_g, a_none, a_pure, a_ite, p_some, p_none, v_tmp, v_int, v_bool, v_nils, List.getD_cons_zero, List.getD_cons_succ, List.set_cons_zero, List.set_cons_succ, List.map_cons, List.map_nil, t_mv, t_pick, t_not, t_neg, e_0, e_1, t_max, t_bin, b_add, b_sub, b_mul, b_quo, b_rem, b_and, b_eql, b_neq, b_lss, b_gtr, b_geq, b_leq, plainT, p_callP, p_callR, w64, Int.toNat_natCast, Option.bind_some, Option.map_some, f_one, f_two, z_t, z_tt, decide_true, decide_false, eq_self, beq_self_eq_true, Bool.not_true, Bool.not_false, reduceCtorEq, ↓reduceIte, t_beq tb4, t_bne tb4, t_len tb31, t_len tb26, t_lenn tb31, t_lenn tb26, t_idx tb31 ok3 sz3, t_idx tb26 ok31 sz31, t_loadi tb3, t_loadl tb31, t_make tb31 tb3, t_leno tb31, t_leno tb26, t_idxo tb31 ok3 sz3, t_idxo tb26 ok31 sz31, m_s, m_a, a_eff, ap_nil, ap_push, ap_pusha, ap_set, Nat.zero_add, t_mkfn, z_o1, z_o2, m_own, t_mkone tb31 tb3, t_mk2 tb26 tb31, t_mk3 tb26 tb31, p_callE, v_func, Int.reduceLT, Int.reduceLE, Int.reduceNeg, Int.reduceSub, Int.reduceEq, Bool.false_eq_true, beq_iff_eq, Bool.not_eq_true', bne_self_eq_false, Bool.true_beq, Bool.false_beq, t_c0, t_c1, t_c2, t_c3, g_s0, g_s1, g_s2, g_s3, g_s4, g_s5, g_s6, g_s7, g_s8, g_s9, t_mk0 tb31 tb3, t_mknil tb26 tb31, t_mkR tb26 tb31, mkR_f, t_ldR tb31, t_ldR tb26, ldR_f, ldR_m, t_apF tb31 tb3 rfl (by decide), t_apF tb26 tb31 rfl (by decide), t_apN tb31 tb3 rfl (by decide), t_apN tb26 tb31 rfl (by decide), apF_go, apN_go, row_O, slot_f, row_T, row_N, sub_a, p_callRt, p_callFI3 imp46, cI_some, b_osl, b_flat, Nat.add_zero, g_al, g_low, m_ow2, ap_seta, t_stI tb3, stI2_f, t_stV tb26, t_stV tb31, t_stVf tb43, stV_m, t_ldM tb43, ldM_m]
        refine c_if (fun h1 => ?_) (fun h1 => ?_) <;> simp only [decide_eq_true_eq, decide_eq_false_iff_not, Int.not_lt, Int.not_le, Bool.not_eq_true, Bool.not_eq_false, Bool.not_eq_true', Bool.not_eq_false', Bool.or_eq_true, Bool.or_eq_false_iff, Bool.and_eq_true, Bool.and_eq_false_imp] at h1
        · have hb := exactL_bnd (n := i) (d := left) (j := j) hB (by omega)
          have hb2 := addL_len (i := i) (left := j) (ms := ms.set i ((left : Int) - j))
          have hb3 : (addU i left j ms).length = (exactU i left j).length := by simp [addU]
          have hu := addU_succ (i := i) (left := left) (j := j) (ms := ms) (by omega) (by omega)
          have hpB : i = 0 ∨ B j (i - 1) ≤ 500 := by
            rcases Nat.eq_zero_or_pos i with h | h
            · exact .inl h
            · right
              obtain ⟨i', rfl⟩ : ∃ m, i = m + 1 := ⟨i - 1, by omega⟩
              have := exactL_len i' j
              rw [Nat.add_sub_cancel]; omega
          have e := ev37 nn hnn i (by omega) j (by omega) hpB (os ++ addU i left j ms) (ms.set i ((left : Int) - j)) (by rw [List.length_append]; omega) (by rw [List.length_set]; omega) (hrest _) n0 (by omega)
          by_cases hc : i = 0 ∧ j ≠ 0
          · rw [if_pos hc] at e
            simp -implicitDefEqProofs (disch := (first | omega | rfl | (simp only [List.length_map, List.length_range, List.length_cons, List.length_nil, List.length_append, List.length_replicate, List.length_take, List.length_set, true_and, and_true] <;> omega) | fail)) only [List.length_cons, List.length_nil, Nat.reduceSub, Nat.reduceAdd, List.replicate_succ, List.replicate_zero, List.cons_append, List.nil_append, x_seq, x_skip, x_reg, x_block, x_exit, x_ret, x_loop, x_cond, c_true, c_false, k_seqn, k_seqr, k_seqx, k_blkn, k_blkr, k_blkx, k_loopn, k_loopr, k_loopx, k_finn, k_finr, r_nil, r_cons, s_do, s_g, a_none, a_pure, a_ite, p_some, p_none, v_tmp, v_int, v_bool, v_nils, List.getD_cons_zero, List.getD_cons_succ, List.set_cons_zero, List.set_cons_succ, List.map_cons, List.map_nil, t_mv, t_pick, t_not, t_neg, e_0, e_1, t_max, t_bin, b_add, b_sub, b_mul, b_quo, b_rem, b_and, b_eql, b_neq, b_lss, b_gtr, b_geq, b_leq, plainT, p_callP, p_callR, w64, Int.toNat_natCast, Option.bind_some, Option.map_some, f_one, f_two, z_t, z_tt, decide_true, decide_false, eq_self, beq_self_eq_true, Bool.not_true, Bool.not_false, reduceCtorEq, ↓reduceIte, t_beq tb4, t_bne tb4, t_len tb31, t_len tb26, t_lenn tb31, t_lenn tb26, t_idx tb31 ok3 sz3, t_idx tb26 ok31 sz31, t_loadi tb3, t_loadl tb31, t_make tb31 tb3, t_leno tb31, t_leno tb26, t_idxo tb31 ok3 sz3, t_idxo tb26 ok31 sz31, m_s, m_a, a_eff, ap_nil, ap_push, ap_pusha, ap_set, Nat.zero_add, t_mkfn, z_o1, z_o2, m_own, t_mkone tb31 tb3, t_mk2 tb26 tb31, t_mk3 tb26 tb31, p_callE, v_func, Int.reduceLT, Int.reduceLE, Int.reduceNeg, Int.reduceSub, Int.reduceEq, Bool.false_eq_true, beq_iff_eq, Bool.not_eq_true', bne_self_eq_false, Bool.true_beq, Bool.false_beq, t_c0, t_c1, t_c2, t_c3, g_s0, g_s1, g_s2, g_s3, g_s4, g_s5, g_s6, g_s7, g_s8, g_s9, t_mk0 tb31 tb3, t_mknil tb26 tb31, t_mkR tb26 tb31, mkR_f, t_ldR tb31, t_ldR tb26, ldR_f, ldR_m, t_apF tb31 tb3 rfl (by decide), t_apF tb26 tb31 rfl (by decide), t_apN tb31 tb3 rfl (by decide), t_apN tb26 tb31 rfl (by decide), apF_go, apN_go, row_O, slot_f, row_T, row_N, sub_a, p_callRt, p_callFI3 imp46, cI_some, b_osl, b_flat, Nat.add_zero, g_al, g_low, m_ow2, ap_seta, t_stI tb3, stI2_f, t_stV tb26, t_stV tb31, t_stVf tb43, stV_m, t_ldM tb43, ldM_m, show (left : Int) - ((left : Int) - j) = (j : Int) by omega, hms, call37c e]
            have : addL i j (ms.set i ((left : Int) - j)) = [] := by
              rw [hc.1]; simp only [addL, exactL_zero hc.2, List.map_nil]
            rw [this, List.append_nil] at hu
            rw [← hu, show (left : Int) - j - 1 = left - (j + 1 : Nat) by omega]
            exact IH _ (by omega) ⟨_, _, by kernel_rfl, .inr ⟨by omega, ms.set i ((left : Int) - j), rfl, rfl, by rw [List.length_set]; omega, fun e => by rw [List.set_set]⟩⟩
          · rw [if_neg hc] at e
            simp -implicitDefEqProofs (disch := (first | omega | rfl | (simp only [List.length_map, List.length_range, List.length_cons, List.length_nil, List.length_append, List.length_replicate, List.length_take, List.length_set, true_and, and_true] <;> omega) | fail)) only [List.length_cons, List.length_nil, Nat.reduceSub, Nat.reduceAdd, List.replicate_succ, List.replicate_zero, List.cons_append, List.nil_append, x_seq, x_skip, x_reg, x_block, x_exit, x_ret, x_loop, x_cond, c_true, c_false, k_seqn, k_seqr, k_seqx, k_blkn, k_blkr, k_blkx, k_loopn, k_loopr, k_loopx, k_finn, k_finr, r_nil, r_cons, s_do, s_g, a_none, a_pure, a_ite, p_some, p_none, v_tmp, v_int, v_bool, v_nils, List.getD_cons_zero, List.getD_cons_succ, List.set_cons_zero, List.set_cons_succ, List.map_cons, List.map_nil, t_mv, t_pick, t_not, t_neg, e_0, e_1, t_max, t_bin, b_add, b_sub, b_mul, b_quo, b_rem, b_and, b_eql, b_neq, b_lss, b_gtr, b_geq, b_leq, plainT, p_callP, p_callR, w64, Int.toNat_natCast, Option.bind_some, Option.map_some, f_one, f_two, z_t, z_tt, decide_true, decide_false, eq_self, beq_self_eq_true, Bool.not_true, Bool.not_false, reduceCtorEq, ↓reduceIte, t_beq tb4, t_bne tb4, t_len tb31, t_len tb26, t_lenn tb31, t_lenn tb26, t_idx tb31 ok3 sz3, t_idx tb26 ok31 sz31, t_loadi tb3, t_loadl tb31, t_make tb31 tb3, t_leno tb31, t_leno tb26, t_idxo tb31 ok3 sz3, t_idxo tb26 ok31 sz31, m_s, m_a, a_eff, ap_nil, ap_push, ap_pusha, ap_set, Nat.zero_add, t_mkfn, z_o1, z_o2, m_own, t_mkone tb31 tb3, t_mk2 tb26 tb31, t_mk3 tb26 tb31, p_callE, v_func, Int.reduceLT, Int.reduceLE, Int.reduceNeg, Int.reduceSub, Int.reduceEq, Bool.false_eq_true, beq_iff_eq, Bool.not_eq_true', bne_self_eq_false, Bool.true_beq, Bool.false_beq, t_c0, t_c1, t_c2, t_c3, g_s0, g_s1, g_s2, g_s3, g_s4, g_s5, g_s6, g_s7, g_s8, g_s9, t_mk0 tb31 tb3, t_mknil tb26 tb31, t_mkR tb26 tb31, mkR_f, t_ldR tb31, t_ldR tb26, ldR_f, ldR_m, t_apF tb31 tb3 rfl (by decide), t_apF tb26 tb31 rfl (by decide), t_apN tb31 tb3 rfl (by decide), t_apN tb26 tb31 rfl (by decide), apF_go, apN_go, row_O, slot_f, row_T, row_N, sub_a, p_callRt, p_callFI3 imp46, cI_some, b_osl, b_flat, Nat.add_zero, g_al, g_low, m_ow2, ap_seta, t_stI tb3, stI2_f, t_stV tb26, t_stV tb31, t_stVf tb43, stV_m, t_ldM tb43, ldM_m, show (left : Int) - ((left : Int) - j) = (j : Int) by omega, hms, call37b e]
            rw [List.append_assoc, ← hu, show (left : Int) - j - 1 = left - (j + 1 : Nat) by omega]
            exact IH _ (by omega) ⟨_, _, by kernel_rfl, .inr ⟨by omega, ms.set i ((left : Int) - j), rfl, rfl, by rw [List.length_set]; omega, fun e => by rw [List.set_set]⟩⟩
        · have hj2 : j = left + 1 := by omega
          subst hj2
          have hi0 : ms[i]? = some 0 := hz i (by omega)
          have hset : ms.set i 0 = ms := by
            apply List.ext_getElem?
            intro k
            rw [List.getElem?_set]
            split
            · rename_i h; subst h; rw [if_pos (by omega), hi0]
            · rfl
          simp -implicitDefEqProofs (disch := (first | omega | rfl | (simp only [List.length_map, List.length_range, List.length_cons, List.length_nil, List.length_append, List.length_replicate, List.length_take, List.length_set, true_and, and_true] <;> omega) | fail)) only [List.length_cons, List.length_nil, Nat.reduceSub, Nat.reduceAdd, List.replicate_succ, List.replicate_zero, List.cons_append, List.nil_append, x_seq, x_skip, x_reg, x_block, x_exit, x_ret, x_loop, x_cond, c_true, c_false, k_seqn, k_seqr, k_seqx, k_blkn, k_blkr, k_blkx, k_loopn, k_loopr, k_loopx, k_finn, k_finr, r_nil, r_cons, s_do, s_g, a_none, a_pure, a_ite, p_some, p_none, v_tmp, v_int, v_bool, v_nils, List.getD_cons_zero, List.getD_cons_succ, List.set_cons_zero, List.set_cons_succ, List.map_cons, List.map_nil, t_mv, t_pick, t_not, t_neg, e_0, e_1, t_max, t_bin, b_add, b_sub, b_mul, b_quo, b_rem, b_and, b_eql, b_neq, b_lss, b_gtr, b_geq, b_leq, plainT, p_callP, p_callR, w64, Int.toNat_natCast, Option.bind_some, Option.map_some, f_one, f_two, z_t, z_tt, decide_true, decide_false, eq_self, beq_self_eq_true, Bool.not_true, Bool.not_false, reduceCtorEq, ↓reduceIte, t_beq tb4, t_bne tb4, t_len tb31, t_len tb26, t_lenn tb31, t_lenn tb26, t_idx tb31 ok3 sz3, t_idx tb26 ok31 sz31, t_loadi tb3, t_loadl tb31, t_make tb31 tb3, t_leno tb31, t_leno tb26, t_idxo tb31 ok3 sz3, t_idxo tb26 ok31 sz31, m_s, m_a, a_eff, ap_nil, ap_push, ap_pusha, ap_set, Nat.zero_add, t_mkfn, z_o1, z_o2, m_own, t_mkone tb31 tb3, t_mk2 tb26 tb31, t_mk3 tb26 tb31, p_callE, v_func, Int.reduceLT, Int.reduceLE, Int.reduceNeg, Int.reduceSub, Int.reduceEq, Bool.false_eq_true, beq_iff_eq, Bool.not_eq_true', bne_self_eq_false, Bool.true_beq, Bool.false_beq, t_c0, t_c1, t_c2, t_c3, g_s0, g_s1, g_s2, g_s3, g_s4, g_s5, g_s6, g_s7, g_s8, g_s9, t_mk0 tb31 tb3, t_mknil tb26 tb31, t_mkR tb26 tb31, mkR_f, t_ldR tb31, t_ldR tb26, ldR_f, ldR_m, t_apF tb31 tb3 rfl (by decide), t_apF tb26 tb31 rfl (by decide), t_apN tb31 tb3 rfl (by decide), t_apN tb26 tb31 rfl (by decide), apF_go, apN_go, row_O, slot_f, row_T, row_N, sub_a, p_callRt, p_callFI3 imp46, cI_some, b_osl, b_flat, Nat.add_zero, g_al, g_low, m_ow2, ap_seta, t_stI tb3, stI2_f, t_stV tb26, t_stV tb31, t_stVf tb43, stV_m, t_ldM tb43, ldM_m, hms, hset]
          rw [addU_all]
          show _ = _
          kernel_rfl
    · omega
    · exact ⟨_, _, by kernel_rfl, .inl ⟨rfl, rfl, rfl⟩⟩
end Go.Proofs.Ytmomipeoigffgaa
