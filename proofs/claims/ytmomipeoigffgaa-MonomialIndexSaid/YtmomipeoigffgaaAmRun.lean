/- Code, and calls: what the abstract machine comes to, the model comes to. -/
import Derived.Test.YtmomipeoigffgaaAmAny
set_option linter.unusedVariables false
set_option linter.unusedSimpArgs false
namespace Go.AM

inductive Cm (tb : Tab) : Code → Cd → Prop where
  | skip : Cm tb .skip .skip
  | reg {id : Nat} {ops : Array Oper} {draw : Bool} {is : List Ins} (h : compReg tb ops draw = some is) : Cm tb (.region id ops draw) (.reg draw is)
  | seq {a b : Code} {c d : Cd} (h : Cm tb a c) (k : Cm tb b d) : Cm tb (.seq a b) (.seq c d)
  | cond {x : Operand} {a b : Code} {c d : Cd} (h : Cm tb a c) (k : Cm tb b d) : Cm tb (.cond x a b) (.cond x c d)
  | block {id : Nat} {a : Code} {c : Cd} (h : Cm tb a c) : Cm tb (.block id a) (.block id c)
  | loop {a : Code} {c : Cd} {kl : List Nat} {ns : List (Nat × Nat)} (h : Cm tb a c) : Cm tb (.loop a) (.loop kl ns c)
  | exit {id : Nat} : Cm tb (.exit id) (.exit id)
  | ret : Cm tb .ret .ret

theorem comp0_ok {tb : Tab} : ∀ {c : Code} {d : Cd}, comp0 tb c = some d → Cm tb c d := by
  intro c
  induction c with
  | skip => intro d h; simp only [comp0, Option.some.injEq] at h; subst h; exact .skip
  | region id ops draw =>
    intro d h
    simp only [comp0, Option.map_eq_some_iff] at h
    obtain ⟨is, h1, rfl⟩ := h
    exact .reg h1
  | seq a b iha ihb =>
    intro d h
    simp only [comp0] at h
    split at h
    · rename_i x y hx hy
      simp only [Option.some.injEq] at h
      subst h
      exact .seq (iha hx) (ihb hy)
    · cases h
  | cond x a b iha ihb =>
    intro d h
    simp only [comp0] at h
    split at h
    · rename_i p q hx hy
      simp only [Option.some.injEq] at h
      subst h
      exact .cond (iha hx) (ihb hy)
    · cases h
  | block id a ih =>
    intro d h
    simp only [comp0, Option.map_eq_some_iff] at h
    obtain ⟨is, h1, rfl⟩ := h
    exact .block (ih h1)
  | loop a ih =>
    intro d h
    simp only [comp0, Option.map_eq_some_iff] at h
    obtain ⟨is, h1, rfl⟩ := h
    exact .loop (ih h1)
  | exit id => intro d h; simp only [comp0, Option.some.injEq] at h; subst h; exact .exit
  | ret => intro d h; simp only [comp0, Option.some.injEq] at h; subst h; exact .ret
  | _ => intro d h; simp [comp0] at h

theorem dress_ok {tb : Tab} {nt : Nat} {sl : List (Nat × Nat)} {c : Code} {d : Cd} (h : Cm tb c d) : ∀ out, Cm tb c (dress nt sl d out) := by
  induction h with
  | skip => intro out; exact .skip
  | reg h => intro out; exact .reg h
  | seq h k ih ik => intro out; exact .seq (ih _) (ik _)
  | cond h k ih ik => intro out; exact .cond (ih _) (ik _)
  | block h ih => intro out; exact .block (ih _)
  | loop h ih => intro out; exact .loop (ih _)
  | exit => intro out; exact .exit
  | ret => intro out; exact .ret

section
variable {P : Program} {w0 : World} {I0 : Nat → Prop} {ρ0 : Rho} {H0 : List Ob} {mm : Nat}

theorem RV_any {w : World} {I : Nat → Prop} {ρ : Rho} {H : List Ob} (u : Value) : RV w I ρ H .any u := trivial

theorem killed_ok {w : World} {I : Nat → Prop} {ρ : Rho} {H : List Ob} {tmps : Array Value} : ∀ {kl : List Nat} {fr : List V}, RF w I ρ H fr tmps → RF w I ρ H (killed kl fr) tmps
  | [], fr, h => h
  | t :: kl, fr, h => by
    unfold killed
    rw [List.foldl_cons]
    refine killed_ok (kl := kl) (fr := fr.set t .any) ?_
    intro i x hx
    rw [List.getElem?_set] at hx
    split at hx
    · rename_i hi
      subst hi
      split at hx
      · rename_i hl
        cases hx
        obtain ⟨u, hu, _⟩ := h _ _ (List.getElem?_eq_getElem hl)
        exact ⟨u, hu, trivial⟩
      · cases hx
    · exact h i x hx

/-- Nil slices of the frame told as objects. -/
def nilOne (s : St) (p : Nat × Nat) : St := match s.fr.getD p.1 .any with
  | .c (.t .nils) => ⟨s.fr.set p.1 (.c (.osl s.H.length 0 0 p.2)), s.H ++ [.flat false []]⟩
  | _ => s

theorem nilOne_ok {s : St} {a : Act} {w : World} (p : Nat × Nat) (h : SR w0 I0 ρ0 H0 mm s a w) : SR w0 I0 ρ0 H0 mm (nilOne s p) a w := by
  unfold nilOne
  split
  · rename_i heq
    obtain ⟨I, ρ, hC, hF, hd, hE, hm, hk⟩ := h
    obtain ⟨hC1, hs1, hn⟩ := phant_ok hC
    refine ⟨I, ρ, hC1, ?_, hd, hE.trans hs1.ext, Nat.le_trans hm hs1.len, fun id hid => ⟨(hk id hid).1, fun hg => hs1.gone id ((hk id hid).2 hg)⟩⟩
    have hF1 := RF_stp hC hs1 hF
    intro i x hx
    rw [List.getElem?_set] at hx
    split at hx
    · rename_i hi
      subst hi
      split at hx
      · rename_i hl
        cases hx
        obtain ⟨u, hu, hr⟩ := hF _ _ (List.getElem?_eq_getElem hl)
        rw [List.getD_eq_getElem?_getD, List.getElem?_eq_getElem hl] at heq
        simp only [Option.getD_some] at heq
        rw [heq] at hr
        have hv : u = .slice none 0 0 := hr
        exact ⟨u, hu, .inr (.inl ⟨by simp, hn, rfl, hv⟩)⟩
      · cases hx
    · exact hF1 i x hx
  · exact h

theorem nils_fold {a : Act} {w : World} : ∀ (ns : List (Nat × Nat)) {s : St}, SR w0 I0 ρ0 H0 mm s a w → SR w0 I0 ρ0 H0 mm (ns.foldl nilOne s) a w
  | [], s, h => h
  | p :: ns, s, h => nils_fold ns (nilOne_ok p h)

theorem reach_prefix (get : Nat → Option Ob) : ∀ (n : Nat) (todo acc : List Nat), ∃ tail, reach get n todo acc = acc ++ tail
  | 0, _, acc => ⟨[], by simp [reach]⟩
  | n + 1, [], acc => ⟨[], by simp [reach]⟩
  | n + 1, i :: todo, acc => by
    simp only [reach]
    split
    · exact reach_prefix get n todo acc
    · obtain ⟨t, ht⟩ := reach_prefix get n (todo ++ idsO (get i)) (acc ++ [i])
      exact ⟨i :: t, by rw [ht]; simp⟩

/-- Objects renumbered, those that are not reached left out. -/
theorem pack_ctx {w : World} {I : Nat → Prop} {ρ : Rho} {H : List Ob} (hC : Ctx I ρ H w) {live : List Nat} (hn : live.Nodup) :
    Ctx I (fun j => (live[j]?).bind ρ) (live.map fun i => renO (pos live) ((H[i]?).getD .gone)) w ∧ Ren ρ H (pos live) (fun j => (live[j]?).bind ρ) (live.map fun i => renO (pos live) ((H[i]?).getD .gone)) ∧
      ∀ b, ownd (fun j => (live[j]?).bind ρ) (live.map fun i => renO (pos live) ((H[i]?).getD .gone)) b → ownd ρ H b := by
  have hget : ∀ (j : Nat) (ob : Ob), (live.map fun i => renO (pos live) ((H[i]?).getD .gone))[j]? = some ob → ∃ (id : Nat), live[j]? = some id ∧ ((∃ ob', H[id]? = some ob' ∧ ob = renO (pos live) ob') ∨ ob = .gone) := by
    intro j ob h
    rw [List.getElem?_map] at h
    cases hj : live[j]? with
    | none => rw [hj] at h; cases h
    | some id =>
      rw [hj] at h
      simp only [Option.map_some, Option.some.injEq] at h
      refine ⟨id, rfl, ?_⟩
      cases hh : H[id]? with
      | none => rw [hh] at h; exact .inr h.symm
      | some ob' => rw [hh] at h; exact .inl ⟨ob', rfl, h.symm⟩
  have hmine : ∀ (j b off : Nat), mine (live.map fun i => renO (pos live) ((H[i]?).getD .gone)) j → (live[j]?).bind ρ = some (b, off) → ∃ id, live[j]? = some id ∧ mine H id ∧ ρ id = some (b, off) := by
    rintro j b off ⟨ob, h1, h2⟩ h3
    obtain ⟨id, h4, ⟨ob', h5, rfl⟩ | rfl⟩ := hget j ob h1
    · rw [h4] at h3
      exact ⟨id, h4, ⟨ob', h5, mine_ren.1 h2⟩, h3⟩
    · exact h2.elim
  have hR : Ren ρ H (pos live) (fun j => (live[j]?).bind ρ) (live.map fun i => renO (pos live) ((H[i]?).getD .gone)) := by
    refine ⟨fun id j hj _ => by simp [pos_get hj], fun id j hj hg => ?_, fun id j hj _ => ?_⟩
    · unfold GN at hg ⊢
      rw [List.getElem?_map, pos_get hj]
      simp [hg, renO]
    · have := (List.getElem?_eq_some_iff.1 (pos_get hj)).1
      simpa using this
  refine ⟨⟨fun j ob h => ?_, hC.lt, fun j p h => ?_, fun j j' b o o' h1 h2 h3 h4 => ?_⟩, hR, fun b hb => ?_⟩
  · obtain ⟨id, h4, ⟨ob', h5, rfl⟩ | rfl⟩ := hget j ob h
    · exact RO_ren hR hC.dom (by simp [h4]) (hC.obj id ob' h5)
    · trivial
  · cases hj : live[j]? with
    | none => rw [hj] at h; cases h
    | some i => simpa using (List.getElem?_eq_some_iff.1 hj).1
  · obtain ⟨id, a1, a2, a3⟩ := hmine j b o h1 h3
    obtain ⟨id', b1, b2, b3⟩ := hmine j' b o' h2 h4
    have := hC.inj id id' b o o' a2 b2 a3 b3
    subst this
    exact (List.getElem?_inj (List.getElem?_eq_some_iff.1 a1).1 hn).1 (a1.trans b1.symm)
  · obtain ⟨j, off, h1, h2⟩ := hb
    obtain ⟨id, _, a2, a3⟩ := hmine j b off h1 h2
    exact ⟨id, off, a2, a3⟩

theorem live_keep {get : Nat → Option Ob} {n m : Nat} {todo : List Nat} : (reach get n todo (List.range m)).Nodup ∧ m ≤ (reach get n todo (List.range m)).length ∧ ∀ id, id < m → (reach get n todo (List.range m))[id]? = some id := by
  obtain ⟨t, ht⟩ := reach_prefix get n todo (List.range m)
  refine ⟨reach_nodup get n todo _ List.nodup_range, by rw [ht]; simp, fun id hid => ?_⟩
  rw [ht, List.getElem?_append_left (by simpa using hid)]
  exact List.getElem?_range hid

theorem pack_ok {s : St} {a : Act} {w : World} (h : SR w0 I0 ρ0 H0 mm s a w) : SR w0 I0 ρ0 H0 mm (pack mm s.fr s.H) a w := by
  obtain ⟨I, ρ, hC, hF, hd, hE, hm, hk⟩ := h
  obtain ⟨hn, hml, hid⟩ := live_keep (get := (s.H[·]?)) (n := depth) (m := mm) (todo := (List.range mm).flatMap (fun i => idsO s.H[i]?) ++ s.fr.flatMap idsV)
  unfold pack
  simp only
  generalize reach (fun x => s.H[x]?) depth ((List.range mm).flatMap (fun i => idsO s.H[i]?) ++ s.fr.flatMap idsV) (List.range mm) = live at hn hml hid ⊢
  obtain ⟨hC1, hR, hown⟩ := pack_ctx hC hn
  refine ⟨I, _, hC1, ?_, hd, ⟨hE.os, hE.tape, hE.output, hE.size, hE.same, hE.cap, hE.imm, hE.new, fun b hb => hE.own b (hown b hb)⟩, by simpa using hml, fun id hid' => ?_⟩
  · intro i x hx
    rw [List.getElem?_map] at hx
    cases hy : s.fr[i]? with
    | none => rw [hy] at hx; cases hx
    | some y =>
      rw [hy] at hx
      simp only [Option.map_some, Option.some.injEq] at hx
      subst hx
      obtain ⟨u, hu, hr⟩ := hF i y hy
      exact ⟨u, hu, RV_ren hR hC.dom hr⟩
  · refine ⟨?_, fun hg => hR.gone id id (pos_of_get hn (hid id hid')) ((hk id hid').2 hg)⟩
    simp only [hid id hid', Option.bind_some]
    exact (hk id hid').1

theorem norm_ok {s : St} {a : Act} {w : World} {kl : List Nat} {ns : List (Nat × Nat)} (h : SR w0 I0 ρ0 H0 mm s a w) : SR w0 I0 ρ0 H0 mm (norm mm kl ns s) a w := by
  have h1 : SR w0 I0 ρ0 H0 mm ⟨killed kl s.fr, s.H⟩ a w := by
    obtain ⟨I, ρ, hC, hF, hd, hE, hm, hk⟩ := h
    exact ⟨I, ρ, hC, killed_ok hF, hd, hE, hm, hk⟩
  exact pack_ok (nils_fold ns h1)

def toExit : Ex → Exit | .norm => .normal | .exit id => .exit id | .ret => .ret

theorem exec_ok {R : Type} {E : Env} (hP : P.follows .mixedOrders = true) (hT : TabOk P E.tb) (hO : OrcOk P E.orc) (hm : E.m = mm) {n : Nat} {c : Code} {d : Cd} (hc : Cm E.tb c d) :
    ∀ {s : St} {k : Ex → St → Option R} {r : R}, exec E n d s k = some r → ∀ {a : Act} {w : World}, SR w0 I0 ρ0 H0 mm s a w → ∀ {Q : Exit → Act → World → Prop},
      (∀ e s' a' w', SR w0 I0 ρ0 H0 mm s' a' w' → k e s' = some r → Q (toExit e) a' w') → c.wp P Q a w := by
  induction hc with
  | skip => intro s k r h a w hS Q hQ; exact wp_skip (hQ .norm s a w hS h)
  | reg hreg =>
    intro s k r h a w hS Q hQ
    simp only [exec, Option.bind_eq_some_iff] at h
    obtain ⟨s', h1, h2⟩ := h
    exact region_ok hP hT hO hreg h1 hS fun a' w' hS' => hQ .norm s' a' w' hS' h2
  | seq ha hb iha ihb =>
    intro s k r h a w hS Q hQ
    refine wp_seq (iha h hS ?_)
    intro e s' a' w' hS' he
    cases e with
    | norm => exact ihb he hS' hQ
    | exit id => exact hQ (.exit id) s' a' w' hS' he
    | ret => exact hQ .ret s' a' w' hS' he
  | cond ha hb iha ihb =>
    rename_i x _ _ _ _
    intro s k r h a w hS Q hQ
    simp only [exec] at h
    split at h
    · rename_i t heq
      obtain ⟨I, ρ, hC, hF, hrest⟩ := hS
      have hx := RV_ev hF x
      rw [heq] at hx
      have hx' : a.eval x = .bool t := hx
      refine wp_cond hx' ?_
      cases t with
      | true => exact iha (by simpa using h) ⟨I, ρ, hC, hF, hrest⟩ hQ
      | false => exact ihb (by simpa using h) ⟨I, ρ, hC, hF, hrest⟩ hQ
    · cases h
  | block ha iha =>
    rename_i id _ _
    intro s k r h a w hS Q hQ
    refine wp_block (iha h hS ?_)
    intro e s' a' w' hS' he
    cases e with
    | norm => exact hQ .norm s' a' w' hS' he
    | exit j =>
      simp only at he
      show Exit.inBlock id Q (.exit j) a' w'
      unfold Exit.inBlock
      split at he
      · rename_i hj; simp only [hj, if_true]; exact hQ .norm s' a' w' hS' he
      · rename_i hj; simp only [hj, if_false]; exact hQ (.exit j) s' a' w' hS' he
    | ret => exact hQ .ret s' a' w' hS' he
  | loop ha iha =>
    rename_i c d kl ns
    intro s k r h a w hS Q hQ
    simp only [exec] at h
    refine wp_loop_rounds n ?_
    have key : ∀ (n' : Nat) {s : St} {a : Act} {w : World}, loopN E.m kl ns (exec E n d) k n' s = some r → SR w0 I0 ρ0 H0 mm s a w → Code.rounds P c Q n' a w := by
      intro n'
      induction n' with
      | zero => intro s a w h _; simp [loopN] at h
      | succ n' ih =>
        intro s a w h hS
        simp only [loopN] at h
        rw [rounds_succ]
        rw [hm] at h
        refine iha h (norm_ok hS) ?_
        intro e s' a' w' hS' he
        cases e with
        | norm => rw [← hm] at he; exact ih he hS'
        | exit id => exact hQ (.exit id) s' a' w' hS' he
        | ret => exact hQ .ret s' a' w' hS' he
    exact key n h hS
  | exit => intro s k r h a w hS Q hQ; exact wp_exit (hQ (.exit _) s a w hS h)
  | ret => intro s k r h a w hS Q hQ; exact wp_ret (hQ .ret s a w hS h)

theorem RV1_RV {w : World} {I : Nat → Prop} {ρ : Rho} {H : List Ob} {x : V} {u : Value} (h : RV1 w I ρ H x u) : RV w I ρ H x u := by
  cases x with
  | tup vs => cases vs with
    | nil => exact ⟨[], h, .nil⟩
    | cons _ _ => exact h.elim
  | c _ => exact h
  | agg _ => exact h
  | any => exact h

theorem resultTmps_ok : ∀ {rs : List ResultVar} {l : List Nat}, resultTmps rs = some l → rs = l.map .tmp
  | [], l, h => by simp only [resultTmps, Option.some.injEq] at h; subst h; rfl
  | .tmp t :: rs, l, h => by
    simp only [resultTmps, Option.map_eq_some_iff] at h
    obtain ⟨l', h1, rfl⟩ := h
    simp [resultTmps_ok h1]
  | .cell _ _ :: _, _, h => by simp [resultTmps] at h

/-- What the model hands back. -/
def resV (l : List Nat) (tmps : Array Value) : Value := match l with
  | [t] => tmps.getD t undef
  | l => .tuple (l.map fun t => tmps.getD t undef).toArray

theorem resV_tup {l : List Nat} (h : ∀ t, l ≠ [t]) (tmps : Array Value) : resV l tmps = .tuple (l.map fun t => tmps.getD t undef).toArray := by
  unfold resV
  split
  · rename_i t; exact (h t rfl).elim
  · rfl

theorem results_run {fn : Func} {l : List Nat} (h : fn.results.toList = l.map .tmp) (h5 : l.length ≤ 5) (tmps : Array Value) (w : World) :
    (results fn tmps).run P w = .ok (resV l tmps) w := by
  have hr : fn.results = (l.map ResultVar.tmp).toArray := by apply Array.ext'; simpa using h
  match l, h5 with
  | [], _ => simp [results, hr, resV]
  | [_], _ => simp [results, hr, resV]
  | [_, _], _ => simp [results, hr, resV]
  | [_, _, _], _ => simp [results, hr, resV]
  | [_, _, _, _], _ => simp [results, hr, resV]
  | [_, _, _, _, _], _ => simp [results, hr, resV]
  | _ :: _ :: _ :: _ :: _ :: _ :: _, h => simp at h

theorem applyE_sync : ∀ {es : List Eff} {H : List Ob}, (∀ e ∈ es, ∃ id o, e = .set id o) → ∃ H', applyE .sync 0 es H = some H'
  | [], H, _ => ⟨H, rfl⟩
  | e :: es, H, h => by
    obtain ⟨id, o, rfl⟩ := h e (by simp)
    exact applyE_sync (es := es) (H := H.set id o) fun e he => h e (by simp [he])

theorem frzC_sets {get : Nat → Option Ob} {c : C} {x : T} {es : List Eff} (h : frzC get c = some (x, es)) : ∀ e ∈ es, ∃ id o, e = .set id o := by
  cases c with
  | t x => simp only [frzC, Option.some.injEq, Prod.mk.injEq] at h; obtain ⟨_, rfl⟩ := h; simp
  | osl id off len sz =>
    simp only [frzC] at h
    split at h <;> simp only [Option.some.injEq, Prod.mk.injEq, reduceCtorEq] at h <;> obtain ⟨_, rfl⟩ := h <;> simp
  | ref id off =>
    simp only [frzC] at h
    split at h
    · simp only [Option.some.injEq, Prod.mk.injEq] at h; obtain ⟨_, rfl⟩ := h; simp
    · simp only [Option.some.injEq, Prod.mk.injEq] at h; obtain ⟨_, rfl⟩ := h; simp
    · simp only [Option.map_eq_some_iff, Prod.mk.injEq] at h; obtain ⟨_, _, _, rfl⟩ := h; simp
    · simp only [Option.map_eq_some_iff, Prod.mk.injEq] at h; obtain ⟨_, _, _, rfl⟩ := h; simp
    · cases h
  | fn f caps =>
    cases caps with
    | nil => simp only [frzC, Option.some.injEq, Prod.mk.injEq] at h; obtain ⟨_, rfl⟩ := h; simp
    | cons _ _ => cases h
  | any => cases h
theorem frzCs_sets {get : Nat → Option Ob} : ∀ {cs : List C} {xs : List T} {es : List Eff}, frzCs get cs = some (xs, es) → ∀ e ∈ es, ∃ id o, e = .set id o
  | [], xs, es, h => by simp only [frzCs, Option.some.injEq, Prod.mk.injEq] at h; obtain ⟨_, rfl⟩ := h; simp
  | c :: cs, xs, es, h => by
    simp only [frzCs] at h
    split at h
    · cases h
    · rename_i x es1 h1
      split at h
      · cases h
      · rename_i xs2 es2 h2
        simp only [Option.some.injEq, Prod.mk.injEq] at h
        obtain ⟨_, rfl⟩ := h
        intro e he
        rcases List.mem_append.1 he with he | he
        · exact frzC_sets h1 e he
        · exact frzCs_sets h2 e he
theorem frzV_sets {get : Nat → Option Ob} {v x : V} {es : List Eff} (h : frzV get v = some (x, es)) : ∀ e ∈ es, ∃ id o, e = .set id o := by
  cases v with
  | c x =>
    simp only [frzV, Option.map_eq_some_iff, Prod.mk.injEq] at h
    obtain ⟨⟨y, es'⟩, h1, _, rfl⟩ := h
    exact frzC_sets h1
  | agg cs =>
    simp only [frzV, Option.map_eq_some_iff, Prod.mk.injEq] at h
    obtain ⟨⟨y, es'⟩, h1, _, rfl⟩ := h
    exact frzCs_sets h1
  | tup vs => cases h
  | any => simp only [frzV, Option.some.injEq, Prod.mk.injEq] at h; obtain ⟨_, rfl⟩ := h; simp
theorem frzVs_sets {get : Nat → Option Ob} : ∀ {cs : List V} {xs : List V} {es : List Eff}, frzVs get cs = some (xs, es) → ∀ e ∈ es, ∃ id o, e = .set id o
  | [], xs, es, h => by simp only [frzVs, Option.some.injEq, Prod.mk.injEq] at h; obtain ⟨_, rfl⟩ := h; simp
  | c :: cs, xs, es, h => by
    simp only [frzVs] at h
    split at h
    · cases h
    · rename_i x es1 h1
      split at h
      · cases h
      · rename_i xs2 es2 h2
        simp only [Option.some.injEq, Prod.mk.injEq] at h
        obtain ⟨_, rfl⟩ := h
        intro e he
        rcases List.mem_append.1 he with he | he
        · exact frzV_sets h1 e he
        · exact frzVs_sets h2 e he

theorem result_ok {w : World} {I : Nat → Prop} {ρ : Rho} {H : List Ob} {fr : List V} {tmps : Array Value} (hF : RF w I ρ H fr tmps) {l : List Nat} :
    (∃ t, l = [t] ∧ RV w I ρ H (fr.getD t .any) (tmps.getD t undef)) ∨ ((∀ t, l ≠ [t]) ∧ result l fr = .tup (l.map fun r => fr.getD r .any) ∧ A2 (RV w I ρ H) (l.map fun r => fr.getD r .any) (l.map fun t => tmps.getD t undef)) := by
  have h1 : ∀ t, RV w I ρ H (fr.getD t .any) (tmps.getD t undef) := fun t => by
    have := RV_ev (a := ⟨tmps, []⟩) hF (.tmp t)
    simpa [ev, Act.eval] using this
  by_cases h : ∃ t, l = [t]
  · obtain ⟨t, rfl⟩ := h
    exact .inl ⟨t, rfl, h1 t⟩
  · right
    refine ⟨fun t ht => h ⟨t, ht⟩, ?_, ?_⟩
    · unfold result
      split
      · exact (h ⟨_, rfl⟩).elim
      · rfl
    · have : ∀ l : List Nat, A2 (RV w I ρ H) (l.map fun r => fr.getD r .any) (l.map fun t => tmps.getD t undef) := by
        intro l
        induction l with
        | nil => exact .nil
        | cons t l ih => exact .cons (h1 t) ih
      exact this l

/-- No tuple inside: a list of results reads as such. -/
def noTup : V → Bool | .tup (_ :: _) => false | _ => true
theorem RV1_of {w : World} {I : Nat → Prop} {ρ : Rho} {H : List Ob} {x : V} {u : Value} (hn : noTup x = true) (h : RV w I ρ H x u) : RV1 w I ρ H x u := by
  cases x with
  | tup vs => cases vs with
    | nil => obtain ⟨us, h1, h2⟩ := h; cases h2; exact h1
    | cons _ _ => simp [noTup] at hn
  | c _ => exact h
  | agg _ => exact h
  | any => exact h

end
end Go.AM
