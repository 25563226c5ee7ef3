import Derived.Test.YthjmbppofgadaaaA1
import Derived.Test.YthjmbppofgadaaaA2
import Derived.Test.YthjmbppofgadaaaA4
import Derived.Shelf.Spec.BitsCarry
set_option linter.unusedVariables false
set_option linter.unnecessarySimpa false
set_option linter.all false
set_option linter.unusedSimpArgs false
set_option linter.defProp false
namespace Go.AM
abbrev num (n : Int) : V := .c (.t (.int .i64 n))
abbrev boo (b : Bool) : V := .c (.t (.bool b))
abbrev tru : V := .c (.t (.bool true))
abbrev wd (n : Int) : V := .c (.t (.int .u64 n))
abbrev hw (n : Int) : V := .c (.t (.int .u32 n))
def ks (k : IntKind) (zs : List Int) : List T := zs.map (T.int k)
abbrev rowK (k : IntKind) (zs : List Int) : T := .sl zs.length (ks k zs)
abbrev objK (k : IntKind) (zs : List Int) : Ob := .flat false (ks k zs)
section
variable {R : Type} {E : Env} {n : Nat} {k : Ex → St → Option R} {fr : List V} {H : List Ob} {L0 : Nat}
theorem x_skip : exec E n .skip ⟨fr, H⟩ k = k .norm ⟨fr, H⟩ := rfl
theorem x_reg {d : Bool} {is : List Ins} : exec E n (.reg d is) ⟨fr, H⟩ k = (runIs E H.length is ⟨fr, H⟩).bind (k .norm) := rfl
def kseq (E : Env) (n : Nat) (b : Cd) (k : Ex → St → Option R) : Ex → St → Option R := fun e s' => match e with | .norm => exec E n b s' k | e => k e s'
def kblk (id : Nat) (k : Ex → St → Option R) : Ex → St → Option R := fun e s' => match e with | .exit j => if j = id then k .norm s' else k (.exit j) s' | e => k e s'
def kloop (m : Nat) (kl : List Nat) (ns : List (Nat × Nat)) (body : St → (Ex → St → Option R) → Option R) (k : Ex → St → Option R) (n : Nat) : Ex → St → Option R := fun e s' => match e with | .norm => loopN m kl ns body k n s' | e => k e s'
def kfin (tb : Tab) (imp : Bool) (m : Nat) (rs : List RS) (F : Tab → Bool → Nat → List RS → St → Option R) : Ex → St → Option R := fun e s => match e with | .norm | .ret => F tb imp m rs s | _ => none
theorem x_seq {a b : Cd} : exec E n (.seq a b) ⟨fr, H⟩ k = exec E n a ⟨fr, H⟩ (kseq E n b k) := rfl
theorem k_seqn {b : Cd} : kseq E n b k .norm ⟨fr, H⟩ = exec E n b ⟨fr, H⟩ k := rfl
theorem k_seqr {b : Cd} : kseq E n b k .ret ⟨fr, H⟩ = k .ret ⟨fr, H⟩ := rfl
theorem k_seqx {b : Cd} {id : Nat} : kseq E n b k (.exit id) ⟨fr, H⟩ = k (.exit id) ⟨fr, H⟩ := rfl
theorem k_blkn {id : Nat} : kblk id k .norm ⟨fr, H⟩ = k .norm ⟨fr, H⟩ := rfl
theorem k_blkr {id : Nat} : kblk id k .ret ⟨fr, H⟩ = k .ret ⟨fr, H⟩ := rfl
theorem k_blkx {id j : Nat} : kblk id k (.exit j) ⟨fr, H⟩ = if j = id then k .norm ⟨fr, H⟩ else k (.exit j) ⟨fr, H⟩ := rfl
theorem k_loopn {m : Nat} {kl : List Nat} {ns : List (Nat × Nat)} {body : St → (Ex → St → Option R) → Option R} : kloop m kl ns body k n .norm ⟨fr, H⟩ = loopN m kl ns body k n ⟨fr, H⟩ := rfl
theorem k_loopr {m : Nat} {kl : List Nat} {ns : List (Nat × Nat)} {body : St → (Ex → St → Option R) → Option R} : kloop m kl ns body k n .ret ⟨fr, H⟩ = k .ret ⟨fr, H⟩ := rfl
theorem k_loopx {m : Nat} {kl : List Nat} {ns : List (Nat × Nat)} {body : St → (Ex → St → Option R) → Option R} {id : Nat} : kloop m kl ns body k n (.exit id) ⟨fr, H⟩ = k (.exit id) ⟨fr, H⟩ := rfl
theorem k_finn {tb : Tab} {imp : Bool} {m : Nat} {rs : List RS} {F : Tab → Bool → Nat → List RS → St → Option R} : kfin tb imp m rs F .norm ⟨fr, H⟩ = F tb imp m rs ⟨fr, H⟩ := rfl
theorem k_finr {tb : Tab} {imp : Bool} {m : Nat} {rs : List RS} {F : Tab → Bool → Nat → List RS → St → Option R} : kfin tb imp m rs F .ret ⟨fr, H⟩ = F tb imp m rs ⟨fr, H⟩ := rfl
theorem x_block {id : Nat} {a : Cd} : exec E n (.block id a) ⟨fr, H⟩ k = exec E n a ⟨fr, H⟩ (kblk id k) := rfl
theorem x_exit {id : Nat} : exec E n (.exit id) ⟨fr, H⟩ k = k (.exit id) ⟨fr, H⟩ := rfl
theorem x_ret : exec E n .ret ⟨fr, H⟩ k = k .ret ⟨fr, H⟩ := rfl
theorem x_loop {kl : List Nat} {ns : List (Nat × Nat)} {a : Cd} : exec E n (.loop kl ns a) ⟨fr, H⟩ k = loopN E.m kl ns (exec E n a) k n ⟨fr, H⟩ := rfl
def cnd (v : V) (E : Env) (n : Nat) (a b : Cd) (s : St) (k : Ex → St → Option R) : Option R :=
  match v with
  | .c (.t (.bool t)) => if t then exec E n a s k else exec E n b s k
  | _ => none
theorem x_cond {c : Operand} {a b : Cd} : exec E n (.cond c a b) ⟨fr, H⟩ k = cnd (ev fr c) E n a b ⟨fr, H⟩ k := rfl
theorem c_true {a b : Cd} : cnd (.c (.t (.bool true))) E n a b ⟨fr, H⟩ k = exec E n a ⟨fr, H⟩ k := rfl
theorem c_false {a b : Cd} : cnd (.c (.t (.bool false))) E n a b ⟨fr, H⟩ k = exec E n b ⟨fr, H⟩ k := rfl
theorem c_if {a b : Cd} {t : Bool} {r : R} (ha : t = true → exec E n a ⟨fr, H⟩ k = some r) (hb : t = false → exec E n b ⟨fr, H⟩ k = some r) : cnd (.c (.t (.bool t))) E n a b ⟨fr, H⟩ k = some r := by
  cases t
  · exact hb rfl
  · exact ha rfl
theorem loop_up {m : Nat} {kl : List Nat} {ns : List (Nat × Nat)} {body : St → (Ex → St → Option R) → Option R} {r : R} (N : Nat) (Inv : Nat → List V → List Ob → Prop)
    (hs : ∀ i fr H n, i ≤ N → Inv i fr H → (∀ s', i + 1 ≤ N → (∃ fr' H', norm m kl ns s' = ⟨fr', H'⟩ ∧ Inv (i + 1) fr' H') → loopN m kl ns body k n s' = some r) →
      body ⟨fr, H⟩ (kloop m kl ns body k n) = some r) (hn : N < n) (h0 : ∃ fr' H', norm m kl ns ⟨fr, H⟩ = ⟨fr', H'⟩ ∧ Inv 0 fr' H') :
    loopN m kl ns body k n ⟨fr, H⟩ = some r := by
  have key : ∀ (n i : Nat) (s' : St), i ≤ N → N < i + n → (∃ fr' H', norm m kl ns s' = ⟨fr', H'⟩ ∧ Inv i fr' H') → loopN m kl ns body k n s' = some r := by
    intro n
    induction n with
    | zero => intro i s' h1 h2; omega
    | succ n ih =>
      rintro i s' h1 h2 ⟨fr', H', h3, h4⟩
      simp only [loopN]
      rw [h3]
      exact hs i fr' H' n h1 h4 fun s' h5 h6 => ih (i + 1) s' h5 (by omega) h6
  exact key n 0 _ (Nat.zero_le _) (by omega) h0
theorem loop_one {m : Nat} {kl : List Nat} {ns : List (Nat × Nat)} {body : St → (Ex → St → Option R) → Option R} {s s' : St} (h : norm m kl ns s = s') : loopN m kl ns body k (n + 1) s = body s' (kloop m kl ns body k n) := by
  subst h; rfl
theorem pcall_at {G : Pg} {f : FuncId} {vs : List V} {H : List Ob} {nt : Nat} {rs : List RS} {b : Cd} (h : G.fn f = some ⟨nt, rs, b⟩) (hv : vs.any V.isO = false) : pcall G (n + 1) f vs H = exec ⟨G.tb, G.imp, pcall G n, H.length⟩ n b ⟨vs ++ List.replicate (nt - vs.length) (.tup []), H⟩ (kfin G.tb (G.imp f) H.length rs finish) := by
  simp only [pcall, h, hv]; rfl
def finZ (m : Nat) (H : List Ob) (imp : Bool) (r : V) : Option (V × List Ob) :=
  if r.isO then none else if imp then
    let live := reach (H[·]?) depth ((List.range m).flatMap (fun i => idsO H[i]?) ++ idsV r) (List.range m)
    some (renV (pos live) r, live.map fun i => renO (pos live) ((H[i]?).getD .gone))
  else (frzR (H[·]?) r).map fun v => (v, [])
def fin1 (m : Nat) (H : List Ob) (imp : Bool) : Option (List V) → Option (V × List Ob)
  | some vs => finZ m H imp (one1 vs)
  | none => none
theorem f_fin {tb : Tab} {imp : Bool} {m : Nat} {rs : List RS} : finish tb imp m rs ⟨fr, H⟩ = fin1 m H imp (rsVs tb (H[·]?) fr rs) := by
  unfold finish result
  cases rsVs tb (H[·]?) fr rs <;> rfl
theorem f_some {m : Nat} {imp : Bool} {vs : List V} : fin1 m H imp (some vs) = finZ m H imp (one1 vs) := rfl
theorem o_1 {v : V} : one1 [v] = v := rfl
theorem o_0 : one1 [] = .tup [] := rfl
theorem o_2 {v w : V} {vs : List V} : one1 (v :: w :: vs) = .tup (v :: w :: vs) := rfl
theorem f_pure {m : Nat} {v : V} (hv : v.isO = false) : finZ m H false v = (frzR (H[·]?) v).map fun v => (v, []) := by
  unfold finZ; rw [hv]; rfl
theorem f_pc {m : Nat} {x : C} : finZ m H false (.c x) = (frzR (H[·]?) (.c x)).map fun v => (v, []) := rfl
theorem f_pa {m : Nat} {cs : List C} : finZ m H false (.agg cs) = (frzR (H[·]?) (.agg cs)).map fun v => (v, []) := rfl
theorem f_pt {m : Nat} {vs : List V} : finZ m H false (.tup vs) = (frzR (H[·]?) (.tup vs)).map fun v => (v, []) := rfl
theorem f_i1 {b : Bool} {cs : List T} {off l sz : Nat} : finZ 1 [.flat b cs] true (.c (.osl 0 off l sz)) = some (.c (.osl 0 off l sz), [.flat b cs]) := rfl
theorem f_i1t {b : Bool} {cs : List T} {x : T} : finZ 1 [.flat b cs] true (.c (.t x)) = some (.c (.t x), [.flat b cs]) := rfl
theorem f_i0t {x : T} : finZ 0 [] true (.c (.t x)) = some (.c (.t x), []) := rfl
def rsC : Option V → Option (List V) → Option (List V)
  | some v, some vs => some (v :: vs)
  | _, _ => none
theorem rs_nil {tb : Tab} {get : Nat → Option Ob} : rsVs tb get fr [] = some [] := rfl
theorem rs_cons {tb : Tab} {get : Nat → Option Ob} {r : RS} {rs : List RS} : rsVs tb get fr (r :: rs) = rsC (rsV tb get fr r) (rsVs tb get fr rs) := by
  simp only [rsVs]
  cases rsV tb get fr r <;> cases rsVs tb get fr rs <;> rfl
theorem rs_ss {v : V} {vs : List V} : rsC (some v) (some vs) = some (v :: vs) := rfl
theorem rs_t {tb : Tab} {get : Nat → Option Ob} {s : Nat} : rsV tb get fr (.t s) = some (fr.getD s .any) := rfl
def rsD (i : TI) (get : Nat → Option Ob) : V → Option V
  | .own cs => if isOther i.k then none else loadC i cs 0
  | v => match sLoad get i [v] with | some (v, _) => some v | none => none
theorem rs_cell {tb : Tab} {get : Nat → Option Ob} {s : Nat} {t : TypeId} : rsV tb get fr (.cell s t) = rsD (tb.at t) get (fr.getD s .any) := by
  simp only [rsV, rsD]
  cases fr.getD s .any <;> rfl
theorem rs_own {fs : List (Nat × TypeId)} {a b : Nat} {ck : List CK} {get : Nat → Option Ob} {cs : List C} (h : cs.length = a) : rsD ⟨.struct fs, a, b, ck⟩ get (.own cs) = some (.agg cs) := by
  subst h
  simp [rsD, isOther, loadC, TI.isAgg]
def frC : Option (T × List Eff) → Option (V × List Eff)
  | some (y, es) => some (.c (.t y), es)
  | none => none
theorem z_c {get : Nat → Option Ob} {x : C} : frzV get (.c x) = frC (frzC get x) := by
  simp only [frzV]; cases frzC get x <;> rfl
theorem z_cs {x : T} {es : List Eff} : frC (some (x, es)) = some (.c (.t x), es) := rfl
def frA : Option (List T × List Eff) → Option (V × List Eff)
  | some (ys, es) => some (.agg (ys.map .t), es)
  | none => none
theorem z_a {get : Nat → Option Ob} {cs : List C} : frzV get (.agg cs) = frA (frzCs get cs) := by
  simp only [frzV]; cases frzCs get cs <;> rfl
theorem z_as {ys : List T} {es : List Eff} : frA (some (ys, es)) = some (.agg (ys.map .t), es) := rfl
theorem z_any {get : Nat → Option Ob} : frzV get .any = some (.any, []) := rfl
theorem z_n {get : Nat → Option Ob} : frzCs get [] = some ([], []) := rfl
def frD : Option (T × List Eff) → Option (List T × List Eff) → Option (List T × List Eff)
  | some (x, es), some (xs, fs) => some (x :: xs, es ++ fs)
  | _, _ => none
theorem z_k {get : Nat → Option Ob} {c : C} {cs : List C} : frzCs get (c :: cs) = frD (frzC get c) (frzCs get cs) := by
  simp only [frzCs]
  cases frzC get c with
  | none => rfl
  | some p => cases frzCs get cs <;> rfl
theorem z_d {x : T} {xs : List T} {es fs : List Eff} : frD (some (x, es)) (some (xs, fs)) = some (x :: xs, es ++ fs) := rfl
theorem z_t {get : Nat → Option Ob} {x : T} : frzC get (.t x) = some (x.wk, []) := rfl
theorem wk_i {k : IntKind} {x : Int} : T.wk (.int k x) = .int k x := rfl
theorem wk_b {b : Bool} : T.wk (.bool b) = .bool b := rfl
theorem wk_s {b : ByteArray} : T.wk (.str b) = .str b := rfl
theorem wk_p : T.wk .nilp = .nilp := rfl
theorem wk_x {cs : List T} {j : Nat} : T.wk (.box cs j) = .box cs j := rfl
theorem wk_l {cs : List T} {j : Nat} : T.wk (.sl j cs) = .sl j cs := rfl
theorem wk_n : T.wk .nils = .sl 0 [] := rfl
theorem wk_f {f : FuncId} : T.wk (.fn f) = .fn f := rfl
def frO (id off len sz : Nat) : Option Ob → Option (T × List Eff)
  | some (.flat true cs) => some (.sl len (sub cs off (len * sz)), [])
  | some (.flat false cs) => some (.sl len (sub cs off (len * sz)), [.set id (.flat true cs)])
  | _ => none
theorem z_o {get : Nat → Option Ob} {id off len sz : Nat} : frzC get (.osl id off len sz) = frO id off len sz (get id) := by
  simp only [frzC, frO]
  cases get id with
  | none => rfl
  | some o => cases o with
    | flat b cs => cases b <;> rfl
    | _ => rfl
theorem z_of {id off len sz : Nat} {cs : List T} : frO id off len sz (some (.flat false cs)) = some (.sl len (sub cs off (len * sz)), [.set id (.flat true cs)]) := rfl
theorem z_ot {id off len sz : Nat} {cs : List T} : frO id off len sz (some (.flat true cs)) = some (.sl len (sub cs off (len * sz)), []) := rfl
def frR (id off : Nat) : Option Ob → Option (T × List Eff)
  | some (.flat true cs) => some (.box cs off, [])
  | some (.flat false cs) => some (.box cs off, [.set id (.flat true cs)])
  | some (.mix true cs) => (allT cs).map fun ts => (.box ts off, [])
  | some (.mix false cs) => (allT cs).map fun ts => (.box ts off, [.set id (.mix true cs)])
  | _ => none
theorem z_r {get : Nat → Option Ob} {id off : Nat} : frzC get (.ref id off) = frR id off (get id) := by
  simp only [frzC, frR]
  cases get id with
  | none => rfl
  | some o => cases o with
    | flat b cs => cases b <;> rfl
    | mix b cs => cases b <;> rfl
    | gone => rfl
theorem z_rm {id off : Nat} {cs : List C} : frR id off (some (.mix false cs)) = (allT cs).map fun ts => (.box ts off, [.set id (.mix true cs)]) := rfl
theorem at_n : allT [] = some [] := rfl
theorem at_t {x : T} {cs : List C} : allT (.t x :: cs) = (allT cs).map (x :: ·) := rfl
def frV : Option (V × List Eff) → Option V
  | some (v, _) => some v
  | none => none
theorem zr_c {get : Nat → Option Ob} {x : C} : frzR get (.c x) = frV (frzV get (.c x)) := by
  simp only [frzR]; cases frzV get (.c x) <;> rfl
theorem zr_a {get : Nat → Option Ob} {x : List C} : frzR get (.agg x) = frV (frzV get (.agg x)) := by
  simp only [frzR]; cases frzV get (.agg x) <;> rfl
theorem zr_v {v : V} {es : List Eff} : frV (some (v, es)) = some v := rfl
def frT : Option (List V × List Eff) → Option V
  | some (v, _) => some (.tup v)
  | none => none
theorem zr_t {get : Nat → Option Ob} {x : List V} : frzR get (.tup x) = frT (frzVs get x) := by
  simp only [frzR]; cases frzVs get x <;> rfl
theorem zr_ts {v : List V} {es : List Eff} : frT (some (v, es)) = some (.tup v) := rfl
theorem zv_n {get : Nat → Option Ob} : frzVs get [] = some ([], []) := rfl
def frW : Option (V × List Eff) → Option (List V × List Eff) → Option (List V × List Eff)
  | some (x, es), some (xs, fs) => some (x :: xs, es ++ fs)
  | _, _ => none
theorem zv_k {get : Nat → Option Ob} {c : V} {cs : List V} : frzVs get (c :: cs) = frW (frzV get c) (frzVs get cs) := by
  simp only [frzVs]
  cases frzV get c with
  | none => rfl
  | some p => cases frzVs get cs <;> rfl
theorem zv_d {x : V} {xs : List V} {es fs : List Eff} : frW (some (x, es)) (some (xs, fs)) = some (x :: xs, es ++ fs) := rfl
theorem sub_all {k : IntKind} {zs : List Int} : sub (ks k zs) 0 zs.length = ks k zs := by
  simp only [sub, List.drop_zero]
  exact List.take_of_length_le (by simp [ks])
theorem sub_allN {cs : List T} {m : Nat} (h : cs.length = m) : sub cs 0 m = cs := by subst h; simp [sub]
theorem r_nil : runIs E L0 [] ⟨fr, H⟩ = some ⟨fr, H⟩ := rfl
theorem r_cons {i : Ins} {is : List Ins} : runIs E L0 (i :: is) ⟨fr, H⟩ = (stepIns E L0 i ⟨fr, H⟩).bind (runIs E L0 is) := rfl
def K.fl (k : K) : Nat := if k.isOst then 2 else if k.isO then 1 else 0
def aft (m : Md) (L0 : Nat) (c : Nat) (d : Option Nat) (fr : List V) (H : List Ob) : Out → Option St
  | none => none
  | some (v, es) =>
    if (match d with | some d => c == 2 || !((fr.getD d .any).isO) | none => c == 0) && (c != 0 || !v.isO) then (applyE m L0 es H).map fun H => ⟨put fr d v, H⟩ else none
theorem s_do {d : Option Nat} {o : K} {xs : List Operand} {m : Md} : stepIns E L0 ⟨d, o, xs, none, m⟩ ⟨fr, H⟩ = aft m L0 o.fl d fr H (step E.tb E.imp E.orc m.own (getM m L0 H) (m.nx H.length) o (xs.map (ev fr))) := by
  have h1 : (o.fl == 2) = o.isOst := by unfold K.fl; cases o.isOst <;> cases o.isO <;> rfl
  have h2 : (o.fl != 0) = o.isO := by
    have : o.isOst = true → o.isO = true := by cases o <;> simp [K.isOst, K.isO]
    unfold K.fl
    revert this
    cases o.isOst <;> cases o.isO <;> simp
  have h3 : (o.fl == 0) = !o.isO := by rw [← h2]; simp [bne]
  simp only [stepIns, doIns]
  generalize step E.tb E.imp E.orc m.own (getM m L0 H) (m.nx H.length) o (xs.map (ev fr)) = r
  cases r with
  | none => rfl
  | some p =>
    obtain ⟨v, es⟩ := p
    simp only [aft, h1, h2, h3, free]
    cases applyE m L0 es H <;> cases d <;> rfl
theorem s_g {d : Option Nat} {o : K} {xs : List Operand} {m : Md} {g : Nat} {w : Bool} : stepIns E L0 ⟨d, o, xs, some (g, w), m⟩ ⟨fr, H⟩ =
    match fr.getD g .any with
    | .c (.t (.bool b)) => if b = w then stepIns E L0 ⟨d, o, xs, none, m⟩ ⟨fr, H⟩ else skipIns ⟨d, o, xs, some (g, w), m⟩ ⟨fr, H⟩
    | .tup [] => skipIns ⟨d, o, xs, some (g, w), m⟩ ⟨fr, H⟩
    | _ => none := rfl
theorem s_skip {d : Nat} {o : K} {xs : List Operand} {m : Md} {g : Option (Nat × Bool)} : skipIns ⟨some d, o, xs, g, m⟩ ⟨fr, H⟩ = if (!(fr.getD d .any).isO) = true then some ⟨fr.set d (.tup []), H⟩ else none := rfl
theorem s_skipn {o : K} {xs : List Operand} {m : Md} {g : Option (Nat × Bool)} : skipIns ⟨none, o, xs, g, m⟩ ⟨fr, H⟩ = some ⟨fr, H⟩ := rfl
theorem a_none {m : Md} {c : Nat} {d : Option Nat} : aft m L0 c d fr H none = none := rfl
theorem a_0 {m : Md} {d : Nat} {v : V} {es : List Eff} : aft m L0 0 (some d) fr H (some (v, es)) = if (!(fr.getD d .any).isO && !v.isO) = true then (applyE m L0 es H).map (fun H => ⟨fr.set d v, H⟩) else none := rfl
theorem a_0n {m : Md} {v : V} {es : List Eff} : aft m L0 0 none fr H (some (v, es)) = if (!v.isO) = true then (applyE m L0 es H).map (fun H => ⟨fr, H⟩) else none := rfl
theorem a_1 {m : Md} {d : Nat} {v : V} {es : List Eff} : aft m L0 1 (some d) fr H (some (v, es)) = if (!(fr.getD d .any).isO) = true then (applyE m L0 es H).map (fun H => ⟨fr.set d v, H⟩) else none := by
  simp [aft, put]
theorem a_2 {m : Md} {d : Nat} {v : V} {es : List Eff} : aft m L0 2 (some d) fr H (some (v, es)) = (applyE m L0 es H).map (fun H => ⟨fr.set d v, H⟩) := rfl
theorem a_ite {m : Md} {c : Nat} {d : Option Nat} {p : Prop} [Decidable p] {x y : Out} : aft m L0 c d fr H (if p then x else y) = if p then aft m L0 c d fr H x else aft m L0 c d fr H y := by split <;> rfl
theorem io_c {x : C} : V.isO (.c x) = false := rfl
theorem io_a {x : List C} : V.isO (.agg x) = false := rfl
theorem io_t {x : List V} : V.isO (.tup x) = false := rfl
theorem io_n : V.isO .any = false := rfl
theorem io_o {x : List C} : V.isO (.own x) = true := rfl
theorem io_r {s o : Nat} : V.isO (.oref s o) = true := rfl
theorem io_ite {p : Prop} [Decidable p] {x y : V} : V.isO (if p then x else y) = if p then x.isO else y.isO := by split <;> rfl
theorem v_tmp {t : Nat} : ev fr (.tmp t) = fr.getD t .any := rfl
theorem v_int {k : IntKind} {x : Int} : ev fr (.const (.int k x)) = .c (.t (.int k x)) := rfl
theorem v_bool {b : Bool} : ev fr (.const (.bool b)) = .c (.t (.bool b)) := rfl
theorem v_nils : ev fr (.const (.slice none 0 0)) = .c (.t .nils) := rfl
theorem v_nilp : ev fr (.const (.pointer none)) = .c (.t .nilp) := rfl
theorem v_str {s : ByteArray} : ev fr (.const (.string s)) = .c (.t (.str s)) := rfl
theorem v_func {f : FuncId} : ev fr (.func f) = .c (.t (.fn f)) := rfl
theorem ap_nil {m : Md} : applyE m L0 [] H = some H := by cases m <;> rfl
theorem ap_push {o : Ob} {es : List Eff} : applyE .sync L0 (.push o :: es) H = applyE .sync L0 es (H ++ [o]) := rfl
theorem ap_pusha {o : Ob} {es : List Eff} : applyE .al L0 (.push o :: es) H = applyE .al L0 es (H ++ [o]) := rfl
theorem ap_set {o : Ob} {id : Nat} {es : List Eff} : applyE .sync L0 (.set id o :: es) H = applyE .sync L0 es (H.set id o) := rfl
theorem ap_seta {o : Ob} {id : Nat} {es : List Eff} : applyE .al L0 (.set id o :: es) H = if L0 ≤ id then applyE .al L0 es (H.set id o) else none := rfl
theorem gm_s {id : Nat} : getM .sync L0 H id = H[id]? := rfl
theorem gm_a {id : Nat} : getM .al L0 H id = H[id]? := rfl
theorem gm_l {id : Nat} : getM .low L0 H id = if id < L0 then H[id]? else none := rfl
theorem m_s {n : Nat} : Md.nx .sync n = n := rfl
theorem m_a {n : Nat} : Md.nx .al n = n := rfl
theorem m_l {n : Nat} : Md.nx .low n = 0 := rfl
theorem m_f {n : Nat} : Md.nx .free n = 0 := rfl
theorem mo_s : Md.own .sync = true := rfl
theorem mo_a : Md.own .al = true := rfl
theorem mo_l : Md.own .low = false := rfl
theorem mo_f : Md.own .free = false := rfl
end
section
theorem fl_mv : K.fl .mv = 0 := rfl
theorem fl_pick : K.fl .pick = 0 := rfl
theorem fl_bin {o : BinOp} {t : TypeId} : K.fl (.bin o t) = 0 := rfl
theorem fl_un {o : UnOp} : K.fl (.un o) = 0 := rfl
theorem fl_conv {o : IntKind} : K.fl (.conv o) = 0 := rfl
theorem fl_alloc {t : TypeId} : K.fl (.alloc t) = 0 := rfl
theorem fl_box {t : TypeId} : K.fl (.box t) = 0 := rfl
theorem fl_mks {t : TypeId} {n : Nat} {l : List Nat} : K.fl (.mkslice t n l) = 0 := rfl
theorem fl_make {t : TypeId} : K.fl (.make t) = 0 := rfl
theorem fl_load {t : TypeId} : K.fl (.load t) = 0 := rfl
theorem fl_store {t : TypeId} : K.fl (.store t) = 0 := rfl
theorem fl_iaddr {t : TypeId} : K.fl (.iaddr t) = 0 := rfl
theorem fl_faddr {t : TypeId} {i : Nat} : K.fl (.faddr t i) = 0 := rfl
theorem fl_mkfn {f : FuncId} : K.fl (.mkfn f) = 0 := rfl
theorem fl_ext {i : Nat} : K.fl (.ext i) = 0 := rfl
theorem fl_len {t : TypeId} : K.fl (.len t) = 0 := rfl
theorem fl_max : K.fl .max = 0 := rfl
theorem fl_min : K.fl .min = 0 := rfl
theorem fl_app {t : TypeId} : K.fl (.append t) = 0 := rfl
theorem fl_index {t : TypeId} : K.fl (.index t) = 0 := rfl
theorem fl_field {t : TypeId} {i : Nat} : K.fl (.field t i) = 0 := rfl
theorem fl_build {t : TypeId} {l : List Nat} : K.fl (.build t l) = 0 := rfl
theorem fl_nilck : K.fl .nilck = 0 := rfl
theorem fl_slice {t : TypeId} {a b : Bool} : K.fl (.slice t a b) = 0 := rfl
theorem fl_copy {t : TypeId} : K.fl (.copy t) = 0 := rfl
theorem fl_b2s : K.fl .b2s = 0 := rfl
theorem fl_obox {t : TypeId} : K.fl (.obox t) = 1 := rfl
theorem fl_oalloc {t : TypeId} : K.fl (.oalloc t) = 1 := rfl
theorem fl_ofaddr {t : TypeId} {i z s : Nat} : K.fl (.ofaddr t i z s) = 1 := rfl
theorem fl_oload {t : TypeId} {z s : Nat} : K.fl (.oload t z s) = 1 := rfl
theorem fl_ostore {t : TypeId} {z s : Nat} : K.fl (.ostore t z s) = 2 := rfl
theorem fl_call {f : FuncId} : K.fl (.call f) = 0 := rfl
theorem fl_callv : K.fl .callv = 0 := rfl
end
section
variable {tb : Tab} {imp : FuncId → Bool} {orc : Orc} {own : Bool} {get : Nat → Option Ob} {nx : Nat}
theorem t_mv {v : V} : step tb imp orc own get nx .mv [v] = some (v, []) := rfl
theorem t_pick {b : Bool} {x y : V} : step tb imp orc own get nx .pick [.c (.t (.bool b)), x, y] = some (if b then x else y, []) := rfl
theorem t_not {b : Bool} : step tb imp orc own get nx (.un .not) [.c (.t (.bool b))] = some (.c (.t (.bool (!b))), []) := rfl
theorem t_neg {k : IntKind} {x : Int} : step tb imp orc own get nx (.un .neg) [.c (.t (.int k x))] = some (.c (.t (.int k (k.wrap (0 - x)))), []) := rfl
theorem t_conv {k d : IntKind} {x : Int} : step tb imp orc own get nx (.conv d) [.c (.t (.int k x))] = some (.c (.t (.int d (d.wrap x))), []) := rfl
def o1 : Option T → Out | some r => some (.c (.t r), []) | none => none
theorem o1_some {r : T} : o1 (some r) = some (.c (.t r), []) := rfl
theorem t_bin {op : BinOp} {t : TypeId} {x y : Int} {k : IntKind} : step tb imp orc own get nx (.bin op t) [.c (.t (.int k x)), .c (.t (.int k y))] = o1 (if BinOp.shifts op then binS op k x y else binI op k x y) := by
  simp only [step, sBin, bin, if_true]
  rfl
theorem t_shl {t : TypeId} {x y : Int} {k k' : IntKind} (h : 0 ≤ y) : step tb imp orc own get nx (.bin .shl t) [.c (.t (.int k x)), .c (.t (.int k' y))] = some (.c (.t (.int k (k.wrap (x * 2 ^ min y.toNat k.bits)))), []) := by
  simp only [step, sBin, bin, BinOp.shifts, if_true, binS]
  rw [if_neg (by omega)]
theorem t_shr {t : TypeId} {x y : Int} {k k' : IntKind} (h : 0 ≤ y) : step tb imp orc own get nx (.bin .shr t) [.c (.t (.int k x)), .c (.t (.int k' y))] = some (.c (.t (.int k (x.fdiv (2 ^ min y.toNat k.bits)))), []) := by
  simp only [step, sBin, bin, BinOp.shifts, if_true, binS]
  rw [if_neg (by omega)]
theorem b_shl {k : IntKind} {x y : Int} (h : 0 ≤ y) : o1 (if BinOp.shifts .shl then binS .shl k x y else binI .shl k x y) = some (.c (.t (.int k (k.wrap (x * 2 ^ min y.toNat k.bits)))), []) := by
  simp only [BinOp.shifts, if_true, binS]
  rw [if_neg (by omega)]
  rfl
theorem b_shr {k : IntKind} {x y : Int} (h : 0 ≤ y) : o1 (if BinOp.shifts .shr then binS .shr k x y else binI .shr k x y) = some (.c (.t (.int k (x.fdiv (2 ^ min y.toNat k.bits)))), []) := by
  simp only [BinOp.shifts, if_true, binS]
  rw [if_neg (by omega)]
  rfl
theorem shr_u32 {x : Int} : x.fdiv (2 ^ min 32 IntKind.u64.bits) = x / 4294967296 := by
  show x.fdiv 4294967296 = _
  rw [Int.fdiv_eq_ediv_of_nonneg _ (by decide)]
theorem shr_u63 {x : Int} : x.fdiv (2 ^ min 63 IntKind.u64.bits) = x / 9223372036854775808 := by
  show x.fdiv 9223372036854775808 = _
  rw [Int.fdiv_eq_ediv_of_nonneg _ (by decide)]
theorem shr_1 {x : Int} : x.fdiv (2 ^ min 1 IntKind.u32.bits) = x / 2 := by
  show x.fdiv 2 = _
  rw [Int.fdiv_eq_ediv_of_nonneg _ (by decide)]
theorem shl_u32 {x : Int} : IntKind.u64.wrap (x * 2 ^ min 32 IntKind.u64.bits) = (x * 4294967296) % 18446744073709551616 := rfl
theorem b_add {k : IntKind} {x y : Int} : o1 (if BinOp.shifts .add then binS .add k x y else binI .add k x y) = some (.c (.t (.int k (k.wrap (x + y)))), []) := rfl
theorem b_sub {k : IntKind} {x y : Int} : o1 (if BinOp.shifts .sub then binS .sub k x y else binI .sub k x y) = some (.c (.t (.int k (k.wrap (x - y)))), []) := rfl
theorem b_mul {k : IntKind} {x y : Int} : o1 (if BinOp.shifts .mul then binS .mul k x y else binI .mul k x y) = some (.c (.t (.int k (k.wrap (x * y)))), []) := rfl
theorem b_quo {k : IntKind} {x y : Int} (h : y ≠ 0) : o1 (if BinOp.shifts .quo then binS .quo k x y else binI .quo k x y) = some (.c (.t (.int k (k.wrap (x.tdiv y)))), []) := by
  simp [BinOp.shifts, binI, h, o1]
theorem b_rem {k : IntKind} {x y : Int} (h : y ≠ 0) : o1 (if BinOp.shifts .rem then binS .rem k x y else binI .rem k x y) = some (.c (.t (.int k (x.tmod y))), []) := by
  simp [BinOp.shifts, binI, h, o1]
theorem b_and {k : IntKind} {x y : Int} : o1 (if BinOp.shifts .and then binS .and k x y else binI .and k x y) = some (.c (.t (.int k (bits k (· &&& ·) x y))), []) := rfl
theorem b_or {k : IntKind} {x y : Int} : o1 (if BinOp.shifts .or then binS .or k x y else binI .or k x y) = some (.c (.t (.int k (bits k (· ||| ·) x y))), []) := rfl
theorem b_xor {k : IntKind} {x y : Int} : o1 (if BinOp.shifts .xor then binS .xor k x y else binI .xor k x y) = some (.c (.t (.int k (bits k (· ^^^ ·) x y))), []) := rfl
theorem b_eql {k : IntKind} {x y : Int} : o1 (if BinOp.shifts .eql then binS .eql k x y else binI .eql k x y) = some (.c (.t (.bool (decide (x = y)))), []) := rfl
theorem b_neq {k : IntKind} {x y : Int} : o1 (if BinOp.shifts .neq then binS .neq k x y else binI .neq k x y) = some (.c (.t (.bool (!decide (x = y)))), []) := rfl
theorem b_lss {k : IntKind} {x y : Int} : o1 (if BinOp.shifts .lss then binS .lss k x y else binI .lss k x y) = some (.c (.t (.bool (decide (x < y)))), []) := rfl
theorem b_leq {k : IntKind} {x y : Int} : o1 (if BinOp.shifts .leq then binS .leq k x y else binI .leq k x y) = some (.c (.t (.bool (decide (x ≤ y)))), []) := rfl
theorem b_gtr {k : IntKind} {x y : Int} : o1 (if BinOp.shifts .gtr then binS .gtr k x y else binI .gtr k x y) = some (.c (.t (.bool (decide (y < x)))), []) := rfl
theorem b_geq {k : IntKind} {x y : Int} : o1 (if BinOp.shifts .geq then binS .geq k x y else binI .geq k x y) = some (.c (.t (.bool (decide (y ≤ x)))), []) := rfl
theorem w64_eq (x : Int) : IntKind.i64.wrap x = if 9223372036854775808 ≤ x % 18446744073709551616 then x % 18446744073709551616 - 18446744073709551616 else x % 18446744073709551616 := by
  show (if (true && decide (x % 18446744073709551616 ≥ 9223372036854775808)) = true then _ else _) = _
  simp only [Bool.true_and, decide_eq_true_eq, ge_iff_le]
  rfl
theorem w64 {x : Int} (h : -9223372036854775808 ≤ x) (h2 : x ≤ 9223372036854775807) : IntKind.i64.wrap x = x := by
  rw [w64_eq]
  split <;> omega
theorem wu64 (x : Int) : IntKind.u64.wrap x = x % 18446744073709551616 := rfl
theorem wu32 (x : Int) : IntKind.u32.wrap x = x % 4294967296 := rfl
theorem wu8 (x : Int) : IntKind.u8.wrap x = x % 256 := rfl
theorem wu8' {x : Int} (h : 0 ≤ x) (h2 : x ≤ 255) : IntKind.u8.wrap x = x := by rw [wu8]; omega
theorem wu64' {x : Int} (h : 0 ≤ x) (h2 : x ≤ 18446744073709551615) : IntKind.u64.wrap x = x := by rw [wu64]; omega
theorem wu32' {x : Int} (h : 0 ≤ x) (h2 : x ≤ 4294967295) : IntKind.u32.wrap x = x := by rw [wu32]; omega
def callP (es : List Eff) : Option (V × List Ob) → Out
  | some (r, []) => some (r, es)
  | _ => none
theorem p_callP {es : List Eff} {r : V} : callP es (some (r, [])) = some (r, es) := rfl
def callV (orc : Orc) (f : FuncId) : Option (List V × List Eff) → Out
  | some (us, es) => callP es (orc f us [])
  | none => none
theorem p_callV {f : FuncId} {us : List V} {es : List Eff} : callV orc f (some (us, es)) = callP es (orc f us []) := rfl
def callO (b : Bool) (x y : Out) : Out := if b then none else x
theorem t_call {f : FuncId} {vs : List V} (hi : imp f = false) : step tb imp orc own get nx (.call f) vs = if vs.any V.isO = true then none else callV orc f (frzVs get vs) := by
  simp only [step, callF, hi, Bool.false_eq_true, if_false]
  split
  · rfl
  · cases frzVs get vs with
    | none => rfl
    | some p =>
      obtain ⟨us, es⟩ := p
      simp only [callV]
      cases orc f us [] with
      | none => rfl
      | some q =>
        obtain ⟨r, H⟩ := q
        cases H <;> rfl
theorem any_n {p : V → Bool} : List.any [] p = false := rfl
theorem any_c {p : V → Bool} {v : V} {vs : List V} : List.any (v :: vs) p = (p v || List.any vs p) := rfl
def callI (nx : Nat) (live : List Nat) : Option (V × List Ob) → Out
  | some (r, os') => if live.length ≤ os'.length then some (renV (back live nx) r, sets (back live nx) live os') else none
  | none => none
def callL (orc : Orc) (f : FuncId) (vs : List V) (nx : Nat) (live : List Nat) : Option (List Ob) → Out
  | some os => callI nx live (orc f (vs.map (renV (pos live))) (os.map (renO (pos live))))
  | none => none
theorem t_calli {f : FuncId} {vs : List V} (hi : imp f = true) : step tb imp orc own get nx (.call f) vs = if vs.any V.isO = true then none else callL orc f vs nx (reach get depth (vs.flatMap idsV) []) (getAllO get (reach get depth (vs.flatMap idsV) [])) := by
  simp only [step, callF, hi, if_true]
  split
  · rfl
  · cases getAllO get (reach get depth (vs.flatMap idsV) []) with
    | none => rfl
    | some os =>
      simp only [callL]
      cases orc f (vs.map (renV (pos (reach get depth (vs.flatMap idsV) [])))) (os.map (renO (pos (reach get depth (vs.flatMap idsV) [])))) <;> rfl
def callZ (nx : Nat) : Option (V × List Ob) → Out
  | some (r, os') => some (renV (back [] nx) r, sets (back [] nx) [] os')
  | none => none
theorem t_cz1 {f : FuncId} {x : T} (hi : imp f = true) : step tb imp orc own get nx (.call f) [.c (.t x)] = callZ nx (orc f [.c (.t x)] []) := by
  rw [t_calli hi]
  show (match orc f [.c (.t x)] [] with | some (r, os') => if 0 ≤ os'.length then some (renV (back [] nx) r, sets (back [] nx) [] os') else none | none => none) = _
  cases orc f [.c (.t x)] [] <;> rfl
theorem cz_t {x : T} : callZ nx (some (.c (.t x), [])) = some (.c (.t x), []) := rfl
def callJ (id nx : Nat) (old : Out) (go : Ob → Option (V × List Ob)) : Option Ob → Out
  | some (.flat b cs) => match go (.flat b cs) with | some (r, o :: os) => some (renV (back [id] nx) r, sets (back [id] nx) [id] (o :: os)) | _ => none
  | _ => old
theorem cj_f {id nx : Nat} {old : Out} {go : Ob → Option (V × List Ob)} {b : Bool} {cs : List T} : callJ id nx old go (some (.flat b cs)) = match go (.flat b cs) with | some (r, o :: os) => some (renV (back [id] nx) r, sets (back [id] nx) [id] (o :: os)) | _ => none := rfl
theorem callJ_eq {f : FuncId} {id off len sz : Nat} {ts : List T} (hi : imp f = true) :
    step tb imp orc own get nx (.call f) (.c (.osl id off len sz) :: ts.map fun x => .c (.t x)) = callJ id nx (callF imp orc get nx f (.c (.osl id off len sz) :: ts.map fun x => .c (.t x))) (fun o => orc f (.c (.osl 0 off len sz) :: ts.map fun x => .c (.t x)) [o]) (get id) := by
  cases hg : get id with
  | none => rfl
  | some o =>
    cases o with
    | flat b cs =>
      rw [cj_f, t_calli hi]
      have h0 : ∀ ts : List T, (ts.map fun x => V.c (.t x)).any V.isO = false := by
        intro ts; induction ts with
        | nil => rfl
        | cons x ts ih => simpa [V.isO] using ih
      have h1 : ∀ ts : List T, (ts.map fun x => V.c (.t x)).flatMap idsV = [] := by
        intro ts; induction ts with
        | nil => rfl
        | cons x ts ih => simpa [idsV, idsV1, idsC] using ih
      have h2 : (V.c (.osl id off len sz) :: ts.map fun x => V.c (.t x)).flatMap idsV = [id] := by
        rw [List.flatMap_cons, h1]; rfl
      have h3 : reach get depth [id] [] = [id] := by
        show reach get (199 + 1) [id] [] = _
        simp only [reach, pos, hg, idsO, List.append_nil, List.nil_append]
      have h4 : getAllO get [id] = some [.flat b cs] := by simp [getAllO, hg]
      have h5 : ∀ ts : List T, (ts.map fun x => V.c (.t x)).map (renV (pos [id])) = ts.map fun x => V.c (.t x) := by
        intro ts; rw [List.map_map]; rfl
      have h6 : (V.c (.osl id off len sz) :: ts.map fun x => V.c (.t x)).any V.isO = false := by
        rw [List.any_cons, h0]; rfl
      rw [h2, h3, h4, h6]
      simp only [Bool.false_eq_true, if_false, callL, List.map_cons, h5, List.map_nil, renO]
      have h7 : renV (pos [id]) (.c (.osl id off len sz)) = .c (.osl 0 off len sz) := by simp [renV, renV1, renC, pos]
      rw [h7]
      cases orc f (.c (.osl 0 off len sz) :: ts.map fun x => V.c (.t x)) [.flat b cs] with
      | none => rfl
      | some p =>
        obtain ⟨r, os⟩ := p
        cases os with
        | nil => rfl
        | cons o os => simp [callI]
    | mix b cs => rfl
    | gone => rfl
theorem t_cj1 {f : FuncId} {id off len sz : Nat} (hi : imp f = true) : step tb imp orc own get nx (.call f) [.c (.osl id off len sz)] = callJ id nx (callF imp orc get nx f [.c (.osl id off len sz)]) (fun o => orc f [.c (.osl 0 off len sz)] [o]) (get id) := callJ_eq (ts := []) hi
theorem t_cj2 {f : FuncId} {id off len sz : Nat} {x : T} (hi : imp f = true) : step tb imp orc own get nx (.call f) [.c (.osl id off len sz), .c (.t x)] = callJ id nx (callF imp orc get nx f [.c (.osl id off len sz), .c (.t x)]) (fun o => orc f [.c (.osl 0 off len sz), .c (.t x)] [o]) (get id) := callJ_eq (ts := [x]) hi
theorem t_cj3 {f : FuncId} {id off len sz : Nat} {x y : T} (hi : imp f = true) : step tb imp orc own get nx (.call f) [.c (.osl id off len sz), .c (.t x), .c (.t y)] = callJ id nx (callF imp orc get nx f [.c (.osl id off len sz), .c (.t x), .c (.t y)]) (fun o => orc f [.c (.osl 0 off len sz), .c (.t x), .c (.t y)] [o]) (get id) := callJ_eq (ts := [x, y]) hi
theorem cj_o {id off len sz : Nat} : renV (back [id] nx) (.c (.osl 0 off len sz)) = .c (.osl id off len sz) := by simp [renV, renV1, renC, back]
theorem cj_t {id : Nat} {x : T} : renV (back [id] nx) (.c (.t x)) = .c (.t x) := rfl
theorem cj_s {id : Nat} {b : Bool} {cs : List T} : sets (back [id] nx) [id] [.flat b cs] = [.set id (.flat b cs)] := rfl
theorem e_0 {v : V} {vs : List V} : step tb imp orc own get nx (.ext 0) [.tup (v :: vs)] = some (v, []) := rfl
theorem e_1 {v w : V} {vs : List V} : step tb imp orc own get nx (.ext 1) [.tup (v :: w :: vs)] = some (w, []) := rfl
theorem e_2 {v w x : V} {vs : List V} : step tb imp orc own get nx (.ext 2) [.tup (v :: w :: x :: vs)] = some (x, []) := rfl
theorem t_beq {t : TypeId} {a b : Nat} {c : List CK} {x y : Bool} (h : tb.at t = ⟨.bool, a, b, c⟩) : step tb imp orc own get nx (.bin .eql t) [.c (.t (.bool x)), .c (.t (.bool y))] = some (.c (.t (.bool (x == y))), []) := by
  simp [step, sBin, bin, h]
theorem t_bne {t : TypeId} {a b : Nat} {c : List CK} {x y : Bool} (h : tb.at t = ⟨.bool, a, b, c⟩) : step tb imp orc own get nx (.bin .neq t) [.c (.t (.bool x)), .c (.t (.bool y))] = some (.c (.t (.bool (!(x == y)))), []) := by
  simp [step, sBin, bin, h]
theorem t_max {k : IntKind} {x y : Int} : step tb imp orc own get nx .max [.c (.t (.int k x)), .c (.t (.int k y))] = some (.c (.t (.int k (if y > x then y else x))), []) := rfl
theorem t_min {k : IntKind} {x y : Int} : step tb imp orc own get nx .min [.c (.t (.int k x)), .c (.t (.int k y))] = some (.c (.t (.int k (if y < x then y else x))), []) := rfl
section
variable {t e : TypeId} {a b : Nat} {c : List CK}
theorem t_len {m : Nat} {cs : List T} (h : tb.at t = ⟨.slice e, a, b, c⟩) : step tb imp orc own get nx (.len t) [.c (.t (.sl m cs))] = some (.c (.t (.int .i64 m)), []) := by
  simp [step, h, sLen]
theorem t_lenn (h : tb.at t = ⟨.slice e, a, b, c⟩) : step tb imp orc own get nx (.len t) [.c (.t .nils)] = some (.c (.t (.int .i64 0)), []) := by
  simp [step, h, sLen]
theorem t_leno {id off len sz : Nat} (h : tb.at t = ⟨.slice e, a, b, c⟩) : step tb imp orc own get nx (.len t) [.c (.osl id off len sz)] = some (.c (.t (.int .i64 len)), []) := by
  simp [step, h, sLen]
theorem t_lens {s : ByteArray} (h : tb.at t = ⟨.str, a, b, c⟩) : step tb imp orc own get nx (.len t) [.c (.t (.str s))] = some (.c (.t (.int .i64 s.size)), []) := by
  simp [step, h, sLen]
theorem t_idx {m : Nat} {cs : List T} {k : IntKind} {i : Int} (h : tb.at t = ⟨.slice e, a, b, c⟩) (h2 : tb.ok e = true) (h5 : (tb.at e).size = 1) (h3 : 0 ≤ i) (h4 : i < m) :
    step tb imp orc own get nx (.iaddr t) [.c (.t (.sl m cs)), .c (.t (.int k i))] = some (.c (.t (.box cs i.toNat)), []) := by
  simp [step, h, sIaddr, h2, h3, h4, h5]
theorem t_idxo {id off len : Nat} {k : IntKind} {i : Int} (h : tb.at t = ⟨.slice e, a, b, c⟩) (h2 : tb.ok e = true) (h5 : (tb.at e).size = 1) (h3 : 0 ≤ i) (h4 : i < len) :
    step tb imp orc own get nx (.iaddr t) [.c (.osl id off len 1), .c (.t (.int k i))] = some (.c (.ref id (off + i.toNat)), []) := by
  simp [step, h, sIaddr, h2, h3, h4, h5]
theorem t_slr {m : Nat} {cs : List T} {k : IntKind} {i : Int} (h : tb.at t = ⟨.slice e, a, b, c⟩) (h2 : tb.ok e = true) (h5 : (tb.at e).size = 1) (h3 : 0 ≤ i) (h4 : i ≤ m) :
    step tb imp orc own get nx (.slice t false true) [.c (.t (.sl m cs)), .c (.t (.int k i))] = some (.c (.t (.sl i.toNat (cs.take i.toNat))), []) := by
  simp [step, h, sSlice, h2, h3, h4, h5, slB, sub]
theorem t_sll {m : Nat} {cs : List T} {k : IntKind} {i : Int} (h : tb.at t = ⟨.slice e, a, b, c⟩) (h2 : tb.ok e = true) (h5 : (tb.at e).size = 1) (h3 : 0 ≤ i) (h4 : i ≤ m) :
    step tb imp orc own get nx (.slice t true false) [.c (.t (.sl m cs)), .c (.t (.int k i))] = some (.c (.t (.sl (m - i.toNat) ((cs.drop i.toNat).take (m - i.toNat)))), []) := by
  simp [step, h, sSlice, h2, h3, h4, h5, slB, sub]
theorem t_slro {id off len : Nat} {k : IntKind} {i : Int} (h : tb.at t = ⟨.slice e, a, b, c⟩) (h2 : tb.ok e = true) (h5 : (tb.at e).size = 1) (h3 : 0 ≤ i) (h4 : i ≤ len) :
    step tb imp orc own get nx (.slice t false true) [.c (.osl id off len 1), .c (.t (.int k i))] = some (.c (.osl id off i.toNat 1), []) := by
  simp [step, h, sSlice, h2, h3, h4, h5, slB]
theorem t_slmo {id off len : Nat} {k k' : IntKind} {i j : Int} (h : tb.at t = ⟨.slice e, a, b, c⟩) (h2 : tb.ok e = true) (h5 : (tb.at e).size = 1) (h3 : 0 ≤ i) (h4 : i ≤ j) (h6 : j ≤ len) (h7 : i < len) :
    step tb imp orc own get nx (.slice t true true) [.c (.osl id off len 1), .c (.t (.int k i)), .c (.t (.int k' j))] = some (.c (.osl id (off + i.toNat) (j.toNat - i.toNat) 1), []) := by
  have : i.toNat = 0 ∨ i.toNat < len := by omega
  simp [step, h, sSlice, h2, h5, slB, h3, h4, h6, this]
  exact fun _ => h7
theorem zr_int {k : IntKind} {n b' : Nat} : zeroRow ⟨.int k, 1, b', [.int k]⟩ n = ks k (List.replicate n 0) := by
  simp [zeroRow, TI.zeros, CK.zero, ks]
theorem t_make {l c' : Int} {k : IntKind} {b' : Nat} (h : tb.at t = ⟨.slice e, a, b, c⟩) (he : tb.at e = ⟨.int k, 1, b', [.int k]⟩) (hb : b' ≤ 8) (h1 : 0 ≤ l) (h2 : l ≤ c') (h3 : c' ≤ 35184372088832) :
    step tb imp orc own get nx (.make t) [.c (.t (.int .i64 l)), .c (.t (.int .i64 c'))] = some (.c (.osl nx 0 l.toNat 1), [.push (.flat false (ks k (List.replicate l.toNat 0)))]) := by
  simp only [step, h, sMake, TK.isSlice, TI.elem, he, isOther, Bool.not_false, Bool.and_self, if_true]
  rw [if_pos (by
    refine ⟨h1, h2, ?_, by omega⟩
    have : c' * (b' : Int) ≤ c' * 8 := Int.mul_le_mul_of_nonneg_left (by omega) (by omega)
    omega), zr_int]
theorem isI_ks {k : IntKind} {xs : List Int} {j : Nat} : isI k (ks k xs) j = decide (j < xs.length) := by
  unfold isI ks
  rw [List.getElem?_map]
  by_cases h : j < xs.length
  · rw [List.getElem?_eq_getElem h]; simp [h]
  · rw [List.getElem?_eq_none (by omega)]; simp [h]
theorem gI_ks {k : IntKind} {xs : List Int} {j : Nat} : gI (ks k xs) j = xs.getD j 0 := by
  unfold gI ks
  rw [List.getElem?_map, List.getD_eq_getElem?_getD]
  cases xs[j]? <;> rfl
theorem t_ldk {k : IntKind} {xs : List Int} {j : Nat} (h : tb.at t = ⟨.int k, a, b, [.int k]⟩) (hj : j < xs.length) :
    step tb imp orc own get nx (.load t) [.c (.t (.box (ks k xs) j))] = some (.c (.t (.int k (xs.getD j 0))), []) := by
  have h1 : isI k (ks k xs) j = true := by rw [isI_ks]; simpa using hj
  simp only [step, h, sLoad, isOther, T.isBox, T.bCs, T.bJ, loadT, isAll, CK.is, TI.isAgg, CK.get, h1, gI_ks]
  simp
def ldO (k : IntKind) (j : Nat) : Option Ob → Out
  | some (.flat _ cs) => if isI k cs j then some (.c (.t (.int k (gI cs j))), []) else none
  | some (.mix _ cs) => match cs[j]? with | some c => some (.c c, []) | none => none
  | _ => none
theorem t_ldo {k : IntKind} {id j : Nat} (h : tb.at t = ⟨.int k, a, b, [.int k]⟩) : step tb imp orc own get nx (.load t) [.c (.ref id j)] = ldO k j (get id) := by
  simp only [step, h, sLoad, isOther, loadT, isAll, CK.is, TI.isAgg, CK.get, loadC, Bool.false_eq_true, if_false, Bool.and_true, ldO]
  cases get id with
  | none => rfl
  | some o => cases o with
    | flat f cs => simp only []; cases isI k cs j <;> rfl
    | mix f cs => simp only []; cases cs[j]? <;> rfl
    | gone => rfl
theorem ldO_f {k : IntKind} {j : Nat} {f : Bool} {xs : List Int} (hj : j < xs.length) : ldO k j (some (.flat f (ks k xs))) = some (.c (.t (.int k (xs.getD j 0))), []) := by
  simp only [ldO]
  rw [isI_ks, gI_ks, if_pos (by simpa using hj)]
def stO (i : TI) (id j : Nat) (x : T) : Option Ob → Out
  | some (.flat false cs) => if j + 1 ≤ cs.length then some (.tup [], [.set id (.flat false (cs.set j x.wk))]) else none
  | some (.mix false cs) => if j + 1 ≤ cs.length then some (.tup [], [.set id (.mix false (cs.set j (.t x)))]) else none
  | _ => none
theorem t_sto {k k' : IntKind} {id j : Nat} {x : Int} (h : tb.at t = ⟨.int k, 1, b, [.int k]⟩) : step tb imp orc own get nx (.store t) [.c (.ref id j), .c (.t (.int k' x))] = stO ⟨.int k, 1, b, [.int k]⟩ id j (.int k' x) (get id) := by
  simp only [step, h, sStore, isOther, Bool.false_eq_true, if_false, stO]
  cases get id with
  | none => rfl
  | some o => cases o with
    | flat f cs => cases f <;> simp [cellsT, frzC, T.wk, noSet, putCells]
    | mix f cs => cases f <;> simp [cellsC, nilsOf, phants, putCells]
    | gone => rfl
theorem stO_f {i : TI} {id j : Nat} {k : IntKind} {x : Int} {xs : List Int} (hj : j < xs.length) : stO i id j (.int k x) (some (.flat false (ks k xs))) = some (.tup [], [.set id (.flat false (ks k (xs.set j x)))]) := by
  simp only [stO]
  rw [if_pos (by simp [ks]; omega), wk_i]
  simp [ks, List.map_set]
end
end
end Go.AM

namespace Go.AM
section
variable {tb : Tab} {imp : FuncId → Bool} {orc : Orc} {own : Bool} {get : Nat → Option Ob} {nx : Nat} {t : TypeId} {a b : Nat} {ck : List CK} {tk : TK}
theorem cz_int {k : IntKind} : CK.zero (.int k) = .int k 0 := rfl
theorem cz_bool : CK.zero .bool = .bool false := rfl
theorem cz_str : CK.zero .str = .str ⟨#[]⟩ := rfl
theorem cz_ptr : CK.zero .ptr = .nilp := rfl
theorem cz_sl {n : Nat} : CK.zero (.sl n) = .nils := rfl
theorem t_oalloc (h : tb.at t = ⟨tk, a, b, ck⟩) (ho : isOther tk = false) : step tb imp orc own get nx (.oalloc t) [] = some (.own ((ck.map CK.zero).map .t), []) := by
  simp [step, h, sOalloc, ho, TI.zeros]
theorem t_oboxa {cs : List C} : step tb imp orc own get nx (.obox t) [.agg cs] = some (.own cs, []) := rfl
theorem t_oboxc {x : C} : step tb imp orc own get nx (.obox t) [.c x] = some (.own [x], []) := rfl
def ofA (s off : Nat) : Option Nat → Out
  | some o => some (.oref s (o + off), [])
  | none => none
theorem of_own {s : Nat} {cs : List C} : offO s s (.own cs) = some 0 := by simp [offO]
theorem of_ref {z s o : Nat} : offO z s (.oref s o) = some o := by simp [offO]
theorem ofA_s {s off o : Nat} : ofA s off (some o) = some (.oref s (o + off), []) := rfl
theorem t_ofa {fs : List (Nat × TypeId)} {i z s off t' : Nat} {vz : V} {cs : List C} (h : tb.at t = ⟨.struct fs, a, b, ck⟩) (hi : fs[i]? = some (off, t')) (ho : tb.ok t' = true) (hs : (tb.at t').size ≠ 0) :
    step tb imp orc own get nx (.ofaddr t i z s) [vz, .own cs] = ofA s off (offO z s vz) := by
  simp only [step, h, sOfaddr, hi]
  cases offO z s vz with
  | none => rfl
  | some o => simp [ho, hs, ofA]
def olC (cs : List C) : Option Nat → Out
  | some o => match cs[o]? with | some c => some (.c c, []) | none => none
  | none => none
theorem olC_s {cs : List C} {o : Nat} : olC cs (some o) = match cs[o]? with | some c => some (.c c, []) | none => none := rfl
theorem t_oload1 {z s : Nat} {vz : V} {cs : List C} (h : tb.at t = ⟨tk, a, b, ck⟩) (ho : isOther tk = false) (ha : TI.isAgg ⟨tk, a, b, ck⟩ = false) :
    step tb imp orc own get nx (.oload t z s) [vz, .own cs] = olC cs (offO z s vz) := by
  simp only [step, h, sOload, ho, Bool.false_eq_true, if_false]
  cases offO z s vz with
  | none => rfl
  | some o =>
    simp only [loadC, ha, Bool.false_eq_true, if_false, olC]
    cases cs[o]? <;> rfl
def olS (a : Nat) (cs : List C) : Option Nat → Out
  | some o => if o + a ≤ cs.length then some (.agg ((cs.drop o).take a), []) else none
  | none => none
theorem olS_s {cs : List C} {o : Nat} : olS a cs (some o) = if o + a ≤ cs.length then some (.agg ((cs.drop o).take a), []) else none := rfl
theorem t_oloads {fs : List (Nat × TypeId)} {z s : Nat} {vz : V} {cs : List C} (h : tb.at t = ⟨.struct fs, a, b, ck⟩) :
    step tb imp orc own get nx (.oload t z s) [vz, .own cs] = olS a cs (offO z s vz) := by
  simp only [step, h, sOload, isOther, Bool.false_eq_true, if_false]
  cases offO z s vz with
  | none => rfl
  | some o =>
    simp only [loadC, TI.isAgg, if_true, olS]
    split
    · rename_i hl
      split at hl
      · cases hl; rw [if_pos (by assumption)]
      · cases hl
    · rename_i hl
      split at hl
      · cases hl
      · rw [if_neg (by assumption)]
def osT (a : Nat) (cs : List C) : Option (List C) → Option Nat → Out
  | some xs, some o => if xs.length = a ∧ o + xs.length ≤ cs.length then some (.own (putCells cs o xs), []) else none
  | _, _ => none
theorem osT_s {cs xs : List C} {o : Nat} : osT a cs (some xs) (some o) = if xs.length = a ∧ o + xs.length ≤ cs.length then some (.own (putCells cs o xs), []) else none := rfl
theorem t_ostore {z s : Nat} {vz v : V} {cs : List C} (h : tb.at t = ⟨tk, a, b, ck⟩) (ho : isOther tk = false) :
    step tb imp orc own get nx (.ostore t z s) [vz, .own cs, v] = osT a cs (cellsC v) (offO z s vz) := by
  simp only [step, h, sOstore, ho, Bool.false_eq_true, if_false]
  cases offO z s vz with
  | none => cases cellsC v <;> rfl
  | some o => cases cellsC v <;> rfl
theorem cc_c {x : C} : cellsC (.c x) = some [x] := rfl
theorem cc_a {x : List C} : cellsC (.agg x) = some x := rfl
theorem pc_n {α : Type} {cs : List α} {j : Nat} : putCells cs j [] = cs := rfl
theorem pc_c {α : Type} {cs : List α} {j : Nat} {x : α} {xs : List α} : putCells cs j (x :: xs) = putCells (cs.set j x) (j + 1) xs := rfl
def bdV : Option (List C) → Out
  | some cs => some (.agg cs, [])
  | none => none
theorem bd_s {cs : List C} : bdV (some cs) = some (.agg cs, []) := rfl
theorem t_build {idx : List Nat} {vs : List V} {zs : List C} (h : placesOk tb (tb.at t).k = true) (hz : (tb.at t).zeros.map C.t = zs) : step tb imp orc own get nx (.build t idx) vs = bdV (fillC (place tb (tb.at t).k) idx vs zs) := by
  subst hz
  simp only [step, sBuild, h, if_true]
  cases fillC (place tb (tb.at t).k) idx vs ((tb.at t).zeros.map .t) <;> rfl
def fcS (pl : Nat → Option (Nat × Nat)) (is : List Nat) (vs : List V) (acc : List C) : Option (Nat × Nat) → Option (List C) → Option (List C)
  | some (off, sz), some xs => if xs.length = sz ∧ off + xs.length ≤ acc.length then fillC pl is vs (putCells acc off xs) else none
  | _, _ => none
theorem fc_n {pl : Nat → Option (Nat × Nat)} {acc : List C} : fillC pl [] [] acc = some acc := rfl
theorem fc_c {pl : Nat → Option (Nat × Nat)} {i : Nat} {is : List Nat} {v : V} {vs : List V} {acc : List C} : fillC pl (i :: is) (v :: vs) acc = fcS pl is vs acc (pl i) (cellsC v) := by
  simp only [fillC]
  cases pl i with
  | none => cases cellsC v <;> rfl
  | some p => cases cellsC v <;> rfl
theorem fc_s {pl : Nat → Option (Nat × Nat)} {is : List Nat} {vs : List V} {acc : List C} {off sz : Nat} {xs : List C} : fcS pl is vs acc (some (off, sz)) (some xs) = if xs.length = sz ∧ off + xs.length ≤ acc.length then fillC pl is vs (putCells acc off xs) else none := rfl
theorem rs_cellI {fr : List V} {s : Nat} {i : TI} (h : tb.at t = i) : rsV tb get fr (.cell s t) = rsD i get (fr.getD s .any) := by rw [rs_cell, h]
theorem t_fieldC {fs : List (Nat × TypeId)} {i off t' : Nat} {cs : List C} (h : tb.at t = ⟨.struct fs, a, b, ck⟩) (hi : fs[i]? = some (off, t')) (ho : tb.ok t' = true) (ha : TI.isAgg (tb.at t') = false) :
    step tb imp orc own get nx (.field t i) [.agg cs] = olC cs (some off) := by
  simp only [step, h, sField, hi, partC, ho, if_true, loadC, ha, Bool.false_eq_true, if_false, olC]
  cases cs[off]? <;> rfl
theorem t_fieldS {fs : List (Nat × TypeId)} {i off t' n : Nat} {cs : List C} (h : tb.at t = ⟨.struct fs, a, b, ck⟩) (hi : fs[i]? = some (off, t')) (ho : tb.ok t' = true) (ha : TI.isAgg (tb.at t') = true) (hn : (tb.at t').size = n) :
    step tb imp orc own get nx (.field t i) [.agg cs] = olS n cs (some off) := by
  subst hn
  simp only [step, h, sField, hi, partC, ho, if_true, loadC, ha, olS]
  split
  · rename_i hl
    split at hl
    · cases hl; rw [if_pos (by assumption)]
    · cases hl
  · rename_i hl
    split at hl
    · cases hl
    · rw [if_neg (by assumption)]
end
section
variable {tb : Tab} {imp : FuncId → Bool} {orc : Orc} {get : Nat → Option Ob} {nx : Nat} {t e : TypeId} {a b b' : Nat} {ck : List CK} {k : IntKind}
theorem t_mk0 (h : tb.at t = ⟨.slice e, a, b, ck⟩) (he : tb.at e = ⟨.int k, 1, b', [.int k]⟩) : step tb imp orc true get nx (.mkslice t 0 []) [] = some (.c (.osl nx 0 0 1), [.push (.flat false (ks k []))]) := by
  simp only [step, h, sMkslice, TK.isSlice, TI.elem, he, isOther]
  rfl
theorem t_mk1 {x : Int} (h : tb.at t = ⟨.slice e, a, b, ck⟩) (he : tb.at e = ⟨.int k, 1, b', [.int k]⟩) : step tb imp orc true get nx (.mkslice t 1 [0]) [.c (.t (.int k x))] = some (.c (.osl nx 0 1 1), [.push (.flat false (ks k [x]))]) := by
  simp only [step, h, sMkslice, TK.isSlice, TI.elem, he, isOther]
  rfl
theorem t_mk0l (h : tb.at t = ⟨.slice e, a, b, ck⟩) (he : tb.at e = ⟨.int k, 1, b', [.int k]⟩) : step tb imp orc false get nx (.mkslice t 0 []) [] = some (.c (.t (.sl 0 (ks k []))), []) := by
  simp only [step, h, sMkslice, TK.isSlice, TI.elem, he, isOther]
  rfl
theorem t_mk1l {x : Int} (h : tb.at t = ⟨.slice e, a, b, ck⟩) (he : tb.at e = ⟨.int k, 1, b', [.int k]⟩) : step tb imp orc false get nx (.mkslice t 1 [0]) [.c (.t (.int k x))] = some (.c (.t (.sl 1 (ks k [x]))), []) := by
  simp only [step, h, sMkslice, TK.isSlice, TI.elem, he, isOther]
  rfl
theorem row_t {m : Nat} {cs : List T} : rowOf get (.c (.t (.sl m cs))) = some (m, cs) := rfl
theorem row_n : rowOf get (.c (.t .nils)) = some (0, []) := rfl
def rowS (len n : Nat) (off : Nat) : Option Ob → Option (Nat × List T)
  | some (.flat _ cs) => some (len, sub cs off n)
  | _ => none
theorem row_o {id off len sz : Nat} : rowOf get (.c (.osl id off len sz)) = rowS len (len * sz) off (get id) := by
  simp only [rowOf, rowS]
  cases get id with
  | none => rfl
  | some o => cases o <;> rfl
theorem rowS_f {len n : Nat} {f : Bool} {zs : List Int} (h : n = zs.length) : rowS len n 0 (some (.flat f (ks k zs))) = some (len, ks k zs) := by
  subst h
  simp only [rowS, sub_all]
def apK (b' id nx len : Nat) : Option Ob → Option (Nat × List T) → Out
  | some (.flat false cs), some (m, new) =>
    if new.length = m * 1 ∧ 0 + len * 1 ≤ cs.length ∧ (len + m) * b' ≤ 140737488355328 then some (.c (.osl nx 0 (len + m) 1), [.set id .gone, .push (if nilRow new then .mix false ((sub cs 0 (len * 1) ++ new).map .t) else .flat false (sub cs 0 (len * 1) ++ new))]) else none
  | some (.mix false cs), some (m, new) =>
    if new.length = m * 1 ∧ 0 + len * 1 ≤ cs.length ∧ (len + m) * b' ≤ 140737488355328 then some (.c (.osl nx 0 (len + m) 1), [.set id .gone, .push (.mix false ((cs.drop 0).take (len * 1) ++ new.map .t))]) else none
  | _, _ => none
theorem t_app {own : Bool} {id len : Nat} {x : V} (h : tb.at t = ⟨.slice e, a, b, ck⟩) (he : tb.at e = ⟨.int k, 1, b', [.int k]⟩) (hb : 1 ≤ b') : step tb imp orc own get nx (.append t) [.c (.osl id 0 len 1), x] = apK b' id nx len (get id) (rowOf get x) := by
  simp only [step, h, sAppend, TK.isSlice, TI.elem, he, isOther, Bool.not_false, Bool.and_self, Bool.true_and, decide_eq_true hb, if_true]
  cases rowOf get x with
  | none => cases get id with
    | none => rfl
    | some o => cases o with
      | flat f cs => cases f <;> rfl
      | mix f cs => cases f <;> rfl
      | gone => rfl
  | some p => cases get id with
    | none => rfl
    | some o => cases o with
      | flat f cs => cases f <;> rfl
      | mix f cs => cases f <;> rfl
      | gone => rfl
theorem nr_ks {ys : List Int} : nilRow (ks k ys) = false := by
  cases ys with
  | nil => rfl
  | cons y ys => cases ys <;> rfl
theorem apK_s {id len m : Nat} {zs ys : List Int} (hl : len = zs.length) (hm : m = ys.length) (hb : b' ≤ 8) (h : len + m ≤ 1000000000) : apK b' id nx len (some (.flat false (ks k zs))) (some (m, ks k ys)) = some (.c (.osl nx 0 (len + m) 1), [.set id .gone, .push (.flat false (ks k (zs ++ ys)))]) := by
  subst hl hm
  simp only [apK, Nat.mul_one, sub_all, nr_ks]
  rw [if_pos (by
    refine ⟨by simp [ks], by simp [ks], ?_⟩
    have : (zs.length + ys.length) * b' ≤ 1000000000 * 8 := Nat.mul_le_mul h hb
    omega)]
  simp [ks]
def apN (b' nx : Nat) : Option (Nat × List T) → Out
  | some (m, new) => if new.length = m * 1 ∧ m * b' ≤ 140737488355328 then some (.c (.osl nx 0 m 1), [.push (.flat false new)]) else none
  | none => none
theorem t_appn {own : Bool} {x : V} (h : tb.at t = ⟨.slice e, a, b, ck⟩) (he : tb.at e = ⟨.int k, 1, b', [.int k]⟩) (hb : 1 ≤ b') : step tb imp orc own get nx (.append t) [.c (.t .nils), x] = apN b' nx (rowOf get x) := by
  simp only [step, h, sAppend, TK.isSlice, TI.elem, he, isOther, Bool.not_false, Bool.and_self, Bool.true_and, decide_eq_true hb, if_true]
  cases rowOf get x <;> rfl
theorem apN_s {m : Nat} {ys : List Int} (hm : m = ys.length) (hb : b' ≤ 8) (h : m ≤ 1000000000) : apN b' nx (some (m, ks k ys)) = some (.c (.osl nx 0 m 1), [.push (.flat false (ks k ys))]) := by
  subst hm
  simp only [apN, Nat.mul_one]
  rw [if_pos (by
    refine ⟨by simp [ks], ?_⟩
    have : ys.length * b' ≤ 1000000000 * 8 := Nat.mul_le_mul h hb
    omega)]
end
section
variable {tb : Tab} {imp : FuncId → Bool} {orc : Orc} {own : Bool} {get : Nat → Option Ob} {nx : Nat} {t e : TypeId} {a b : Nat} {ck : List CK}
theorem t_pen (h : tb.at t = ⟨.ptr e, a, b, ck⟩) : step tb imp orc own get nx (.bin .eql t) [.c (.t .nilp), .c (.t .nilp)] = some (.c (.t (.bool true)), []) := by simp [step, sBin, bin, h, T.isPtr, T.isNil]
theorem t_peb {cs : List T} {j : Nat} (h : tb.at t = ⟨.ptr e, a, b, ck⟩) : step tb imp orc own get nx (.bin .eql t) [.c (.t (.box cs j)), .c (.t .nilp)] = some (.c (.t (.bool false)), []) := by simp [step, sBin, bin, h, T.isPtr, T.isNil]
theorem t_pnn (h : tb.at t = ⟨.ptr e, a, b, ck⟩) : step tb imp orc own get nx (.bin .neq t) [.c (.t .nilp), .c (.t .nilp)] = some (.c (.t (.bool false)), []) := by simp [step, sBin, bin, h, T.isPtr, T.isNil]
theorem t_pnb {cs : List T} {j : Nat} (h : tb.at t = ⟨.ptr e, a, b, ck⟩) : step tb imp orc own get nx (.bin .neq t) [.c (.t (.box cs j)), .c (.t .nilp)] = some (.c (.t (.bool true)), []) := by simp [step, sBin, bin, h, T.isPtr, T.isNil]
end
def extAdd : List V → Option V
  | [.c (.t (.int .u64 x)), .c (.t (.int .u64 y)), .c (.t (.int .u64 c))] => if (0 ≤ x ∧ 0 ≤ y) ∧ 0 ≤ c ∧ c ≤ 1 then some (.tup [wd ((x + y + c) % 18446744073709551616), wd ((x + y + c) / 18446744073709551616)]) else none
  | _ => none
def extSub : List V → Option V
  | [.c (.t (.int .u64 x)), .c (.t (.int .u64 y)), .c (.t (.int .u64 c))] =>
    if (0 ≤ x ∧ x < 18446744073709551616) ∧ (0 ≤ y ∧ y < 18446744073709551616) ∧ 0 ≤ c ∧ c ≤ 1 then some (.tup [wd ((x - y - c) % 18446744073709551616), wd (if x < y + c then 1 else 0)]) else none
  | _ => none
def onNil (g : List V → Option V) (vs : List V) : List Ob → Option (V × List Ob)
  | [] => (g vs).map fun v => (v, [])
  | _ => none
theorem extAdd_s {x y c : Int} (hx : 0 ≤ x) (hy : 0 ≤ y) (hc : 0 ≤ c) (hc1 : c ≤ 1) : onNil extAdd [wd x, wd y, wd c] [] = some (.tup [wd ((x + y + c) % 18446744073709551616), wd ((x + y + c) / 18446744073709551616)], []) := by
  simp only [onNil, extAdd]
  rw [if_pos ⟨⟨hx, hy⟩, hc, hc1⟩]
  rfl
theorem extSub_s {x y c : Int} (hx : 0 ≤ x ∧ x < 18446744073709551616) (hy : 0 ≤ y ∧ y < 18446744073709551616) (hc : 0 ≤ c) (hc1 : c ≤ 1) : onNil extSub [wd x, wd y, wd c] [] = some (.tup [wd ((x - y - c) % 18446744073709551616), wd (if x < y + c then 1 else 0)], []) := by
  simp only [onNil, extSub]
  rw [if_pos ⟨hx, hy, hc, hc1⟩]
  rfl
section
variable {tb : Tab} {imp : FuncId → Bool} {orc : Orc} {own : Bool} {get : Nat → Option Ob} {nx : Nat} {t : TypeId} {a b : Nat} {ck : List CK}
theorem t_seq {s u : ByteArray} : step tb imp orc own get nx (.bin .eql t) [.c (.t (.str s)), .c (.t (.str u))] = some (.c (.t (.bool (s.toList == u.toList))), []) := rfl
theorem t_sne {s u : ByteArray} : step tb imp orc own get nx (.bin .neq t) [.c (.t (.str s)), .c (.t (.str u))] = some (.c (.t (.bool (!(s.toList == u.toList)))), []) := rfl
abbrev st (l : List UInt8) : V := .c (.t (.str ⟨l.toArray⟩))
def byt (l : List UInt8) (j : Nat) : Int := ((l.getD j 0).toNat : Int)
theorem byt_nn {l : List UInt8} {j : Nat} : 0 ≤ byt l j ∧ byt l j < 256 := by
  unfold byt
  have := (l.getD j 0).toNat_lt
  omega
theorem bs_size {l : List UInt8} : (ByteArray.mk l.toArray).size = l.length := by simp [ByteArray.size]
theorem bs_get {l : List UInt8} {i : Nat} : (ByteArray.mk l.toArray)[i]? = l[i]? := by
  by_cases h : i < l.length
  · rw [getElem?_pos _ _ (by simpa [ByteArray.size] using h)]
    simp [h]
    rfl
  · rw [getElem?_neg _ _ (by simpa [ByteArray.size] using h)]
    simp at h
    simp [h]
theorem bs_cat {l m : List UInt8} : (ByteArray.mk l.toArray) ++ (ByteArray.mk m.toArray) = ⟨(l ++ m).toArray⟩ := by
  apply ByteArray.ext
  simp [ByteArray.data_append]
theorem bs_sub {l : List UInt8} {a b : Nat} : (ByteArray.mk l.toArray).extract a b = ⟨((l.drop a).take (b - a)).toArray⟩ := by
  apply ByteArray.ext
  simp [ByteArray.data_extract]
theorem bs_eq {l m : List UInt8} : ((ByteArray.mk l.toArray).toList == (ByteArray.mk m.toArray).toList) = decide (l = m) := by
  have e : ∀ l : List UInt8, (ByteArray.mk l.toArray).toList = l := fun l => by
    have h : ∀ (n i : Nat) (r : List UInt8), n + i = l.length → ByteArray.toList.loop ⟨l.toArray⟩ i r = r.reverse ++ l.drop i := by
      intro n
      induction n with
      | zero =>
        intro i r hi
        rw [ByteArray.toList.loop, if_neg (by rw [bs_size]; omega), List.drop_of_length_le (by omega), List.append_nil]
      | succ n ih =>
        intro i r hi
        rw [ByteArray.toList.loop, if_pos (by rw [bs_size]; omega), ih (i + 1) _ (by omega), List.drop_eq_getElem_cons (by omega : i < l.length)]
        have : ByteArray.get! ⟨l.toArray⟩ i = l[i]'(by omega) := by
          show (l.toArray)[i]! = _
          simp [getElem!_pos, show i < l.length by omega]
        rw [this]
        simp
    have := h l.length 0 [] (by omega)
    simpa [ByteArray.toList] using this
  rw [e, e]
  by_cases h : l = m <;> simp [h]
theorem t_ixs {l : List UInt8} {k : IntKind} {i : Int} (h : tb.at t = ⟨.str, a, b, ck⟩) (h3 : 0 ≤ i) (h4 : i < l.length) : step tb imp orc own get nx (.index t) [st l, .c (.t (.int k i))] = some (.c (.t (.int .u8 (byt l i.toNat))), []) := by
  simp only [step, h, sIndex, h3, if_true, bs_get, byt]
  rw [List.getElem?_eq_getElem (by omega), List.getD_eq_getElem?_getD, List.getElem?_eq_getElem (by omega)]
  rfl
theorem t_ssr {l : List UInt8} {k : IntKind} {i : Int} (h : tb.at t = ⟨.str, a, b, ck⟩) (h3 : 0 ≤ i) (h4 : i ≤ l.length) : step tb imp orc own get nx (.slice t false true) [st l, .c (.t (.int k i))] = some (st (l.take i.toNat), []) := by
  simp [step, h, sSlice, slB, bs_size, h3, h4, bs_sub]
theorem t_ssl {l : List UInt8} {k : IntKind} {i : Int} (h : tb.at t = ⟨.str, a, b, ck⟩) (h3 : 0 ≤ i) (h4 : i ≤ l.length) : step tb imp orc own get nx (.slice t true false) [st l, .c (.t (.int k i))] = some (st (l.drop i.toNat), []) := by
  have : (l.drop i.toNat).take (l.length - i.toNat) = l.drop i.toNat := List.take_of_length_le (by simp)
  simp [step, h, sSlice, slB, bs_size, h3, h4, bs_sub, this]
theorem t_scat {l m : List UInt8} (h : l.length + m.length ≤ 1000000000) : step tb imp orc own get nx (.bin .add t) [st l, st m] = some (st (l ++ m), []) := by
  simp only [step, sBin, bin, bs_size, bs_cat]
  rw [if_pos (by omega)]
theorem t_sle {l m : List UInt8} : step tb imp orc own get nx (.bin .eql t) [st l, st m] = some (boo (decide (l = m)), []) := by rw [t_seq, bs_eq]
theorem t_sln {l m : List UInt8} : step tb imp orc own get nx (.bin .neq t) [st l, st m] = some (boo (!decide (l = m)), []) := by rw [t_sne, bs_eq]
def ub (l : List UInt8) : List Int := l.map fun c => (c.toNat : Int)
theorem ub_len {l : List UInt8} : (ub l).length = l.length := by simp [ub]
theorem ub_app {l m : List UInt8} : ub (l ++ m) = ub l ++ ub m := by simp [ub]
theorem bytes_ub : ∀ l : List UInt8, bytesOf (ks .u8 (ub l)) = some l
  | [] => rfl
  | c :: l => by
    have ih := bytes_ub l
    show (bytesOf (ks .u8 (ub l))).map (UInt8.ofNat ((c.toNat : Int)).toNat :: ·) = _
    rw [ih]
    simp
def b2F : Option (Nat × List T) → Out
  | some (m, cs) => if cs.length = m then (match bytesOf cs with | some l => some (.c (.t (.str ⟨l.toArray⟩)), []) | none => none) else none
  | none => none
theorem t_b2s {x : V} : step tb imp orc own get nx .b2s [x] = b2F (rowOf get x) := by
  simp only [step, sB2s, b2F]
  cases rowOf get x <;> rfl
theorem b2F_s {l : List UInt8} {m : Nat} (h : m = l.length) : b2F (some (m, ks .u8 (ub l))) = some (st l, []) := by
  subst h
  simp only [b2F, bytes_ub]
  rw [if_pos (by simp [ks, ub])]
theorem apK_b {b' id len m : Nat} {l : List UInt8} {ys : List Int} (hl : len = l.length) (hm : m = ys.length) (hb : b' ≤ 8) (h : len + m ≤ 1000000000) : apK b' id nx len (some (.flat false (ks .u8 (ub l)))) (some (m, ks .u8 ys)) = some (.c (.osl nx 0 (len + m) 1), [.set id .gone, .push (.flat false (ks .u8 (ub l ++ ys)))]) :=
  apK_s (by rw [ub_len]; exact hl) hm hb h
end
end Go.AM

namespace Go.AM
def rows {α : Type} (enc : α → List T) (xs : List α) : List T := xs.flatMap enc
def mi (k : IntKind) (zs : List Int) : List C := zs.map fun z => .t (.int k z)
section
variable {α : Type} {enc : α → List T} {sz : Nat}
theorem rows_nil : rows enc [] = [] := rfl
theorem rows_app {xs ys : List α} : rows enc (xs ++ ys) = rows enc xs ++ rows enc ys := by simp [rows]
theorem rows_one {x : α} : rows enc [x] = enc x := by simp [rows]
theorem rows_cons {x : α} {xs : List α} : rows enc (x :: xs) = enc x ++ rows enc xs := by simp [rows]
theorem rows_len (hs : ∀ x, (enc x).length = sz) : ∀ {xs : List α}, (rows enc xs).length = xs.length * sz
  | [] => by simp [rows]
  | x :: xs => by
    have := rows_len hs (xs := xs)
    rw [rows_cons, List.length_append, hs, this, List.length_cons, Nat.add_mul]; omega
theorem rows_at (hs : ∀ x, (enc x).length = sz) {xs : List α} {i : Nat} (hi : i < xs.length) : rows enc xs = rows enc (xs.take i) ++ (enc (xs[i]'hi) ++ rows enc (xs.drop (i + 1))) := by
  rw [← rows_cons, ← List.drop_eq_getElem_cons, ← rows_app, List.take_append_drop]
theorem getD_at {xs : List α} {i : Nat} [Inhabited α] (hi : i < xs.length) : xs[i]'hi = xs.getD i default := by
  rw [List.getD_eq_getElem?_getD, List.getElem?_eq_getElem hi]; rfl
theorem rows_get [Inhabited α] (hs : ∀ x, (enc x).length = sz) {xs : List α} {i off : Nat} (hi : i < xs.length) (ho : off < sz) : (rows enc xs)[i * sz + off]? = (enc (xs.getD i default))[off]? := by
  have h1 : (rows enc (xs.take i)).length = i * sz := by rw [rows_len hs, List.length_take, Nat.min_eq_left (by omega)]
  rw [rows_at hs hi, List.getElem?_append_right (by omega), h1, Nat.add_sub_cancel_left, List.getElem?_append_left (by rw [hs]; exact ho), getD_at hi]
theorem rows_get0 [Inhabited α] (hs : ∀ x, (enc x).length = sz) {xs : List α} {i : Nat} (hi : i < xs.length) (ho : 0 < sz) : (rows enc xs)[i * sz]? = (enc (xs.getD i default))[0]? := rows_get hs hi ho
theorem isAll_app : ∀ {ks : List CK} {a b : List T} {j : Nat}, isAll ks (a ++ b) (a.length + j) = isAll ks b j
  | [], a, b, j => rfl
  | k :: ks, a, b, j => by
    have e : (a ++ b)[a.length + j]? = b[j]? := by rw [List.getElem?_append_right (by omega), Nat.add_sub_cancel_left]
    have ih := isAll_app (ks := ks) (a := a) (b := b) (j := j + 1)
    simp only [isAll]
    rw [show a.length + j + 1 = a.length + (j + 1) by omega, ih]
    congr 1
    cases k <;> simp only [CK.is, isI, isB, isS, isP, isL, isF, e]
theorem getAll_app : ∀ {ks : List CK} {a b : List T} {j : Nat}, getAll ks (a ++ b) (a.length + j) = getAll ks b j
  | [], a, b, j => rfl
  | k :: ks, a, b, j => by
    have e : (a ++ b)[a.length + j]? = b[j]? := by rw [List.getElem?_append_right (by omega), Nat.add_sub_cancel_left]
    have ih := getAll_app (ks := ks) (a := a) (b := b) (j := j + 1)
    simp only [getAll]
    rw [show a.length + j + 1 = a.length + (j + 1) by omega, ih]
    congr 1
    cases k <;> simp only [CK.get, gI, gB, gS, gP, gN, gL, gF, e]
theorem isAll_left : ∀ {ks : List CK} {a b : List T} {j : Nat}, j + ks.length ≤ a.length → isAll ks (a ++ b) j = isAll ks a j
  | [], a, b, j, h => rfl
  | k :: ks, a, b, j, h => by
    simp only [List.length_cons] at h
    have e : (a ++ b)[j]? = a[j]? := List.getElem?_append_left (by omega)
    simp only [isAll, isAll_left (ks := ks) (a := a) (b := b) (j := j + 1) (by omega)]
    congr 1
    cases k <;> simp only [CK.is, isI, isB, isS, isP, isL, isF, e]
theorem getAll_left : ∀ {ks : List CK} {a b : List T} {j : Nat}, j + ks.length ≤ a.length → getAll ks (a ++ b) j = getAll ks a j
  | [], a, b, j, h => rfl
  | k :: ks, a, b, j, h => by
    simp only [List.length_cons] at h
    have e : (a ++ b)[j]? = a[j]? := List.getElem?_append_left (by omega)
    simp only [getAll, getAll_left (ks := ks) (a := a) (b := b) (j := j + 1) (by omega)]
    congr 1
    cases k <;> simp only [CK.get, gI, gB, gS, gP, gN, gL, gF, e]
def ldS (ck : List CK) (cs : List T) (j : Nat) : Out := if isAll ck cs j then some (.agg (getAll ck cs j), []) else none
theorem ldS_rows [Inhabited α] {ck : List CK} (hs : ∀ x, (enc x).length = sz) {xs : List α} {i off : Nat} (hi : i < xs.length) (ho : off + ck.length ≤ sz) : ldS ck (rows enc xs) (i * sz + off) = ldS ck (enc (xs.getD i default)) off := by
  have h1 : (rows enc (xs.take i)).length = i * sz := by rw [rows_len hs, List.length_take, Nat.min_eq_left (by omega)]
  unfold ldS
  rw [rows_at hs hi, ← h1, isAll_app, getAll_app, isAll_left (by rw [hs]; exact ho), getAll_left (by rw [hs]; exact ho), getD_at hi]
theorem ldS_rows0 [Inhabited α] {ck : List CK} (hs : ∀ x, (enc x).length = sz) {xs : List α} {i : Nat} (hi : i < xs.length) (ho : ck.length ≤ sz) : ldS ck (rows enc xs) (i * sz) = ldS ck (enc (xs.getD i default)) 0 := ldS_rows (off := 0) hs hi (by omega)
theorem ldS_eq {ck : List CK} {cs : List T} {j : Nat} : ldS ck cs j = if isAll ck cs j then some (.agg (getAll ck cs j), []) else none := rfl
def CK.is1 : CK → Option T → Bool
  | .int k, some (.int k' _) => k' == k
  | .bool, some (.bool _) => true
  | .str, some (.str _) => true
  | .ptr, some .nilp => true
  | .ptr, some (.box _ _) => true
  | .sl _, some (.sl _ _) => true
  | .sl _, some .nils => true
  | .fn, some (.fn _) => true
  | _, _ => false
def CK.get1 : CK → Option T → T
  | .int k, some (.int _ n) => .int k n
  | .int k, _ => .int k 0
  | .bool, some (.bool b) => .bool b
  | .bool, _ => .bool false
  | .str, some (.str s) => .str s
  | .str, _ => .str ⟨#[]⟩
  | .ptr, o => o.getD .nilp
  | .sl _, some (.sl n cs) => .sl n cs
  | .sl _, _ => .sl 0 []
  | .fn, some (.fn f) => .fn f
  | .fn, _ => .fn 0
  | _, _ => .nili
theorem is_eq {k : CK} {cs : List T} {j : Nat} : k.is cs j = k.is1 cs[j]? := by
  cases k <;> simp only [CK.is, isI, isB, isS, isP, isL, isF] <;> (cases cs[j]? with | none => rfl | some x => cases x <;> rfl)
theorem get_eq {k : CK} {cs : List T} {j : Nat} : k.get cs j = k.get1 cs[j]? := by
  cases k <;> simp only [CK.get, gI, gB, gS, gP, gN, gL, gF] <;> (cases cs[j]? with | none => rfl | some x => cases x <;> rfl)
theorem is_n {cs : List T} {j : Nat} : isAll [] cs j = true := rfl
theorem is_c {k : CK} {ks : List CK} {cs : List T} {j : Nat} : isAll (k :: ks) cs j = (k.is1 cs[j]? && isAll ks cs (j + 1)) := by simp only [isAll, is_eq]
theorem ga_n {cs : List T} {j : Nat} : getAll [] cs j = [] := rfl
theorem ga_c {k : CK} {ks : List CK} {cs : List T} {j : Nat} : getAll (k :: ks) cs j = .t (k.get1 cs[j]?) :: getAll ks cs (j + 1) := by simp only [getAll, get_eq]
theorem i1_i {k : IntKind} {n : Int} : CK.is1 (.int k) (some (.int k n)) = true := by simp [CK.is1]
theorem i1_b {b : Bool} : CK.is1 .bool (some (.bool b)) = true := rfl
theorem i1_s {b : ByteArray} : CK.is1 .str (some (.str b)) = true := rfl
theorem i1_p : CK.is1 .ptr (some .nilp) = true := rfl
theorem i1_x {cs : List T} {j : Nat} : CK.is1 .ptr (some (.box cs j)) = true := rfl
theorem i1_l {z n : Nat} {cs : List T} : CK.is1 (.sl z) (some (.sl n cs)) = true := rfl
theorem i1_n {z : Nat} : CK.is1 (.sl z) (some .nils) = true := rfl
theorem g1_i {k k' : IntKind} {n : Int} : CK.get1 (.int k) (some (.int k' n)) = .int k n := rfl
theorem g1_b {b : Bool} : CK.get1 .bool (some (.bool b)) = .bool b := rfl
theorem g1_s {b : ByteArray} : CK.get1 .str (some (.str b)) = .str b := rfl
theorem g1_p : CK.get1 .ptr (some .nilp) = .nilp := rfl
theorem g1_x {cs : List T} {j : Nat} : CK.get1 .ptr (some (.box cs j)) = .box cs j := rfl
theorem g1_l {z n : Nat} {cs : List T} : CK.get1 (.sl z) (some (.sl n cs)) = .sl n cs := rfl
theorem g1_n {z : Nat} : CK.get1 (.sl z) (some .nils) = .sl 0 [] := rfl
end
theorem ks_get {k : IntKind} {zs : List Int} {i : Nat} (h : i < zs.length) : (ks k zs)[i]? = some (.int k (zs.getD i 0)) := by
  rw [ks, List.getElem?_map, List.getElem?_eq_getElem h, List.getD_eq_getElem?_getD, List.getElem?_eq_getElem h]; rfl
theorem mi_get {k : IntKind} {zs : List Int} {i : Nat} (h : i < zs.length) : (mi k zs)[i]? = some (.t (.int k (zs.getD i 0))) := by
  rw [mi, List.getElem?_map, List.getElem?_eq_getElem h, List.getD_eq_getElem?_getD, List.getElem?_eq_getElem h]; rfl
theorem mi_len {k : IntKind} {zs : List Int} : (mi k zs).length = zs.length := by simp [mi]
theorem ks_len {k : IntKind} {zs : List Int} : (ks k zs).length = zs.length := by simp [ks]
theorem mi_eq {k : IntKind} {zs : List Int} : (ks k zs).map C.t = mi k zs := by simp [ks, mi]
theorem z_mi {get : Nat → Option Ob} {k : IntKind} : ∀ {zs : List Int}, frzCs get (mi k zs) = some (ks k zs, [])
  | [] => rfl
  | z :: zs => by
    show frzCs get (.t (.int k z) :: mi k zs) = _
    rw [z_k, z_mi (zs := zs)]; rfl
theorem allT_mi {k : IntKind} : ∀ {zs : List Int}, allT (mi k zs) = some (ks k zs)
  | [] => rfl
  | z :: zs => by
    show allT (.t (.int k z) :: mi k zs) = _
    rw [at_t, allT_mi (zs := zs)]; rfl
theorem mi_set {k : IntKind} {zs : List Int} {i : Nat} {x : Int} : (mi k zs).set i (.t (.int k x)) = mi k (zs.set i x) := by simp [mi, List.map_set]
section
variable {tb : Tab} {imp : FuncId → Bool} {orc : Orc} {own : Bool} {get : Nat → Option Ob} {nx : Nat} {t e : TypeId} {a b b' sz : Nat} {ck ck' : List CK} {tk : TK}
theorem t_idxR {m : Nat} {cs : List T} {k : IntKind} {i : Int} (h : tb.at t = ⟨.slice e, a, b, ck⟩) (h2 : tb.ok e = true) (h5 : (tb.at e).size = sz) (h3 : 0 ≤ i) (h4 : i < m) :
    step tb imp orc own get nx (.iaddr t) [.c (.t (.sl m cs)), .c (.t (.int k i))] = some (.c (.t (.box cs (i.toNat * sz))), []) := by
  simp [step, h, sIaddr, h2, h3, h4, h5]
theorem t_idxRo {id off len : Nat} {k : IntKind} {i : Int} (h : tb.at t = ⟨.slice e, a, b, ck⟩) (h2 : tb.ok e = true) (h5 : (tb.at e).size = sz) (h3 : 0 ≤ i) (h4 : i < len) :
    step tb imp orc own get nx (.iaddr t) [.c (.osl id off len sz), .c (.t (.int k i))] = some (.c (.ref id (off + i.toNat * sz)), []) := by
  simp [step, h, sIaddr, h2, h3, h4, h5]
theorem t_idxA {id off n : Nat} {k : IntKind} {i : Int} (h : tb.at t = ⟨.array n e, a, b, ck⟩) (h2 : tb.ok e = true) (h5 : (tb.at e).size = 1) (h6 : 2 ≤ n) (h3 : 0 ≤ i) (h4 : i < n) :
    step tb imp orc own get nx (.iaddr t) [.c (.ref id off), .c (.t (.int k i))] = some (.c (.ref id (off + i.toNat)), []) := by
  simp [step, h, sIaddr, h2, h3, h4, h5, h6]
theorem t_fab {fs : List (Nat × TypeId)} {i off t' j : Nat} {cs : List T} (h : tb.at t = ⟨.struct fs, a, b, ck⟩) (hi : fs[i]? = some (off, t')) (ho : tb.ok t' = true) (hs : (tb.at t').size ≠ 0) :
    step tb imp orc own get nx (.faddr t i) [.c (.t (.box cs j))] = some (.c (.t (.box cs (j + off))), []) := by
  simp [step, h, sFaddr, hi, ho, hs]
theorem t_far {fs : List (Nat × TypeId)} {i off t' j id : Nat} (h : tb.at t = ⟨.struct fs, a, b, ck⟩) (hi : fs[i]? = some (off, t')) (ho : tb.ok t' = true) (hs : (tb.at t').size ≠ 0) :
    step tb imp orc own get nx (.faddr t i) [.c (.ref id j)] = some (.c (.ref id (j + off)), []) := by
  simp [step, h, sFaddr, hi, ho, hs]
theorem ks_set {k : IntKind} {zs : List Int} {i : Nat} {x : Int} : (ks k zs).set i (.int k x) = ks k (zs.set i x) := by simp [ks, List.map_set]
def ldT (c : CK) (o : Option T) : Out := if c.is1 o then some (.c (.t (c.get1 o)), []) else none
theorem ldT_eq {c : CK} {x : T} : ldT c (some x) = if c.is1 (some x) then some (.c (.t (c.get1 (some x))), []) else none := rfl
theorem t_ldx {c : CK} {cs : List T} {j : Nat} (h : tb.at t = ⟨tk, a, b, [c]⟩) (ho : isOther tk = false) (ha : TI.isAgg ⟨tk, a, b, [c]⟩ = false) :
    step tb imp orc own get nx (.load t) [.c (.t (.box cs j))] = ldT c cs[j]? := by
  simp only [step, h, sLoad, ho, T.isBox, T.bCs, T.bJ, loadT, isAll, is_eq, ha, get_eq, ldT, Bool.and_true, Bool.false_eq_true, if_false, if_true]
  cases c.is1 cs[j]? <;> rfl
def ldR (c : CK) (j : Nat) : Option Ob → Out
  | some (.flat _ cs) => ldT c cs[j]?
  | some (.mix _ cs) => match cs[j]? with | some x => some (.c x, []) | none => none
  | _ => none
theorem t_ldr {c : CK} {id j : Nat} (h : tb.at t = ⟨tk, a, b, [c]⟩) (ho : isOther tk = false) (ha : TI.isAgg ⟨tk, a, b, [c]⟩ = false) :
    step tb imp orc own get nx (.load t) [.c (.ref id j)] = ldR c j (get id) := by
  simp only [step, h, sLoad, ho, loadT, isAll, is_eq, ha, get_eq, ldT, Bool.and_true, Bool.false_eq_true, if_false, if_true, loadC]
  cases get id with
  | none => rfl
  | some o => cases o with
    | flat f cs => simp only [ldR, ldT]; cases c.is1 cs[j]? <;> rfl
    | mix f cs => simp only [ldR]; cases cs[j]? <;> rfl
    | gone => rfl
theorem ldR_f {c : CK} {j : Nat} {f : Bool} {cs : List T} : ldR c j (some (.flat f cs)) = ldT c cs[j]? := rfl
def ldM : Option C → Out | some x => some (.c x, []) | none => none
theorem ldM_s {x : C} : ldM (some x) = some (.c x, []) := rfl
theorem ldR_m {c : CK} {j : Nat} {f : Bool} {cs : List C} : ldR c j (some (.mix f cs)) = ldM cs[j]? := rfl
theorem t_ldsx {cs : List T} {j : Nat} (h : tb.at t = ⟨tk, a, b, ck⟩) (ho : isOther tk = false) (ha : TI.isAgg ⟨tk, a, b, ck⟩ = true) :
    step tb imp orc own get nx (.load t) [.c (.t (.box cs j))] = ldS ck cs j := by
  simp only [step, h, sLoad, ho, T.isBox, T.bCs, T.bJ, loadT, ha, Bool.false_eq_true, if_false, if_true, ldS]
  cases isAll ck cs j <;> rfl
def ldRS (a : Nat) (ck : List CK) (j : Nat) : Option Ob → Out
  | some (.flat _ cs) => ldS ck cs j
  | some (.mix _ cs) => if j + a ≤ cs.length then some (.agg ((cs.drop j).take a), []) else none
  | _ => none
theorem t_ldsr {id j : Nat} (h : tb.at t = ⟨tk, a, b, ck⟩) (ho : isOther tk = false) (ha : TI.isAgg ⟨tk, a, b, ck⟩ = true) :
    step tb imp orc own get nx (.load t) [.c (.ref id j)] = ldRS a ck j (get id) := by
  simp only [step, h, sLoad, ho, loadT, ha, Bool.false_eq_true, if_false, if_true, loadC]
  cases get id with
  | none => rfl
  | some o => cases o with
    | flat f cs => simp only [ldRS, ldS]; cases isAll ck cs j <;> rfl
    | mix f cs => simp only [ldRS]; split <;> (split at * <;> simp_all)
    | gone => rfl
theorem ldRS_f {j : Nat} {f : Bool} {cs : List T} : ldRS a ck j (some (.flat f cs)) = ldS ck cs j := rfl
theorem ldRS_m {f : Bool} {cs : List C} (h : cs.length = a) : ldRS a ck 0 (some (.mix f cs)) = some (.agg cs, []) := by
  subst h; simp [ldRS]
def mkS (own : Bool) (nx sz : Nat) : Option (List T × List Eff) → Out
  | some (ts, es) => if ts.length = sz then (if own then some (.c (.osl nx 0 1 sz), es ++ [.push (.flat false ts)]) else some (.c (.t (.sl 1 ts)), es)) else none
  | none => none
theorem putAll {α : Type} {cs xs : List α} (h : xs.length = cs.length) : putCells cs 0 xs = xs := by
  apply List.ext_getElem?
  intro i
  rw [putCells_get (by omega)]
  split
  · rw [Nat.sub_zero]
  · rw [List.getElem?_eq_none (by omega), List.getElem?_eq_none (by omega)]
theorem t_mkS {v : V} (h : tb.at t = ⟨.slice e, a, b, ck⟩) (he : tb.at e = ⟨tk, sz, b', ck'⟩) (ho : isOther tk = false) (hl : ck'.length = sz) (hz : sz ≤ 1000) : step tb imp orc own get nx (.mkslice t 1 [0]) [v] = mkS own nx sz (cellsK get v) := by
  have h1 : (TI.zeros ⟨tk, sz, b', ck'⟩).length = sz := by simp [TI.zeros, hl]
  have h2 : (zeroRow ⟨tk, sz, b', ck'⟩ 1).length = sz := by
    unfold zeroRow
    split
    · rename_i z hz'; rw [hz'] at h1; simp at h1; simp [← h1]
    · simp [h1]
  simp only [step, h, sMkslice, TK.isSlice, TI.elem, he, ho, Bool.not_false, Bool.true_and, decide_eq_true_eq]
  rw [if_pos (by omega)]
  simp only [lit]
  cases cellsK get v with
  | none => rfl
  | some p =>
    obtain ⟨ts, es⟩ := p
    simp only [h1, h2, mkS]
    by_cases h3 : ts.length = sz
    · rw [if_pos h3, if_pos ⟨h3, by omega⟩, Nat.zero_mul, putAll (by omega)]
      simp
    · rw [if_neg h3, if_neg (fun h => h3 h.1)]
theorem mkS_t {ts : List T} {es : List Eff} (h : ts.length = sz) : mkS true nx sz (some (ts, es)) = some (.c (.osl nx 0 1 sz), es ++ [.push (.flat false ts)]) := by simp [mkS, h]
theorem mkS_f {ts : List T} {es : List Eff} (h : ts.length = sz) : mkS false nx sz (some (ts, es)) = some (.c (.t (.sl 1 ts)), es) := by simp [mkS, h]
def ctC : Option (T × List Eff) → Option (List T × List Eff)
  | some (y, es) => some ([y], es)
  | none => none
theorem ct_c {x : C} : cellsT get (.c x) = ctC (frzC get x) := by simp only [cellsT]; cases frzC get x <;> rfl
theorem ctC_s {y : T} {es : List Eff} : ctC (some (y, es)) = some ([y], es) := rfl
theorem ct_a {x : List C} : cellsT get (.agg x) = frzCs get x := rfl
def apR (b' sz id nx len : Nat) : Option Ob → Option (Nat × List T) → Out
  | some (.flat false cs), some (m, new) =>
    if new.length = m * sz ∧ 0 + len * sz ≤ cs.length ∧ (len + m) * b' ≤ 140737488355328 then some (.c (.osl nx 0 (len + m) sz), [.set id .gone, .push (if nilRow new then .mix false ((sub cs 0 (len * sz) ++ new).map .t) else .flat false (sub cs 0 (len * sz) ++ new))]) else none
  | some (.mix false cs), some (m, new) =>
    if new.length = m * sz ∧ 0 + len * sz ≤ cs.length ∧ (len + m) * b' ≤ 140737488355328 then some (.c (.osl nx 0 (len + m) sz), [.set id .gone, .push (.mix false ((cs.drop 0).take (len * sz) ++ new.map .t))]) else none
  | _, _ => none
theorem t_appR {id len : Nat} {x : V} (h : tb.at t = ⟨.slice e, a, b, ck⟩) (he : tb.at e = ⟨tk, sz, b', ck'⟩) (ho : isOther tk = false) (hb : 1 ≤ b') : step tb imp orc own get nx (.append t) [.c (.osl id 0 len sz), x] = apR b' sz id nx len (get id) (rowOf get x) := by
  simp only [step, h, sAppend, TK.isSlice, TI.elem, he, ho, Bool.not_false, Bool.and_self, Bool.true_and, decide_eq_true hb, if_true]
  cases rowOf get x with
  | none => cases get id with
    | none => rfl
    | some o => cases o with
      | flat f cs => cases f <;> rfl
      | mix f cs => cases f <;> rfl
      | gone => rfl
  | some p => cases get id with
    | none => rfl
    | some o => cases o with
      | flat f cs => cases f <;> rfl
      | mix f cs => cases f <;> rfl
      | gone => rfl
theorem nr_0 : nilRow [] = false := rfl
theorem nr_2 {x y : T} {l : List T} : nilRow (x :: y :: l) = false := by cases x <;> rfl
theorem nr_i {k : IntKind} {n : Int} : nilRow [.int k n] = false := rfl
theorem nr_b {b : Bool} : nilRow [.bool b] = false := rfl
theorem nr_s {b : ByteArray} : nilRow [.str b] = false := rfl
theorem nr_l {n : Nat} {cs : List T} : nilRow [.sl n cs] = false := rfl
theorem nr_p : nilRow [.nilp] = false := rfl
theorem nr_x {cs : List T} {j : Nat} : nilRow [.box cs j] = false := rfl
theorem nr_n : nilRow [.nils] = true := rfl
theorem kk_n : cellsK get (.c (.t .nils)) = some ([.nils], []) := rfl
theorem kk_a {x : List C} : cellsK get (.agg x) = frzCs get x := rfl
theorem kk_i {k : IntKind} {n : Int} : cellsK get (.c (.t (.int k n))) = some ([.int k n], []) := rfl
theorem kk_b {b : Bool} : cellsK get (.c (.t (.bool b))) = some ([.bool b], []) := rfl
theorem kk_s {b : ByteArray} : cellsK get (.c (.t (.str b))) = some ([.str b], []) := rfl
theorem kk_l {n : Nat} {cs : List T} : cellsK get (.c (.t (.sl n cs))) = some ([.sl n cs], []) := rfl
theorem kk_o {id off len sz : Nat} : cellsK get (.c (.osl id off len sz)) = ctC (frzC get (.osl id off len sz)) := ct_c
theorem kk_r {id off : Nat} : cellsK get (.c (.ref id off)) = ctC (frzC get (.ref id off)) := ct_c
theorem apR_s {id len m : Nat} {cs new : List T} (hl : cs.length = len * sz) (hm : new.length = m * sz) (hb : b' ≤ 1000) (h : len + m ≤ 1000000000) : apR b' sz id nx len (some (.flat false cs)) (some (m, new)) = some (.c (.osl nx 0 (len + m) sz), [.set id .gone, .push (if nilRow new = true then .mix false ((cs ++ new).map .t) else .flat false (cs ++ new))]) := by
  simp only [apR, ← hl, sub, List.drop_zero, List.take_length]
  rw [if_pos (by
    refine ⟨hm, by omega, ?_⟩
    have : (len + m) * b' ≤ 1000000000 * 1000 := Nat.mul_le_mul h hb
    omega)]
def apRn (b' sz nx : Nat) : Option (Nat × List T) → Out
  | some (m, new) => if new.length = m * sz ∧ m * b' ≤ 140737488355328 then some (.c (.osl nx 0 m sz), [.push (.flat false new)]) else none
  | none => none
theorem t_appRn {x : V} (h : tb.at t = ⟨.slice e, a, b, ck⟩) (he : tb.at e = ⟨tk, sz, b', ck'⟩) (ho : isOther tk = false) (hb : 1 ≤ b') : step tb imp orc own get nx (.append t) [.c (.t .nils), x] = apRn b' sz nx (rowOf get x) := by
  simp only [step, h, sAppend, TK.isSlice, TI.elem, he, ho, Bool.not_false, Bool.and_self, Bool.true_and, decide_eq_true hb, if_true]
  cases rowOf get x <;> rfl
theorem apRn_s {m : Nat} {new : List T} (hm : new.length = m * sz) (hb : b' ≤ 1000) (h : m ≤ 1000000000) : apRn b' sz nx (some (m, new)) = some (.c (.osl nx 0 m sz), [.push (.flat false new)]) := by
  simp only [apRn]
  rw [if_pos (by
    refine ⟨hm, ?_⟩
    have : m * b' ≤ 1000000000 * 1000 := Nat.mul_le_mul h hb
    omega)]
theorem rowS_a {len n : Nat} {f : Bool} {cs : List T} (h : n = cs.length) : rowS len n 0 (some (.flat f cs)) = some (len, cs) := by
  subst h; simp [rowS, sub]
theorem t_makeR {l c' : Int} (h : tb.at t = ⟨.slice e, a, b, ck⟩) (he : tb.at e = ⟨tk, sz, b', ck'⟩) (ho : isOther tk = false) (hb : b' ≤ 1000) (h1 : 0 ≤ l) (h2 : l ≤ c') (h3 : c' ≤ 281474976710) :
    step tb imp orc own get nx (.make t) [.c (.t (.int .i64 l)), .c (.t (.int .i64 c'))] = some (.c (.osl nx 0 l.toNat sz), [.push (.flat false (zeroRow ⟨tk, sz, b', ck'⟩ l.toNat))]) := by
  simp only [step, h, sMake, TK.isSlice, TI.elem, he, ho, Bool.not_false, Bool.and_self, if_true]
  rw [if_pos (by
    refine ⟨h1, h2, ?_, by omega⟩
    have : c' * (b' : Int) ≤ c' * 1000 := Int.mul_le_mul_of_nonneg_left (by omega) (by omega)
    omega)]
def stR (i : TI) (nx id j : Nat) (v : V) (ct : Option (List T × List Eff)) : Option Ob → Out
  | some (.flat false cs) =>
    match ct with
    | some (xs, es) => if noSet id es = true ∧ (xs.length = i.size ∧ 1 ≤ xs.length) ∧ j + xs.length ≤ cs.length then some (.tup [], es ++ [.set id (.flat false (putCells cs j xs))]) else none
    | none => none
  | some (.mix false cs) =>
    match cellsC v with
    | some xs => if (xs.length = i.size ∧ 1 ≤ xs.length) ∧ j + xs.length ≤ cs.length then some (.tup [], phants (nilsOf nx i.cks xs).2 ++ [.set id (.mix false (putCells cs j (nilsOf nx i.cks xs).1))]) else none
    | none => none
  | _ => none
theorem t_stR {i : TI} {id j : Nat} {v : V} (h : tb.at t = i) (ho : isOther i.k = false) : step tb imp orc own get nx (.store t) [.c (.ref id j), v] = stR i nx id j v (cellsT get v) (get id) := by
  subst h
  simp only [step, sStore, ho, Bool.false_eq_true, if_false]
  cases get id with
  | none => rfl
  | some o => cases o with
    | flat f cs => cases f with
      | true => rfl
      | false => simp only [stR]; cases cellsT get v <;> rfl
    | mix f cs => cases f with
      | true => rfl
      | false => simp only [stR]; cases cellsC v <;> rfl
    | gone => rfl
theorem stR_f {tk : TK} {b sz : Nat} {ck : List CK} {id j : Nat} {v : V} {cs xs : List T} (h2 : xs.length = sz) (h3 : 1 ≤ sz) (h4 : j + sz ≤ cs.length) : stR ⟨tk, sz, b, ck⟩ nx id j v (some (xs, [])) (some (.flat false cs)) = some (.tup [], [.set id (.flat false (putCells cs j xs))]) := by
  simp only [stR]
  rw [if_pos ⟨rfl, ⟨h2, by omega⟩, by omega⟩]; rfl
theorem stR_fs {tk : TK} {b sz : Nat} {ck : List CK} {id id2 j : Nat} {v : V} {cs xs : List T} {o : Ob} (h1 : id2 ≠ id) (h2 : xs.length = sz) (h3 : 1 ≤ sz) (h4 : j + sz ≤ cs.length) : stR ⟨tk, sz, b, ck⟩ nx id j v (some (xs, [.set id2 o])) (some (.flat false cs)) = some (.tup [], [.set id2 o, .set id (.flat false (putCells cs j xs))]) := by
  simp only [stR]
  rw [if_pos ⟨by simp [noSet, h1], ⟨h2, by omega⟩, by omega⟩]; rfl
theorem noSet_n {id : Nat} : noSet id [] = true := rfl
theorem noSet_s {id j : Nat} {o : Ob} {es : List Eff} : noSet id (.set j o :: es) = (!(j == id) && noSet id es) := rfl
theorem noSet_p {id : Nat} {o : Ob} {es : List Eff} : noSet id (.push o :: es) = noSet id es := rfl
theorem stR_m1 {tk : TK} {k k' : IntKind} {ck : List CK} {id j : Nat} {x : Int} {v : V} {ct : Option (List T × List Eff)} {cs : List C} (hv : cellsC v = some [.t (.int k' x)]) (h4 : j < cs.length) : stR ⟨tk, 1, b, [.int k]⟩ nx id j v ct (some (.mix false cs)) = some (.tup [], [.set id (.mix false (cs.set j (.t (.int k' x))))]) := by
  simp only [stR, hv]
  rw [if_pos (by simp; omega)]
  rfl
theorem putRows {α : Type} {enc : α → List T} {zs : List T} {k : Nat} (hs : ∀ x, (enc x).length = sz) (hz : zs.length = k * sz) {xs : List α} {x : α} (hk : 0 < k) : putCells (rows enc xs ++ zs) (xs.length * sz) (enc x) = rows enc (xs ++ [x]) ++ zs.drop sz := by
  obtain ⟨k, rfl⟩ : ∃ m, k = m + 1 := ⟨k - 1, by omega⟩
  rw [Nat.add_mul, Nat.one_mul] at hz
  have hr := rows_len hs (xs := xs)
  rw [rows_app, rows_one]
  apply List.ext_getElem?
  intro i
  rw [putCells_get (by rw [List.length_append, hr, hs]; omega), hs]
  split
  · rename_i h
    rw [List.append_assoc, List.getElem?_append_right (by omega), hr, List.getElem?_append_left (by rw [hs]; omega)]
  · rename_i h
    by_cases h2 : i < xs.length * sz
    · rw [List.getElem?_append_left (by omega), List.append_assoc, List.getElem?_append_left (by omega)]
    · rw [List.getElem?_append_right (by omega), List.append_assoc, List.getElem?_append_right (by omega), List.getElem?_append_right (by rw [hs]; omega), List.getElem?_drop, hr, hs]
      congr 1; omega
theorem t_oloadA {n : Nat} {e : TypeId} {z s : Nat} {vz : V} {cs : List C} (h : tb.at t = ⟨.array n e, a, b, ck⟩) :
    step tb imp orc own get nx (.oload t z s) [vz, .own cs] = olS a cs (offO z s vz) := by
  simp only [step, h, sOload, isOther, Bool.false_eq_true, if_false]
  cases offO z s vz with
  | none => rfl
  | some o =>
    simp only [loadC, TI.isAgg, if_true, olS]
    split
    · rename_i hl
      split at hl
      · cases hl; rw [if_pos (by assumption)]
      · cases hl
    · rename_i hl
      split at hl
      · cases hl
      · rw [if_neg (by assumption)]
theorem rs_ownA {n : Nat} {e : TypeId} {cs : List C} (h : cs.length = a) : rsD ⟨.array n e, a, b, ck⟩ get (.own cs) = some (.agg cs) := by
  subst h
  simp [rsD, isOther, loadC, TI.isAgg]
theorem olS_all {cs : List C} (h : cs.length = a) : olS a cs (some 0) = some (.agg cs, []) := by
  subst h; simp [olS]
theorem t_ixA {n : Nat} {e : TypeId} {k k' : IntKind} {zs : List Int} {i : Int} (h : tb.at t = ⟨.array n e, a, b, ck⟩) (he : tb.at e = ⟨.int k, 1, b', ck'⟩) (h2 : tb.ok e = true) (hl : zs.length = n) (h3 : 0 ≤ i) (h4 : i < n) :
    step tb imp orc own get nx (.index t) [.agg (mi k zs), .c (.t (.int k' i))] = some (.c (.t (.int k (zs.getD i.toNat 0))), []) := by
  simp only [step, h, sIndex, h3, h4, partC, h2, he, loadC, TI.isAgg, if_true, and_self, Bool.false_eq_true, if_false, Nat.mul_one, mi_get (k := k) (zs := zs) (i := i.toNat) (by omega)]
def noSl : List CK → Bool
  | [] => true
  | .sl _ :: _ => false
  | _ :: ks => noSl ks
theorem nils_no : ∀ {ks : List CK} {cs : List C} {nx : Nat}, noSl ks = true → nilsOf nx ks cs = (cs, 0)
  | [], cs, nx, _ => rfl
  | .sl _ :: _, _, _, h => by simp [noSl] at h
  | k :: ks, [], nx, h => by cases k <;> rfl
  | .int _ :: ks, c :: cs, nx, h => by have h' : noSl ks = true := h; simp [nilsOf, nils_no h']
  | .bool :: ks, c :: cs, nx, h => by have h' : noSl ks = true := h; simp [nilsOf, nils_no h']
  | .str :: ks, c :: cs, nx, h => by have h' : noSl ks = true := h; simp [nilsOf, nils_no h']
  | .ptr :: ks, c :: cs, nx, h => by have h' : noSl ks = true := h; simp [nilsOf, nils_no h']
  | .fn :: ks, c :: cs, nx, h => by have h' : noSl ks = true := h; simp [nilsOf, nils_no h']
  | .ifc :: ks, c :: cs, nx, h => by have h' : noSl ks = true := h; simp [nilsOf, nils_no h']
  | .other :: ks, c :: cs, nx, h => by have h' : noSl ks = true := h; simp [nilsOf, nils_no h']
theorem t_allocI (h : tb.at t = ⟨tk, a, b, ck⟩) (ho : isOther tk = false) (hn : noSl ck = true) : step tb imp orc own get nx (.alloc t) [] = some (.c (.ref nx 0), [.push (.mix false ((ck.map CK.zero).map .t))]) := by
  simp [step, h, sAlloc, ho, TI.zeros, nils_no hn, phants]
def bxC (nx : Nat) : Option (List C) → Out
  | some cs => some (.c (.ref nx 0), [.push (.mix false cs)])
  | none => none
theorem bxC_s {cs : List C} : bxC nx (some cs) = some (.c (.ref nx 0), [.push (.mix false cs)]) := rfl
theorem t_boxI {v : V} (h : tb.at t = ⟨tk, a, b, ck⟩) (hn : noSl ck = true) : step tb imp orc own get nx (.box t) [v] = bxC nx (cellsC v) := by
  simp only [step, h, sBox]
  cases cellsC v with
  | none => rfl
  | some cs => simp [nils_no hn, phants, bxC]
theorem stO_m {i : TI} {id j : Nat} {k : IntKind} {x : Int} {zs : List Int} (hj : j < zs.length) : stO i id j (.int k x) (some (.mix false (mi k zs))) = some (.tup [], [.set id (.mix false (mi k (zs.set j x)))]) := by
  simp only [stO]
  rw [if_pos (by rw [mi_len]; omega), mi_set]
theorem osT_m {k : IntKind} {cs : List C} {zs : List Int} (h : zs.length = a) (h2 : cs.length = a) : osT a cs (some (mi k zs)) (some 0) = some (.own (mi k zs), []) := by
  rw [osT_s, if_pos (by rw [mi_len]; omega), putAll (by rw [mi_len]; omega)]
theorem osT_c {cs xs : List C} {x : C} {o : Nat} : osT a cs (some (x :: xs)) (some o) = if (x :: xs).length = a ∧ o + (x :: xs).length ≤ cs.length then some (.own (putCells cs o (x :: xs)), []) else none := osT_s
theorem len6 {zs : List Int} (h : zs.length = 6) : ∃ a b c d e f, zs = [a, b, c, d, e, f] := by
  match zs, h with
  | [a, b, c, d, e, f], _ => exact ⟨a, b, c, d, e, f, rfl⟩
theorem olS_c {cs : List C} {x : C} {o : Nat} : olS a (x :: cs) (some o) = if o + a ≤ (x :: cs).length then some (.agg (((x :: cs).drop o).take a), []) else none := rfl
theorem olS_m {k : IntKind} {zs : List Int} (h : zs.length = a) : olS a (mi k zs) (some 0) = some (.agg (mi k zs), []) := olS_all (by rw [mi_len]; exact h)
theorem t_cz2 {f : FuncId} {x y : T} (hi : imp f = true) : step tb imp orc own get nx (.call f) [.c (.t x), .c (.t y)] = callZ nx (orc f [.c (.t x), .c (.t y)] []) := by
  rw [t_calli hi]
  show (match orc f [.c (.t x), .c (.t y)] [] with | some (r, os') => if 0 ≤ os'.length then some (renV (back [] nx) r, sets (back [] nx) [] os') else none | none => none) = _
  cases orc f [.c (.t x), .c (.t y)] [] <;> rfl
end
theorem joinC {R : Type} {E : Env} {n : Nat} {v : V} {a b : Cd} {s : St} {K : Ex → St → Option R} {r : R} (P : List V → List Ob → Prop) (h1 : ∀ fr H, P fr H → K .norm ⟨fr, H⟩ = some r)
    (h2 : ∀ K' : Ex → St → Option R, (∀ fr H, P fr H → K' .norm ⟨fr, H⟩ = some r) → (∀ s, K' .ret s = K .ret s) → (∀ id s, K' (.exit id) s = K (.exit id) s) → cnd v E n a b s K' = some r) : cnd v E n a b s K = some r :=
  h2 K h1 (fun _ => rfl) (fun _ _ => rfl)
theorem joinL {R : Type} {m n : Nat} {kl : List Nat} {ns : List (Nat × Nat)} {body : St → (Ex → St → Option R) → Option R} {s : St} {K : Ex → St → Option R} {r : R} (P : List V → List Ob → Prop) (h1 : ∀ fr H, P fr H → K .norm ⟨fr, H⟩ = some r)
    (h2 : ∀ K' : Ex → St → Option R, (∀ fr H, P fr H → K' .norm ⟨fr, H⟩ = some r) → (∀ s, K' .ret s = K .ret s) → (∀ id s, K' (.exit id) s = K (.exit id) s) → loopN m kl ns body K' n s = some r) : loopN m kl ns body K n s = some r :=
  h2 K h1 (fun _ => rfl) (fun _ _ => rfl)
end Go.AM

namespace Go.AM
theorem ofInt_nat (w a : Nat) : BitVec.ofInt w (a : Int) = BitVec.ofNat w a := by
  apply BitVec.eq_of_toNat_eq
  rw [BitVec.toNat_ofInt, BitVec.toNat_ofNat]
  omega
theorem wnat {a : Nat} (h : a < 9223372036854775808) : IntKind.i64.wrap (a : Int) = a := w64 (by omega) (by omega)
theorem bits_and {a b : Nat} (ha : a < 9223372036854775808) (hb : b < 9223372036854775808) : bits .i64 (· &&& ·) (a : Int) (b : Int) = ((a &&& b : Nat) : Int) := by
  unfold bits
  rw [ofInt_nat, ofInt_nat]
  show IntKind.i64.wrap ((BitVec.ofNat 64 a &&& BitVec.ofNat 64 b).toNat : Int) = _
  rw [BitVec.toNat_and, BitVec.toNat_ofNat, BitVec.toNat_ofNat, Nat.mod_eq_of_lt (by omega), Nat.mod_eq_of_lt (by omega)]
  exact wnat (Nat.lt_of_le_of_lt Nat.and_le_left ha)
theorem bits_or {a b : Nat} (ha : a < 9223372036854775808) (hb : b < 9223372036854775808) : bits .i64 (· ||| ·) (a : Int) (b : Int) = ((a ||| b : Nat) : Int) := by
  unfold bits
  rw [ofInt_nat, ofInt_nat]
  show IntKind.i64.wrap ((BitVec.ofNat 64 a ||| BitVec.ofNat 64 b).toNat : Int) = _
  rw [BitVec.toNat_or, BitVec.toNat_ofNat, BitVec.toNat_ofNat, Nat.mod_eq_of_lt (by omega), Nat.mod_eq_of_lt (by omega)]
  exact wnat (Nat.or_lt_two_pow (n := 63) ha hb)
theorem bits_xor {a b : Nat} (ha : a < 9223372036854775808) (hb : b < 9223372036854775808) : bits .i64 (· ^^^ ·) (a : Int) (b : Int) = ((a ^^^ b : Nat) : Int) := by
  unfold bits
  rw [ofInt_nat, ofInt_nat]
  show IntKind.i64.wrap ((BitVec.ofNat 64 a ^^^ BitVec.ofNat 64 b).toNat : Int) = _
  rw [BitVec.toNat_xor, BitVec.toNat_ofNat, BitVec.toNat_ofNat, Nat.mod_eq_of_lt (by omega), Nat.mod_eq_of_lt (by omega)]
  exact wnat (Nat.xor_lt_two_pow (n := 63) ha hb)
theorem bits_1 {a : Nat} (ha : a < 9223372036854775808) : bits .i64 (· &&& ·) (a : Int) 1 = ((a % 2 : Nat) : Int) := by
  have := bits_and (b := 1) ha (by decide)
  rw [Nat.and_one_is_mod] at this
  exact this
theorem bits32_1 {x : Int} (h : 0 ≤ x) (h2 : x < 2147483648) : bits .i32 (· &&& ·) x 1 = x % 2 := by
  obtain ⟨a, rfl⟩ := Int.eq_ofNat_of_zero_le h
  unfold bits
  show IntKind.i32.wrap ((BitVec.ofInt 32 (a : Int) &&& BitVec.ofInt 32 ((1 : Nat) : Int)).toNat : Int) = _
  rw [ofInt_nat, ofInt_nat, BitVec.toNat_and, BitVec.toNat_ofNat, BitVec.toNat_ofNat, Nat.mod_eq_of_lt (by omega), Nat.mod_eq_of_lt (by omega), Nat.and_one_is_mod]
  have : a % 2 < 2 := Nat.mod_lt _ (by decide)
  show (if (true && decide (((a % 2 : Nat) : Int) % 4294967296 ≥ 2147483648)) = true then _ else _) = _
  simp only [Bool.true_and, decide_eq_true_eq, ge_iff_le]
  show (if 2147483648 ≤ ((a % 2 : Nat) : Int) % 4294967296 then ((a % 2 : Nat) : Int) % 4294967296 - 4294967296 else ((a % 2 : Nat) : Int) % 4294967296) = _
  split <;> omega
theorem shrN {v i : Nat} (hi : i ≤ 63) : (v : Int).fdiv (2 ^ min i IntKind.i64.bits) = ((v / 2 ^ i : Nat) : Int) := by
  rw [show min i IntKind.i64.bits = i from Nat.min_eq_left (by show i ≤ 64; omega), Int.fdiv_eq_ediv_of_nonneg _ (Int.le_of_lt (Int.pow_pos (by decide)))]
  rw [Int.natCast_ediv, Int.natCast_pow]; rfl
theorem shlN {v i : Nat} (hi : i ≤ 63) (h : v * 2 ^ i < 9223372036854775808) : IntKind.i64.wrap ((v : Int) * 2 ^ min i IntKind.i64.bits) = ((v * 2 ^ i : Nat) : Int) := by
  rw [show min i IntKind.i64.bits = i from Nat.min_eq_left (by show i ≤ 64; omega)]
  rw [show (v : Int) * 2 ^ i = ((v * 2 ^ i : Nat) : Int) by rw [Int.natCast_mul, Int.natCast_pow]; rfl]
  exact wnat h
theorem shlN1 {i : Nat} (hi : i ≤ 62) : IntKind.i64.wrap ((1 : Int) * 2 ^ min i IntKind.i64.bits) = ((2 ^ i : Nat) : Int) := by
  have h : 1 * 2 ^ i < 9223372036854775808 := by
    have := Nat.pow_le_pow_right (n := 2) (by decide) hi
    omega
  have := shlN (v := 1) (i := i) (by omega) h
  rw [Nat.one_mul] at this
  exact this
def nats (l : List Nat) : List Int := l.map fun (n : Nat) => (n : Int)
theorem nats_len {l : List Nat} : (nats l).length = l.length := by simp [nats]
theorem nats_get {l : List Nat} {i : Nat} : (nats l).getD i 0 = ((l.getD i 0 : Nat) : Int) := by
  unfold nats
  rw [List.getD_eq_getElem?_getD, List.getD_eq_getElem?_getD, List.getElem?_map]
  cases l[i]? <;> rfl
theorem nats_set {l : List Nat} {i v : Nat} : (nats l).set i (v : Int) = nats (l.set i v) := by simp [nats, List.map_set]
theorem nats_app {l m : List Nat} : nats (l ++ m) = nats l ++ nats m := by simp [nats]
theorem nats_rep {n : Nat} : nats (List.replicate n 0) = List.replicate n 0 := by simp [nats]
theorem f_i1u {b : Bool} {cs : List T} : finZ 1 [.flat b cs] true (.tup []) = some (.tup [], [.flat b cs]) := rfl
theorem cj_u {nx id : Nat} : renV (back [id] nx) (.tup []) = .tup [] := rfl
end Go.AM

namespace Go.AM
noncomputable section
def fN {R : Type} (m : Nat) (k : Nat → R) : R := Nat.rec (motive := fun _ => R) (k 0) (fun j _ => k (Nat.succ j)) m
def fI {R : Type} (n : Int) (k : Int → R) : R := Int.rec (motive := fun _ => R) (fun m => fN m fun m => k (.ofNat m)) (fun m => fN m fun m => k (.negSucc m)) n
def fB {R : Type} (b : Bool) (k : Bool → R) : R := Bool.rec (motive := fun _ => R) (k false) (k true) b
def fL {R α : Type} (f : α → (α → R) → R) (l : List α) : (List α → R) → R :=
  List.rec (motive := fun _ => (List α → R) → R) (fun k => k []) (fun x _ ih k => f x fun x => ih fun xs => k (x :: xs)) l
def fT {R : Type} (x : T) (k : T → R) : R :=
  match x with
  | .int kd n => fI n fun n => k (.int kd n)
  | .bool b => fB b fun b => k (.bool b)
  | .sl n cs => fN n fun n => k (.sl n cs)
  | .box cs j => fN j fun j => k (.box cs j)
  | x => k x
def fC {R : Type} (x : C) (k : C → R) : R :=
  match x with
  | .t x => fT x fun x => k (.t x)
  | .ref id off => fN id fun id => fN off fun off => k (.ref id off)
  | .osl id off len sz => fN id fun id => fN off fun off => fN len fun len => fN sz fun sz => k (.osl id off len sz)
  | x => k x
def fV1 {R : Type} (x : V) (k : V → R) : R :=
  match x with
  | .c x => fC x fun x => k (.c x)
  | .agg cs => fL fC cs fun cs => k (.agg cs)
  | .own cs => fL fC cs fun cs => k (.own cs)
  | x => k x
def fV {R : Type} (x : V) (k : V → R) : R :=
  match x with
  | .tup vs => fL fV1 vs fun vs => k (.tup vs)
  | x => fV1 x k
def fO {R : Type} (x : Ob) (k : Ob → R) : R :=
  match x with
  | .flat fr cs => fL fT cs fun cs => k (.flat fr cs)
  | .mix fr cs => fL fC cs fun cs => k (.mix fr cs)
  | .gone => k .gone
def fSt {R : Type} (s : St) (k : St → R) : R := fL fV s.fr fun fr => fL fO s.H fun H => k ⟨fr, H⟩
theorem fN_eq {R : Type} (m : Nat) (k : Nat → R) : fN m k = k m := by cases m <;> rfl
theorem fI_eq {R : Type} (n : Int) (k : Int → R) : fI n k = k n := by cases n <;> simp [fI, fN_eq]
theorem fB_eq {R : Type} (b : Bool) (k : Bool → R) : fB b k = k b := by cases b <;> rfl
theorem fL_eq {R α : Type} {f : α → (α → R) → R} (hf : ∀ x k, f x k = k x) : ∀ (l : List α) (k : List α → R), fL f l k = k l
  | [], k => rfl
  | x :: xs, k => by
    show f x (fun x => fL f xs fun xs => k (x :: xs)) = _
    rw [hf, fL_eq hf xs]
theorem fT_eq {R : Type} (x : T) (k : T → R) : fT x k = k x := by cases x <;> simp [fT, fI_eq, fN_eq, fB_eq]
theorem fC_eq {R : Type} (x : C) (k : C → R) : fC x k = k x := by cases x <;> simp [fC, fT_eq, fN_eq]
theorem fV1_eq {R : Type} (x : V) (k : V → R) : fV1 x k = k x := by cases x <;> simp [fV1, fC_eq, fL_eq fC_eq]
theorem fV_eq {R : Type} (x : V) (k : V → R) : fV x k = k x := by cases x <;> simp [fV, fV1_eq, fL_eq fV1_eq]
theorem fO_eq {R : Type} (x : Ob) (k : Ob → R) : fO x k = k x := by cases x <;> simp [fO, fL_eq fT_eq, fL_eq fC_eq]
theorem fSt_eq {R : Type} (s : St) (k : St → R) : fSt s k = k s := by simp [fSt, fL_eq fV_eq, fL_eq fO_eq]
def fstep {R : Type} (E : Env) (L0 : Nat) (is : List Ins) : St → (St → Option R) → Option R :=
  List.rec (motive := fun _ => St → (St → Option R) → Option R) (fun s k => k s)
    (fun i _ ih s k => Option.rec (motive := fun _ => Option R) none (fun s => fL fV s.fr fun fr => ih ⟨fr, s.H⟩ k) (stepIns E L0 i s)) is
theorem fstep_eq {R : Type} (E : Env) (L0 : Nat) : ∀ (is : List Ins) (s : St) (k : St → Option R), fstep E L0 is s k = (runIs E L0 is s).bind k
  | [], s, k => rfl
  | i :: is, s, k => by
    show Option.rec (motive := fun _ => Option R) none (fun s => fL fV s.fr fun fr => fstep E L0 is ⟨fr, s.H⟩ k) (stepIns E L0 i s) = _
    rw [runIs]
    cases stepIns E L0 i s with
    | none => rfl
    | some s' =>
      show fL fV s'.fr (fun fr => fstep E L0 is ⟨fr, s'.H⟩ k) = (runIs E L0 is s').bind k
      rw [fL_eq fV_eq, fstep_eq E L0 is]
def loopF {R : Type} (m : Nat) (kill : List Nat) (nils : List (Nat × Nat)) (body : St → (Ex → St → Option R) → Option R) (k : Ex → St → Option R) (n : Nat) : St → Option R :=
  Nat.rec (motive := fun _ => St → Option R) (fun _ => none) (fun _ ih s => fSt (norm m kill nils s) fun s => body s fun e s' => match e with | .norm => ih s' | e => k e s') n
theorem loopF_eq {R : Type} (m : Nat) (kill : List Nat) (nils : List (Nat × Nat)) (body : St → (Ex → St → Option R) → Option R) (k : Ex → St → Option R) : ∀ (n : Nat) (s : St), loopF m kill nils body k n s = loopN m kill nils body k n s
  | 0, s => rfl
  | n + 1, s => by
    show fSt (norm m kill nils s) (fun s => body s fun e s' => match e with | .norm => loopF m kill nils body k n s' | e => k e s') = _
    rw [fSt_eq, loopN]
    congr 1
    funext e s'
    cases e
    · exact loopF_eq m kill nils body k n s'
    · rfl
    · rfl
def execF {R : Type} (E : Env) (n : Nat) (c : Cd) : St → (Ex → St → Option R) → Option R :=
  Cd.rec (motive := fun _ => St → (Ex → St → Option R) → Option R)
    (fun s k => k .norm s)
    (fun _ is s k => fstep E s.H.length is s fun s => k .norm s)
    (fun _ _ iha ihb s k => iha s fun e s' => match e with | .norm => ihb s' k | e => k e s')
    (fun c _ _ iha ihb s k => match ev s.fr c with | .c (.t (.bool t)) => Bool.rec (motive := fun _ => Option R) (ihb s k) (iha s k) t | _ => none)
    (fun id _ iha s k => iha s fun e s' => match e with | .exit j => if j = id then k .norm s' else k (.exit j) s' | e => k e s')
    (fun kl ns _ iha s k => loopF E.m kl ns iha k n s)
    (fun id s k => k (.exit id) s)
    (fun s k => k .ret s) c
theorem execF_eq {R : Type} (E : Env) (n : Nat) : ∀ (c : Cd) (s : St) (k : Ex → St → Option R), execF E n c s k = exec E n c s k
  | .skip, s, k => rfl
  | .reg d is, s, k => by
    show fstep E s.H.length is s (fun s => k .norm s) = _
    rw [fstep_eq]; rfl
  | .seq a b, s, k => by
    show execF E n a s (fun e s' => match e with | .norm => execF E n b s' k | e => k e s') = _
    rw [execF_eq E n a, exec]
    congr 1
    funext e s'
    cases e
    · exact execF_eq E n b s' k
    · rfl
    · rfl
  | .cond c a b, s, k => by
    show (match ev s.fr c with | .c (.t (.bool t)) => Bool.rec (motive := fun _ => Option R) (execF E n b s k) (execF E n a s k) t | _ => none) = _
    rw [exec, execF_eq E n a, execF_eq E n b]
    split
    · rename_i t h
      simp only [h]
      cases t <;> rfl
    · rename_i h
      split
      · rename_i t h2
        exact absurd h2 (h t)
      · rfl
  | .block id a, s, k => by
    show execF E n a s (fun e s' => match e with | .exit j => if j = id then k .norm s' else k (.exit j) s' | e => k e s') = _
    rw [execF_eq E n a, exec]
    rfl
  | .loop kl ns a, s, k => by
    show loopF E.m kl ns (execF E n a) k n s = _
    rw [loopF_eq, exec]
    congr 1
    funext s k
    exact execF_eq E n a s k
  | .exit id, s, k => rfl
  | .ret, s, k => rfl
def pcallF (G : Pg) (n : Nat) : Orc :=
  Nat.rec (motive := fun _ => Orc) (fun _ _ _ => none) (fun n ih f vs H =>
    match G.fn f with
    | none => G.ext f vs H
    | some fd => if vs.any V.isO then none else fL fV vs fun vs => fL fO H fun H => execF ⟨G.tb, G.imp, ih, H.length⟩ n fd.body ⟨vs ++ List.replicate (fd.ntmps - vs.length) (V.tup []), H⟩ fun e s =>
      match e with
      | .norm | .ret => finish G.tb (G.imp f) H.length fd.results s
      | _ => none) n
theorem pcallF_eq (G : Pg) : ∀ n, pcallF G n = pcall G n
  | 0 => rfl
  | n + 1 => by
    funext f vs H
    show (match G.fn f with
    | none => G.ext f vs H
    | some fd => if vs.any V.isO then none else fL fV vs fun vs => fL fO H fun H => execF ⟨G.tb, G.imp, pcallF G n, H.length⟩ n fd.body ⟨vs ++ List.replicate (fd.ntmps - vs.length) (V.tup []), H⟩ fun e s =>
      match e with
      | .norm | .ret => finish G.tb (G.imp f) H.length fd.results s
      | _ => none) = _
    simp only [pcall]
    cases G.fn f with
    | none => rfl
    | some fd =>
      simp only [fL_eq fV_eq, fL_eq fO_eq, pcallF_eq G n, execF_eq]
      rfl
end
end Go.AM

namespace Go.AM
def chkL {α : Type} (f : α → α → Bool) : List α → List α → Bool
  | [], [] => true
  | x :: xs, y :: ys => f x y && chkL f xs ys
  | _, _ => false
theorem chkL_ok {α : Type} {f : α → α → Bool} (hf : ∀ x y, f x y = true → x = y) : ∀ {xs ys : List α}, chkL f xs ys = true → xs = ys
  | [], [], _ => rfl
  | x :: xs, y :: ys, h => by
    simp only [chkL, Bool.and_eq_true] at h
    rw [hf _ _ h.1, chkL_ok hf h.2]
  | [], _ :: _, h => by simp [chkL] at h
  | _ :: _, [], h => by simp [chkL] at h
def chkT : Nat → T → T → Bool
  | 0, _, _ => false
  | n + 1, .int k a, .int k' b => decide (k = k') && decide (a = b)
  | n + 1, .str s, .str u => decide (s.data.toList = u.data.toList)
  | n + 1, .bool a, .bool b => decide (a = b)
  | n + 1, .sl m xs, .sl m' ys => decide (m = m') && chkL (chkT n) xs ys
  | _, _, _ => false
theorem chkT_ok : ∀ (n : Nat) (x y : T), chkT n x y = true → x = y
  | 0, _, _, h => by simp [chkT] at h
  | n + 1, .int k a, .int k' b, h => by simp [chkT] at h; rw [h.1, h.2]
  | n + 1, .str s, .str u, h => by
    simp only [chkT, decide_eq_true_eq] at h
    have : s = u := by
      cases s; cases u
      congr
      exact Array.ext' h
    rw [this]
  | n + 1, .bool a, .bool b, h => by simp [chkT] at h; rw [h]
  | n + 1, .sl m xs, .sl m' ys, h => by
    simp only [chkT, Bool.and_eq_true, decide_eq_true_eq] at h
    rw [h.1, chkL_ok (chkT_ok n) h.2]
  | n + 1, .int .., .str .., h | n + 1, .int .., .bool .., h | n + 1, .int .., .sl .., h | n + 1, .int .., .nilp, h | n + 1, .int .., .box .., h | n + 1, .int .., .nils, h | n + 1, .int .., .fn .., h | n + 1, .int .., .nilf, h | n + 1, .int .., .nili, h
  | n + 1, .str .., .int .., h | n + 1, .str .., .bool .., h | n + 1, .str .., .sl .., h | n + 1, .str .., .nilp, h | n + 1, .str .., .box .., h | n + 1, .str .., .nils, h | n + 1, .str .., .fn .., h | n + 1, .str .., .nilf, h | n + 1, .str .., .nili, h
  | n + 1, .bool .., .int .., h | n + 1, .bool .., .str .., h | n + 1, .bool .., .sl .., h | n + 1, .bool .., .nilp, h | n + 1, .bool .., .box .., h | n + 1, .bool .., .nils, h | n + 1, .bool .., .fn .., h | n + 1, .bool .., .nilf, h | n + 1, .bool .., .nili, h
  | n + 1, .sl .., .int .., h | n + 1, .sl .., .str .., h | n + 1, .sl .., .bool .., h | n + 1, .sl .., .nilp, h | n + 1, .sl .., .box .., h | n + 1, .sl .., .nils, h | n + 1, .sl .., .fn .., h | n + 1, .sl .., .nilf, h | n + 1, .sl .., .nili, h
  | n + 1, .nilp, _, h | n + 1, .box .., _, h | n + 1, .nils, _, h | n + 1, .fn .., _, h | n + 1, .nilf, _, h | n + 1, .nili, _, h => by simp [chkT] at h
def chkC : C → C → Bool
  | .t x, .t y => chkT 10 x y
  | .osl a b c d, .osl a' b' c' d' => decide (a = a') && (decide (b = b') && (decide (c = c') && decide (d = d')))
  | _, _ => false
theorem chkC_ok : ∀ (x y : C), chkC x y = true → x = y := by
  intro x y h
  unfold chkC at h
  split at h
  · rw [chkT_ok _ _ _ h]
  · simp only [Bool.and_eq_true, decide_eq_true_eq] at h
    rw [h.1, h.2.1, h.2.2.1, h.2.2.2]
  · cases h
def chkV : V → V → Bool
  | .c x, .c y => chkC x y
  | _, _ => false
theorem chkV_ok : ∀ (x y : V), chkV x y = true → x = y := by
  intro x y h
  unfold chkV at h
  split at h
  · rw [chkC_ok _ _ h]
  · cases h
def chkO : Ob → Ob → Bool
  | .flat f x, .flat g y => decide (f = g) && chkL (chkT 10) x y
  | _, _ => false
theorem chkO_ok : ∀ (x y : Ob), chkO x y = true → x = y := by
  intro x y h
  unfold chkO at h
  split at h
  · simp only [Bool.and_eq_true, decide_eq_true_eq] at h
    rw [h.1, chkL_ok (chkT_ok 10) h.2]
  · cases h
def know (orc : Orc) (f0 : FuncId) (vs0 : List V) (H0 : List Ob) (r : V × List Ob) : Orc := fun f vs H =>
  if f = f0 then (if chkL chkV vs vs0 && chkL chkO H H0 then some r else orc f vs H) else orc f vs H
theorem know_eq {orc : Orc} {f0 : FuncId} {vs0 : List V} {H0 : List Ob} {r : V × List Ob} (h : orc f0 vs0 H0 = some r) : know orc f0 vs0 H0 r = orc := by
  funext f vs H
  unfold know
  split
  · rename_i hf
    subst hf
    split
    · rename_i hc
      rw [Bool.and_eq_true] at hc
      rw [chkL_ok chkV_ok hc.1, chkL_ok chkO_ok hc.2, h]
    · rfl
  · rfl
noncomputable def callK (G : Pg) (n : Nat) (orc : Orc) (f : FuncId) (vs : List V) (H : List Ob) : Option (V × List Ob) :=
  match G.fn f with
  | none => none
  | some fd => if vs.any V.isO then none else execF ⟨G.tb, G.imp, orc, H.length⟩ n fd.body ⟨vs ++ List.replicate (fd.ntmps - vs.length) (V.tup []), H⟩ fun e s =>
      match e with
      | .norm | .ret => finish G.tb (G.imp f) H.length fd.results s
      | _ => none
theorem callK_pcall {G : Pg} {n : Nat} {f : FuncId} {vs : List V} {H : List Ob} {r : V × List Ob} (h : callK G n (pcall G n) f vs H = some r) : pcall G (n + 1) f vs H = some r := by
  unfold callK at h
  simp only [pcall]
  cases hf : G.fn f with
  | none => rw [hf] at h; cases h
  | some fd =>
    rw [hf] at h
    simp only [execF_eq] at h
    exact h
end Go.AM

namespace Go.AM
theorem CallOk.now {P : Program} {f : FuncId} {vs : List V} {r : V} (h : ∀ (I : Nat → Prop) (ρ : Rho) (w : World) (us : List Value), A2 (RV w I ρ []) vs us → ∃ v', (callFunc f us.toArray).run P w = .ok (.value v') w ∧ RV w I ρ [] r v') : CallOk P f vs [] r [] := by
  intro I ρ w us hC hA
  obtain ⟨v', h1, h2⟩ := h I ρ w us hA
  exact .inr ⟨v', w, h1, I, ρ, hC, h2, Ext.refl _ _ _, fun _ id hid => by simp at hid⟩
theorem rv_wd2 {w : World} {I : Nat → Prop} {ρ : Rho} {x y : Int} : RV w I ρ [] (.tup [wd x, wd y]) (.tuple #[.int .u64 x, .int .u64 y]) := ⟨[.int .u64 x, .int .u64 y], rfl, .cons rfl (.cons rfl .nil)⟩
theorem three_args {w : World} {I : Nat → Prop} {ρ : Rho} {x y c : Int} {us : List Value} (h : A2 (RV w I ρ []) [wd x, wd y, wd c] us) : us = [.int .u64 x, .int .u64 y, .int .u64 c] := by
  cases h with
  | cons h1 h => cases h with
    | cons h2 h => cases h with
      | cons h3 h => cases h; rw [show _ = Value.int .u64 x from h1, show _ = Value.int .u64 y from h2, show _ = Value.int .u64 c from h3]
theorem add_ok {P : Program} {f : FuncId} {fn : Func} (hf : P.funcs[f]? = some fn) (h1 : (fn.name == "runtime.NumGoroutine") = false) (h2 : fn.body.isNone = true) (h3 : Extern.findNext fn = none) (h4 : Extern.find fn = some add64Entry) {vs : List V} {r : V} (h : extAdd vs = some r) : CallOk P f vs [] r [] := by
  unfold extAdd at h
  split at h
  · rename_i x y c
    split at h
    · rename_i hc
      cases h
      refine .now fun I ρ w us hA => ⟨_, ?_, rv_wd2⟩
      rw [three_args hA, run_callFunc_extern hf h1 h2 h3 h4, run_add64 x y c hc.1.1 hc.1.2 hc.2.1 hc.2.2]
      rfl
    · cases h
  · cases h
theorem sub_ok {P : Program} {f : FuncId} {fn : Func} (hf : P.funcs[f]? = some fn) (h1 : (fn.name == "runtime.NumGoroutine") = false) (h2 : fn.body.isNone = true) (h3 : Extern.findNext fn = none) (h4 : Extern.find fn = some Go.Proofs.sub64Entry) {vs : List V} {r : V} (h : extSub vs = some r) : CallOk P f vs [] r [] := by
  unfold extSub at h
  split at h
  · rename_i x y c
    split at h
    · rename_i hc
      cases h
      obtain ⟨a, rfl⟩ := Int.eq_ofNat_of_zero_le hc.1.1
      obtain ⟨b, rfl⟩ := Int.eq_ofNat_of_zero_le hc.2.1.1
      obtain ⟨k, rfl⟩ := Int.eq_ofNat_of_zero_le hc.2.2.1
      refine .now fun I ρ w us hA => ⟨_, ?_, rv_wd2⟩
      have hx := hc.1.2; have hy := hc.2.1.2; have hk := hc.2.2.2
      have e1 : (((a + 18446744073709551616 - b - k) % 18446744073709551616 : Nat) : Int) = ((a : Int) - b - k) % 18446744073709551616 := by omega
      have e2 : ((if a < b + k then 1 else 0 : Nat) : Int) = (if (a : Int) < (b : Int) + k then 1 else 0) := by
        by_cases h : a < b + k
        · rw [if_pos h, if_pos (by omega)]; rfl
        · rw [if_neg h, if_neg (by omega)]; rfl
      rw [three_args hA, run_callFunc_extern hf h1 h2 h3 h4, Go.Proofs.run_sub64 a b k (by omega), e1, e2]
      rfl
    · cases h
  · cases h
end Go.AM
