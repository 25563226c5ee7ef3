import Derived.Test.YthjmbppofgadaaaA5
import Derived.Test.YthjmbppofgadaaaA4
import Derived.ProofKit
import Derived.SizedLaws
import Derived.Deep.Slices
set_option linter.unusedVariables false
set_option linter.unnecessarySimpa false
set_option linter.all false
set_option linter.unusedSimpArgs false
set_option linter.defProp false
namespace Go.AM
def trimL : List Int → List Int
  | [] => []
  | x :: xs => if x = 0 ∧ trimL xs = [] then [] else x :: trimL xs
theorem trimL_zero : ∀ ys : List Int, trimL (ys ++ [0]) = trimL ys
  | [] => by simp [trimL]
  | y :: ys => by simp only [List.cons_append, trimL, trimL_zero ys]
theorem trimL_last {x : Int} (hx : x ≠ 0) : ∀ ys : List Int, trimL (ys ++ [x]) = ys ++ [x]
  | [] => by simp [trimL, hx]
  | y :: ys => by
    have := trimL_last hx ys
    simp [trimL, this]
theorem trimL_len : ∀ ys : List Int, (trimL ys).length ≤ ys.length
  | [] => by simp [trimL]
  | y :: ys => by
    have := trimL_len ys
    simp only [trimL]
    split <;> simp <;> omega
theorem trimL_take : ∀ ys : List Int, ys.take (trimL ys).length = trimL ys
  | [] => by simp [trimL]
  | y :: ys => by
    have := trimL_take ys
    simp only [trimL]
    split
    · rfl
    · simp [this]
theorem take_last {xs : List Int} {off l : Nat} (h : 0 < l) (h2 : off + l ≤ xs.length) : (xs.drop off).take l = (xs.drop off).take (l - 1) ++ [xs.getD (off + (l - 1)) 0] := by
  have e : l = (l - 1) + 1 := by omega
  conv => lhs; rw [e]
  rw [List.take_add_one, List.getElem?_drop, List.getD_eq_getElem?_getD, List.getElem?_eq_getElem (by omega)]
  rfl
def val (B : Int) : List Int → Int
  | [] => 0
  | x :: xs => x + B * val B xs
def Ws (B : Int) (xs : List Int) : Prop := ∀ x ∈ xs, 0 ≤ x ∧ x < B
theorem val_append (B : Int) : ∀ xs ys : List Int, val B (xs ++ ys) = val B xs + B ^ xs.length * val B ys
  | [], ys => by simp [val]
  | x :: xs, ys => by
    simp only [List.cons_append, val, val_append B xs ys, List.length_cons, Int.pow_succ, Int.mul_add, Int.add_assoc, Int.mul_assoc]
    congr 2
    rw [← Int.mul_assoc, Int.mul_comm B, Int.mul_assoc]
theorem Ws.nil {B : Int} : Ws B [] := by simp [Ws]
theorem Ws.cons {B x : Int} {xs : List Int} : Ws B (x :: xs) ↔ (0 ≤ x ∧ x < B) ∧ Ws B xs := by simp [Ws]
theorem Ws.append {B : Int} {xs ys : List Int} : Ws B (xs ++ ys) ↔ Ws B xs ∧ Ws B ys := by
  simp only [Ws, List.mem_append]
  exact ⟨fun h => ⟨fun x hx => h x (.inl hx), fun x hx => h x (.inr hx)⟩, fun h x hx => hx.elim (h.1 x) (h.2 x)⟩
theorem val_trim (B : Int) : ∀ xs : List Int, val B (trimL xs) = val B xs
  | [] => rfl
  | x :: xs => by
    have ih := val_trim B xs
    simp only [trimL]
    split
    · rename_i h
      obtain ⟨rfl, h⟩ := h
      rw [h] at ih
      simp only [val] at ih ⊢
      rw [← ih]
      simp
    · simp [val, ih]
theorem Ws.trim {B : Int} : ∀ {xs : List Int}, Ws B xs → Ws B (trimL xs)
  | [], h => h
  | x :: xs, h => by
    rw [Ws.cons] at h
    simp only [trimL]
    split
    · exact Ws.nil
    · exact Ws.cons.2 ⟨h.1, h.2.trim⟩
theorem val_nonneg {B : Int} (hB : 0 ≤ B) : ∀ {xs : List Int}, Ws B xs → 0 ≤ val B xs
  | [], _ => Int.le_refl _
  | x :: xs, h => by
    rw [Ws.cons] at h
    exact Int.add_nonneg h.1.1 (Int.mul_nonneg hB (val_nonneg hB h.2))
theorem Ws.getD {B : Int} {xs : List Int} (hB : 0 < B) (h : Ws B xs) (i : Nat) : 0 ≤ xs.getD i 0 ∧ xs.getD i 0 < B := by
  rw [List.getD_eq_getElem?_getD]
  cases hx : xs[i]? with
  | none => exact ⟨Int.le_refl _, hB⟩
  | some x => exact h x (List.mem_of_getElem? hx)
theorem val_take (B : Int) (xs : List Int) (i : Nat) : val B (xs.take (i + 1)) = val B (xs.take i) + B ^ i * xs.getD i 0 := by
  rw [List.take_add_one, val_append, List.getD_eq_getElem?_getD]
  by_cases h : i < xs.length
  · rw [List.getElem?_eq_getElem h]
    simp [val, Nat.min_eq_left (Nat.le_of_lt h)]
  · rw [List.getElem?_eq_none (by omega)]
    simp [val]
theorem val_take_all (B : Int) {xs : List Int} {i : Nat} (h : xs.length ≤ i) : val B (xs.take i) = val B xs := by rw [List.take_of_length_le h]
theorem set_fill {zs : List Int} {i k : Nat} {d : Int} (h : zs.length = i) (hk : 0 < k) : (zs ++ List.replicate k 0).set i d = (zs ++ [d]) ++ List.replicate (k - 1) 0 := by
  subst h
  obtain ⟨k, rfl⟩ : ∃ m, k = m + 1 := ⟨k - 1, by omega⟩
  rw [List.set_append_right _ _ (Nat.le_refl _), List.replicate_succ]
  simp
theorem val_zeros (B : Int) (k : Nat) : val B (List.replicate k 0) = 0 := by
  induction k with
  | zero => rfl
  | succ k ih => rw [List.replicate_succ, val, ih]; simp
theorem val_lt {B : Int} (hB : 0 < B) : ∀ {xs : List Int}, Ws B xs → val B xs < B ^ xs.length
  | [], _ => by simp [val]
  | x :: xs, h => by
    rw [Ws.cons] at h
    have ih := val_lt hB h.2
    rw [val, List.length_cons, Int.pow_succ]
    have : B * (val B xs + 1) ≤ B * B ^ xs.length := Int.mul_le_mul_of_nonneg_left (by omega) (by omega)
    rw [Int.mul_add, Int.mul_comm B (B ^ _)] at this
    omega
theorem add_step {B v p c x y d e s t : Int} (h : v + p * c = s + t) (h2 : c + x + y = d + B * e) : v + p * val B [d] + (p * B) * e = s + p * x + (t + p * y) := by
  have h3 : p * (c + x + y) = p * (d + B * e) := by rw [h2]
  simp only [Int.mul_add, ← Int.mul_assoc] at h3
  simp only [val, Int.mul_zero, Int.add_zero]
  omega
def dig (b : Nat) (n : Nat) : List Int :=
  if h : n = 0 ∨ b < 2 then [] else ((n % b : Nat) : Int) :: dig b (n / b)
termination_by n
decreasing_by exact Nat.div_lt_self (by omega) (by omega)
theorem dig_zero {b : Nat} : dig b 0 = [] := by rw [dig]; simp
theorem dig_step {b n : Nat} (hb : 2 ≤ b) (hn : n ≠ 0) : dig b n = ((n % b : Nat) : Int) :: dig b (n / b) := by
  rw [dig, dif_neg (by omega)]
theorem dig_nil {b n : Nat} (hb : 2 ≤ b) : dig b n = [] ↔ n = 0 := by
  constructor
  · intro h
    by_cases hn : n = 0
    · exact hn
    · rw [dig_step hb hn] at h; cases h
  · rintro rfl; exact dig_zero
theorem dig_ws {b : Nat} (hb : 2 ≤ b) (n : Nat) : Ws b (dig b n) := by
  induction n using Nat.strongRecOn with
  | _ n ih =>
    by_cases hn : n = 0
    · subst hn; rw [dig_zero]; exact Ws.nil
    · rw [dig_step hb hn]
      have := Nat.mod_lt n (show b > 0 by omega)
      exact Ws.cons.2 ⟨⟨by omega, by omega⟩, ih _ (Nat.div_lt_self (by omega) (by omega))⟩
theorem dig_val {b : Nat} (hb : 2 ≤ b) (n : Nat) : val b (dig b n) = n := by
  induction n using Nat.strongRecOn with
  | _ n ih =>
    by_cases hn : n = 0
    · subst hn; rw [dig_zero]; rfl
    · rw [dig_step hb hn, val, ih _ (Nat.div_lt_self (by omega) (by omega))]
      have := Nat.mod_add_div n b
      exact_mod_cast this
theorem dig_trim {b : Nat} (hb : 2 ≤ b) (n : Nat) : trimL (dig b n) = dig b n := by
  induction n using Nat.strongRecOn with
  | _ n ih =>
    by_cases hn : n = 0
    · subst hn; rw [dig_zero]; rfl
    · rw [dig_step hb hn]
      have h1 := ih _ (Nat.div_lt_self (n := n) (k := b) (by omega) (by omega))
      simp only [trimL, h1]
      rw [if_neg]
      rintro ⟨h2, h3⟩
      rw [dig_nil hb] at h3
      have := Nat.mod_add_div n b
      rw [h3] at this
      have h4 : n % b = 0 := by omega
      rw [h4] at this
      omega
theorem dig_of {b : Nat} (hb : 2 ≤ b) : ∀ {xs : List Int} {n : Nat}, Ws b xs → val b xs = n → trimL xs = dig b n
  | [], n, _, h => by
    have : n = 0 := by simpa [val] using h.symm
    subst this; rw [dig_zero]; rfl
  | x :: xs, n, hw, h => by
    rw [Ws.cons] at hw
    obtain ⟨m, hm⟩ := Int.eq_ofNat_of_zero_le (val_nonneg (by omega : (0 : Int) ≤ b) hw.2)
    obtain ⟨y, hy⟩ := Int.eq_ofNat_of_zero_le hw.1.1
    have ih := dig_of hb hw.2 hm
    rw [val, hm, hy] at h
    have h' : y + b * m = n := by exact_mod_cast h
    have hyb : y < b := by omega
    have hmod : n % b = y := by rw [← h', Nat.add_mul_mod_self_left, Nat.mod_eq_of_lt hyb]
    have hdiv : n / b = m := by rw [← h', Nat.add_mul_div_left _ _ (by omega), Nat.div_eq_of_lt hyb, Nat.zero_add]
    by_cases hn : n = 0
    · subst hn
      have hm0 : m = 0 := by rw [← hdiv]; exact Nat.zero_div b
      have hy0 : y = 0 := by omega
      subst hm0 hy0
      rw [dig_zero] at ih ⊢
      simp [trimL, ih, hy]
    · rw [dig_step hb hn, hmod, hdiv]
      simp only [trimL, ih]
      rw [if_neg]
      · rw [hy]
      · rintro ⟨h2, h3⟩
        rw [dig_nil hb] at h3
        subst h3
        rw [h2] at hy
        simp at h'
        omega
theorem getD_set {L : List Int} {p j : Nat} {v : Int} (hp : p < L.length) : (L.set p v).getD j 0 = if j = p then v else L.getD j 0 := by
  simp only [List.getD_eq_getElem?_getD, List.getElem?_set]
  by_cases h : p = j
  · subst h; simp [hp]
  · rw [if_neg h, if_neg (fun h' => h h'.symm)]
theorem Ws.set {B : Int} {L : List Int} {p : Nat} {v : Int} (h : Ws B L) (hv : 0 ≤ v ∧ v < B) : Ws B (L.set p v) := by
  intro x hx
  rcases List.mem_or_eq_of_mem_set hx with h' | rfl
  · exact h x h'
  · exact hv
theorem val_set (B : Int) : ∀ {L : List Int} {p : Nat} {v : Int}, p < L.length → val B (L.set p v) = val B L + B ^ p * (v - L.getD p 0)
  | [], p, v, h => by simp at h
  | x :: xs, 0, v, _ => by simp [val]; omega
  | x :: xs, p + 1, v, h => by
    have := val_set B (L := xs) (p := p) (v := v) (by simpa using h)
    rw [List.set_cons_succ, val, this, val, List.getD_cons_succ, Int.pow_succ, Int.mul_add, ← Int.mul_assoc, Int.mul_comm B (B ^ p)]
    omega
theorem getD_far {L : List Int} {j : Nat} (h : L.length ≤ j) : L.getD j 0 = 0 := by rw [List.getD_eq_getElem?_getD, List.getElem?_eq_none h]; rfl
theorem mul_bound {x y : Int} (hx : 0 ≤ x ∧ x < 4294967296) (hy : 0 ≤ y ∧ y < 4294967296) : 0 ≤ x * y ∧ x * y ≤ 18446744065119617025 := by
  refine ⟨Int.mul_nonneg hx.1 hy.1, ?_⟩
  have h1 : x * y ≤ 4294967295 * y := Int.mul_le_mul_of_nonneg_right (by omega) hy.1
  omega
theorem mul_step {B v p q c x y w d e s t vy : Int} (hv : v + p * c = s + q * (x * vy)) (h : c + (x * y + w) = d + B * e) (hp : p = q * t) : (v + p * (d - w)) + (p * B) * e = s + q * (x * (vy + t * y)) := by
  have h3 : p * (c + (x * y + w)) = p * (d + B * e) := by rw [h]
  subst hp
  simp only [Int.mul_add, Int.mul_sub, ← Int.mul_assoc] at h3 hv ⊢
  have e1 : q * t * x * y = q * x * t * y := by rw [Int.mul_right_comm q t x]
  omega
theorem or_shl {r x : Int} (hr : 0 ≤ r ∧ r < 4294967296) (hx : 0 ≤ x ∧ x < 4294967296) : bits .u64 (· ||| ·) ((r * 4294967296) % 18446744073709551616) x = r * 4294967296 + x := by
  obtain ⟨a, rfl⟩ := Int.eq_ofNat_of_zero_le hr.1
  obtain ⟨b, rfl⟩ := Int.eq_ofNat_of_zero_le hx.1
  have h1 : ((a : Int) * 4294967296) % 18446744073709551616 = ((a * 4294967296 : Nat) : Int) := by omega
  rw [h1]
  unfold bits
  rw [wu64, BitVec.ofInt_natCast, BitVec.ofInt_natCast, BitVec.toNat_or, BitVec.toNat_ofNat, BitVec.toNat_ofNat]
  rw [show IntKind.u64.bits = 64 from rfl, Nat.mod_eq_of_lt (by omega), Nat.mod_eq_of_lt (by omega)]
  have h2 : a * 4294967296 ||| b = a * 4294967296 + b := by
    rw [show a * 4294967296 = a * 2 ^ 32 from rfl, ← Nat.shiftLeft_eq, ← Nat.shiftLeft_add_eq_or_of_lt (by omega : b < 2 ^ 32)]
  rw [h2]
  omega
theorem div_step {B v a d r x q r' : Int} (h : v = a * d + r) (h2 : r * B + x = q * d + r') : x + B * v = (q + B * a) * d + r' := by
  subst h
  simp only [Int.mul_add, Int.add_mul, ← Int.mul_assoc, Int.mul_comm r B] at h2 ⊢
  omega
theorem val_drop (B : Int) {xs : List Int} {p : Nat} (h : p < xs.length) : val B (xs.drop p) = xs.getD p 0 + B * val B (xs.drop (p + 1)) := by
  rw [List.drop_eq_getElem_cons h, val, List.getD_eq_getElem?_getD, List.getElem?_eq_getElem h]; rfl
theorem set_back {k : Nat} {qs : List Int} {q : Int} (h : 0 < k) : (List.replicate k 0 ++ qs).set (k - 1) q = List.replicate (k - 1) 0 ++ (q :: qs) := by
  obtain ⟨k, rfl⟩ : ∃ m, k = m + 1 := ⟨k - 1, by omega⟩
  rw [Nat.add_sub_cancel, List.replicate_succ', List.append_assoc, List.set_append_right _ _ (by simp)]
  simp
theorem ediv_lt {r x d B : Int} (hd : 0 < d) (hr : 0 ≤ r ∧ r < d) (hx : 0 ≤ x ∧ x < B) (hB : 0 < B) : (0 ≤ (r * B + x) / d ∧ (r * B + x) / d < B) ∧ 0 ≤ (r * B + x) % d ∧ (r * B + x) % d < d ∧ 0 ≤ r * B := by
  have h0 : 0 ≤ r * B := Int.mul_nonneg hr.1 (by omega)
  refine ⟨⟨Int.ediv_nonneg (by omega) (by omega), ?_⟩, Int.emod_nonneg _ (by omega), Int.emod_lt_of_pos _ hd, h0⟩
  rw [Int.ediv_lt_iff_lt_mul hd]
  have h1 : (r + 1) * B ≤ d * B := Int.mul_le_mul_of_nonneg_right (by omega) (by omega)
  rw [Int.add_mul, Int.one_mul] at h1
  rw [Int.mul_comm B d]
  omega
theorem dig_lt {b : Nat} (hb : 2 ≤ b) (n : Nat) : n < b ^ (dig b n).length := by
  have h := val_lt (by omega : (0 : Int) < b) (dig_ws hb n)
  rw [dig_val hb] at h
  exact_mod_cast h
theorem dig_le {b : Nat} (hb : 2 ≤ b) {n : Nat} (hn : n ≠ 0) : b ^ ((dig b n).length - 1) ≤ n := by
  induction n using Nat.strongRecOn with
  | _ n ih =>
    rw [dig_step hb hn, List.length_cons, Nat.add_sub_cancel]
    by_cases h : n / b = 0
    · rw [h, dig_zero]; simp; omega
    · have h1 := ih _ (Nat.div_lt_self (n := n) (k := b) (by omega) (by omega)) h
      have h2 : 0 < (dig b (n / b)).length := List.length_pos_iff.2 fun e => h ((dig_nil hb).1 e)
      obtain ⟨k, hk⟩ : ∃ k, (dig b (n / b)).length = k + 1 := ⟨_, (Nat.sub_add_cancel h2).symm⟩
      rw [hk] at h1 ⊢
      rw [Nat.add_sub_cancel] at h1
      rw [Nat.pow_succ]
      calc b ^ k * b ≤ n / b * b := Nat.mul_le_mul_right _ h1
        _ ≤ n := Nat.div_mul_le_self n b
theorem dig_len_lt {b : Nat} (hb : 2 ≤ b) {m n : Nat} (h : (dig b m).length < (dig b n).length) : m < n := by
  have hn : n ≠ 0 := by rintro rfl; rw [dig_zero] at h; simp at h
  have h1 := dig_lt hb m
  have h2 := dig_le hb hn
  have h3 : b ^ (dig b m).length ≤ b ^ ((dig b n).length - 1) := Nat.pow_le_pow_right (by omega) (by omega)
  omega
theorem dig_inj {b : Nat} (hb : 2 ≤ b) {m n : Nat} (h : dig b m = dig b n) : m = n := by
  have h1 := dig_val hb m
  rw [h, dig_val hb] at h1
  omega
theorem cmp_digit {B : Int} (hB : 0 < B) {xs ys : List Int} {i : Nat} (hx : Ws B xs) (hy : Ws B ys) (hl : i < xs.length) (hl2 : i < ys.length) (hd : xs.drop (i + 1) = ys.drop (i + 1)) (h : xs.getD i 0 < ys.getD i 0) : val B xs < val B ys := by
  have e : ∀ zs : List Int, i < zs.length → val B zs = val B (zs.take i) + B ^ i * (zs.getD i 0 + B * val B (zs.drop (i + 1))) := by
    intro zs hz
    conv => lhs; rw [← List.take_append_drop i zs, val_append, List.length_take, Nat.min_eq_left (Nat.le_of_lt hz), val_drop B hz]
  have hxt : Ws B (xs.take i) := fun x hm => hx x (List.mem_of_mem_take hm)
  have hyt : Ws B (ys.take i) := fun x hm => hy x (List.mem_of_mem_take hm)
  have h1 := val_lt hB hxt
  rw [List.length_take, Nat.min_eq_left (Nat.le_of_lt hl)] at h1
  have h2 := val_nonneg (by omega) hyt
  rw [e xs hl, e ys hl2, hd]
  have hp : 0 < B ^ i := Int.pow_pos hB
  have h3 : B ^ i * (xs.getD i 0 + 1 + B * val B (ys.drop (i + 1))) ≤ B ^ i * (ys.getD i 0 + B * val B (ys.drop (i + 1))) := Int.mul_le_mul_of_nonneg_left (by omega) (by omega)
  have h4 : B ^ i * (xs.getD i 0 + 1 + B * val B (ys.drop (i + 1))) = B ^ i * (xs.getD i 0 + B * val B (ys.drop (i + 1))) + B ^ i := by
    rw [show xs.getD i 0 + 1 + B * val B (ys.drop (i + 1)) = (xs.getD i 0 + B * val B (ys.drop (i + 1))) + 1 by omega, Int.mul_add, Int.mul_one]
  omega
theorem dig_one {b n : Nat} (hb : 2 ≤ b) (h : (dig b n).length = 1) : dig b n = [(n : Int)] := by
  match hd : dig b n with
  | [x] =>
    have := dig_val hb n
    rw [hd] at this
    simp [val] at this
    rw [this]
  | [] => rw [hd] at h; simp at h
  | _ :: _ :: _ => rw [hd] at h; simp at h
theorem dig_len1 {b n : Nat} (hb : 2 ≤ b) (h : n < b) (h0 : n ≠ 0) : (dig b n).length = 1 := by
  rw [dig_step hb h0, Nat.div_eq_of_lt h, dig_zero]; rfl
theorem dig_small {b n : Nat} (hb : 2 ≤ b) (h : n < b) : (dig b n).length ≤ 1 := by
  by_cases h0 : n = 0
  · subst h0; rw [dig_zero]; simp
  · exact Nat.le_of_eq (dig_len1 hb h h0)
def cmpN (a b : Nat) : Int := if a < b then -1 else if a = b then 0 else 1
theorem len_pos {b m : Nat} (hb : 2 ≤ b) : decide ((0 : Int) < (dig b m).length) = !decide (m = 0) := by
  have h := dig_nil (n := m) hb
  have h2 : (0 : Int) < (dig b m).length ↔ dig b m ≠ [] := by
    rw [← List.length_pos_iff]; omega
  simp only [h2, ne_eq, h, decide_not]
theorem len_zero {b m : Nat} (hb : 2 ≤ b) : decide (((dig b m).length : Int) = 0) = decide (m = 0) := by
  have h := dig_nil (n := m) hb
  have h2 : ((dig b m).length : Int) = 0 ↔ dig b m = [] := by
    rw [← List.length_eq_zero_iff]; omega
  simp only [h2, h]
theorem trim_row {k : IntKind} {b : Nat} (hb : 2 ≤ b) {L : List Int} {len : Nat} {v : Int} (hl : L.length ≤ len) (hw : Ws b L) (hv : val b L = v) :
    T.sl (trimL (L.take len)).length (sub (ks k L) 0 ((trimL (L.take len)).length * 1)) = rowK k (dig b v.toNat) := by
  have h0 : 0 ≤ v := by rw [← hv]; exact val_nonneg (by omega) hw
  have h1 : trimL L = dig b v.toNat := dig_of hb hw (by rw [hv]; omega)
  rw [List.take_of_length_le hl, Nat.mul_one]
  have h2 : sub (ks k L) 0 (trimL L).length = ks k (trimL L) := by
    simp only [sub, List.drop_zero, ks, ← List.map_take]
    rw [trimL_take]
  rw [h2, h1]
theorem trim_row' {k : IntKind} {b : Nat} (hb : 2 ≤ b) {L : List Int} {v : Nat} (hw : Ws b L) (hv : val b L = v) :
    T.sl (trimL L).length (sub (ks k L) 0 ((trimL L).length * 1)) = rowK k (dig b v) := by
  have := trim_row (k := k) hb (Nat.le_refl L.length) hw hv
  rw [List.take_length] at this
  rw [this, Int.toNat_natCast]
theorem dig_top {b n : Nat} (hb : 2 ≤ b) (hn : n ≠ 0) : (dig b n).getD ((dig b n).length - 1) 0 ≠ 0 := by
  induction n using Nat.strongRecOn with
  | _ n ih =>
    rw [dig_step hb hn]
    by_cases h : n / b = 0
    · rw [h, dig_zero]
      simp
      have := Nat.mod_add_div n b
      rw [h] at this
      omega
    · have := ih _ (Nat.div_lt_self (n := n) (k := b) (by omega) (by omega)) h
      have hl : 0 < (dig b (n / b)).length := List.length_pos_iff.2 fun e => h ((dig_nil hb).1 e)
      obtain ⟨k, hk⟩ : ∃ k, (dig b (n / b)).length = k + 1 := ⟨_, (Nat.sub_add_cancel hl).symm⟩
      rw [hk] at this
      simpa [hk] using this
theorem bits_ex {t : Int} (h : 0 ≤ t ∧ t < 4294967296) (h0 : 0 < t) : ∃ r : Nat, (1 ≤ r ∧ r ≤ 32) ∧ (t / 2 ^ r = 0 ∧ ∀ i, i < r → t / 2 ^ i ≠ 0) ∧ (r = 1 ↔ t = 1) := by
  obtain ⟨m, rfl⟩ := Int.eq_ofNat_of_zero_le h.1
  have hm : m ≠ 0 := by omega
  have h1 := Nat.lt_log2_self (n := m)
  have h2 := Nat.log2_self_le hm
  have hlog : m.log2 < 32 := by
    have : 2 ^ m.log2 < 2 ^ 32 := by omega
    exact (Nat.pow_lt_pow_iff_right (by decide)).1 this
  have cast : ∀ i : Nat, (m : Int) / 2 ^ i = ((m / 2 ^ i : Nat) : Int) := fun i => by rw [Int.natCast_ediv]; norm_cast
  refine ⟨m.log2 + 1, ⟨by omega, by omega⟩, ⟨?_, fun i hi => ?_⟩, ?_⟩
  · rw [cast, Nat.div_eq_of_lt h1]; rfl
  · rw [cast]
    have h3 : 2 ^ i ≤ 2 ^ m.log2 := Nat.pow_le_pow_right (by decide) (by omega)
    have := Nat.div_pos (Nat.le_trans h3 h2) (Nat.pow_pos (by decide : 0 < 2))
    omega
  · constructor
    · intro h4
      have : m.log2 = 0 := by omega
      rw [this] at h1
      omega
    · intro h4
      have : m = 1 := by omega
      subst this
      rfl
def isDg (b : Int) : Prop := 48 ≤ b ∧ b ≤ 57
def dgs (l : List UInt8) : Prop := ∀ c ∈ l, 48 ≤ c.toNat ∧ c.toNat ≤ 57
def dv (l : List UInt8) : Nat := l.foldl (fun a c => a * 10 + (c.toNat - 48)) 0
theorem dv_snoc (l : List UInt8) (c : UInt8) : dv (l ++ [c]) = dv l * 10 + (c.toNat - 48) := by simp [dv]
theorem dv_take {l : List UInt8} {i : Nat} (h : i < l.length) : dv (l.take (i + 1)) = dv (l.take i) * 10 + ((l.getD i 0).toNat - 48) := by
  rw [List.take_add_one, List.getElem?_eq_getElem h, List.getD_eq_getElem?_getD, List.getElem?_eq_getElem h]
  exact dv_snoc _ _
theorem dv_fold (l : List UInt8) : ∀ a : Nat, l.foldl (fun a c => a * 10 + (c.toNat - 48)) a = a * 10 ^ l.length + dv l := by
  induction l with
  | nil => intro a; simp [dv]
  | cons c l ih =>
    intro a
    have h1 : dv (c :: l) = (c.toNat - 48) * 10 ^ l.length + dv l := by
      show l.foldl _ (0 * 10 + (c.toNat - 48)) = _
      rw [ih, Nat.zero_mul, Nat.zero_add]
    rw [List.foldl_cons, ih, h1, List.length_cons, Nat.pow_succ, Nat.add_mul, Nat.mul_assoc, Nat.mul_comm 10, Nat.add_assoc]
theorem dv_append (l m : List UInt8) : dv (l ++ m) = dv l * 10 ^ m.length + dv m := by
  rw [dv, List.foldl_append, dv_fold]; rfl
theorem dv_lt {l : List UInt8} (h : dgs l) : dv l < 10 ^ l.length := by
  induction l with
  | nil => simp [dv]
  | cons c l ih =>
    have h1 := ih fun x hx => h x (List.mem_cons_of_mem _ hx)
    have h2 := h c (List.mem_cons_self ..)
    rw [show c :: l = [c] ++ l from rfl, dv_append, List.length_append, Nat.pow_add]
    have h3 : dv [c] = c.toNat - 48 := by simp [dv]
    rw [h3]
    have : (c.toNat - 48 + 1) * 10 ^ l.length ≤ 10 ^ [c].length * 10 ^ l.length := Nat.mul_le_mul_right _ (by simp; omega)
    rw [Nat.add_mul, Nat.one_mul] at this
    omega
theorem dig_len_le {b n k : Nat} (hb : 2 ≤ b) (h : n < b ^ k) : (dig b n).length ≤ k := by
  by_cases hn : n = 0
  · subst hn; rw [dig_zero]; simp
  · have h1 := dig_le hb hn
    by_cases h2 : (dig b n).length ≤ k
    · exact h2
    · have : b ^ k ≤ b ^ ((dig b n).length - 1) := Nat.pow_le_pow_right (by omega) (by omega)
      omega
theorem dv_len {l : List UInt8} (h : dgs l) : (dig 4294967296 (dv l)).length ≤ l.length :=
  dig_len_le (by decide) (Nat.lt_of_lt_of_le (dv_lt h) (Nat.pow_le_pow_left (by decide) _))
theorem dgs_take {l : List UInt8} (h : dgs l) (i : Nat) : dgs (l.take i) := fun c hc => h c (List.mem_of_mem_take hc)
theorem dgs_drop {l : List UInt8} (h : dgs l) (i : Nat) : dgs (l.drop i) := fun c hc => h c (List.mem_of_mem_drop hc)
theorem dgs_snoc {l : List UInt8} {k : Nat} (h : dgs (l.take k)) (hk : k < l.length) (hb : 48 ≤ byt l k ∧ byt l k ≤ 57) : dgs (l.take (k + 1)) := by
  intro c hc
  rw [List.take_add_one, List.mem_append] at hc
  rcases hc with hc | hc
  · exact h c hc
  · rw [List.getElem?_eq_getElem hk] at hc
    simp at hc
    subst hc
    unfold byt at hb
    rw [List.getD_eq_getElem?_getD, List.getElem?_eq_getElem hk] at hb
    simp at hb
    omega
theorem dgs_not {l : List UInt8} {k : Nat} (hk : k < l.length) (hb : byt l k < 48 ∨ 57 < byt l k) : ¬ dgs l := by
  intro h
  have := h (l[k]) (List.getElem_mem hk)
  unfold byt at hb
  rw [List.getD_eq_getElem?_getD, List.getElem?_eq_getElem hk] at hb
  simp at hb
  omega
theorem byt_drop {l : List UInt8} {i k : Nat} : byt (l.drop i) k = byt l (i + k) := by
  unfold byt; rw [List.getD_eq_getElem?_getD, List.getElem?_drop, List.getD_eq_getElem?_getD]
theorem take_chunk {l : List UInt8} {i k : Nat} : l.take (i + k) = l.take i ++ (l.drop i).take k := List.take_add
theorem dv_byt {l : List UInt8} {k : Nat} (hk : k < l.length) (hb : 48 ≤ byt l k) : (dv (l.take (k + 1)) : Int) = dv (l.take k) * 10 + (byt l k - 48) := by
  rw [dv_take hk]
  unfold byt at hb ⊢
  omega
theorem pow10_le {k : Nat} (h : k ≤ 8) : 10 ^ k ≤ 100000000 := Nat.pow_le_pow_right (n := 10) (by decide) h
theorem sub_one {k : IntKind} {x : Int} : sub (ks k [x]) 0 (1 * 1) = ks k [x] := rfl
def nolead (l : List UInt8) : Prop := l.headD 0 ≠ 48
theorem dv_nil {l : List UInt8} (h : dgs l) (hn : nolead l) (hv : dv l = 0) : l = [] := by
  cases l with
  | nil => rfl
  | cons c l =>
    have h1 := h c (List.mem_cons_self ..)
    have h2 : c ≠ 48 := hn
    rw [show c :: l = [c] ++ l from rfl, dv_append] at hv
    have h3 : dv [c] = c.toNat - 48 := by simp [dv]
    have h4 : dv [c] * 10 ^ l.length = 0 := by omega
    have h5 : 0 < 10 ^ l.length := Nat.pow_pos (by decide)
    rcases Nat.mul_eq_zero.1 h4 with h6 | h6
    · exfalso
      have : c.toNat = 48 := by omega
      exact h2 (UInt8.toNat_inj.1 this)
    · omega
def dpush (l : List UInt8) (c : UInt8) : List UInt8 := if l = [] ∧ c = 48 then [] else l ++ [c]
theorem dpush_ok {l : List UInt8} {c : UInt8} (h : dgs l) (hn : nolead l) (hc : 48 ≤ c.toNat ∧ c.toNat ≤ 57) : dgs (dpush l c) ∧ nolead (dpush l c) ∧ dv (dpush l c) = dv l * 10 + (c.toNat - 48) := by
  unfold dpush
  split
  · rename_i h1
    obtain ⟨rfl, rfl⟩ := h1
    exact ⟨h, hn, rfl⟩
  · rename_i h1
    refine ⟨fun x hx => ?_, ?_, dv_snoc l c⟩
    · rcases List.mem_append.1 hx with hx | hx
      · exact h x hx
      · simp at hx; subst hx; exact hc
    · cases l with
      | nil => exact fun h2 => h1 ⟨rfl, h2⟩
      | cons x l => exact hn
theorem dig_app {b : Nat} (hb : 2 ≤ b) {m : Nat} (hm : m ≠ 0) {ps : List Int} : ps ++ dig b m = (ps ++ [((m % b : Nat) : Int)]) ++ dig b (m / b) := by
  rw [dig_step hb hm, List.append_assoc]; rfl
theorem dig_len_mono {b m n : Nat} (hb : 2 ≤ b) (h : m ≤ n) : (dig b m).length ≤ (dig b n).length := by
  by_cases h2 : (dig b m).length ≤ (dig b n).length
  · exact h2
  · have := dig_len_lt hb (Nat.lt_of_not_le h2); omega
theorem dec_step {V p j : Nat} (hj : j < 9) : (V * 10 ^ j + p / 10 ^ (9 - j)) * 10 + p / (100000000 / 10 ^ j) % 10 = V * 10 ^ (j + 1) + p / 10 ^ (9 - (j + 1)) := by
  have e1 : 100000000 / 10 ^ j = 10 ^ (8 - j) := by
    have : 100000000 = 10 ^ (8 - j) * 10 ^ j := by rw [← Nat.pow_add, show 8 - j + j = 8 by omega]
    rw [this, Nat.mul_div_cancel _ (Nat.pow_pos (by decide))]
  have e3 : 10 ^ (9 - j) = 10 ^ (8 - j) * 10 := by rw [show 9 - j = (8 - j) + 1 by omega]; exact Nat.pow_succ ..
  have e2 : p / 10 ^ (9 - j) = p / 10 ^ (8 - j) / 10 := by rw [Nat.div_div_eq_div_mul, e3]
  have hs : 10 ^ (j + 1) = 10 ^ j * 10 := Nat.pow_succ ..
  rw [e1, e2, Nat.add_mul, hs, ← Nat.mul_assoc, show 9 - (j + 1) = 8 - j by omega]
  have := Nat.div_add_mod (p / 10 ^ (8 - j)) 10
  omega
theorem dpos {j : Nat} (hj : j < 9) : 0 < 100000000 / 10 ^ j := by
  have h : 10 ^ j ≤ 10 ^ 8 := Nat.pow_le_pow_right (by decide) (by omega)
  exact Nat.div_pos h (Nat.pow_pos (by decide))
theorem ub_push {l : List UInt8} {q : Nat} (hq : q < 10) : ub l ++ [48 + (q : Int)] = ub (l ++ [UInt8.ofNat (48 + q)]) := by
  have : (UInt8.ofNat (48 + q)).toNat = 48 + q := by simp; omega
  simp only [ub, List.map_append, List.map_cons, List.map_nil, this]
  rfl
theorem ch_nat {q : Nat} (hq : q < 10) : (UInt8.ofNat (48 + q)).toNat = 48 + q := by simp; omega
def dec (a : Nat) : List UInt8 := if h : a = 0 then [] else dec (a / 10) ++ [UInt8.ofNat (48 + a % 10)]
termination_by a
decreasing_by exact Nat.div_lt_self (by omega) (by decide)
theorem dec_zero : dec 0 = [] := by rw [dec]; rfl
theorem dec_eq {a : Nat} (h : a ≠ 0) : dec a = dec (a / 10) ++ [UInt8.ofNat (48 + a % 10)] := by rw [dec, dif_neg h]
theorem dec_of (n : Nat) : ∀ l : List UInt8, l.length = n → dgs l → nolead l → l = dec (dv l) := by
  induction n with
  | zero => intro l hl _ _; rw [List.eq_nil_of_length_eq_zero hl]; exact dec_zero.symm
  | succ n ih =>
    intro l hl hd hn
    obtain ⟨m, c, rfl⟩ : ∃ m c, l = m ++ [c] := ⟨l.dropLast, l.getLast (by intro h; rw [h] at hl; simp at hl), (List.dropLast_concat_getLast _).symm⟩
    have hdm : dgs m := fun x hx => hd x (by simp [hx])
    have hc := hd c (by simp)
    have hv := dv_snoc m c
    have hch : UInt8.ofNat (48 + (c.toNat - 48)) = c := by rw [show 48 + (c.toNat - 48) = c.toNat by omega]; exact UInt8.ofNat_toNat
    by_cases hm : m = []
    · subst hm
      have h48 : c ≠ 48 := hn
      have : c.toNat ≠ 48 := fun h => h48 (UInt8.toNat_inj.1 h)
      have hv0 : dv ([] ++ [c]) = c.toNat - 48 := by rw [hv]; simp [dv]
      rw [hv0, dec_eq (by omega), Nat.div_eq_of_lt (by omega), dec_zero, Nat.mod_eq_of_lt (by omega), hch]
    · have hnm : nolead m := by
        cases m with
        | nil => exact (hm rfl).elim
        | cons x m => exact hn
      have h1 := ih m (by simpa using hl) hdm hnm
      have h2 : dv m ≠ 0 := fun h => hm (dv_nil hdm hnm h)
      rw [hv, dec_eq (by omega), show (dv m * 10 + (c.toNat - 48)) / 10 = dv m by omega, show (dv m * 10 + (c.toNat - 48)) % 10 = c.toNat - 48 by omega, ← h1, hch]
theorem dec_dv (a : Nat) : dgs (dec a) ∧ nolead (dec a) ∧ dv (dec a) = a := by
  induction a using Nat.strongRecOn with
  | _ a ih =>
    by_cases h : a = 0
    · subst h; rw [dec_zero]; exact ⟨by intro c hc; simp at hc, by unfold nolead; decide, rfl⟩
    · obtain ⟨h1, h2, h3⟩ := ih _ (Nat.div_lt_self (n := a) (k := 10) (by omega) (by decide))
      have hm := Nat.mod_lt a (show 10 > 0 by decide)
      have hch := ch_nat hm
      rw [dec_eq h]
      refine ⟨fun x hx => ?_, ?_, ?_⟩
      · rcases List.mem_append.1 hx with hx | hx
        · exact h1 x hx
        · simp only [List.mem_singleton] at hx; subst hx; omega
      · cases hd : dec (a / 10) with
        | nil =>
          have : a / 10 = 0 := by rw [← h3, hd]; rfl
          show UInt8.ofNat (48 + a % 10) ≠ 48
          intro h4
          rw [h4] at hch
          have : (48 : UInt8).toNat = 48 := rfl
          omega
        | cons x m => rw [hd] at h2; exact h2
      · rw [dv_snoc, h3, hch]
        have := Nat.div_add_mod a 10
        omega
def txt (a : Nat) : List UInt8 := if a = 0 then [48] else dec a
theorem dec_len : ∀ (k a : Nat), a < 10 ^ k → (dec a).length ≤ k
  | 0, a, h => by
    have : a = 0 := by simpa using h
    subst this; rw [dec_zero]; exact Nat.le_refl _
  | k + 1, a, h => by
    by_cases h0 : a = 0
    · subst h0; rw [dec_zero]; simp
    · have h1 : a / 10 < 10 ^ k := by rw [Nat.div_lt_iff_lt_mul (by decide)]; rw [Nat.pow_succ] at h; exact h
      have := dec_len k (a / 10) h1
      rw [dec_eq h0, List.length_append]
      simp; omega
theorem small9 {a : Nat} (h : a < 1000000000) : (dig 4294967296 a).length ≤ 1 ∧ (dig 1000000000 a).length ≤ 1 ∧ (txt a).length ≤ 9 := by
  refine ⟨dig_small (by decide) (by omega), dig_small (by decide) h, ?_⟩
  unfold txt
  split
  · simp
  · exact dec_len 9 a h
theorem dv9 {l : List UInt8} (h : dgs l) (hl : l.length ≤ 9) : dv l < 1000000000 := by
  have h1 := dv_lt h
  have h2 : 10 ^ l.length ≤ 10 ^ 9 := Nat.pow_le_pow_right (by decide) hl
  omega
theorem dig_full {b : Nat} (hb : 2 ≤ b) {zs : List Int} {v : Nat} (hw : Ws b zs) (hv : val b zs = v) (hl : zs.length ≤ (dig b v).length) : zs = dig b v := by
  have h := dig_of hb hw hv
  have h1 := trimL_take zs
  rw [List.take_of_length_le (by rw [h]; exact hl)] at h1
  rw [h1, h]
end Go.AM

namespace Go.AM
def Pln (l : List UInt8) : Prop := l ≠ [] ∧ (byt l 0 = 48 → l.length ≤ 1) ∧ dgs l
def text (s : Bool) (p q : Nat) : List UInt8 := (if s then [45] else []) ++ (txt p ++ (if q = 1 then [] else 47 :: txt q))
def cutAt (t : List UInt8) : Nat := (t.takeWhile (· != 47)).length
def Par (S : Bool) (t : List UInt8) (s : Bool) (p q : Nat) : Prop :=
  (cutAt t = t.length ∧ dgs t ∧ t ≠ [] ∧ s = (S && !decide (dv t = 0)) ∧ p = dv t ∧ q = 1) ∨
  (cutAt t < t.length ∧ dgs (t.take (cutAt t)) ∧ t.take (cutAt t) ≠ [] ∧ dgs (t.drop (cutAt t + 1)) ∧ t.drop (cutAt t + 1) ≠ [] ∧ dv (t.drop (cutAt t + 1)) ≠ 0 ∧ s = (S && !decide (dv (t.take (cutAt t)) = 0)) ∧
    p = dv (t.take (cutAt t)) / Nat.gcd (dv (t.take (cutAt t))) (dv (t.drop (cutAt t + 1))) ∧ q = dv (t.drop (cutAt t + 1)) / Nat.gcd (dv (t.take (cutAt t))) (dv (t.drop (cutAt t + 1))))
theorem cut_le (t : List UInt8) : cutAt t ≤ t.length := List.Sublist.length_le (List.takeWhile_sublist _)
theorem byt_inj {l : List UInt8} {i : Nat} {c : UInt8} (h : byt l i = (c.toNat : Int)) (hi : i < l.length) : l.getD i 0 = c := by
  unfold byt at h
  exact UInt8.toNat_inj.1 (by omega)
theorem cut_lt : ∀ {t : List UInt8} {i : Nat}, i < cutAt t → byt t i ≠ 47
  | [], i, h => by simp [cutAt] at h
  | c :: t, i, h => by
    unfold cutAt at h
    rw [List.takeWhile_cons] at h
    split at h
    · rename_i hc
      cases i with
      | zero =>
        unfold byt
        intro h2
        have : c.toNat = 47 := by simp at h2; omega
        have : c = 47 := UInt8.toNat_inj.1 this
        simp [this] at hc
      | succ i =>
        have := cut_lt (t := t) (i := i) (by unfold cutAt; simpa using h)
        simpa [byt] using this
    · simp at h
theorem cut_eq : ∀ {t : List UInt8}, cutAt t < t.length → byt t (cutAt t) = 47
  | [], h => by simp at h
  | c :: t, h => by
    unfold cutAt at h ⊢
    rw [List.takeWhile_cons] at h ⊢
    split
    · rename_i hc
      rw [if_pos hc] at h
      have := cut_eq (t := t) (by unfold cutAt; simpa using h)
      simpa [byt, cutAt] using this
    · rename_i hc
      have : c = 47 := by simpa using hc
      subst this
      rfl
theorem cut_of (a b : List UInt8) (h : ∀ c ∈ a, c ≠ 47) : cutAt (a ++ 47 :: b) = a.length := by
  induction a with
  | nil => rfl
  | cons x a ih =>
    have h1 : (x != 47) = true := by simpa using h x (by simp)
    have := ih fun c hc => h c (by simp [hc])
    unfold cutAt at this ⊢
    simp [List.takeWhile_cons, h1, this]
theorem cut_all (a : List UInt8) (h : ∀ c ∈ a, c ≠ 47) : cutAt a = a.length := by
  induction a with
  | nil => rfl
  | cons x a ih =>
    have h1 : (x != 47) = true := by simpa using h x (by simp)
    have := ih fun c hc => h c (by simp [hc])
    unfold cutAt at this ⊢
    simp [List.takeWhile_cons, h1, this]
theorem dgs_ne {l : List UInt8} (h : dgs l) {k : UInt8} (hk : k.toNat < 48) : ∀ c ∈ l, c ≠ k := by
  rintro c hc rfl
  have := h _ hc
  omega
theorem txt_ok (a : Nat) : Pln (txt a) ∧ dv (txt a) = a := by
  unfold txt
  split
  · rename_i h
    subst h
    exact ⟨⟨by simp, by simp, by intro c hc; simp at hc; subst hc; decide⟩, rfl⟩
  · rename_i h
    have := dec_dv a
    have hne : dec a ≠ [] := by intro he; rw [he] at this; exact h (by rw [← this.2.2]; rfl)
    refine ⟨⟨hne, ?_, this.1⟩, this.2.2⟩
    intro h2
    exfalso
    cases hd : dec a with
    | nil => exact hne hd
    | cons c l =>
      rw [hd] at h2 this
      have h3 : c = 48 := UInt8.toNat_inj.1 (by unfold byt at h2; simp at h2; simp; omega)
      exact this.2.1 h3
theorem pln_txt {l : List UInt8} (h : Pln l) : txt (dv l) = l := by
  obtain ⟨h1, h2, h3⟩ := h
  by_cases h4 : nolead l
  · have := dec_of l.length l rfl h3 h4
    unfold txt
    split
    · rename_i h0
      exact absurd (dv_nil h3 h4 h0) h1
    · exact this.symm
  · cases l with
    | nil => exact absurd rfl h1
    | cons c l =>
      have h5 : c = 48 := by simpa [nolead] using h4
      subst h5
      have := h2 rfl
      have : l = [] := List.eq_nil_of_length_eq_zero (by simpa using this)
      subst this
      rfl
def sgnL (l : List UInt8) : Bool := decide (l.head? = some 45)
def bodyL (l : List UInt8) : List UInt8 := if sgnL l then l.drop 1 else l
def topL (t : List UInt8) : List UInt8 := t.take (cutAt t)
def botL (t : List UInt8) : List UInt8 := if cutAt t < t.length then t.drop (cutAt t + 1) else [49]
def OfOK (l : List UInt8) : Prop :=
  Pln (topL (bodyL l)) ∧ Pln (botL (bodyL l)) ∧ ¬ (sgnL l = true ∧ topL (bodyL l) = [48]) ∧ ¬ (cutAt (bodyL l) < (bodyL l).length ∧ (botL (bodyL l) = [48] ∨ botL (bodyL l) = [49])) ∧
  (cutAt (bodyL l) < (bodyL l).length → Nat.gcd (dv (topL (bodyL l))) (dv (botL (bodyL l))) = 1)
open Classical in
noncomputable def canL (l : List UInt8) : Option (Bool × Nat × Nat) := if OfOK l then some (sgnL l, dv (topL (bodyL l)), dv (botL (bodyL l))) else none
def Canon (l : List UInt8) (s : Bool) (p q : Nat) : Prop := text s p q = l ∧ q ≠ 0 ∧ Nat.gcd p q = 1 ∧ (s = true → p ≠ 0)
theorem dv_48 : dv [48] = 0 := rfl
theorem dv_49 : dv [49] = 1 := rfl
theorem take_cut_drop {t : List UInt8} (h : cutAt t < t.length) : t = topL t ++ 47 :: t.drop (cutAt t + 1) := by
  have h1 := cut_eq h
  have h2 : t.getD (cutAt t) 0 = 47 := byt_inj (c := 47) h1 h
  have h3 : t[cutAt t]'h = 47 := by rw [List.getD_eq_getElem?_getD, List.getElem?_eq_getElem h] at h2; simpa using h2
  unfold topL
  rw [← h3, ← List.drop_eq_getElem_cons h, List.take_append_drop]
theorem head_pln {l : List UInt8} (h : Pln l) : l.head? ≠ some 45 := by
  cases l with
  | nil => simp
  | cons c l =>
    intro h2
    simp at h2
    subst h2
    have := h.2.2 45 (by simp)
    simp at this
theorem ok_canon {l : List UInt8} (h : OfOK l) : Canon l (sgnL l) (dv (topL (bodyL l))) (dv (botL (bodyL l))) := by
  obtain ⟨h1, h2, h3, h4, h5⟩ := h
  have hb : l = (if sgnL l then [45] else []) ++ bodyL l := by
    unfold bodyL
    by_cases hs : sgnL l = true
    · rw [if_pos hs, if_pos hs]
      have : l.head? = some 45 := by simpa [sgnL] using hs
      cases l with
      | nil => simp at this
      | cons c l => simp at this; subst this; rfl
    · rw [if_neg hs, if_neg hs]; rfl
  by_cases hc : cutAt (bodyL l) < (bodyL l).length
  · have e := take_cut_drop hc
    have hbot : botL (bodyL l) = (bodyL l).drop (cutAt (bodyL l) + 1) := if_pos hc
    have hq0 : dv (botL (bodyL l)) ≠ 0 := fun h0 => h4 ⟨hc, .inl (by have := pln_txt h2; rw [h0] at this; exact this.symm)⟩
    have hq1 : dv (botL (bodyL l)) ≠ 1 := fun h0 => h4 ⟨hc, .inr (by have := pln_txt h2; rw [h0] at this; rw [← this]; exact pln_txt (l := [49]) ⟨by simp, by simp, by intro c hc; simp at hc; subst hc; decide⟩)⟩
    refine ⟨?_, hq0, h5 hc, ?_⟩
    · unfold text
      rw [if_neg hq1, pln_txt h1, pln_txt h2, hbot, ← e, ← hb]
    · intro hs h0
      exact h3 ⟨hs, by have := pln_txt h1; rw [h0] at this; exact this.symm⟩
  · have hbot : botL (bodyL l) = [49] := if_neg hc
    have htop : topL (bodyL l) = bodyL l := List.take_of_length_le (by omega)
    rw [hbot, dv_49]
    refine ⟨?_, by decide, Nat.gcd_one_right _, ?_⟩
    · unfold text
      rw [if_pos rfl, pln_txt h1, List.append_nil, htop, ← hb]
    · intro hs h0
      exact h3 ⟨hs, by have := pln_txt h1; rw [h0] at this; exact this.symm⟩
theorem canon_ok {l : List UInt8} {s : Bool} {p q : Nat} (h : Canon l s p q) : OfOK l ∧ sgnL l = s ∧ dv (topL (bodyL l)) = p ∧ dv (botL (bodyL l)) = q := by
  obtain ⟨rfl, hq, hg, hs⟩ := h
  have hp := txt_ok p
  have hq' := txt_ok q
  have hn47 : ∀ c ∈ txt p, c ≠ 47 := dgs_ne hp.1.2.2 (by decide)
  have hsg : sgnL (text s p q) = s := by
    unfold sgnL text
    cases s
    · have := head_pln hp.1
      cases ht : txt p with
      | nil => exact absurd ht hp.1.1
      | cons c l => rw [ht] at this; simpa using this
    · rfl
  have hbd : bodyL (text s p q) = txt p ++ (if q = 1 then [] else 47 :: txt q) := by
    unfold bodyL
    rw [hsg]
    unfold text
    cases s <;> rfl
  have hs48 : ¬ (s = true ∧ txt p = [48]) := by
    rintro ⟨h1, h2⟩
    exact hs h1 (by rw [← hp.2, h2]; rfl)
  by_cases h1 : q = 1
  · subst h1
    rw [if_pos rfl, List.append_nil] at hbd
    have hc : cutAt (txt p) = (txt p).length := cut_all _ hn47
    have htop : topL (txt p) = txt p := by unfold topL; rw [hc, List.take_length]
    have hbot : botL (txt p) = [49] := if_neg (by omega)
    refine ⟨?_, hsg, by rw [hbd, htop, hp.2], by rw [hbd, hbot]; rfl⟩
    unfold OfOK
    rw [hbd, htop, hbot, hsg, hc]
    exact ⟨hp.1, ⟨by simp, by simp, by intro c hc; simp at hc; subst hc; decide⟩, hs48, by omega, by omega⟩
  · rw [if_neg h1] at hbd
    have hc : cutAt (txt p ++ 47 :: txt q) = (txt p).length := cut_of _ _ hn47
    have hl : cutAt (txt p ++ 47 :: txt q) < (txt p ++ 47 :: txt q).length := by rw [hc]; simp
    have htop : topL (txt p ++ 47 :: txt q) = txt p := by unfold topL; rw [hc]; simp
    have hbot : botL (txt p ++ 47 :: txt q) = txt q := by unfold botL; rw [if_pos hl, hc]; simp [List.drop_append]
    refine ⟨?_, hsg, by rw [hbd, htop, hp.2], by rw [hbd, hbot, hq'.2]⟩
    unfold OfOK
    rw [hbd, htop, hbot, hsg, hp.2, hq'.2]
    refine ⟨hp.1, hq'.1, hs48, ?_, fun _ => hg⟩
    rintro ⟨_, h2 | h2⟩
    · exact hq (by rw [← hq'.2, h2]; rfl)
    · exact h1 (by rw [← hq'.2, h2]; rfl)
theorem canL_some {l : List UInt8} {s : Bool} {p q : Nat} : canL l = some (s, p, q) ↔ Canon l s p q := by
  unfold canL
  constructor
  · intro h
    split at h
    · rename_i ho
      simp only [Option.some.injEq, Prod.mk.injEq] at h
      obtain ⟨rfl, rfl, rfl⟩ := h
      exact ok_canon ho
    · cases h
  · intro h
    obtain ⟨ho, h1, h2, h3⟩ := canon_ok h
    rw [if_pos ho, h1, h2, h3]
theorem canL_none {l : List UInt8} (h : ¬ OfOK l) : canL l = none := if_neg h
theorem canL_ok {l : List UInt8} (h : OfOK l) : canL l = some (sgnL l, dv (topL (bodyL l)), dv (botL (bodyL l))) := if_pos h
theorem par_canon {S s : Bool} {t : List UInt8} {p q : Nat} {l : List UInt8} (h : Par S t s p q) (ht : text s p q = l) : Canon l s p q := by
  subst ht
  refine ⟨rfl, ?_⟩
  rcases h with ⟨_, _, _, hs, hp, hq⟩ | ⟨_, _, _, _, _, h0, hs, hp, hq⟩
  · subst hq
    refine ⟨by decide, Nat.gcd_one_right _, ?_⟩
    intro h1 h2
    rw [hs, ← hp, h2] at h1
    simp at h1
  · generalize dv (t.take (cutAt t)) = a at *
    generalize dv (t.drop (cutAt t + 1)) = b at *
    have hg : 0 < Nat.gcd a b := Nat.gcd_pos_of_pos_right _ (by omega)
    refine ⟨?_, ?_, ?_⟩
    · have := Nat.div_pos (Nat.gcd_le_right a (show 0 < b by omega)) hg
      omega
    · rw [hp, hq]
      rw [Nat.gcd_div (Nat.gcd_dvd_left a b) (Nat.gcd_dvd_right a b), Nat.div_self hg]
    · intro h1 h2
      rw [hs] at h1
      have ha : a ≠ 0 := by intro h3; simp [h3] at h1
      rw [hp] at h2
      have := Nat.div_pos (Nat.gcd_le_left b (show 0 < a by omega)) hg
      omega
theorem canon_par {l : List UInt8} {s : Bool} {p q : Nat} (h : Canon l s p q) : Par (sgnL l) (bodyL l) s p q := by
  obtain ⟨ho, h1, h2, h3⟩ := canon_ok h
  obtain ⟨_, hq, hg, hs⟩ := h
  subst h1 h2 h3
  obtain ⟨o1, o2, o3, o4, o5⟩ := ho
  have hs' : sgnL l = (sgnL l && !decide (dv (topL (bodyL l)) = 0)) := by
    cases h4 : sgnL l
    · rfl
    · have := hs h4; simp [this]
  by_cases hc : cutAt (bodyL l) < (bodyL l).length
  · have hbot : botL (bodyL l) = (bodyL l).drop (cutAt (bodyL l) + 1) := if_pos hc
    rw [hbot] at o2 hq hg ⊢
    refine .inr ⟨hc, o1.2.2, o1.1, o2.2.2, o2.1, hq, hs', ?_, ?_⟩
    · show dv (topL (bodyL l)) = dv (topL (bodyL l)) / _
      rw [show (dv (List.take (cutAt (bodyL l)) (bodyL l))).gcd (dv (List.drop (cutAt (bodyL l) + 1) (bodyL l))) = 1 from hg, Nat.div_one]
    · rw [show (dv (List.take (cutAt (bodyL l)) (bodyL l))).gcd (dv (List.drop (cutAt (bodyL l) + 1) (bodyL l))) = 1 from hg, Nat.div_one]
  · have hbot : botL (bodyL l) = [49] := if_neg hc
    have htop : topL (bodyL l) = bodyL l := List.take_of_length_le (by omega)
    rw [htop] at o1 hs' ⊢
    exact .inl ⟨by have := cut_le (bodyL l); omega, o1.2.2, o1.1, hs', rfl, by rw [hbot]; rfl⟩
end Go.AM

namespace Go.AM
theorem getD_lt {α : Type} {xs : List α} {i : Nat} {d : α} (h : i < xs.length) : xs.getD i d = xs[i] := by
  rw [List.getD_eq_getElem?_getD, List.getElem?_eq_getElem h]; rfl
theorem take_snoc {α : Type} {xs : List α} {i : Nat} (d : α) (h : i < xs.length) : xs.take (i + 1) = xs.take i ++ [xs.getD i d] := by
  rw [List.take_add_one, List.getElem?_eq_getElem h, getD_lt h]; rfl
structure Tm where
  coef : List UInt8
  exps : List Int
  deriving Inhabited
structure Po where
  vars : Int
  terms : List Tm
  deriving Inhabited
abbrev ints (zs : List Int) : T := .sl zs.length (ks .i64 zs)
abbrev strT (l : List UInt8) : T := .str ⟨l.toArray⟩
def encTm (t : Tm) : List T := [strT t.coef, ints t.exps]
theorem encTm_len (t : Tm) : (encTm t).length = 2 := rfl
abbrev tms (l : List Tm) : T := .sl l.length (rows encTm l)
def encPo (p : Po) : List T := [.int .i64 p.vars, tms p.terms]
theorem encPo_len (p : Po) : (encPo p).length = 2 := rfl
noncomputable def cn (l : List UInt8) : Bool × Nat × Nat := (canL l).getD (false, 0, 1)
structure RTm where
  s : Bool
  p : Nat
  q : Nat
  e : List Int
  deriving Inhabited
noncomputable def rt (t : Tm) : RTm := ⟨(cn t.coef).1, (cn t.coef).2.1, (cn t.coef).2.2, t.exps⟩
def sumL : List Int → Int
  | [] => 0
  | x :: xs => x + sumL xs
theorem sumL_app : ∀ xs ys : List Int, sumL (xs ++ ys) = sumL xs + sumL ys
  | [], ys => by simp [sumL]
  | x :: xs, ys => by simp [sumL, sumL_app xs ys, Int.add_assoc]
theorem sumL_take {xs : List Int} {i : Nat} (h : i < xs.length) : sumL (xs.take (i + 1)) = sumL (xs.take i) + xs.getD i 0 := by
  rw [take_snoc 0 h, sumL_app]; simp [sumL]
theorem sumL_rep (k : Nat) : sumL (List.replicate k 0) = 0 := by
  induction k with
  | zero => rfl
  | succ k ih => simp [List.replicate_succ, sumL, ih]
def Within (m : Int) (xs : List Int) : Prop := ∀ x ∈ xs, 0 ≤ x ∧ x ≤ m
theorem sumL_bd {m : Int} (hm : 0 ≤ m) : ∀ {xs : List Int}, Within m xs → 0 ≤ sumL xs ∧ sumL xs ≤ m * xs.length
  | [], _ => by simp [sumL]
  | x :: xs, h => by
    have h1 := h x (by simp)
    have h2 := sumL_bd hm (xs := xs) fun y hy => h y (by simp [hy])
    simp only [sumL, List.length_cons]
    have : m * ((xs.length + 1 : Nat) : Int) = m * xs.length + m := by rw [Int.natCast_add]; simp [Int.mul_add]
    omega
theorem Within.getD {m : Int} {xs : List Int} (h : Within m xs) (hm : 0 ≤ m) (i : Nat) : 0 ≤ xs.getD i 0 ∧ xs.getD i 0 ≤ m := by
  rw [List.getD_eq_getElem?_getD]
  by_cases hi : i < xs.length
  · rw [List.getElem?_eq_getElem hi]; exact h _ (List.getElem_mem hi)
  · rw [List.getElem?_eq_none (by omega)]; simpa using hm
theorem Within.take {m : Int} {xs : List Int} (h : Within m xs) (i : Nat) : Within m (xs.take i) := fun x hx => h x (List.mem_of_mem_take hx)
theorem Within.snoc {m : Int} {xs : List Int} {i : Nat} (h : Within m (xs.take i)) (hi : i < xs.length) (hx : 0 ≤ xs.getD i 0 ∧ xs.getD i 0 ≤ m) : Within m (xs.take (i + 1)) := by
  rw [take_snoc 0 hi]
  intro x h2
  rcases List.mem_append.1 h2 with h2 | h2
  · exact h x h2
  · rw [List.mem_singleton] at h2; subst h2; exact hx
theorem Within.not {m : Int} {xs : List Int} {i : Nat} (hi : i < xs.length) (hx : xs.getD i 0 < 0 ∨ m < xs.getD i 0) : ¬ Within m xs := by
  intro h
  rw [List.getD_eq_getElem?_getD, List.getElem?_eq_getElem hi] at hx
  have := h _ (List.getElem_mem hi)
  simp at hx
  omega
def rl : List Int → List Int → Int
  | x :: xs, y :: ys => if y < x then -1 else if x < y then 1 else rl xs ys
  | _, _ => 0
def ordL (a b : List Int) : Int := if sumL a < sumL b then -1 else if sumL b < sumL a then 1 else rl a.reverse b.reverse
theorem rev_take {xs : List Int} {i : Nat} (h : i < xs.length) : (xs.take (i + 1)).reverse = xs.getD i 0 :: (xs.take i).reverse := by
  rw [take_snoc 0 h]; simp
theorem rl_same (zs : List Int) (xs ys : List Int) : rl (zs ++ xs) (zs ++ ys) = rl xs ys := by
  induction zs with
  | nil => rfl
  | cons z zs ih => simp [rl, ih]
def pad6 (m : List Int) : List Int := m ++ List.replicate (6 - m.length) 0
theorem pad6_len {m : List Int} (h : m.length ≤ 6) : (pad6 m).length = 6 := by simp [pad6]; omega
theorem ordL_pad {a b : List Int} (h : a.length = b.length) : ordL (pad6 a) (pad6 b) = ordL a b := by
  unfold ordL pad6
  rw [sumL_app, sumL_app, sumL_rep, sumL_rep, Int.add_zero, Int.add_zero, List.reverse_append, List.reverse_append, h, rl_same]
def ExpOK (m : List Int) : Prop := m.length ≤ 6 ∧ Within 1048576 m
open Classical in
noncomputable def ex6 (m : List Int) : List Int := if ExpOK m then pad6 m else List.replicate 6 0
theorem ex6_len (m : List Int) : (ex6 m).length = 6 := by
  unfold ex6
  split
  · rename_i h; exact pad6_len h.1
  · rfl
theorem ex6_ok {m : List Int} (h : ExpOK m) : ex6 m = pad6 m := if_pos h
theorem Within.pad {m : Int} (hm : 0 ≤ m) {xs : List Int} (h : Within m xs) : Within m (pad6 xs) := by
  intro x hx
  simp only [pad6, List.mem_append, List.mem_replicate] at hx
  rcases hx with hx | ⟨_, rfl⟩
  · exact h x hx
  · exact ⟨Int.le_refl _, hm⟩
theorem ex6_in (m : List Int) : Within 1048576 (ex6 m) := by
  unfold ex6
  split
  · rename_i h; exact h.2.pad (by decide)
  · intro x hx; simp at hx; omega
def TOK (vars : Int) (t : Tm) : Prop := (canL t.coef).isSome ∧ (cn t.coef).2.1 ≠ 0 ∧ (t.exps.length : Int) = vars ∧ Within 1048576 t.exps
def WF (p : Po) : Prop := (0 ≤ p.vars ∧ p.vars ≤ 6) ∧ ∀ j, j < p.terms.length → TOK p.vars (p.terms.getD j default) ∧ (0 < j → ordL (p.terms.getD (j - 1) default).exps (p.terms.getD j default).exps = 1)
theorem ordL_cases (a b : List Int) : ordL a b = -1 ∨ ordL a b = 0 ∨ ordL a b = 1 := by
  have h : ∀ xs ys : List Int, rl xs ys = -1 ∨ rl xs ys = 0 ∨ rl xs ys = 1 := by
    intro xs
    induction xs with
    | nil => intro ys; exact .inr (.inl (by simp [rl]))
    | cons x xs ih =>
      intro ys
      cases ys with
      | nil => exact .inr (.inl rfl)
      | cons y ys =>
        simp only [rl]
        split
        · exact .inl rfl
        · split
          · exact .inr (.inr rfl)
          · exact ih ys
  unfold ordL
  split
  · exact .inl rfl
  · split
    · exact .inr (.inr rfl)
    · exact h _ _
theorem wi32 {x : Int} (h : -2147483648 ≤ x) (h2 : x ≤ 2147483647) : IntKind.i32.wrap x = x := by
  show (if (true && decide (x % 4294967296 ≥ 2147483648)) = true then _ else _) = _
  simp only [Bool.true_and, decide_eq_true_eq, ge_iff_le]
  show (if 2147483648 ≤ x % 4294967296 then x % 4294967296 - 4294967296 else x % 4294967296) = x
  split <;> omega
end Go.AM

namespace Go.AM
open Go.ChangeShapes Go.WideShapes Go.ChangeAt Go.RowKit Go.Deep
theorem law_calls {P : Program} {orc : Orc} (hO : OrcOk P orc) {f : FuncId} (hf : FnOk P f) {vs : List V} {H' : List Ob} (h : orc f vs [] = some (.c (.t (.bool true)), H')) {w : World} {us : List Value} (hA : A2 (RV w (· < w.heap.size) (fun _ => none) []) vs us) :
    Calls P f us.toArray w fun e w' => e = .returned (.bool true) ∧ Below w.heap.size w w' := by
  have hC : Ctx (· < w.heap.size) (fun _ => none) [] w := ⟨by simp, fun _ h => h, by simp, by simp⟩
  refine ((hO f vs [] _ H' h _ _ w us hC hA).calls hf).mono ?_
  rintro e w' ⟨v', rfl, I', ρ', _, hv, hE, _⟩
  have hv' : v' = .bool true := hv
  subst hv'
  exact ⟨rfl, hE.os, hE.tape, hE.output, hE.size, fun b hb => hE.same b hb (by rintro ⟨id, off, ⟨o, h, _⟩, _⟩; simp at h)⟩
def Opn (P : Program) (t : TypeId) (Q : List T → Prop) : Prop :=
  ∀ (H : Type) (enc : TypeId × Value → H) (w : World) (sp : Nat → Bool) (hd : Bool) (fuel : Nat) (cs : List Value) (x : DataW H × List MemPlace), DataW.trod enc P w 0 sp hd fuel t cs = some x → (∀ q ∈ x.2, q.block < w.heap.size) →
    ∃ ts, Q ts ∧ A2 (RT w (· < w.heap.size)) ts cs
theorem opn_int {P : Program} {t : TypeId} {k : IntKind} (ht : P.underlying t = some (.int k)) : Opn P t (fun ts => ∃ n : Int, ts = [.int k n] ∧ (Lit.int k n).wf = true) := by
  intro H enc w sp hd fuel cs x h _
  obtain ⟨n, rfl, _, hw⟩ := DataW.trod_int ht h
  exact ⟨_, ⟨n, rfl, hw⟩, .cons rfl .nil⟩
theorem opn_str {P : Program} {t : TypeId} (ht : P.underlying t = some .string) : Opn P t (fun ts => ∃ l : List UInt8, ts = [strT l] ∧ l.length ≤ maxLen) := by
  intro H enc w sp hd fuel cs x h _
  obtain ⟨s, rfl, _, hs⟩ := DataW.trod_string ht h
  refine ⟨_, ⟨s.data.toList, rfl, by simpa using hs⟩, .cons ?_ .nil⟩
  simp [RT]
theorem RTs_app {w : World} {I : Nat → Prop} {ad : Addr} : ∀ {xs ys : List T} {j : Nat}, RTs w I xs ad j → RTs w I ys ad (j + xs.length) → RTs w I (xs ++ ys) ad j
  | [], ys, j, _, h => by simpa using h
  | x :: xs, ys, j, h1, h2 => by
    simp only [RTs, List.cons_append] at h1 ⊢
    exact ⟨h1.1, RTs_app h1.2 (by rw [show j + 1 + xs.length = j + (x :: xs).length by simp; omega]; exact h2)⟩
theorem opn_slice {P : Program} {t e : TypeId} {sz : Nat} {Q : List T → Prop} (ht : P.underlying t = some (.slice e)) (hc : P.cellsOf e = sz) (h : Opn P e Q) :
    Opn P t (fun ts => ∃ rws : List (List T), (∀ r ∈ rws, Q r ∧ r.length = sz) ∧ rws.length ≤ maxLen ∧ ts = [.sl rws.length rws.flatten]) := by
  intro H enc w sp hd fuel cs x hx hlt
  subst hc
  rcases open_slice ht hx with ⟨rfl, rfl⟩ | ⟨a, len, cap, m, n, D, Pl, rfl, _, hl, hcap, hm, rfl, hel⟩
  · exact ⟨_, ⟨[], by simp, by simp, rfl⟩, .cons ⟨none, 0, rfl, Nat.le_refl _, .inl ⟨rfl, rfl⟩⟩ .nil⟩
  · have hlm : len ≤ m := by rw [hm]; split <;> omega
    have hch : ∀ i, ∃ ts : List T, i < len → Q ts ∧ ∃ cs', w.cells? 0 (a.add (i * P.cellsOf e)) (P.cellsOf e) = some cs' ∧ A2 (RT w (· < w.heap.size)) ts cs' := by
      intro i
      by_cases hi : i < len
      · obtain ⟨cs', h1, h2⟩ := hel i (by omega)
        obtain ⟨ts, h3, h4⟩ := h H enc w sp hd n cs' _ h2 (fun q hq => hlt q (by
          simp only [List.mem_append, List.mem_flatMap]
          exact .inr ⟨i, List.mem_range.2 (by omega), hq⟩))
        exact ⟨ts, fun _ => ⟨h3, cs', h1, h4⟩⟩
      · exact ⟨[], fun h => absurd h hi⟩
    obtain ⟨R, hR⟩ := Classical.skolem.1 hch
    have hlen : ∀ i, i < len → (R i).length = P.cellsOf e := by
      intro i hi
      obtain ⟨_, cs', h1, h2⟩ := hR i hi
      rw [h2.length, (World.cells?_some h1).2.1]
    have hrts : ∀ l, l ≤ len → ((List.range l).map R).flatten.length = l * P.cellsOf e ∧ RTs w (· < w.heap.size) ((List.range l).map R).flatten a 0 := by
      intro l
      induction l with
      | zero => intro _; exact ⟨by simp, by simp [RTs]⟩
      | succ l ih =>
        intro hl2
        obtain ⟨i1, i2⟩ := ih (by omega)
        obtain ⟨_, cs', h1, h2⟩ := hR l (by omega)
        rw [List.range_succ, List.map_append, List.flatten_append]
        simp only [List.map_cons, List.map_nil, List.flatten_cons, List.flatten_nil, List.append_nil]
        refine ⟨by rw [List.length_append, i1, hlen l (by omega), Nat.add_mul]; omega, RTs_app i2 ?_⟩
        rw [i1, Nat.zero_add]
        refine RTs_mk fun k c hk => ?_
        obtain ⟨u, hu, hr⟩ := h2.get hk
        have hkl := (List.getElem?_eq_some_iff.1 hk).1
        rw [hlen l (by omega)] at hkl
        have hcell := (World.cells?_some h1).2.2 k hkl
        have hblk := World.cells?_block h1 (by omega)
        rw [add_block] at hblk
        rw [Go.Deep.add_add] at hcell
        exact ⟨hblk, u, by rw [hcell]; exact hu, hr⟩
    refine ⟨_, ⟨(List.range len).map R, ?_, by simp; omega, rfl⟩, .cons ⟨some a, cap, by simp, by simpa using hl, .inr ⟨a, rfl, (hrts len (Nat.le_refl _)).2⟩⟩ .nil⟩
    intro r hr
    obtain ⟨i, hi, rfl⟩ := List.mem_map.1 hr
    have hi' := List.mem_range.1 hi
    exact ⟨(hR i hi').1, hlen i hi'⟩
theorem A2_split {α β : Type} {R : α → β → Prop} {us vs : List α} {cs : List β} {n : Nat} (h1 : A2 R us (cs.take n)) (h2 : A2 R vs (cs.drop n)) : A2 R (us ++ vs) cs := by
  have := h1.append h2
  rwa [List.take_append_drop] at this
theorem opn_struct2 {P : Program} {t : TypeId} {f0 f1 : Field} {z0 z1 : Nat} {Q0 Q1 : List T → Prop} (ht : P.underlying t = some (.struct #[f0, f1])) (ho0 : f0.offset = 0) (hc0 : P.cellsOf f0.type = z0) (ho1 : f1.offset = z0) (hc1 : P.cellsOf f1.type = z1) (hc : P.cellsOf t = z0 + z1)
    (h0 : Opn P f0.type Q0) (h1 : Opn P f1.type Q1) : Opn P t (fun ts => ∃ a b, Q0 a ∧ Q1 b ∧ ts = a ++ b) := by
  intro H enc w sp hd fuel cs x hx hlt
  obtain ⟨y0, y1, n, rfl, hl, e0, e1⟩ := trod_struct2 ht hx
  rw [ho0, hc0, List.drop_zero] at e0
  rw [ho1, hc1, List.take_of_length_le (by rw [List.length_drop]; omega)] at e1
  obtain ⟨a, ha, ra⟩ := h0 H enc w sp hd n _ _ e0 (fun q hq => hlt q (by simp [hq]))
  obtain ⟨b, hb, rb⟩ := h1 H enc w sp hd n _ _ e1 (fun q hq => hlt q (by simp [hq]))
  exact ⟨_, ⟨a, b, ha, hb, rfl⟩, A2_split ra rb⟩
theorem rows_of {α : Type} {enc : α → List T} : ∀ {rws : List (List T)}, (∀ r ∈ rws, ∃ x, r = enc x) → ∃ xs : List α, rws.flatten = rows enc xs ∧ rws.length = xs.length
  | [], _ => ⟨[], rfl, rfl⟩
  | r :: rws, h => by
    obtain ⟨x, rfl⟩ := h r (by simp)
    obtain ⟨xs, h1, h2⟩ := rows_of (rws := rws) fun r hr => h r (by simp [hr])
    exact ⟨x :: xs, by rw [List.flatten_cons, h1, rows_cons], by simp [h2]⟩
theorem Opn.mono {P : Program} {t : TypeId} {Q Q' : List T → Prop} (h : Opn P t Q) (hQ : ∀ ts, Q ts → Q' ts) : Opn P t Q' := by
  intro H enc w sp hd fuel cs x hx hlt
  obtain ⟨ts, h1, h2⟩ := h H enc w sp hd fuel cs x hx hlt
  exact ⟨ts, hQ _ h1, h2⟩
theorem opn_rows {P : Program} {t e : TypeId} {sz : Nat} {α : Type} {enc : α → List T} (ht : P.underlying t = some (.slice e)) (hc : P.cellsOf e = sz) (h : Opn P e (fun ts => ∃ x, ts = enc x)) :
    Opn P t (fun ts => ∃ xs : List α, ts = [.sl xs.length (rows enc xs)]) := by
  refine (opn_slice ht hc h).mono ?_
  rintro ts ⟨rws, h1, _, rfl⟩
  obtain ⟨xs, h2, h3⟩ := rows_of (enc := enc) fun r hr => (h1 r hr).1
  exact ⟨xs, by rw [h2, h3]⟩
theorem rows_ks {k : IntKind} {xs : List Int} : rows (fun n => [T.int k n]) xs = ks k xs := by
  induction xs with
  | nil => rfl
  | cons x xs ih => rw [rows_cons, ih]; rfl
theorem opn_ints {P : Program} {t e : TypeId} {k : IntKind} (ht : P.underlying t = some (.slice e)) (he : P.underlying e = some (.int k)) (hc : P.cellsOf e = 1) : Opn P t (fun ts => ∃ xs : List Int, ts = [.sl xs.length (ks k xs)]) := by
  refine (opn_rows (enc := fun n => [T.int k n]) ht hc ((opn_int he).mono fun ts ⟨n, h, _⟩ => ⟨n, h⟩)).mono ?_
  rintro ts ⟨xs, rfl⟩
  exact ⟨xs, by rw [rows_ks]⟩
theorem open_slot {H : Type} {enc : TypeId × Value → H} {P : Program} {W : World} {t : TypeId} {v : Value} {d : DataW H} {ps : List MemPlace} {α : Type} {f : α → T} (h : Opn P t (fun ts => ∃ x, ts = [f x])) (hv : v.cells = #[v])
    (hd : DataW.Trod enc P W 0 (fun _ => true) true t v d ps) (hlt : ∀ x ∈ ps, x.block < W.heap.size) : ∃ x : α, RV W (· < W.heap.size) (fun _ => none) [] (.c (.t (f x))) v := by
  obtain ⟨fuel, hf⟩ := hd
  obtain ⟨ts, ⟨x, rfl⟩, hA⟩ := h H enc W _ _ fuel _ _ hf hlt
  rw [hv] at hA
  cases hA with
  | cons h1 _ => exact ⟨x, h1⟩
theorem opn_polys {P : Program} {tl tp tt tts ti tis ts : TypeId} {p0 p1 q0 q1 : Field} (hl : P.underlying tl = some (.slice tp)) (hp : P.underlying tp = some (.struct #[p0, p1])) (hp0 : p0.type = ti) (hp1 : p1.type = tts) (op0 : p0.offset = 0) (op1 : p1.offset = 1)
    (hts : P.underlying tts = some (.slice tt)) (ht : P.underlying tt = some (.struct #[q0, q1])) (hq0 : q0.type = ts) (hq1 : q1.type = tis) (oq0 : q0.offset = 0) (oq1 : q1.offset = 1) (hs : P.underlying ts = some .string) (his : P.underlying tis = some (.slice ti)) (hi : P.underlying ti = some (.int .i64))
    (c1 : P.cellsOf ti = 1) (c2 : P.cellsOf tts = 1) (c3 : P.cellsOf ts = 1) (c4 : P.cellsOf tis = 1) (c5 : P.cellsOf tt = 2) (c6 : P.cellsOf tp = 2) : Opn P tl (fun t => ∃ l : List Po, t = [.sl l.length (rows encPo l)]) := by
  subst hp0 hp1 hq0 hq1
  have hT : Opn P tt (fun t => ∃ x : Tm, t = encTm x) := by
    refine (opn_struct2 ht oq0 c3 oq1 c4 (by rw [c5]) (opn_str hs) (opn_ints his hi c1)).mono ?_
    rintro t ⟨a, b, ⟨l, rfl, _⟩, ⟨xs, rfl⟩, rfl⟩
    exact ⟨⟨l, xs⟩, rfl⟩
  have hP : Opn P tp (fun t => ∃ x : Po, t = encPo x) := by
    refine (opn_struct2 hp op0 c1 op1 c2 (by rw [c6]) (opn_int hi) (opn_rows (enc := encTm) hts c5 hT)).mono ?_
    rintro t ⟨a, b, ⟨n, rfl, _⟩, ⟨xs, rfl⟩, rfl⟩
    exact ⟨⟨n, xs⟩, rfl⟩
  exact opn_rows hl c6 hP
end Go.AM
