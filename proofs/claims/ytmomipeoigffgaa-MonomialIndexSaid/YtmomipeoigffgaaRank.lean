/- The rank of a monomial among all: it is less than their number, and it compares as the order does. -/
import Derived.Test.YtmomipeoigffgaaWalki
set_option linter.unusedSimpArgs false
set_option linter.unusedVariables false
namespace Go.Proofs.Ytmomipeoigffgaa
open Go Go.AM
def sumF (f : Nat → Nat) : Nat → Nat
  | 0 => 0
  | t + 1 => sumF f t + f t
def Bk : Nat → Nat → Nat
  | 0 => fun _ => 1
  | k + 1 => fun r => sumF (Bk k) (r + 1)
/-- d + k over k. -/
def B (r k : Nat) : Nat := Bk k r
def A (t k : Nat) : Nat := sumF (Bk k) t
theorem A_zero (k : Nat) : A 0 k = 0 := rfl
theorem A_succ (t k : Nat) : A (t + 1) k = A t k + B t k := rfl
theorem B_k0 (r : Nat) : B r 0 = 1 := rfl
theorem B_A (t k : Nat) : B t (k + 1) = A (t + 1) k := rfl
theorem B_zero : ∀ k, B 0 k = 1
  | 0 => rfl
  | k + 1 => by rw [B_A, A_succ, A_zero, B_zero k]
theorem B_succ (r k : Nat) : B (r + 1) (k + 1) = B r (k + 1) + B (r + 1) k := rfl
theorem A_mono {k : Nat} : ∀ {s t : Nat}, s ≤ t → A s k ≤ A t k := by
  intro s t h
  induction t with
  | zero => rw [show s = 0 by omega]; exact Nat.le_refl _
  | succ t ih =>
    rcases Nat.lt_or_eq_of_le h with h1 | rfl
    · have := ih (by omega)
      rw [A_succ]; omega
    · exact Nat.le_refl _
theorem B_pos : ∀ k r, 0 < B r k
  | 0, r => by rw [B_k0]; omega
  | k + 1, r => by rw [B_A, A_succ]; have := B_pos k r; omega
theorem chC_pas : ∀ d : Nat, d < 24 → ∀ k : Nat, k < 6 → chC ((d : Int) + 1) (k + 1) 1 1 = chC d (k + 1) 1 1 + chC ((d : Int) + 1) k 1 1 := by decide +kernel
theorem chC_bnd : ∀ d : Nat, d < 25 → ∀ k : Nat, k < 7 → chC d k 1 1 ≤ 600000 := by decide +kernel
theorem chC_0 : ∀ k : Nat, k < 7 → chC ((0 : Nat) : Int) k 1 1 = 1 := by decide +kernel
theorem chC_eq : ∀ k : Nat, k < 7 → ∀ d : Nat, d < 25 → chC d k 1 1 = B d k
  | 0, _, d, _ => by rw [B_k0]; rfl
  | k + 1, hk, 0, _ => by rw [chC_0 _ hk, B_zero]; rfl
  | k + 1, hk, d + 1, hd => by
    have h1 := chC_eq (k + 1) hk d (by omega)
    have h2 := chC_eq k (by omega) (d + 1) hd
    rw [B_succ, Int.natCast_add, Int.natCast_one, chC_pas d (by omega) k (by omega), h1]
    rw [Int.natCast_add, Int.natCast_one] at h2
    rw [h2]; omega
theorem chC_tab (d : Nat) (hd : d < 25) (k : Nat) (hk : k < 7) : chC d k 1 1 = B d k ∧ B d k ≤ 600000 := by
  have h1 := chC_eq k hk d hd
  have h2 := chC_bnd d hd k hk
  exact ⟨h1, by omega⟩
theorem chC_B {x : Int} {d k : Nat} (hx : x = d) (hd : d ≤ 24) (hk : k ≤ 6) : chC x k 1 1 = B d k ∧ B d k ≤ 600000 := by subst hx; exact chC_tab d (by omega) k (by omega)
theorem inn_A (k : Nat) (hk : k ≤ 6) (left : Int) : ∀ (j : Nat) (e o : Int), left - e + 1 = j → j ≤ 25 → 0 ≤ o → o + 600000 * j ≤ 1000000000000 → inn k left j e o = o + A j k
  | 0, e, o, h1, h2, h3, h4 => by simp [inn, A_zero]
  | j + 1, e, o, h1, h2, h3, h4 => by
    have hc := chC_B (x := left - e) (d := j) (k := k) (by omega) (by omega) hk
    rw [inn, hc.1, w64 (by omega) (by omega), inn_A k hk left j (e + 1) (o + B j k) (by omega) (by omega) (by omega) (by omega), A_succ]
    omega
/-- The rank among the monomials of one degree, of the first p + 1 variables. -/
def R (xs : List Int) : Nat → Nat → Nat
  | 0, _ => 0
  | p + 1, left => A (left - (xs.getD (p + 1) 0).toNat) p + R xs p (left - (xs.getD (p + 1) 0).toNat)
def sumTo (xs : List Int) : Nat → Int
  | 0 => xs.getD 0 0
  | p + 1 => sumTo xs p + xs.getD (p + 1) 0
theorem sumTo_nn {xs : List Int} (h : ∀ i, 0 ≤ xs.getD i 0 ∧ xs.getD i 0 ≤ 24) : ∀ p, 0 ≤ sumTo xs p
  | 0 => (h 0).1
  | p + 1 => by have := sumTo_nn h p; have := (h (p + 1)).1; rw [sumTo]; omega
theorem A_small {t k : Nat} (ht : t ≤ 25) (hk : k ≤ 6) : A t k ≤ 600000 * t := by
  induction t with
  | zero => simp [A_zero]
  | succ t ih =>
    have := ih (by omega)
    have := (chC_tab t (by omega) k (by omega)).2
    rw [A_succ]; omega
theorem R_lt {xs : List Int} (h : ∀ i, 0 ≤ xs.getD i 0 ∧ xs.getD i 0 ≤ 24) : ∀ (p left : Nat), (left : Int) = sumTo xs p → R xs p left < B left p
  | 0, left, _ => by rw [R]; exact B_pos _ _
  | p + 1, left, hs => by
    rw [sumTo] at hs
    have h0 := sumTo_nn h p
    have h1 := h (p + 1)
    have ih := R_lt h p (left - (xs.getD (p + 1) 0).toNat) (by omega)
    rw [R, B_A]
    have h2 : A (left - (xs.getD (p + 1) 0).toNat + 1) p ≤ A (left + 1) p := A_mono (by omega)
    rw [A_succ] at h2
    omega
theorem idx_R {xs : List Int} (h : ∀ i, 0 ≤ xs.getD i 0 ∧ xs.getD i 0 ≤ 24) : ∀ (p : Nat), p ≤ 6 → ∀ (left : Nat) (o : Int), left ≤ 24 → (left : Int) = sumTo xs p → 0 ≤ o → o + 20000000 * p ≤ 900000000000 → idx xs p left o = o + R xs p left
  | 0, _, left, o, h1, h2, h3, h4 => by simp [idx, R]
  | p + 1, hp, left, o, h1, h2, h3, h4 => by
    rw [sumTo] at h2
    have h0 := sumTo_nn h p
    have hx := h (p + 1)
    obtain ⟨x, hx2⟩ : ∃ x : Nat, xs.getD (p + 1) 0 = (x : Int) := ⟨(xs.getD (p + 1) 0).toNat, by omega⟩
    rw [idx, R]
    rw [hx2] at hx h2 ⊢
    simp only [Int.toNat_natCast]
    have e1 : ((left : Int) - x).toNat = left - x := by omega
    rw [e1, inn_A p (by omega) left (left - x) _ o (by omega) (by omega) h3 (by omega)]
    have hs := A_small (t := left - x) (k := p) (by omega) (by omega)
    rw [show (left : Int) - x = ((left - x : Nat) : Int) by omega, idx_R h p (by omega) (left - x) _ (by omega) (by omega) (by omega) (by omega)]
    omega
theorem sumTo_sum : ∀ (xs : List Int), 0 < xs.length → sumTo xs (xs.length - 1) = xs.sum := by
  have key : ∀ (xs : List Int) (p : Nat), p < xs.length → sumTo xs p = (xs.take (p + 1)).sum := by
    intro xs p
    induction p with
    | zero =>
      intro hp
      cases xs with
      | nil => simp at hp
      | cons x xs => simp [sumTo]
    | succ p ih =>
      intro hp
      rw [sumTo, ih (by omega), take_sum hp]
  intro xs h
  rw [key xs _ (by omega), show xs.length - 1 + 1 = xs.length by omega, List.take_length]
/-- The number of monomials of a lower degree. -/
def low (n d : Nat) : Nat := if 0 < d then B (d - 1) n else 0
theorem low_A {n d : Nat} : low (n + 1) d = A d n := by
  unfold low
  cases d with
  | zero => simp [A_zero]
  | succ d => rw [if_pos (by omega), Nat.add_sub_cancel, B_A]
def rank (xs : List Int) : Nat := low xs.length (degree xs).toNat + R xs (xs.length - 1) (degree xs).toNat
theorem index_rank {xs : List Int} (hv : valid xs = true) : index xs = rank xs := by
  obtain ⟨p1, p2, p3, p4, p5⟩ := valid_ok hv
  rw [index, hv, if_pos rfl]
  obtain ⟨d, hd⟩ : ∃ d : Nat, degree xs = (d : Int) := ⟨(degree xs).toNat, by omega⟩
  unfold rank
  rw [hd] at p3 p4 p5 ⊢
  rw [Int.toNat_natCast]
  have hl : (if (0 : Int) < d then chC ((d : Int) - 1) xs.length 1 1 else 0) = (low xs.length d : Int) := by
    unfold low
    by_cases h : 0 < d
    · rw [if_pos (by omega), if_pos h]
      exact (chC_B (d := d - 1) (by omega) (by omega) p1).1
    · rw [if_neg (by omega), if_neg h]; rfl
  rw [hl]
  have hlb : low xs.length d ≤ 600000 := by
    unfold low
    split
    · exact (chC_tab (d - 1) (by omega) xs.length (by omega)).2
    · omega
  rcases Nat.eq_zero_or_pos xs.length with h0 | h0
  · rw [h0]; simp [idx, R]
  · rw [idx_R p2 (xs.length - 1) (by omega) d _ (by omega) (by rw [sumTo_sum xs h0]; exact p3.symm ▸ rfl) (by omega) (by omega)]
    omega
theorem rank_lt {xs : List Int} (hv : valid xs = true) : rank xs < B (degree xs).toNat xs.length := by
  obtain ⟨p1, p2, p3, p4, p5⟩ := valid_ok hv
  unfold rank
  rcases Nat.eq_zero_or_pos xs.length with h0 | h0
  · have : xs = [] := List.eq_nil_of_length_eq_zero h0
    subst this
    rw [show (degree []).toNat = 0 from by decide]
    decide
  · have hr := R_lt p2 (xs.length - 1) (degree xs).toNat (by rw [sumTo_sum xs h0]; omega)
    have e : xs.length = (xs.length - 1) + 1 := by omega
    rw [e, low_A, B_A, A_succ, ← e]
    omega
theorem R_cmp {xs ys : List Int} (h : ∀ i, 0 ≤ xs.getD i 0 ∧ xs.getD i 0 ≤ 24) (k : ∀ i, 0 ≤ ys.getD i 0 ∧ ys.getD i 0 ≤ 24) : ∀ (p left : Nat), (left : Int) = sumTo xs p → (left : Int) = sumTo ys p →
    (R xs p left < R ys p left ↔ cmpK xs ys (p + 1) < 0)
  | 0, left, h1, h2 => by
    rw [sumTo] at h1 h2
    simp only [cmpK, R]
    rw [← h1, ← h2]
    simp
  | p + 1, left, h1, h2 => by
    rw [sumTo] at h1 h2
    have a0 := sumTo_nn h p
    have b0 := sumTo_nn k p
    have hx := h (p + 1)
    have hy := k (p + 1)
    obtain ⟨x, hx2⟩ : ∃ x : Nat, xs.getD (p + 1) 0 = (x : Int) := ⟨(xs.getD (p + 1) 0).toNat, by omega⟩
    obtain ⟨y, hy2⟩ : ∃ y : Nat, ys.getD (p + 1) 0 = (y : Int) := ⟨(ys.getD (p + 1) 0).toNat, by omega⟩
    rw [cmpK, R, R]
    rw [hx2] at hx h1 ⊢
    rw [hy2] at hy h2 ⊢
    simp only [Int.toNat_natCast]
    have r1 := R_lt h p (left - x) (by omega)
    have r2 := R_lt k p (left - y) (by omega)
    rcases Nat.lt_trichotomy x y with hxy | hxy | hxy
    · rw [if_neg (by omega), if_pos (by omega)]
      have hm : A (left - y + 1) p ≤ A (left - x) p := A_mono (by omega)
      rw [A_succ] at hm
      omega
    · subst hxy
      rw [if_neg (by omega), if_neg (by omega)]
      have := R_cmp h k p (left - x) (by omega) (by omega)
      omega
    · rw [if_pos (by omega)]
      have hm : A (left - x + 1) p ≤ A (left - y) p := A_mono (by omega)
      rw [A_succ] at hm
      omega
theorem rank_cmp {xs ys : List Int} (hl : (xs.length : Int) = ys.length) (hx : valid xs = true) (hy : valid ys = true) : rank xs < rank ys ↔ compare xs ys < 0 := by
  obtain ⟨p1, p2, p3, p4, p5⟩ := valid_ok hx
  obtain ⟨q1, q2, q3, q4, q5⟩ := valid_ok hy
  rw [cmp_val hl hx hy]
  have hl' : xs.length = ys.length := by omega
  rcases Nat.eq_zero_or_pos xs.length with h0 | h0
  · have e1 : xs = [] := List.eq_nil_of_length_eq_zero h0
    have e2 : ys = [] := List.eq_nil_of_length_eq_zero (by omega)
    subst e1 e2
    decide
  · obtain ⟨m, hm⟩ : ∃ m, xs.length = m + 1 := ⟨xs.length - 1, by omega⟩
    have s1 := sumTo_sum xs h0
    have s2 := sumTo_sum ys (by omega)
    rw [show xs.length - 1 = m by omega] at s1
    rw [show ys.length - 1 = m by omega] at s2
    have r1 := R_lt p2 m (degree xs).toNat (by omega)
    have r2 := R_lt q2 m (degree ys).toNat (by omega)
    unfold rank
    rw [← hl', hm, low_A, low_A, Nat.add_sub_cancel]
    rcases Int.lt_trichotomy (degree xs) (degree ys) with h1 | h1 | h1
    · rw [if_pos h1]
      have hm : A ((degree xs).toNat + 1) m ≤ A (degree ys).toNat m := A_mono (by omega)
      rw [A_succ] at hm
      omega
    · rw [if_neg (by omega), if_neg (by omega), h1]
      have := R_cmp p2 q2 m (degree ys).toNat (by omega) (by omega)
      omega
    · rw [if_neg (by omega), if_pos h1]
      have hm : A ((degree ys).toNat + 1) m ≤ A (degree xs).toNat m := A_mono (by omega)
      rw [A_succ] at hm
      omega
end Go.Proofs.Ytmomipeoigffgaa
