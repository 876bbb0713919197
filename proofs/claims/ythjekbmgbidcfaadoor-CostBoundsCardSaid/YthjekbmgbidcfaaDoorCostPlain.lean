/- Plain law (no program): of two words of float64 the one is at most the other one just where its rank is. -/
import Derived.Laws.FloatArith
namespace Go.Proofs.YthjekbmgbidcfaaDoor.Cost
open Ieee
set_option maxRecDepth 100000

/-- A rung's significand, and its exponent above the least. -/
def mg (r : Nat) : Nat := if r < 4503599627370496 then r else 4503599627370496 + r % 4503599627370496
def ex (r : Nat) : Nat := r / 4503599627370496 - 1
def vl (r : Nat) : Nat := mg r * 2 ^ ex r
theorem div_at (q t K : Nat) (h : t < K) : (q * K + t) / K = q := by
  rw [Nat.mul_comm, Nat.mul_add_div (by omega), Nat.div_eq_of_lt h, Nat.add_zero]
theorem mod_at (q t K : Nat) (h : t < K) : (q * K + t) % K = t := by
  rw [Nat.mul_comm, Nat.mul_add_mod, Nat.mod_eq_of_lt h]
theorem vl_succ (r : Nat) : vl r < vl (r + 1) := by
  unfold vl mg ex
  by_cases h : r + 1 < 4503599627370496
  · rw [if_pos (by omega), if_pos h, Nat.div_eq_of_lt h, Nat.div_eq_of_lt (show r < 4503599627370496 by omega)]
    simp
  · rw [if_neg h]
    by_cases h1 : r < 4503599627370496
    · have e : r = 4503599627370495 := by omega
      subst e; decide
    · rw [if_neg h1]
      obtain ⟨q, t, ht, rfl⟩ : ∃ q t, t < 4503599627370496 ∧ r = q * 4503599627370496 + t := ⟨r / 4503599627370496, r % 4503599627370496, Nat.mod_lt _ (by decide), by omega⟩
      have hq : 1 ≤ q := by omega
      have d1 : (q * 4503599627370496 + t) / 4503599627370496 = q := div_at q t _ ht
      have m1 : (q * 4503599627370496 + t) % 4503599627370496 = t := mod_at q t _ ht
      rw [d1, m1]
      by_cases h2 : t + 1 < 4503599627370496
      · have d2 : (q * 4503599627370496 + t + 1) / 4503599627370496 = q := by rw [Nat.add_assoc]; exact div_at q (t + 1) _ h2
        have m2 : (q * 4503599627370496 + t + 1) % 4503599627370496 = t + 1 := by rw [Nat.add_assoc]; exact mod_at q (t + 1) _ h2
        rw [d2, m2]
        exact Nat.mul_lt_mul_of_pos_right (by omega) (Nat.two_pow_pos _)
      · have e2 : q * 4503599627370496 + t + 1 = (q + 1) * 4503599627370496 + 0 := by rw [Nat.add_mul]; omega
        have d2 : (q * 4503599627370496 + t + 1) / 4503599627370496 = q + 1 := by rw [e2]; exact div_at (q + 1) 0 _ (by decide)
        have m2 : (q * 4503599627370496 + t + 1) % 4503599627370496 = 0 := by rw [e2]; exact mod_at (q + 1) 0 _ (by decide)
        rw [d2, m2, show q + 1 - 1 = (q - 1) + 1 by omega, Nat.pow_succ]
        have := Nat.two_pow_pos (q - 1)
        generalize 2 ^ (q - 1) = p at this
        rw [show (4503599627370496 + 0) * (p * 2) = 9007199254740992 * p by omega]
        exact Nat.mul_lt_mul_of_pos_right (by omega) this
theorem vl_lt {a b : Nat} (h : a < b) : vl a < vl b := by
  induction b with
  | zero => omega
  | succ b ih =>
    by_cases e : a = b
    · rw [e]; exact vl_succ b
    · exact Nat.lt_trans (ih (by omega)) (vl_succ b)
theorem vl_le {a b : Nat} : vl a ≤ vl b ↔ a ≤ b := by
  constructor
  · intro h
    rcases Nat.lt_or_ge b a with h1 | h1
    · have := vl_lt h1; omega
    · exact h1
  · intro h
    rcases Nat.lt_or_eq_of_le h with h1 | h1
    · exact Nat.le_of_lt (vl_lt h1)
    · rw [h1]; exact Nat.le_refl _
theorem vl_zero : vl 0 = 0 := by decide

def neg (a : Nat) : Bool := a / 9223372036854775808 % 2 == 1
def rung (a : Nat) : Nat := a % 9223372036854775808
/-- Where a word stands among all. -/
def rankZ (a : Nat) : Int := if neg a then -(rung a : Int) else (rung a : Int)
def inf : Nat := 9218868437227405312
def lim : Int := 2 - 2 ^ 10 - 52

theorem read_number {a : Nat} (h : rung a < inf) : double.read a = .number (neg a) (mg (rung a)) (-1074 + (ex (rung a) : Int)) := by
  unfold rung inf at h
  unfold Format.read
  have e1 : double.signWeight = 9223372036854775808 := by decide
  have e2 : double.binade = 4503599627370496 := by decide
  have e3 : double.infRung = 9218868437227405312 := by decide
  have e4 : double.leastPlace = -1074 := by decide
  simp only [e1, e2, e3, e4]
  by_cases h1 : a % 9223372036854775808 < 4503599627370496
  · rw [if_pos h1]
    unfold neg mg ex rung
    rw [if_pos h1, Nat.div_eq_of_lt h1]; rfl
  · rw [if_neg h1, if_pos h]
    unfold neg mg ex rung
    rw [if_neg h1]
theorem read_inf {a : Nat} (h : rung a = inf) : double.read a = .infinity (neg a) := by
  unfold rung inf at h
  unfold Format.read
  have e1 : double.signWeight = 9223372036854775808 := by decide
  have e2 : double.binade = 4503599627370496 := by decide
  have e3 : double.infRung = 9218868437227405312 := by decide
  simp only [e1, e2, e3]
  rw [h, if_neg (by decide), if_neg (by decide), if_pos rfl]; rfl
theorem read_nan {a : Nat} (h : inf < rung a) : ∃ t, double.read a = .nan (neg a) t := by
  unfold rung inf at h
  unfold Format.read
  have e1 : double.signWeight = 9223372036854775808 := by decide
  have e2 : double.binade = 4503599627370496 := by decide
  have e3 : double.infRung = 9218868437227405312 := by decide
  simp only [e1, e2, e3]
  rw [if_neg (by omega), if_neg (by omega), if_neg (by omega)]
  exact ⟨_, rfl⟩

/-- 'x <= y'. -/
def leq (a b : Nat) : Bool := double.order a b == some .lt || double.order a b == some .eq
/-- 'x == x'. -/
def num (a : Nat) : Bool := double.order a a == some .eq

theorem sgn_le (s t : Bool) (a b : Nat) (i j : Nat) : ((compare (signed s a ((-1074 + (i : Int)) - min (-1074 + (i : Int)) (-1074 + (j : Int))).toNat) (signed t b ((-1074 + (j : Int)) - min (-1074 + (i : Int)) (-1074 + (j : Int))).toNat)).isLE = true) ↔
    (if s then -((a * 2 ^ i : Nat) : Int) else ((a * 2 ^ i : Nat) : Int)) ≤ (if t then -((b * 2 ^ j : Nat) : Int) else ((b * 2 ^ j : Nat) : Int)) := by
  obtain ⟨i', j', c, hi, hj, h1, h2⟩ : ∃ i' j' c : Nat, i = c + i' ∧ j = c + j' ∧ ((-1074 + (i : Int)) - min (-1074 + (i : Int)) (-1074 + (j : Int))).toNat = i' ∧ ((-1074 + (j : Int)) - min (-1074 + (i : Int)) (-1074 + (j : Int))).toNat = j' :=
    ⟨i - min i j, j - min i j, min i j, by omega, by omega, by omega, by omega⟩
  rw [h1, h2, hi, hj]
  have ea : a * 2 ^ (c + i') = 2 ^ c * (a * 2 ^ i') := by rw [Nat.pow_add]; rw [Nat.mul_left_comm]
  have eb : b * 2 ^ (c + j') = 2 ^ c * (b * 2 ^ j') := by rw [Nat.pow_add]; rw [Nat.mul_left_comm]
  rw [ea, eb]
  unfold signed
  rw [Nat.shiftLeft_eq, Nat.shiftLeft_eq]
  have hc := Nat.two_pow_pos c
  generalize 2 ^ c = p at hc
  generalize a * 2 ^ i' = x
  generalize b * 2 ^ j' = y
  rw [Int.isLE_compare]
  have hp : (0 : Int) < (p : Int) := by omega
  cases s <;> cases t <;> simp only [if_true, if_false, Bool.false_eq_true, Int.natCast_mul]
  · exact (Int.mul_le_mul_left hp).symm
  · rw [← Int.mul_neg]; exact (Int.mul_le_mul_left hp).symm
  · rw [← Int.mul_neg]; exact (Int.mul_le_mul_left hp).symm
  · rw [← Int.mul_neg, ← Int.mul_neg]; exact (Int.mul_le_mul_left hp).symm

theorem some_le (c : Ordering) : ((some c == some Ordering.lt) || (some c == some Ordering.eq)) = c.isLE := by cases c <;> rfl
theorem vl_rank (s t : Bool) (a b : Nat) : ((if s then -((vl a : Nat) : Int) else ((vl a : Nat) : Int)) ≤ (if t then -((vl b : Nat) : Int) else ((vl b : Nat) : Int))) ↔ ((if s then -(a : Int) else (a : Int)) ≤ (if t then -(b : Int) else (b : Int))) := by
  have h1 := @vl_le a b
  have h2 := @vl_le b a
  have h3 : vl a = 0 ↔ a = 0 := by
    constructor
    · intro h; have := (@vl_le a 0).1 (by rw [h]; omega); omega
    · intro h; rw [h]; exact vl_zero
  have h4 : vl b = 0 ↔ b = 0 := by
    constructor
    · intro h; have := (@vl_le b 0).1 (by rw [h]; omega); omega
    · intro h; rw [h]; exact vl_zero
  cases s <;> cases t <;> simp only [if_true, if_false, Bool.false_eq_true] <;> omega
theorem rung_lt (a : Nat) : rung a < 9223372036854775808 := Nat.mod_lt _ (by decide)
theorem num_is (a : Nat) : num a = decide (rung a ≤ inf) := by
  unfold num Format.order
  rcases Nat.lt_trichotomy (rung a) inf with h | h | h
  · rw [read_number h, decide_eq_true (Nat.le_of_lt h)]
    unfold Datum.order
    show (some (compare (signed (neg a) (mg (rung a)) _) (signed (neg a) (mg (rung a)) _)) == some Ordering.eq) = true
    rw [Int.compare_eq_eq.2 rfl]; rfl
  · rw [read_inf h, h, decide_eq_true (Nat.le_refl _)]
    unfold Datum.order
    cases neg a <;> rfl
  · obtain ⟨t, ht⟩ := read_nan h
    rw [ht, decide_eq_false (by omega)]; rfl
theorem leq_is (a b : Nat) : leq a b = (num a && num b && decide (rankZ a ≤ rankZ b)) := by
  rw [num_is, num_is]
  unfold leq Format.order rankZ
  rcases Nat.lt_trichotomy (rung a) inf with h | h | h
  · rcases Nat.lt_trichotomy (rung b) inf with g | g | g
    · rw [read_number h, read_number g, decide_eq_true (Nat.le_of_lt h), decide_eq_true (Nat.le_of_lt g)]
      unfold Datum.order
      simp only []
      rw [some_le, Bool.eq_iff_iff, sgn_le]
      simp only [Bool.true_and, decide_eq_true_eq]
      exact vl_rank _ _ _ _
    · rw [read_number h, read_inf g, decide_eq_true (Nat.le_of_lt h), decide_eq_true (Nat.le_of_eq g)]
      unfold Datum.order
      unfold inf at h g
      cases hb : neg b <;> cases ha : neg a <;> simp <;> omega
    · obtain ⟨t, ht⟩ := read_nan g
      rw [read_number h, ht, decide_eq_false (show ¬ rung b ≤ inf by omega)]
      simp [Datum.order]
  · rcases Nat.lt_trichotomy (rung b) inf with g | g | g
    · rw [read_inf h, read_number g, decide_eq_true (Nat.le_of_eq h), decide_eq_true (Nat.le_of_lt g)]
      unfold Datum.order
      unfold inf at h g
      cases hb : neg b <;> cases ha : neg a <;> simp <;> omega
    · rw [read_inf h, read_inf g, decide_eq_true (Nat.le_of_eq h), decide_eq_true (Nat.le_of_eq g)]
      unfold Datum.order
      unfold inf at h g
      rw [h, g]
      cases hb : neg b <;> cases ha : neg a <;> decide
    · obtain ⟨t, ht⟩ := read_nan g
      rw [read_inf h, ht, decide_eq_false (show ¬ rung b ≤ inf by omega)]
      simp [Datum.order]
  · obtain ⟨t, ht⟩ := read_nan h
    rw [ht, decide_eq_false (show ¬ rung a ≤ inf by omega)]
    simp [Datum.order]

theorem num_nan : num 9221120237041090561 = false := by decide +kernel
theorem leq_nan (b : Nat) : leq 9221120237041090561 b = false := by rw [leq_is, num_nan]; rfl
theorem leq_nan' (a : Nat) : leq a 9221120237041090561 = false := by rw [leq_is, num_nan, Bool.and_false]; rfl
theorem leq_self (a : Nat) : leq a a = num a := by rw [leq_is]; simp
theorem leq_inf (a : Nat) : leq a 9218868437227405312 = num a := by
  rw [leq_is, show num 9218868437227405312 = true by decide +kernel, Bool.and_true]
  cases h : num a
  · rfl
  · rw [num_is, decide_eq_true_eq] at h
    have e : rankZ 9218868437227405312 = 9218868437227405312 := by decide +kernel
    rw [e, decide_eq_true]
    · rfl
    · unfold rankZ; unfold inf at h; split <;> omega
theorem leq_zeros : leq 9223372036854775808 0 = true ∧ leq 0 9223372036854775808 = true := by decide +kernel
end Go.Proofs.YthjekbmgbidcfaaDoor.Cost
