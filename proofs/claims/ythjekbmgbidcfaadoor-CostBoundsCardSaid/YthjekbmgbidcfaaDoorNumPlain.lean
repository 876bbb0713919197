/- Plain laws (no program): which texts are numbers: the digits of one that a uint64 holds. -/
import Derived.Lib.ItoaNum
import Derived.Lib.ItoaLen
import Derived.Lib.ParseIntB
import Derived.Lib.ParseIntBCases
namespace Go.Proofs.YthjekbmgbidcfaaDoor.Lex
open Go.Lib

def isDig (c : UInt8) : Bool := decide (48 ≤ c.toNat) && decide (c.toNat ≤ 57)
/-- What some digits spell, behind others. -/
def dval (a : Nat) (l : List UInt8) : Nat := l.foldl (fun a c => a * 10 + (c.toNat - 48)) a
theorem dval_snoc (a : Nat) (l : List UInt8) (c : UInt8) : dval a (l ++ [c]) = dval a l * 10 + (c.toNat - 48) := by
  unfold dval; rw [List.foldl_append]; rfl
theorem dval_ge (l : List UInt8) : ∀ a, a ≤ dval a l := by
  induction l with
  | nil => intro a; exact Nat.le_refl _
  | cons c r ih => intro a; have := ih (a * 10 + (c.toNat - 48)); show a ≤ dval (a * 10 + (c.toNat - 48)) r; omega
theorem digit_of (u : Nat) (h : u < 10) : (UInt8.ofNat (48 + u)).toNat = 48 + u := by
  rw [UInt8.toNat_ofNat']; omega
theorem dec_val (u : Nat) : dval 0 (decDigits u) = u ∧ (decDigits u).all isDig = true := by
  induction u using Nat.strongRecOn with
  | _ u ih =>
    by_cases h : u < 10
    · rw [decDigits, dif_pos h]
      have := digit_of u h
      refine ⟨?_, ?_⟩
      · show 0 * 10 + ((UInt8.ofNat (48 + u)).toNat - 48) = u; omega
      · simp only [List.all_cons, List.all_nil, Bool.and_true, isDig, Bool.and_eq_true, decide_eq_true_eq]; omega
    · obtain ⟨h1, h2⟩ := ih (u / 10) (by omega)
      have := digit_of (u % 10) (by omega)
      rw [decDigits, dif_neg h]
      refine ⟨?_, ?_⟩
      · rw [dval_snoc, h1, this]; omega
      · rw [List.all_append, h2]
        simp only [List.all_cons, List.all_nil, Bool.and_true, Bool.true_and, isDig, Bool.and_eq_true, decide_eq_true_eq]; omega
theorem dec_ne (u : Nat) : decDigits u ≠ [] := by
  intro h
  have := decDigits_length u
  rw [h] at this
  have := nDigits_pos u
  simp at *
  omega
theorem parse_digits : ∀ (l : List UInt8) (a : Nat), l.all isDig = true → dval a l ≤ 18446744073709551615 → parseUintM 18446744073709551615 a l = .ok (dval a l)
  | [], _, _, _ => rfl
  | c :: r, a, h, hm => by
    simp only [List.all_cons, Bool.and_eq_true, isDig, decide_eq_true_eq] at h
    have hr : r.all isDig = true := h.2
    have e : dval a (c :: r) = dval (a * 10 + (c.toNat - 48)) r := rfl
    rw [e] at hm ⊢
    have := dval_ge r (a * 10 + (c.toNat - 48))
    rw [parseUintM, if_pos h.1, if_neg (by omega), if_neg (by omega)]
    exact parse_digits r _ hr hm
theorem parse_dec (u : Nat) (hu : u < 18446744073709551616) : parseUintB 64 (decDigits u) = .ok u := by
  obtain ⟨h1, h2⟩ := dec_val u
  unfold parseUintB
  rw [if_neg (dec_ne u)]
  have := parse_digits (decDigits u) 0 h2 (by rw [h1]; omega)
  rw [h1] at this
  exact this
theorem parse_lt {l : List UInt8} {u : Nat} (h : parseUintB 64 l = .ok u) : u < 18446744073709551616 := by
  have := parseUintB_le h
  have e : (2 : Nat) ^ 64 - 1 = 18446744073709551615 := by decide
  omega

/-- The number whose digits a text is, if there is one. -/
def numV (l : List UInt8) : Nat := dval 0 l % 18446744073709551616
def numB (l : List UInt8) : Bool := decide (decDigits (numV l) = l)
def numN (l : List UInt8) : Nat := if numB l = true then numV l else 0
theorem numV_lt (l : List UInt8) : numV l < 18446744073709551616 := Nat.mod_lt _ (by decide)
theorem num_dec (u : Nat) (hu : u < 18446744073709551616) : numV (decDigits u) = u := by
  unfold numV; rw [(dec_val u).1]; exact Nat.mod_eq_of_lt hu
theorem num_of {l : List UInt8} {u : Nat} (hu : u < 18446744073709551616) (h : decDigits u = l) : numB l = true ∧ numN l = u := by
  subst h
  have e := num_dec u hu
  have hb : numB (decDigits u) = true := by unfold numB; rw [e, decide_eq_true rfl]
  exact ⟨hb, by unfold numN; rw [if_pos hb, e]⟩
theorem num_not {l : List UInt8} {u : Nat} (h : parseUintB 64 l = .ok u) (hd : decDigits u ≠ l) : numB l = false ∧ numN l = 0 := by
  have hb : numB l = false := by
    cases hb : numB l with
    | false => rfl
    | true =>
      have h2 := of_decide_eq_true hb
      have h3 := parse_dec (numV l) (numV_lt l)
      rw [h2, h] at h3
      injection h3 with h3
      rw [h3] at hd
      exact absurd h2 hd
  exact ⟨hb, by unfold numN; rw [hb]; rfl⟩
theorem num_fault {l : List UInt8} (h : ∀ u, parseUintB 64 l ≠ .ok u) : numB l = false ∧ numN l = 0 := by
  have hb : numB l = false := by
    cases hb : numB l with
    | false => rfl
    | true =>
      have h2 := of_decide_eq_true hb
      have h3 := parse_dec (numV l) (numV_lt l)
      rw [h2] at h3
      exact absurd h3 (h _)
  exact ⟨hb, by unfold numN; rw [hb]; rfl⟩
theorem num_long {l : List UInt8} (h : 20 < l.length) : numB l = false ∧ numN l = 0 := by
  have hb : numB l = false := by
    cases hb : numB l with
    | false => rfl
    | true =>
      have h2 := of_decide_eq_true hb
      have h3 := nDigits_le20 (numV l) (numV_lt l)
      rw [← decDigits_length, h2] at h3
      omega
  exact ⟨hb, by unfold numN; rw [hb]; rfl⟩
theorem num_sign {l : List UInt8} (h : l.all isDig = false) : numB l = false ∧ numN l = 0 := by
  have hb : numB l = false := by
    cases hb : numB l with
    | false => rfl
    | true =>
      have h2 := of_decide_eq_true hb
      have h3 := (dec_val (numV l)).2
      rw [h2, h] at h3
      cases h3
  exact ⟨hb, by unfold numN; rw [hb]; rfl⟩
end Go.Proofs.YthjekbmgbidcfaaDoor.Lex
