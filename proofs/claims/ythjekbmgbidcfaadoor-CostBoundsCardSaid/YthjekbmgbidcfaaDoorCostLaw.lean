/- The law CostBounds: its walk, out of the contracts. -/
import Derived.Test.YthjekbmgbidcfaaDoorCostText
import Derived.Test.YthjekbmgbidcfaaDoorCostPlain
namespace Go.Proofs.YthjekbmgbidcfaaDoor.Cost
open Go.RowKit Go.Lib
set_option maxRecDepth 100000

theorem leqM_calls (a b : Nat) (w : World) : Calls Tryd.prog 18 #[.float .f64 a, .float .f64 b] w fun e w' => e = .returned (.bool (leq a b)) ∧ w' = w := AtMost_calls a b w

theorem rank_calls (a : Nat) (ha : a < 18446744073709551616) (w : World) : Calls Tryd.prog 55 #[.float .f64 a] w fun e w' => e = .returned (.int .i64 (rankZ a)) ∧ w' = w := by
  have h2 := run_bits
  have hr : (a : Int) % 9223372036854775808 = (rung a : Int) := by unfold rung; omega
  have hl := rung_lt a
  have hq : (a : Int) / 9223372036854775808 = if neg a then 1 else 0 := by
    unfold neg
    by_cases h : a / 9223372036854775808 % 2 = 1
    · rw [h]; simp; omega
    · have : (a / 9223372036854775808 % 2 == 1) = false := by rw [beq_eq_false_iff_ne]; exact h
      rw [this]; simp; omega
  have hz : rankZ a = if neg a then -(rung a : Int) else (rung a : Int) := rfl
  cases hn : neg a
  · rw [hn] at hq hz
    simp only [Bool.false_eq_true, if_false] at hq hz
    rw [hz]
    generalize rung a = r at hr hl
    clear hz hn
    go_enter Tryd.func55, Tryd.ntmps55
    go_wp2
    go_ret
    exact ⟨rfl, rfl⟩
  · rw [hn] at hq hz
    simp only [if_true] at hq hz
    rw [hz]
    generalize rung a = r at hr hl
    clear hz hn
    go_enter Tryd.func55, Tryd.ntmps55
    go_wp2
    go_ret
    exact ⟨rfl, rfl⟩

theorem refAtMost_calls (a b : Nat) (ha : a < 18446744073709551616) (hb : b < 18446744073709551616) (w : World) : Calls Tryd.prog 19 #[.float .f64 a, .float .f64 b] w fun e w' => e = .returned (.bool (leq a b)) ∧ w' = w := by
  have ca := fun w => rank_calls a ha w
  have cb := fun w => rank_calls b hb w
  rw [leq_is]
  cases na : num a
  · have h : (FloatKind.f64.format.order a a != some .eq) = true := by show (!(num a)) = true; rw [na]; rfl
    rw [Bool.false_and, Bool.false_and]
    clear na ca cb
    go_enter Tryd.func19, Tryd.ntmps19
    go_wp2
    go_ret
    exact ⟨rfl, rfl⟩
  · have h : (FloatKind.f64.format.order a a != some .eq) = false := by show (!(num a)) = false; rw [na]; rfl
    cases nb : num b
    · have h2 : (FloatKind.f64.format.order b b != some .eq) = true := by show (!(num b)) = true; rw [nb]; rfl
      clear na nb ca cb
      go_enter Tryd.func19, Tryd.ntmps19
      go_wp2
      go_ret
      exact ⟨rfl, rfl⟩
    · have h2 : (FloatKind.f64.format.order b b != some .eq) = false := by show (!(num b)) = false; rw [nb]; rfl
      generalize rankZ a = x at ca
      generalize rankZ b = y at cb
      clear na nb
      go_enter Tryd.func19, Tryd.ntmps19
      go_wp2_with fail
      refine (ca _).mono ?_
      rintro e w1 ⟨rfl, rfl⟩
      go_wp2_with fail
      refine (cb _).mono ?_
      rintro e w2 ⟨rfl, rfl⟩
      go_wp2
      go_ret
      exact ⟨by simp, rfl⟩

set_option maxHeartbeats 1000000 in
theorem CostBounds_calls (x y : Nat) (w : World) (hx : x < 18446744073709551616) (hy : y < 18446744073709551616) (ht : Bruijn w) (hp : Lex.Pow10 w) :
    Calls Tryd.prog 4 #[.int .u64 x, .int .u64 y] w fun e w' => e = .returned (.bool true) ∧ Below w.heap.size w w' := by
  have hA := costAlive_calls w ht hp
  have c1 := fun w => leqM_calls x y w
  have c2 := fun w => refAtMost_calls x y hx hy w
  have c3 := fun w => leqM_calls x x w
  have c4 := fun w => leqM_calls 9221120237041090561 y w
  have c5 := fun w => leqM_calls x 9221120237041090561 w
  have c6 := fun w => leqM_calls x 9218868437227405312 w
  have c7 := fun w => leqM_calls 9223372036854775808 0 w
  have c8 := fun w => leqM_calls 0 9223372036854775808 w
  rw [leq_self] at c3
  rw [leq_nan] at c4
  rw [leq_nan'] at c5
  rw [leq_inf] at c6
  rw [leq_zeros.1] at c7
  rw [leq_zeros.2] at c8
  have hn : (FloatKind.f64.format.order x x == some .eq) = num x := rfl
  generalize num x = n at c3 c6 hn
  generalize leq x y = v at c1 c2
  have h1 := run_frombits
  clear ht hp
  go_enter Tryd.func4, Tryd.ntmps4
  go_wp2_with fail
  refine hA.mono ?_
  rintro e w1 ⟨rfl, hb1⟩
  go_wp2_with fail
  refine (c1 _).mono ?_
  rintro e w2 ⟨rfl, rfl⟩
  go_wp2_with fail
  refine (c2 _).mono ?_
  rintro e w3 ⟨rfl, rfl⟩
  go_wp2_with fail
  refine (NaN_calls _).mono ?_
  rintro e w4 ⟨rfl, rfl⟩
  go_wp2_with fail
  refine (c3 _).mono ?_
  rintro e w5 ⟨rfl, rfl⟩
  go_wp2_with fail
  refine (c4 _).mono ?_
  rintro e w6 ⟨rfl, rfl⟩
  go_wp2_with fail
  refine (c5 _).mono ?_
  rintro e w7 ⟨rfl, rfl⟩
  go_wp2_with fail
  refine (Inf_calls _).mono ?_
  rintro e w8 ⟨rfl, rfl⟩
  go_wp2_with fail
  refine (c6 _).mono ?_
  rintro e w9 ⟨rfl, rfl⟩
  go_wp2_with fail
  refine (Copysign_calls _).mono ?_
  rintro e w10 ⟨rfl, rfl⟩
  go_wp2_with fail
  refine (c7 _).mono ?_
  rintro e w11 ⟨rfl, rfl⟩
  go_wp2_with fail
  refine (Copysign_calls _).mono ?_
  rintro e w12 ⟨rfl, rfl⟩
  go_wp2_with fail
  refine (c8 _).mono ?_
  rintro e w13 ⟨rfl, rfl⟩
  go_wp2
  go_ret
  exact ⟨by simp, hb1⟩
end Go.Proofs.YthjekbmgbidcfaaDoor.Cost
