/- The walks of cost's functions over floats, at the chapter's example. -/
import Derived.Test.YthjekbmgbidcfaaDoorLexName
import Derived.Laws.Cover2
import Derived.Laws.FloatArith
import Derived.Laws.Externs
namespace Go.Proofs.YthjekbmgbidcfaaDoor.Cost
open Go.RowKit Go.Lib
set_option maxRecDepth 100000

theorem run_frombits (n : Int) (w : World) : (callFunc 17 #[.int .u64 n]).run Tryd.prog w = .ok (.value (.float .f64 n.toNat)) w :=
  (run_callFunc_extern (e := Extern.MathFloatBits.float64frombits) Tryd.func17 (by kernel_rfl) (by kernel_rfl) (by kernel_rfl) (by kernel_rfl) _ _).trans rfl
theorem run_bits (b : Nat) (w : World) : (callFunc 56 #[.float .f64 b]).run Tryd.prog w = .ok (.value (.int .u64 b)) w :=
  (run_callFunc_extern (e := Extern.MathFloatBits.float64bits) Tryd.func56 (by kernel_rfl) (by kernel_rfl) (by kernel_rfl) (by kernel_rfl) _ _).trans rfl

theorem NaN_calls (w : World) : Calls Tryd.prog 20 #[] w fun e w' => e = .returned (.float .f64 9221120237041090561) ∧ w' = w := by
  have h1 := run_frombits
  go_enter Tryd.func20, Tryd.ntmps20
  go_wp2
  go_ret
  exact ⟨rfl, rfl⟩
theorem AtMost_calls (a b : Nat) (w : World) : Calls Tryd.prog 18 #[.float .f64 a, .float .f64 b] w fun e w' => e = .returned (.bool (FloatKind.f64.format.order a b == some .lt || FloatKind.f64.format.order a b == some .eq)) ∧ w' = w := by
  go_enter Tryd.func18, Tryd.ntmps18
  go_wp2
  go_ret
  exact ⟨rfl, rfl⟩
theorem Inf_calls (w : World) : Calls Tryd.prog 21 #[.int .i64 1] w fun e w' => e = .returned (.float .f64 9218868437227405312) ∧ w' = w := by
  have h1 := run_frombits
  go_enter Tryd.func21, Tryd.ntmps21
  go_wp2
  go_ret
  exact ⟨rfl, rfl⟩
theorem Copysign_calls (w : World) : Calls Tryd.prog 22 #[.float .f64 0, .float .f64 13830554455654793216] w fun e w' => e = .returned (.float .f64 9223372036854775808) ∧ w' = w := by
  have h1 := run_frombits
  have h2 := run_bits
  go_enter Tryd.func22, Tryd.ntmps22
  go_wp2
  go_ret
  exact ⟨rfl, rfl⟩
theorem IsNaN_A1 (w : World) : Calls Tryd.prog 83 #[.float .f64 4609434218613702656] w fun e w' => e = .returned (.bool false) ∧ w' = w := by
  have h : (FloatKind.f64.format.order 4609434218613702656 4609434218613702656 != some .eq) = false := by decide +kernel
  go_enter Tryd.func83, Tryd.ntmps83
  go_wp2
  go_ret
  exact ⟨rfl, rfl⟩
theorem Abs_A1 (w : World) : Calls Tryd.prog 107 #[.float .f64 4609434218613702656] w fun e w' => e = .returned (.float .f64 4609434218613702656) ∧ w' = w := by
  have h1 := run_frombits
  have h2 := run_bits
  go_enter Tryd.func107, Tryd.ntmps107
  go_wp2
  go_ret
  exact ⟨rfl, rfl⟩
theorem IsInf_A1 (w : World) : Calls Tryd.prog 85 #[.float .f64 4609434218613702656, .int .i64 0] w fun e w' => e = .returned (.bool false) ∧ w' = w := by
  have h : (FloatKind.f64.format.order 4609434218613702656 9218868437227405311 == some .gt) = false := by decide +kernel
  go_enter Tryd.func85, Tryd.ntmps85
  go_wp2_with (go_at_call 107; refine (Abs_A1 _).mono ?_; rintro e w' ⟨rfl, rfl⟩)
  go_ret
  exact ⟨rfl, rfl⟩
theorem normalize_A1 (w : World) : Calls Tryd.prog 148 #[.float .f64 4609434218613702656] w fun e w' => e = .returned (.tuple #[.float .f64 4609434218613702656, .int .i64 0]) ∧ w' = w := by
  have h : (FloatKind.f64.format.order 4609434218613702656 4503599627370496 == some .lt) = false := by decide +kernel
  go_enter Tryd.func148, Tryd.ntmps148
  go_wp2_with (go_at_call 107; refine (Abs_A1 _).mono ?_; rintro e w' ⟨rfl, rfl⟩)
  go_ret2
  exact ⟨rfl, rfl⟩
theorem IsNaN_A2 (w : World) : Calls Tryd.prog 83 #[.float .f64 4604930618986332160] w fun e w' => e = .returned (.bool false) ∧ w' = w := by
  have h : (FloatKind.f64.format.order 4604930618986332160 4604930618986332160 != some .eq) = false := by decide +kernel
  go_enter Tryd.func83, Tryd.ntmps83
  go_wp2
  go_ret
  exact ⟨rfl, rfl⟩
theorem Abs_A2 (w : World) : Calls Tryd.prog 107 #[.float .f64 4604930618986332160] w fun e w' => e = .returned (.float .f64 4604930618986332160) ∧ w' = w := by
  have h1 := run_frombits
  have h2 := run_bits
  go_enter Tryd.func107, Tryd.ntmps107
  go_wp2
  go_ret
  exact ⟨rfl, rfl⟩
theorem IsInf_A2 (w : World) : Calls Tryd.prog 85 #[.float .f64 4604930618986332160, .int .i64 0] w fun e w' => e = .returned (.bool false) ∧ w' = w := by
  have h : (FloatKind.f64.format.order 4604930618986332160 9218868437227405311 == some .gt) = false := by decide +kernel
  go_enter Tryd.func85, Tryd.ntmps85
  go_wp2_with (go_at_call 107; refine (Abs_A2 _).mono ?_; rintro e w' ⟨rfl, rfl⟩)
  go_ret
  exact ⟨rfl, rfl⟩
theorem normalize_A2 (w : World) : Calls Tryd.prog 148 #[.float .f64 4604930618986332160] w fun e w' => e = .returned (.tuple #[.float .f64 4604930618986332160, .int .i64 0]) ∧ w' = w := by
  have h : (FloatKind.f64.format.order 4604930618986332160 4503599627370496 == some .lt) = false := by decide +kernel
  go_enter Tryd.func148, Tryd.ntmps148
  go_wp2_with (go_at_call 107; refine (Abs_A2 _).mono ?_; rintro e w' ⟨rfl, rfl⟩)
  go_ret2
  exact ⟨rfl, rfl⟩
theorem Signbit_A (w : World) : Calls Tryd.prog 105 #[.float .f64 4609434218613702656] w fun e w' => e = .returned (.bool false) ∧ w' = w := by
  have h2 := run_bits
  go_enter Tryd.func105, Tryd.ntmps105
  go_wp2
  go_ret
  exact ⟨rfl, rfl⟩
theorem frexp_A (w : World) : Calls Tryd.prog 132 #[.float .f64 4609434218613702656] w fun e w' => e = .returned (.tuple #[.float .f64 4604930618986332160, .int .i64 1]) ∧ w' = w := by
  have h1 := run_frombits
  have h2 := run_bits
  have h : (FloatKind.f64.format.order 4609434218613702656 0 == some .eq) = false := by decide +kernel
  have b1 : bits .and .u64 1023 2047 = 1023 := by decide +kernel
  have b2 : bits .andNot .u64 4609434218613702656 9218868437227405312 = 2251799813685248 := by decide +kernel
  have b3 : bits .or .u64 2251799813685248 4602678819172646912 = 4604930618986332160 := by decide +kernel
  go_enter Tryd.func132, Tryd.ntmps132
  go_wp2_with (first | (go_at_call 85; refine (IsInf_A1 _).mono ?_; rintro e w' ⟨rfl, rfl⟩) | (go_at_call 83; refine (IsNaN_A1 _).mono ?_; rintro e w' ⟨rfl, rfl⟩) | (go_at_call 148; refine (normalize_A1 _).mono ?_; rintro e w' ⟨rfl, rfl⟩))
  go_ret2
  exact ⟨rfl, rfl⟩
theorem Frexp_A (w : World) : Calls Tryd.prog 106 #[.float .f64 4609434218613702656] w fun e w' => e = .returned (.tuple #[.float .f64 4604930618986332160, .int .i64 1]) ∧ w' = w := by
  go_enter Tryd.func106, Tryd.ntmps106
  go_wp2_with (go_at_call 132; refine (frexp_A _).mono ?_; rintro e w' ⟨rfl, rfl⟩)
  go_ret2
  exact ⟨rfl, rfl⟩
theorem ldexp_A (w : World) : Calls Tryd.prog 134 #[.float .f64 4604930618986332160, .int .i64 53] w fun e w' => e = .returned (.float .f64 4843621399236968448) ∧ w' = w := by
  have h1 := run_frombits
  have h2 := run_bits
  have h : (FloatKind.f64.format.order 4604930618986332160 0 == some .eq) = false := by decide +kernel
  have hm := fun w => run_float_arith (P := Tryd.prog) (w := w) .mul 31 .f64 4607182418800017408 4843621399236968448 4843621399236968448 (by decide +kernel)
  have b1 : bits .and .i64 1022 2047 = 1022 := by decide +kernel
  have b2 : bits .andNot .u64 4604930618986332160 9218868437227405312 = 2251799813685248 := by decide +kernel
  have b3 : bits .or .u64 2251799813685248 4841369599423283200 = 4843621399236968448 := by decide +kernel
  go_enter Tryd.func134, Tryd.ntmps134
  go_wp2_with (first | (go_at_call 85; refine (IsInf_A2 _).mono ?_; rintro e w' ⟨rfl, rfl⟩) | (go_at_call 83; refine (IsNaN_A2 _).mono ?_; rintro e w' ⟨rfl, rfl⟩) | (go_at_call 148; refine (normalize_A2 _).mono ?_; rintro e w' ⟨rfl, rfl⟩))
  go_ret
  exact ⟨rfl, rfl⟩
theorem Ldexp_A (w : World) : Calls Tryd.prog 108 #[.float .f64 4604930618986332160, .int .i64 53] w fun e w' => e = .returned (.float .f64 4843621399236968448) ∧ w' = w := by
  go_enter Tryd.func108, Tryd.ntmps108
  go_wp2_with (go_at_call 134; refine (ldexp_A _).mono ?_; rintro e w' ⟨rfl, rfl⟩)
  go_ret
  exact ⟨rfl, rfl⟩
theorem IsNaN_B1 (w : World) : Calls Tryd.prog 83 #[.float .f64 4620693217682128896] w fun e w' => e = .returned (.bool false) ∧ w' = w := by
  have h : (FloatKind.f64.format.order 4620693217682128896 4620693217682128896 != some .eq) = false := by decide +kernel
  go_enter Tryd.func83, Tryd.ntmps83
  go_wp2
  go_ret
  exact ⟨rfl, rfl⟩
theorem Abs_B1 (w : World) : Calls Tryd.prog 107 #[.float .f64 4620693217682128896] w fun e w' => e = .returned (.float .f64 4620693217682128896) ∧ w' = w := by
  have h1 := run_frombits
  have h2 := run_bits
  go_enter Tryd.func107, Tryd.ntmps107
  go_wp2
  go_ret
  exact ⟨rfl, rfl⟩
theorem IsInf_B1 (w : World) : Calls Tryd.prog 85 #[.float .f64 4620693217682128896, .int .i64 0] w fun e w' => e = .returned (.bool false) ∧ w' = w := by
  have h : (FloatKind.f64.format.order 4620693217682128896 9218868437227405311 == some .gt) = false := by decide +kernel
  go_enter Tryd.func85, Tryd.ntmps85
  go_wp2_with (go_at_call 107; refine (Abs_B1 _).mono ?_; rintro e w' ⟨rfl, rfl⟩)
  go_ret
  exact ⟨rfl, rfl⟩
theorem normalize_B1 (w : World) : Calls Tryd.prog 148 #[.float .f64 4620693217682128896] w fun e w' => e = .returned (.tuple #[.float .f64 4620693217682128896, .int .i64 0]) ∧ w' = w := by
  have h : (FloatKind.f64.format.order 4620693217682128896 4503599627370496 == some .lt) = false := by decide +kernel
  go_enter Tryd.func148, Tryd.ntmps148
  go_wp2_with (go_at_call 107; refine (Abs_B1 _).mono ?_; rintro e w' ⟨rfl, rfl⟩)
  go_ret2
  exact ⟨rfl, rfl⟩
theorem IsNaN_B2 (w : World) : Calls Tryd.prog 83 #[.float .f64 4602678819172646912] w fun e w' => e = .returned (.bool false) ∧ w' = w := by
  have h : (FloatKind.f64.format.order 4602678819172646912 4602678819172646912 != some .eq) = false := by decide +kernel
  go_enter Tryd.func83, Tryd.ntmps83
  go_wp2
  go_ret
  exact ⟨rfl, rfl⟩
theorem Abs_B2 (w : World) : Calls Tryd.prog 107 #[.float .f64 4602678819172646912] w fun e w' => e = .returned (.float .f64 4602678819172646912) ∧ w' = w := by
  have h1 := run_frombits
  have h2 := run_bits
  go_enter Tryd.func107, Tryd.ntmps107
  go_wp2
  go_ret
  exact ⟨rfl, rfl⟩
theorem IsInf_B2 (w : World) : Calls Tryd.prog 85 #[.float .f64 4602678819172646912, .int .i64 0] w fun e w' => e = .returned (.bool false) ∧ w' = w := by
  have h : (FloatKind.f64.format.order 4602678819172646912 9218868437227405311 == some .gt) = false := by decide +kernel
  go_enter Tryd.func85, Tryd.ntmps85
  go_wp2_with (go_at_call 107; refine (Abs_B2 _).mono ?_; rintro e w' ⟨rfl, rfl⟩)
  go_ret
  exact ⟨rfl, rfl⟩
theorem normalize_B2 (w : World) : Calls Tryd.prog 148 #[.float .f64 4602678819172646912] w fun e w' => e = .returned (.tuple #[.float .f64 4602678819172646912, .int .i64 0]) ∧ w' = w := by
  have h : (FloatKind.f64.format.order 4602678819172646912 4503599627370496 == some .lt) = false := by decide +kernel
  go_enter Tryd.func148, Tryd.ntmps148
  go_wp2_with (go_at_call 107; refine (Abs_B2 _).mono ?_; rintro e w' ⟨rfl, rfl⟩)
  go_ret2
  exact ⟨rfl, rfl⟩
theorem Signbit_B (w : World) : Calls Tryd.prog 105 #[.float .f64 4620693217682128896] w fun e w' => e = .returned (.bool false) ∧ w' = w := by
  have h2 := run_bits
  go_enter Tryd.func105, Tryd.ntmps105
  go_wp2
  go_ret
  exact ⟨rfl, rfl⟩
theorem frexp_B (w : World) : Calls Tryd.prog 132 #[.float .f64 4620693217682128896] w fun e w' => e = .returned (.tuple #[.float .f64 4602678819172646912, .int .i64 4]) ∧ w' = w := by
  have h1 := run_frombits
  have h2 := run_bits
  have h : (FloatKind.f64.format.order 4620693217682128896 0 == some .eq) = false := by decide +kernel
  have b1 : bits .and .u64 1026 2047 = 1026 := by decide +kernel
  have b2 : bits .andNot .u64 4620693217682128896 9218868437227405312 = 0 := by decide +kernel
  have b3 : bits .or .u64 0 4602678819172646912 = 4602678819172646912 := by decide +kernel
  go_enter Tryd.func132, Tryd.ntmps132
  go_wp2_with (first | (go_at_call 85; refine (IsInf_B1 _).mono ?_; rintro e w' ⟨rfl, rfl⟩) | (go_at_call 83; refine (IsNaN_B1 _).mono ?_; rintro e w' ⟨rfl, rfl⟩) | (go_at_call 148; refine (normalize_B1 _).mono ?_; rintro e w' ⟨rfl, rfl⟩))
  go_ret2
  exact ⟨rfl, rfl⟩
theorem Frexp_B (w : World) : Calls Tryd.prog 106 #[.float .f64 4620693217682128896] w fun e w' => e = .returned (.tuple #[.float .f64 4602678819172646912, .int .i64 4]) ∧ w' = w := by
  go_enter Tryd.func106, Tryd.ntmps106
  go_wp2_with (go_at_call 132; refine (frexp_B _).mono ?_; rintro e w' ⟨rfl, rfl⟩)
  go_ret2
  exact ⟨rfl, rfl⟩
theorem ldexp_B (w : World) : Calls Tryd.prog 134 #[.float .f64 4602678819172646912, .int .i64 53] w fun e w' => e = .returned (.float .f64 4841369599423283200) ∧ w' = w := by
  have h1 := run_frombits
  have h2 := run_bits
  have h : (FloatKind.f64.format.order 4602678819172646912 0 == some .eq) = false := by decide +kernel
  have hm := fun w => run_float_arith (P := Tryd.prog) (w := w) .mul 31 .f64 4607182418800017408 4841369599423283200 4841369599423283200 (by decide +kernel)
  have b1 : bits .and .i64 1022 2047 = 1022 := by decide +kernel
  have b2 : bits .andNot .u64 4602678819172646912 9218868437227405312 = 0 := by decide +kernel
  have b3 : bits .or .u64 0 4841369599423283200 = 4841369599423283200 := by decide +kernel
  go_enter Tryd.func134, Tryd.ntmps134
  go_wp2_with (first | (go_at_call 85; refine (IsInf_B2 _).mono ?_; rintro e w' ⟨rfl, rfl⟩) | (go_at_call 83; refine (IsNaN_B2 _).mono ?_; rintro e w' ⟨rfl, rfl⟩) | (go_at_call 148; refine (normalize_B2 _).mono ?_; rintro e w' ⟨rfl, rfl⟩))
  go_ret
  exact ⟨rfl, rfl⟩
theorem Ldexp_B (w : World) : Calls Tryd.prog 108 #[.float .f64 4602678819172646912, .int .i64 53] w fun e w' => e = .returned (.float .f64 4841369599423283200) ∧ w' = w := by
  go_enter Tryd.func108, Tryd.ntmps108
  go_wp2_with (go_at_call 134; refine (ldexp_B _).mono ?_; rintro e w' ⟨rfl, rfl⟩)
  go_ret
  exact ⟨rfl, rfl⟩
end Go.Proofs.YthjekbmgbidcfaaDoor.Cost
