/- The walks of cost.Parts, cost.Text at the chapter's example. -/
import Derived.Test.YthjekbmgbidcfaaDoorCost
import Derived.Test.YthjekbmgbidcfaaDoorLexNumber
import Derived.Lib.LaidTab
import Derived.Deep.QuietTactic
import Derived.BigQuiet
import Derived.OwnWalk
namespace Go.Proofs.YthjekbmgbidcfaaDoor.Cost
open Go.RowKit Go.Lib
set_option maxRecDepth 100000

def tab64 : List Int := [0, 1, 56, 2, 57, 49, 28, 3, 61, 58, 42, 50, 38, 29, 17, 4, 62, 47, 59, 36, 45, 43, 51, 22, 53, 39, 33, 30, 24, 18, 12, 5, 63, 55, 48, 27, 60, 41, 37, 16, 46, 35, 44, 21, 52, 32, 23, 11, 54, 26, 40, 15, 34, 20, 31, 10, 25, 14, 19, 9, 13, 8, 7, 6]
/-- The table of trailing noughts. -/
def Bruijn (w : World) : Prop := TabIs Tryd.prog w "math/bits.deBruijn64tab" .u8 tab64
theorem bruijn_below {w w' : World} (h : Bruijn w) (hb : Below w.heap.size w w') : Bruijn w' := Lex.tab_below h hb
theorem tz_A (w : World) (ht : Bruijn w) : Calls Tryd.prog 109 #[.int .u64 6755399441055744] w fun e w' => e = .returned (.int .i64 51) ∧ w' = w := by
  have hc := TabIs.cell ht (g := 1) (by kernel_rfl) 22 (by decide)
  rw [show tab64.getD 22 0 = 51 from rfl] at hc
  have b1 : bits .and .u64 6755399441055744 18439988674268495872 = 2251799813685248 := by decide +kernel
  have n1 : IntKind.u64.wrap (-6755399441055744) = 18439988674268495872 := by decide +kernel
  have n2 : IntKind.u64.wrap 643722492487200784356841378283520 = 6361334473660825600 := by decide +kernel
  clear ht
  go_enter Tryd.func109, Tryd.ntmps109
  go_wp2
  go_ret
  exact ⟨rfl, rfl⟩
theorem Parts_A (w : World) (ht : Bruijn w) : Calls Tryd.prog 84 #[.float .f64 4609434218613702656] w fun e w' => e = .returned (.tuple #[.bool false, .int .u64 3, .int .i64 (-1)]) ∧ Below w.heap.size w w' := by
  have h : (FloatKind.f64.format.order 4609434218613702656 0 == some .eq) = false := by decide +kernel
  have hv : ∀ w, (convert 31 30 (.float .f64 4843621399236968448)).run Tryd.prog w = .ok (.int .u64 6755399441055744) w := fun w => run_convert_float_int (P := Tryd.prog) (w := w) 31 30 .f64 .u64 4843621399236968448 6755399441055744 (by kernel_rfl) Tryd.underlying30 (by decide +kernel)
  have hT := tz_A w ht
  clear ht
  go_enter Tryd.func84, Tryd.ntmps84
  go_wp2_with (first | (go_at_call 83; refine (IsNaN_A1 _).mono ?_; rintro e w' ⟨rfl, rfl⟩) | (go_at_call 105; refine (Signbit_A _).mono ?_; rintro e w' ⟨rfl, rfl⟩) | (go_at_call 85; refine (IsInf_A1 _).mono ?_; rintro e w' ⟨rfl, rfl⟩) | (go_at_call 107; refine (Abs_A1 _).mono ?_; rintro e w' ⟨rfl, rfl⟩) | (go_at_call 106; refine (Frexp_A _).mono ?_; rintro e w' ⟨rfl, rfl⟩) | (go_at_call 108; refine (Ldexp_A _).mono ?_; rintro e w' ⟨rfl, rfl⟩) | (go_at_call 109; refine hT.mono ?_; rintro e w' ⟨rfl, rfl⟩))
  go_quiet (fail)
  go_wp2
  go_ret3
  exact ⟨rfl, below_drewN' (Below.refl _ _) _⟩
theorem tz_B (w : World) (ht : Bruijn w) : Calls Tryd.prog 109 #[.int .u64 4503599627370496] w fun e w' => e = .returned (.int .i64 52) ∧ w' = w := by
  have hc := TabIs.cell ht (g := 1) (by kernel_rfl) 44 (by decide)
  rw [show tab64.getD 44 0 = 52 from rfl] at hc
  have b1 : bits .and .u64 4503599627370496 18442240474082181120 = 4503599627370496 := by decide +kernel
  have n1 : IntKind.u64.wrap (-4503599627370496) = 18442240474082181120 := by decide +kernel
  have n2 : IntKind.u64.wrap 1287444984974401568713682756567040 = 12722668947321651200 := by decide +kernel
  clear ht
  go_enter Tryd.func109, Tryd.ntmps109
  go_wp2
  go_ret
  exact ⟨rfl, rfl⟩
theorem Parts_B (w : World) (ht : Bruijn w) : Calls Tryd.prog 84 #[.float .f64 4620693217682128896] w fun e w' => e = .returned (.tuple #[.bool false, .int .u64 1, .int .i64 3]) ∧ Below w.heap.size w w' := by
  have h : (FloatKind.f64.format.order 4620693217682128896 0 == some .eq) = false := by decide +kernel
  have hv : ∀ w, (convert 31 30 (.float .f64 4841369599423283200)).run Tryd.prog w = .ok (.int .u64 4503599627370496) w := fun w => run_convert_float_int (P := Tryd.prog) (w := w) 31 30 .f64 .u64 4841369599423283200 4503599627370496 (by kernel_rfl) Tryd.underlying30 (by decide +kernel)
  have hT := tz_B w ht
  clear ht
  go_enter Tryd.func84, Tryd.ntmps84
  go_wp2_with (first | (go_at_call 83; refine (IsNaN_B1 _).mono ?_; rintro e w' ⟨rfl, rfl⟩) | (go_at_call 105; refine (Signbit_B _).mono ?_; rintro e w' ⟨rfl, rfl⟩) | (go_at_call 85; refine (IsInf_B1 _).mono ?_; rintro e w' ⟨rfl, rfl⟩) | (go_at_call 107; refine (Abs_B1 _).mono ?_; rintro e w' ⟨rfl, rfl⟩) | (go_at_call 106; refine (Frexp_B _).mono ?_; rintro e w' ⟨rfl, rfl⟩) | (go_at_call 108; refine (Ldexp_B _).mono ?_; rintro e w' ⟨rfl, rfl⟩) | (go_at_call 109; refine hT.mono ?_; rintro e w' ⟨rfl, rfl⟩))
  go_quiet (fail)
  go_wp2
  go_ret3
  exact ⟨rfl, below_drewN' (Below.refl _ _) _⟩

theorem Itoa_calls (n : Int) (h0 : -9223372036854775808 ≤ n) (h1 : n ≤ 9223372036854775807) (w : World) (hp : Lex.Pow10 w) :
    Calls Tryd.prog 74 #[.int .i64 n] w fun e w' => e = .returned (.string ⟨(Lib.itoa n).toArray⟩) ∧ Below w.heap.size w w' := by
  refine (Tryd.strconv_Itoa n h0 h1 w hp).mono ?_
  rintro e w' ⟨he, k, os, rfl⟩
  exact ⟨he, Lex.grow_below w k os⟩

theorem Text_A (w : World) (ht : Bruijn w) (hp : Lex.Pow10 w) : Calls Tryd.prog 54 #[.float .f64 4609434218613702656] w fun e w' => e = .returned (.string ⟨#[51, 112, 45, 49]⟩) ∧ Below w.heap.size w w' := by
  have h : (FloatKind.f64.format.order 4609434218613702656 0 == some .eq) = false := by decide +kernel
  have hP := Parts_A w ht
  have hF : ∀ w2, Below w.heap.size w w2 → Calls Tryd.prog 67 #[.int .u64 3, .int .i64 10] w2 fun e w' => e = .returned (.string ⟨#[51]⟩) ∧ Below w2.heap.size w2 w' := fun w2 hb => by have := Lex.FormatUint_calls 3 (by decide) w2 (Lex.tab_below hp hb); rw [show decDigits 3 = [51] from by decide +kernel] at this; exact this
  have hI : ∀ w2, Below w.heap.size w w2 → Calls Tryd.prog 74 #[.int .i64 (-1)] w2 fun e w' => e = .returned (.string ⟨#[45, 49]⟩) ∧ Below w2.heap.size w2 w' := fun w2 hb => by have := Itoa_calls (-1) (by decide) (by decide) w2 (Lex.tab_below hp hb); rw [show Lib.itoa (-1) = [45, 49] from by decide +kernel] at this; exact this
  clear ht hp
  go_enter Tryd.func54, Tryd.ntmps54
  go_wp2_with fail
  refine (IsNaN_A1 _).mono ?_
  rintro e w1 ⟨rfl, rfl⟩
  go_wp2_with fail
  refine hP.mono ?_
  rintro e w2 ⟨rfl, hb2⟩
  go_wp2_with fail
  refine (IsInf_A1 _).mono ?_
  rintro e w3 ⟨rfl, rfl⟩
  go_wp2_with fail
  refine (hF _ hb2).mono ?_
  rintro e w4 ⟨rfl, hbx⟩
  have hb4 := hb2.trans (hbx.mono hb2.size)
  go_wp2_with fail
  refine (hI _ hb4).mono ?_
  rintro e w5 ⟨rfl, hby⟩
  have hb5 := hb4.trans (hby.mono hb4.size)
  go_wp2
  go_ret
  exact ⟨rfl, hb5⟩

theorem Text_B (w : World) (ht : Bruijn w) (hp : Lex.Pow10 w) : Calls Tryd.prog 54 #[.float .f64 4620693217682128896] w fun e w' => e = .returned (.string ⟨#[49, 112, 51]⟩) ∧ Below w.heap.size w w' := by
  have h : (FloatKind.f64.format.order 4620693217682128896 0 == some .eq) = false := by decide +kernel
  have hP := Parts_B w ht
  have hF : ∀ w2, Below w.heap.size w w2 → Calls Tryd.prog 67 #[.int .u64 1, .int .i64 10] w2 fun e w' => e = .returned (.string ⟨#[49]⟩) ∧ Below w2.heap.size w2 w' := fun w2 hb => by have := Lex.FormatUint_calls 1 (by decide) w2 (Lex.tab_below hp hb); rw [show decDigits 1 = [49] from by decide +kernel] at this; exact this
  have hI : ∀ w2, Below w.heap.size w w2 → Calls Tryd.prog 74 #[.int .i64 3] w2 fun e w' => e = .returned (.string ⟨#[51]⟩) ∧ Below w2.heap.size w2 w' := fun w2 hb => by have := Itoa_calls 3 (by decide) (by decide) w2 (Lex.tab_below hp hb); rw [show Lib.itoa 3 = [51] from by decide +kernel] at this; exact this
  clear ht hp
  go_enter Tryd.func54, Tryd.ntmps54
  go_wp2_with fail
  refine (IsNaN_B1 _).mono ?_
  rintro e w1 ⟨rfl, rfl⟩
  go_wp2_with fail
  refine hP.mono ?_
  rintro e w2 ⟨rfl, hb2⟩
  go_wp2_with fail
  refine (IsInf_B1 _).mono ?_
  rintro e w3 ⟨rfl, rfl⟩
  go_wp2_with fail
  refine (hF _ hb2).mono ?_
  rintro e w4 ⟨rfl, hbx⟩
  have hb4 := hb2.trans (hbx.mono hb2.size)
  go_wp2_with fail
  refine (hI _ hb4).mono ?_
  rintro e w5 ⟨rfl, hby⟩
  have hb5 := hb4.trans (hby.mono hb4.size)
  go_wp2
  go_ret
  exact ⟨rfl, hb5⟩

theorem costAlive_calls (w : World) (ht : Bruijn w) (hp : Lex.Pow10 w) : Calls Tryd.prog 16 #[] w fun e w' => e = .returned (.bool true) ∧ Below w.heap.size w w' := by
  have c1 := Text_A w ht hp
  have c2 := fun w2 (hb : Below w.heap.size w w2) => Text_B w2 (bruijn_below ht hb) (Lex.tab_below hp hb)
  clear ht hp
  go_enter Tryd.func16, Tryd.ntmps16
  go_wp2_with fail
  refine c1.mono ?_
  rintro e w1 ⟨rfl, hb1⟩
  go_wp2_with fail
  refine (c2 _ hb1).mono ?_
  rintro e w2 ⟨rfl, hb2⟩
  go_wp2
  go_ret
  exact ⟨rfl, hb1.trans (hb2.mono hb1.size)⟩
end Go.Proofs.YthjekbmgbidcfaaDoor.Cost
