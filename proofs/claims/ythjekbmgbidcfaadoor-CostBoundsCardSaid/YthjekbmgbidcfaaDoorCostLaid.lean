/- What the listed variables give the walks of cost: the table of trailing noughts. -/
import Derived.Test.YthjekbmgbidcfaaDoorCostLaw
import Derived.Test.YthjekbmgbidcfaaDoorLaid
namespace Go.Proofs.YthjekbmgbidcfaaDoor.Lex
open Go.RowKit Go.Lib

theorem bruijn_of {l : List (String × DataW Unit)} {W : World} (h : laidMet Tryd.prog l W) (h1 : ("math/bits.deBruijn64tab", Rows.laid_math_bits_deBruijn64tab) ∈ l) : Cost.Bruijn W := by
  obtain ⟨g, t, cs, fuel, p, hg, ht, hv, hd⟩ := laidMet.reads h h1
  obtain rfl := Option.some.inj ((show Tryd.prog.globalNamed "math/bits.deBruijn64tab" = some 1 by kernel_rfl).symm.trans hg)
  obtain rfl := Option.some.inj ((show (Tryd.prog.globals[1]?).map (·.type) = some 141 by kernel_rfl).symm.trans ht)
  have e : (Rows.laid_math_bits_deBruijn64tab : DataW Unit) = tabData .u8 Cost.tab64 := by kernel_rfl
  rw [e] at hd
  have := cells_of_tab Tryd.underlying141 Tryd.underlying5 (by kernel_rfl) (by kernel_rfl) hd
  unfold Cost.Bruijn TabIs
  rw [hv, ← this]
theorem CostBounds_ints (a b : Int) (w : World) (ha : (Lit.int .u64 a).wf = true) (hb : (Lit.int .u64 b).wf = true) (ht : Cost.Bruijn w) (hp : Pow10 w) :
    Calls Tryd.prog 4 #[.int .u64 a, .int .u64 b] w fun e w' => e = .returned (.bool true) ∧ Below w.heap.size w w' := by
  have hx : 0 ≤ a ∧ a ≤ 18446744073709551615 := by simpa [Lit.wf, IntKind.min, IntKind.max, IntKind.signed, IntKind.bits] using ha
  have hy : 0 ≤ b ∧ b ≤ 18446744073709551615 := by simpa [Lit.wf, IntKind.min, IntKind.max, IntKind.signed, IntKind.bits] using hb
  have := Cost.CostBounds_calls a.toNat b.toNat w (by omega) (by omega) ht hp
  rwa [Int.toNat_of_nonneg hx.1, Int.toNat_of_nonneg hy.1] at this
end Go.Proofs.YthjekbmgbidcfaaDoor.Lex
