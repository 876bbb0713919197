/- What the listed variables give the walks: strconv's two errors, and the powers of ten. -/
import Derived.Test.YthjekbmgbidcfaaDoorLexNumber
import Derived.Test.YthjekbmgbidcfaaDoorRows
import Derived.Lib.LaidU8
namespace Go.Proofs.YthjekbmgbidcfaaDoor.Lex
open Go.RowKit Go.Lib

theorem iface_cell {H : Type} {enc : TypeId × Value → H} {P : Program} {w : World} {base : Nat} {sp : Nat → Bool} {held : Bool} {fuel : Nat} {t : TypeId} {ms : Array (String × TypeId)} {cs : List Value} {name : String} {d : DataW H} {p : List MemPlace}
    (ht : P.underlying t = some (.interface ms)) (h : DataW.trod enc P w base sp held fuel t cs = some (.iface name d, p)) : ∃ t v, cs = [.iface t v] := by
  cases fuel with
  | zero => simp [DataW.trod] at h
  | succ n =>
    match cs, h with
    | [], h => simp [DataW.trod, ht] at h
    | a :: b :: c, h => cases a <;> simp [DataW.trod, ht] at h
    | [v], h =>
      cases v with
      | iface t v => exact ⟨t, v, rfl⟩
      | _ => simp [DataW.trod, ht] at h
theorem errs_of {l : List (String × DataW Unit)} {W : World} (h : laidMet Tryd.prog l W) (h1 : ("strconv.ErrSyntax", Rows.laid_strconv_ErrSyntax) ∈ l) (h2 : ("strconv.ErrRange", Rows.laid_strconv_ErrRange) ∈ l) : Errs W := by
  obtain ⟨g, t, cs, fuel, p, hg, ht, hv, hd⟩ := laidMet.reads h h1
  obtain ⟨g', t', cs', fuel', p', hg', ht', hv', hd'⟩ := laidMet.reads h h2
  obtain rfl := Option.some.inj ((show Tryd.prog.globalNamed "strconv.ErrSyntax" = some 2 by kernel_rfl).symm.trans hg)
  obtain rfl := Option.some.inj ((show Tryd.prog.globalNamed "strconv.ErrRange" = some 3 by kernel_rfl).symm.trans hg')
  obtain rfl := Option.some.inj ((show (Tryd.prog.globals[2]?).map (·.type) = some 76 by kernel_rfl).symm.trans ht)
  obtain rfl := Option.some.inj ((show (Tryd.prog.globals[3]?).map (·.type) = some 76 by kernel_rfl).symm.trans ht')
  obtain ⟨t1, v1, e1⟩ := iface_cell Tryd.underlying76 hd
  obtain ⟨t2, v2, e2⟩ := iface_cell Tryd.underlying76 hd'
  refine ⟨⟨t1, v1, ?_⟩, t2, v2, ?_⟩
  · have := World.var?_cell hg hv 0
    obtain ⟨c⟩ := cs
    simp only at e1
    rw [e1] at this
    simpa using this
  · have := World.var?_cell hg' hv' 0
    obtain ⟨c⟩ := cs'
    simp only at e2
    rw [e2] at this
    simpa using this
theorem pow10_of {l : List (String × DataW Unit)} {W : World} (h : laidMet Tryd.prog l W) (h1 : ("internal/strconv.uint64pow10", Rows.laid_internal_strconv_uint64pow10) ∈ l) : Pow10 W := by
  obtain ⟨g, t, cs, fuel, p, hg, ht, hv, hd⟩ := laidMet.reads h h1
  obtain rfl := Option.some.inj ((show Tryd.prog.globalNamed "internal/strconv.uint64pow10" = some 4 by kernel_rfl).symm.trans hg)
  obtain rfl := Option.some.inj ((show (Tryd.prog.globals[4]?).map (·.type) = some 149 by kernel_rfl).symm.trans ht)
  have e : (Rows.laid_internal_strconv_uint64pow10 : DataW Unit) = tabData .u64 pow10Tab := by kernel_rfl
  rw [e] at hd
  have := cells_of_tab Tryd.underlying149 Tryd.underlying30 (by kernel_rfl) (by kernel_rfl) hd
  unfold Pow10 TabIs
  rw [hv, ← this]
end Go.Proofs.YthjekbmgbidcfaaDoor.Lex
