/- The walk of lex.Number: the number whose digits a text is. -/
import Derived.Test.YthjekbmgbidcfaaDoorNumPlain
import Derived.Test.YthjekbmgbidcfaaDoorFormatUint
import Derived.Test.YthjekbmgbidcfaaDoorLexWords
import Derived.WideLaws
import Derived.Shelf.Pu.ParseUintPublic10
namespace Go.Proofs.YthjekbmgbidcfaaDoor.Lex
open Go.RowKit Go.Lib

/-- The two errors of strconv's, as their variables hold them. -/
def Errs (w : World) : Prop := (∃ t p, w.cell? ⟨2, 0, none⟩ = some (.iface t p)) ∧ ∃ t p, w.cell? ⟨3, 0, none⟩ = some (.iface t p)
theorem Errs.below {w w' : World} (h : Errs w) (hb : Below w.heap.size w w') : Errs w' := by
  obtain ⟨⟨t, p, h1⟩, t', p', h2⟩ := h
  exact ⟨⟨t, p, (hb.cell (p := ⟨2, 0, none⟩) (World.block_lt_of_cell? _ _ h1)).trans h1⟩, t', p', (hb.cell (p := ⟨3, 0, none⟩) (World.block_lt_of_cell? _ _ h2)).trans h2⟩
def Pow10 (w : World) : Prop := Lib.TabIs Tryd.prog w "internal/strconv.uint64pow10" .u64 Lib.pow10Tab
theorem tab_below {w w' : World} {name : String} {k : IntKind} {zs : List Int} (h : TabIs Tryd.prog w name k zs) (hb : Below w.heap.size w w') : TabIs Tryd.prog w' name k zs := by
  unfold TabIs World.var? at *
  cases hg : Tryd.prog.globalNamed name with
  | none => simp [hg] at h
  | some g =>
    simp only [hg, Option.bind_some] at h ⊢
    have hlt : g < w.heap.size := by
      rcases Nat.lt_or_ge g w.heap.size with h' | h'
      · exact h'
      · rw [Array.getElem?_eq_none h'] at h; simp at h
    rw [hb.block g hlt]
    exact h
theorem parse_ends (s : ByteArray) (w : World) (hs : s.size ≤ 281474976710656) (he : Errs w) :
    (∃ u, parseUintB 64 s.data.toList = .ok u ∧ Calls Tryd.prog 66 #[.string s, .int .i64 10, .int .i64 64] w fun e w' => e = .returned (.tuple #[.int .u64 u, .nilIface]) ∧ Below w.heap.size w w') ∨
    ((∀ u, parseUintB 64 s.data.toList ≠ .ok u) ∧ ∃ n : Int, Calls Tryd.prog 66 #[.string s, .int .i64 10, .int .i64 64] w fun e w' => (∃ N, e = .returned (.tuple #[.int .u64 n, .iface 128 (.pointer (some ⟨N, 0, none⟩))])) ∧ Below w.heap.size w w') := by
  obtain ⟨⟨t1, p1, h1⟩, t2, p2, h2⟩ := he
  cases h : parseUintB 64 s.data.toList with
  | ok u =>
    refine .inl ⟨u, rfl, ?_⟩
    have c : Calls Tryd.prog 66 #[.string s, .int .i64 10, .int .i64 64] w fun e w' => e = .returned (.tuple #[.int .u64 u, .nilIface]) ∧ (w' = w ∨ w' = Lib.bytesWorld w 5 s) := Any.strconv_ParseUint_10_at64_ok Tryd.laysPu14 s (by omega) u h w
    refine c.mono ?_
    rintro e w' ⟨he, hw⟩
    refine ⟨he, ?_⟩
    rcases hw with rfl | rfl
    · exact Below.refl _ _
    · exact Lib.bytesWorld_below w 5 s
  | range =>
    refine .inr ⟨fun u hu => (by cases hu), 18446744073709551615, ?_⟩
    have c := Any.strconv_ParseUint_10_at64_range Tryd.laysPu14 s hs h _ w h2 (.inr ⟨_, _, rfl⟩)
    refine c.mono ?_
    rintro e w' ⟨N, he, _, _, hb⟩
    exact ⟨⟨N, he⟩, hb⟩
  | _ =>
    refine .inr ⟨fun u hu => (by cases hu), 0, ?_⟩
    have c := Any.strconv_ParseUint_10_at64_syntax Tryd.laysPu14 s hs h _ w h1 (.inr ⟨_, _, rfl⟩)
    refine c.mono ?_
    rintro e w' ⟨N, he, _, _, hb⟩
    exact ⟨⟨N, he⟩, hb⟩

set_option maxHeartbeats 1000000 in
theorem Number_calls (s : ByteArray) (w : World) (hs : s.size ≤ 281474976710656) (he : Errs w) (hp : Pow10 w) :
    Calls Tryd.prog 35 #[.string s] w fun e w' => e = .returned (.tuple #[.int .u64 (numN s.data.toList), .bool (numB s.data.toList)]) ∧ Below w.heap.size w w' := by
  rcases parse_ends s w hs he with ⟨u, hu, hc⟩ | ⟨hf, n, hc⟩
  · have hlt := parse_lt hu
    have hF : ∀ w2, Below w.heap.size w w2 → Calls Tryd.prog 67 #[.int .u64 u, .int .i64 10] w2 fun e w' => e = .returned (.string ⟨(Lib.decDigits u).toArray⟩) ∧ Below w2.heap.size w2 w' := fun w2 hb => FormatUint_calls u hlt w2 (tab_below hp hb)
    have ds : ∀ l : List UInt8, (⟨l.toArray⟩ : ByteArray).toList = l := fun l => by rw [ByteArray.toList_eq]
    by_cases hd : decDigits u = s.data.toList
    · obtain ⟨h1, h2⟩ := num_of hlt hd
      rw [h1, h2]
      have hF' : ∀ w2, Below w.heap.size w w2 → Calls Tryd.prog 67 #[.int .u64 u, .int .i64 10] w2 fun e w' => e = .returned (.string s) ∧ Below w2.heap.size w2 w' := by
        intro w2 hb
        have := hF w2 hb
        rwa [hd] at this
      clear h1 h2 hs he hp hd hu hF ds
      go_enter Tryd.func35, Tryd.ntmps35
      go_wp2_with (first | (go_at_call 66; refine hc.mono ?_; rintro e w1 ⟨rfl, hb1⟩) | (go_at_call 67; refine (hF' _ hb1).mono ?_; rintro e w2 ⟨rfl, hb2⟩))
      go_ret2
      exact ⟨rfl, hb1.trans (hb2.mono hb1.size)⟩
    · obtain ⟨h1, h2⟩ := num_not hu hd
      rw [h1, h2]
      have ne : ((⟨(decDigits u).toArray⟩ : ByteArray).toList == s.toList) = false := by
        rw [beq_eq_false_iff_ne, ds, ByteArray.toList_eq]; exact hd
      obtain ⟨x, hx⟩ : ∃ x : ByteArray, ⟨(decDigits u).toArray⟩ = x := ⟨_, rfl⟩
      rw [hx] at hF ne
      clear h1 h2 hs he hp hd hu ds hx
      go_enter Tryd.func35, Tryd.ntmps35
      go_wp2_with (first | (go_at_call 66; refine hc.mono ?_; rintro e w1 ⟨rfl, hb1⟩) | (go_at_call 67; refine (hF _ hb1).mono ?_; rintro e w2 ⟨rfl, hb2⟩))
      go_ret2
      exact ⟨rfl, hb1.trans (hb2.mono hb1.size)⟩
  · obtain ⟨h1, h2⟩ := num_fault hf
    rw [h1, h2]
    clear h1 h2 hf hs he hp
    go_enter Tryd.func35, Tryd.ntmps35
    go_wp2_with (go_at_call 66; refine hc.mono ?_; rintro e w' ⟨⟨N, rfl⟩, hb⟩)
    go_ret2
    exact ⟨rfl, hb⟩
end Go.Proofs.YthjekbmgbidcfaaDoor.Lex
