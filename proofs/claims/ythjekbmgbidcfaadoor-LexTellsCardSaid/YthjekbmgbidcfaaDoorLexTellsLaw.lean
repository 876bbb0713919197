/- The law LexTells: its walk, out of the contracts. -/
import Derived.Test.YthjekbmgbidcfaaDoorLexRefWords
import Derived.Test.YthjekbmgbidcfaaDoorLexRefNum
namespace Go.Proofs.YthjekbmgbidcfaaDoor.Lex
open Go.RowKit Go.Lib

theorem Same_in (a1 a2 : Option Addr) (c d : Nat) (l : List ByteArray) (w : World) (hm : l.length ≤ 9223372036854775807) (h1 : In w a1 l) (h2 : In w a2 l) :
    Calls Tryd.prog 15 #[.slice a1 l.length c, .slice a2 l.length d] w fun e w' => e = .returned (.bool true) ∧ Below w.heap.size w w' := by
  have := Same_calls a1 a2 c d l l w rfl hm (fun h => by obtain ⟨ad, e, _, t⟩ := h1 h; exact ⟨ad, e, t⟩) (fun h => by obtain ⟨ad, e, _, t⟩ := h2 h; exact ⟨ad, e, t⟩)
  rw [decide_eq_true rfl] at this
  refine this.mono ?_
  rintro e w' ⟨he, q, rfl⟩
  exact ⟨he, pw_below_drewN (Below.refl _ _) q⟩

theorem NamesT_calls (s : ByteArray) (m : Int) (w : World) (hs : s.size < 4294967281) (hm : w.cell? ⟨5, 0, none⟩ = some (.int .i64 m)) :
    Calls Tryd.prog 13 #[.string s] w (TextsPost (if riseB (commaB s) = true then commaB s else []) (riseB (commaB s)) w) := by
  refine (Names_calls s m w hs hm).mono ?_
  rintro e w' ⟨hb, ⟨hr, rfl⟩ | ⟨hr, rfl, hblk⟩⟩
  · rw [hr, if_neg (by simp)]
    exact ⟨none, 0, rfl, Nat.le_refl _, nilIn _, hb⟩
  · rw [hr, if_pos rfl]
    refine ⟨_, _, rfl, Nat.le_refl _, fun _ => ⟨_, rfl, ?_, texts_of_block hblk⟩, hb⟩
    rcases Nat.lt_or_ge w.heap.size w'.heap.size with h | h
    · exact h
    · rw [Array.getElem?_eq_none h] at hblk; cases hblk

theorem wordsL_len (s : ByteArray) (hs : s.size ≤ 2000) : (wordsL s).length ≤ 2001 := by
  unfold wordsL
  split
  · have := Lib.countB_le ⟨#[32]⟩ (by decide) s.size s (Nat.le_refl _)
    rw [blankB_len]; omega
  · simp

set_option maxHeartbeats 2000000 in
theorem LexTells_calls (s : ByteArray) (m : Int) (w : World) (hz : s.size ≤ 140737488351232) (hm : w.cell? ⟨5, 0, none⟩ = some (.int .i64 m)) (he : Errs w) (hp : Pow10 w) :
    Calls Tryd.prog 7 #[.string s] w fun e w' => e = .returned (.bool true) ∧ Below w.heap.size w w' := by
  have hA := lexAlive_calls m w hm
  have hmm : ∀ w2, Below w.heap.size w w2 → w2.cell? ⟨5, 0, none⟩ = some (.int .i64 m) := fun w2 hb => (hb.cell (p := ⟨5, 0, none⟩) (World.block_lt_of_cell? _ _ hm)).trans hm
  by_cases h2 : s.size ≤ 2000
  · have d : decide ((s.size : Int) > 2000) = false := by simp; omega
    have c1 := fun w2 hb => Words_calls s m w2 (by omega) (hmm w2 hb)
    have c2 := fun w2 => RefWords_calls s w2
    have c3 := fun w2 (hb : Below w.heap.size w w2) => Number_calls s w2 (by omega) (he.below hb) (tab_below hp hb)
    have c4 := fun w2 => RefNumber_calls s w2
    have c5 := fun w2 hb => NamesT_calls s m w2 (by omega) (hmm w2 hb)
    have c6 := fun w2 => RefNames_calls s w2 (by omega)
    have c7 := fun w2 => Name_calls s w2
    have c8 := fun w2 => RefName_calls s w2
    have hwl := wordsL_len s h2
    have hnl : (if riseB (commaB s) = true then commaB s else []).length ≤ 2001 := by
      split
      · have := Lib.countB_le ⟨#[44]⟩ (by decide) s.size s (Nat.le_refl _)
        rw [commaB_len]; omega
      · simp
    generalize (if riseB (commaB s) = true then commaB s else []) = nl at c5 c6 hnl
    generalize riseB (commaB s) = nb at c5 c6
    generalize wordsL s = wl at c1 c2 hwl
    generalize wordsB s = wb at c1 c2
    generalize numN s.data.toList = nn at c3 c4
    generalize numB s.data.toList = nbb at c3 c4
    generalize nameB s = nm at c7 c8
    clear hmm hm he hp hz
    go_enter Tryd.func7, Tryd.ntmps7
    go_wp2_with fail
    refine hA.mono ?_
    rintro e w1 ⟨rfl, hb1⟩
    go_wp2_with fail
    refine (c1 w1 hb1).mono ?_
    rintro e w2 ⟨A1, k1, rfl, hk1, hi1, hb2'⟩
    have hb2 := hb1.trans (hb2'.mono hb1.size)
    go_wp2_with fail
    refine (c2 w2).mono ?_
    rintro e w3 ⟨A2, k2, rfl, hk2, hi2, hb3'⟩
    have hb3 := hb2.trans (hb3'.mono hb2.size)
    go_wp2_with fail
    refine (c3 w3 hb3).mono ?_
    rintro e w4 ⟨rfl, hb4'⟩
    have hb4 := hb3.trans (hb4'.mono hb3.size)
    go_wp2_with fail
    refine (c4 w4).mono ?_
    rintro e w5 ⟨rfl, hb5'⟩
    have hb5 := hb4.trans (hb5'.mono hb4.size)
    go_wp2_with fail
    refine (c5 w5 hb5).mono ?_
    rintro e w6 ⟨A3, k3, rfl, hk3, hi3, hb6'⟩
    have hb6 := hb5.trans (hb6'.mono hb5.size)
    go_wp2_with fail
    refine (c6 w6).mono ?_
    rintro e w7 ⟨A4, k4, rfl, hk4, hi4, hb7'⟩
    have hb7 := hb6.trans (hb7'.mono hb6.size)
    have B57 := hb6'.trans (hb7'.mono hb6'.size)
    have B47 := hb5'.trans (B57.mono hb5'.size)
    have B37 := hb4'.trans (B47.mono hb4'.size)
    have B27 := hb3'.trans (B37.mono hb3'.size)
    have s1 := Same_in A1 A2 k1 k2 wl w7 (by omega) (hi1.below B27) (hi2.below B37)
    have s2 := fun w8 (hb : Below w7.heap.size w7 w8) => Same_in A3 A4 k3 k4 nl w8 (by omega) ((hi3.below hb7').below hb) (hi4.below hb)
    clear c1 c2 c3 c4 c5 c6 hi1 hi2 hi3 hi4 B27 B37 B47 B57 hb2' hb3' hb4' hb5' hb6' hb7' hA
    go_wp2_with fail
    refine s1.mono ?_
    rintro e w8 ⟨rfl, hb8'⟩
    have hb8 := hb7.trans (hb8'.mono hb7.size)
    go_wp2_with fail
    refine (s2 w8 hb8').mono ?_
    rintro e w9 ⟨rfl, hb9'⟩
    have hb9 := hb8.trans (hb9'.mono hb8.size)
    go_wp2_with fail
    refine (c7 w9).mono ?_
    rintro e w10 ⟨rfl, hb10'⟩
    have hb10 := hb9.trans (hb10'.mono hb9.size)
    go_wp2_with fail
    refine (c8 w10).mono ?_
    rintro e w11 ⟨rfl, rfl⟩
    go_wp2
    go_ret
    exact ⟨by simp, hb10⟩
  · have d : decide ((s.size : Int) > 2000) = true := by simp; omega
    go_enter Tryd.func7, Tryd.ntmps7
    go_wp2_with (go_at_call 11; refine hA.mono ?_; rintro e w1 ⟨rfl, hb1⟩)
    go_ret
    exact ⟨rfl, hb1⟩
end Go.Proofs.YthjekbmgbidcfaaDoor.Lex
