/- The walks of lex.Words and of the reference's Words. -/
import Derived.Test.YthjekbmgbidcfaaDoorRefSplit
namespace Go.Proofs.YthjekbmgbidcfaaDoor.Lex
open Go.RowKit Go.Lib Go.Proofs.YthjekbmgbidcfaaDoorW.PrintWords

theorem words1 (w : World) : PredAt Tryd.prog 63 #[] encR (outP 32 126) w := fun W r _ => by
  unfold FnGives
  by_cases h1 : r < 32 <;> by_cases h2 : 126 < r
  all_goals
    have z1 : (r : Int) < 32 ↔ r < 32 := by omega
    have z2 : (126 : Int) < (r : Int) ↔ 126 < r := by omega
    go_enter Tryd.func63, Tryd.ntmps63
    go_wp2
    all_goals first | (exfalso; omega) | (go_ret; exact ⟨by simp [outP, h1, h2], 0, rfl⟩)

/-- The pieces between a text's blanks. -/
def blankB (s : ByteArray) : List ByteArray := Lib.splitB ⟨#[32]⟩ 0 (Lib.countB s ⟨#[32]⟩) s
theorem blankB_len (s : ByteArray) : (blankB s).length = Lib.countB s ⟨#[32]⟩ + 1 := Lib.splitB_all _ (by decide) 0 _ s rfl
def wordsB (s : ByteArray) : Bool := s.toList.isEmpty || (!outB 32 126 s && (decide (s.size ≤ 512) && !Lib.containsS (blankB s) ⟨#[]⟩))
def wordsL (s : ByteArray) : List ByteArray := if s.toList.isEmpty = false ∧ wordsB s = true then blankB s else []
theorem words_some {s : ByteArray} (h0 : s.toList.isEmpty = false) (h : wordsB s = true) : wordsL s = blankB s := by unfold wordsL; rw [if_pos ⟨h0, h⟩]
theorem words_none {s : ByteArray} (h : s.toList.isEmpty = true ∨ wordsB s = false) : wordsL s = [] := by
  unfold wordsL
  rw [if_neg]
  rintro ⟨h1, h2⟩
  rcases h with h | h
  · rw [h1] at h; cases h
  · rw [h2] at h; cases h

/-- What comes back: some texts, and whether they are such. -/
def TextsPost (l : List ByteArray) (b : Bool) (w : World) (e : Ending) (w' : World) : Prop :=
  ∃ A c, e = .returned (.tuple #[.slice A l.length c, .bool b]) ∧ l.length ≤ c ∧ In w' A l ∧ Below w.heap.size w w'
theorem nilIn (w : World) : In w none [] := fun h => absurd h (by simp)

set_option maxHeartbeats 1000000 in
theorem Words_calls (s : ByteArray) (m : Int) (w : World) (hs : s.size < 4294967281) (hm : w.cell? ⟨5, 0, none⟩ = some (.int .i64 m)) :
    Calls Tryd.prog 33 #[.string s] w (TextsPost (wordsL s) (wordsB s) w) := by
  cases he : s.toList.isEmpty with
  | true =>
    have hb : wordsB s = true := by unfold wordsB; rw [he]; rfl
    have hl := words_none (s := s) (.inl he)
    rw [hb, hl]
    have h0 : s.toList = [] := by simpa using he
    clear hb hl he
    go_enter Tryd.func33, Tryd.ntmps33
    go_wp2
    go_ret2
    exact ⟨none, 0, rfl, Nat.le_refl _, nilIn _, Below.refl _ _⟩
  | false =>
    have h0 : (s.toList.isEmpty) = false := he
    have hC := Tryd.strings_Split s ⟨#[32]⟩ m w hs hm (by decide)
    have hlen := blankB_len s
    have hle := Lib.countB_le ⟨#[32]⟩ (by decide) s.size s (Nat.le_refl _)
    have hwb : wordsB s = (!outB 32 126 s && (decide (s.size ≤ 512) && !Lib.containsS (blankB s) ⟨#[]⟩)) := by unfold wordsB; rw [he]; rfl
    have hws : wordsB s = true → wordsL s = blankB s := fun h => words_some he h
    have hwn : wordsB s = false → wordsL s = [] := fun h => words_none (.inr h)
    obtain ⟨l, hl⟩ : ∃ l, blankB s = l := ⟨_, rfl⟩
    rw [hl] at hlen hwb hws
    unfold blankB at hl
    rw [hl, ← hlen] at hC
    clear hl
    obtain ⟨W, hW⟩ : ∃ W, w.alloc (.cells (l.map Value.string).toArray 9) = W := ⟨_, rfl⟩
    have hbW : Below w.heap.size w W := hW ▸ (Below.refl _ w).alloc (Nat.le_refl _) _
    have hblk : W.heap[w.heap.size]? = some (.cells (l.map Value.string).toArray 9 (0, 0)) := hW ▸ heap_alloc_new _ _
    have hsz : w.heap.size < W.heap.size := by rw [← hW]; simp
    rw [hW] at hC
    clear hW
    have hF := Tryd.strings_ContainsFunc 63 #[] (enters_of Tryd.func63 (by kernel_rfl) rfl) (outP 32 126) s W (words1 W)
    rw [contains_out 32 126 (by decide)] at hF
    have hll : l.length ≤ 9223372036854775807 := by omega
    have hN : ∀ W2, Below W.heap.size W W2 → Calls Tryd.prog 64 #[.slice (some ⟨w.heap.size, 0, none⟩) l.length l.length, .string ⟨#[]⟩] W2 fun e w' => e = .returned (.bool (Lib.containsS l ⟨#[]⟩)) ∧ w' = W2 := by
      intro W2 hb2
      have h1 := texts_of_block ((hb2.block _ hsz).trans hblk)
      have := Tryd.slices_Contains_string w.heap.size 0 l.length l.length l ⟨#[]⟩ W2 (Nat.le_refl _) hll (fun j hj => (congrArg W2.cell? (add_own w.heap.size 0 j)).symm.trans (h1 j hj))
      rwa [List.take_length] at this
    have Hwb := Lib.hid hwb; clear hwb
    have Hws := Lib.hid hws; clear hws
    have Hwn := Lib.hid hwn; clear hwn
    have Hblk := Lib.hid hblk; clear hblk
    clear hlen hle hm hs
    have hne : (!s.toList.isEmpty) = true := by rw [h0]; rfl
    have no : wordsB s = false → ∀ w', Below w.heap.size w w' → TextsPost (wordsL s) (wordsB s) w (.returned (.tuple #[.slice none 0 0, .bool false])) w' := by
      intro h w' hb
      rw [h, Hwn.out h]
      exact ⟨none, 0, rfl, Nat.le_refl _, nilIn _, hb⟩
    have No := Lib.hid no; clear no
    cases ho : outB 32 126 s with
    | true =>
      rw [ho] at hF
      have hf := Lib.hid (No.out (by rw [Hwb.out, ho]; rfl))
      clear ho
      go_enter Tryd.func33, Tryd.ntmps33
      go_wp2_with (first | (go_at_call 52; refine hC.mono ?_; rintro e w' ⟨rfl, rfl⟩) | (go_at_call 62; refine hF.mono ?_; rintro e w2 ⟨rfl, hb2⟩))
      go_ret2
      exact hf.out _ (hbW.trans (hb2.mono hbW.size))
    | false =>
      rw [ho] at hF
      by_cases h5 : s.size ≤ 512
      · have d5 : decide ((s.size : Int) > 512) = false := by simp; omega
        cases hc : Lib.containsS l ⟨#[]⟩ with
        | true =>
          rw [hc] at hN
          have hf := Lib.hid (No.out (by rw [Hwb.out, hc, Bool.not_true, Bool.and_false, Bool.and_false]))
          clear ho hc
          go_enter Tryd.func33, Tryd.ntmps33
          go_wp2_with (first | (go_at_call 52; refine hC.mono ?_; rintro e w' ⟨rfl, rfl⟩) | (go_at_call 62; refine hF.mono ?_; rintro e w2 ⟨rfl, hb2⟩; have hN2 := hN _ hb2) | (go_at_call 64; refine hN2.mono ?_; rintro e w3 ⟨rfl, rfl⟩))
          go_ret2
          exact hf.out _ (hbW.trans (hb2.mono hbW.size))
        | false =>
          rw [hc] at hN
          have hy : wordsB s = true := by rw [Hwb.out, ho, hc, decide_eq_true h5]; rfl
          have hyl := Hws.out hy
          rw [hy, hyl]
          clear ho hc hy hyl
          go_enter Tryd.func33, Tryd.ntmps33
          go_wp2_with (first | (go_at_call 52; refine hC.mono ?_; rintro e w' ⟨rfl, rfl⟩) | (go_at_call 62; refine hF.mono ?_; rintro e w2 ⟨rfl, hb2⟩; have hN2 := hN _ hb2) | (go_at_call 64; refine hN2.mono ?_; rintro e w3 ⟨rfl, rfl⟩))
          go_ret2
          exact ⟨_, _, rfl, Nat.le_refl _, fun _ => ⟨_, rfl, Nat.lt_of_lt_of_le hsz hb2.size, texts_of_block ((hb2.block _ hsz).trans Hblk.out)⟩, hbW.trans (hb2.mono hbW.size)⟩
      · have d5 : decide ((s.size : Int) > 512) = true := by simp; omega
        have hf := Lib.hid (No.out (by rw [Hwb.out, decide_eq_false h5, Bool.false_and, Bool.and_false]))
        clear ho
        go_enter Tryd.func33, Tryd.ntmps33
        go_wp2_with (first | (go_at_call 52; refine hC.mono ?_; rintro e w' ⟨rfl, rfl⟩) | (go_at_call 62; refine hF.mono ?_; rintro e w2 ⟨rfl, hb2⟩))
        go_ret2
        exact hf.out _ (hbW.trans (hb2.mono hbW.size))
end Go.Proofs.YthjekbmgbidcfaaDoor.Lex
