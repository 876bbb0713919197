/- The law LexParts: the plain law of words with a blank between, and the walk. -/
import Derived.Test.YthjekbmgbidcfaaDoorLexTellsLaw
import Derived.Test.YthjekbmgbidcfaaDoorWGuard
namespace Go.Proofs.YthjekbmgbidcfaaDoor.Lex
open Go.RowKit Go.Lib Go.Proofs.YthjekbmgbidcfaaDoorW.PrintWords

theorem pieces_two (c : UInt8) (t : List UInt8) : ∀ p : List UInt8, pieces c (p ++ c :: t) = pieces c p ++ pieces c t
  | [] => by simp [pieces]
  | b :: p => by
    have ih := pieces_two c t p
    rw [List.cons_append, pieces, pieces, ih]
    split
    · rfl
    · cases h : pieces c p with
      | nil => exact absurd h (pieces_ne c p)
      | cons q r => rfl
def twoB (a b : ByteArray) : ByteArray := (a ++ (⟨#[32]⟩ : ByteArray)) ++ b
theorem two_data (a b : ByteArray) : (twoB a b).data.toList = a.data.toList ++ 32 :: b.data.toList := by
  unfold twoB; rw [data_add, data_add]; simp
theorem blank_data (s : ByteArray) : (blankB s).map (·.data.toList) = pieces 32 s.data.toList := split_pieces 32 s
theorem two_blank (a b : ByteArray) : blankB (twoB a b) = blankB a ++ blankB b := by
  apply map_data_inj
  rw [List.map_append, blank_data, blank_data, blank_data, two_data, pieces_two]
theorem two_out (a b : ByteArray) : outB 32 126 (twoB a b) = (outB 32 126 a || outB 32 126 b) := by
  unfold outB
  rw [two_data, List.any_append, List.any_cons]
  rfl
theorem two_contains (x : ByteArray) (l l' : List ByteArray) : Lib.containsS (l ++ l') x = (Lib.containsS l x || Lib.containsS l' x) := by
  rw [Bool.eq_iff_iff, Bool.or_eq_true, containsS_iff, containsS_iff, containsS_iff, List.mem_append]
theorem two_size (a b : ByteArray) : (twoB a b).size = a.size + 1 + b.size := by
  unfold twoB; rw [ByteArray.size_append, ByteArray.size_append]; rfl
/-- Words, one at least. -/
def someW (s : ByteArray) : Bool := wordsB s && decide (0 < (wordsL s).length)
theorem some_is (s : ByteArray) (hs : s.size ≤ 512) : someW s = (!outB 32 126 s && !Lib.containsS (blankB s) ⟨#[]⟩) := by
  unfold someW
  cases he : s.toList.isEmpty with
  | true =>
    have e : s = ⟨#[]⟩ := bytes_eq (by rw [ByteArray.toList_eq] at he; simpa using he)
    have h1 : Lib.containsS (blankB s) ⟨#[]⟩ = true := by
      rw [containsS_iff, e]
      have : blankB ⟨#[]⟩ = [⟨#[]⟩] := by
        apply map_data_inj; rw [blank_data]; rfl
      rw [this]; exact List.mem_cons_self
    rw [words_none (.inl he), h1]
    simp
  | false =>
    have hw : wordsB s = (!outB 32 126 s && (decide (s.size ≤ 512) && !Lib.containsS (blankB s) ⟨#[]⟩)) := by unfold wordsB; rw [he]; rfl
    rw [decide_eq_true hs, Bool.true_and] at hw
    cases hb : wordsB s with
    | true => rw [words_some he hb, ← hw, hb, blankB_len]; simp
    | false => rw [← hw, hb]; rfl
theorem two_words (a b : ByteArray) (ha : a.size ≤ 300) (hb : b.size ≤ 200) : wordsB (twoB a b) = (someW a && someW b) := by
  have hs := two_size a b
  have hne : (twoB a b).toList.isEmpty = false := by rw [nonempty_iff]; omega
  unfold wordsB
  rw [hne, two_out, two_blank, two_contains, decide_eq_true (by omega), some_is a (by omega), some_is b (by omega)]
  cases outB 32 126 a <;> cases outB 32 126 b <;> cases Lib.containsS (blankB a) ⟨#[]⟩ <;> cases Lib.containsS (blankB b) ⟨#[]⟩ <;> rfl
theorem some_list {s : ByteArray} (h : someW s = true) : wordsL s = blankB s := by
  unfold someW at h
  rw [Bool.and_eq_true, decide_eq_true_eq] at h
  unfold wordsL at h ⊢
  split
  · rfl
  · rename_i hn; rw [if_neg hn] at h; simp at h
theorem two_list (a b : ByteArray) (ha : a.size ≤ 300) (hb : b.size ≤ 200) (h : wordsB (twoB a b) = true) : wordsL (twoB a b) = wordsL a ++ wordsL b := by
  have hs := two_size a b
  have hne : (twoB a b).toList.isEmpty = false := by rw [nonempty_iff]; omega
  have h2 := two_words a b ha hb
  rw [h] at h2
  have h3 := (Bool.and_eq_true _ _ ▸ h2.symm : someW a = true ∧ someW b = true)
  rw [words_some hne h, some_list h3.1, some_list h3.2, two_blank]

theorem In_C {w : World} {a : Option Addr} {l : List ByteArray} (h : In w a l) (hm : l.length ≤ 9223372036854775807) : Kd.string.C w a l.length l := by
  by_cases h0 : 0 < l.length
  · obtain ⟨ad, e, _, ht⟩ := h h0
    rw [e]; exact texts_C ht hm
  · obtain rfl : l = [] := List.length_eq_zero_iff.1 (by omega)
    exact ⟨rfl, by simp, fun h => absurd h (by simp)⟩

set_option maxHeartbeats 4000000 in
set_option maxRecDepth 100000 in
theorem LexParts_calls (a b : ByteArray) (n : Nat) (m : Int) (w : World) (hza : a.size ≤ 140737488351232) (hzb : b.size ≤ 140737488351232) (hn : n < 18446744073709551616) (hm : w.cell? ⟨5, 0, none⟩ = some (.int .i64 m)) (he : Errs w) (hp : Pow10 w) :
    Calls Tryd.prog 8 #[.string a, .string b, .int .u64 n] w fun e w' => e = .returned (.bool true) ∧ Below w.heap.size w w' := by
  have hA := lexAlive_calls m w hm
  have hmm : ∀ w2, Below w.heap.size w w2 → w2.cell? ⟨5, 0, none⟩ = some (.int .i64 m) := fun w2 hb => (hb.cell (p := ⟨5, 0, none⟩) (World.block_lt_of_cell? _ _ hm)).trans hm
  by_cases ha : a.size ≤ 300
  · have da : decide ((a.size : Int) > 300) = false := by simp; omega
    by_cases hb : b.size ≤ 200
    · have db : decide ((b.size : Int) > 200) = false := by simp; omega
      have ht := two_size a b
      have c1 := fun w2 hb => Words_calls a m w2 (by omega) (hmm w2 hb)
      have c2 := fun w2 hb' => Words_calls b m w2 (by omega) (hmm w2 hb')
      have c3 := fun w2 hb' => Words_calls (twoB a b) m w2 (by omega) (hmm w2 hb')
      have c4 := fun w2 => Digits_calls n w2 hn
      have c5 := fun w2 (hb : Below w.heap.size w w2) => Number_calls ⟨(decDigits n).toArray⟩ w2 (by have := nDigits_le20 n hn; rw [← decDigits_length] at this; show (decDigits n).toArray.size ≤ _; rw [List.size_toArray]; omega) (he.below hb) (tab_below hp hb)
      obtain ⟨e1, e2⟩ := num_of (l := decDigits n) hn rfl
      simp only [e1, e2] at c5
      have hw2 := Lib.hid (two_words a b ha hb)
      have hl2 := Lib.hid (two_list a b ha hb)
      have hla := wordsL_len a (by omega)
      have hlb := wordsL_len b (by omega)
      have hsa := Lib.hid (show someW a = (wordsB a && decide (0 < (wordsL a).length)) from rfl)
      have hsb := Lib.hid (show someW b = (wordsB b && decide (0 < (wordsL b).length)) from rfl)
      have hsz1 : (a.size : Int) + 1 ≤ 9223372036854775807 := by omega
      have hsz2 : (a.size : Int) + 1 + b.size ≤ 9223372036854775807 := by omega
      clear e1 e2 hm he hp hmm hn hza hzb ht
      generalize hwc : twoB a b = c at c3 hw2 hl2
      have Hwc := Lib.hid hwc; clear hwc
      generalize wordsL a = la at c1 hl2 hla hsa
      generalize wordsL b = lb at c2 hl2 hlb hsb
      generalize wordsL c = lc at c3 hl2
      generalize wordsB a = wa at c1 hsa
      generalize wordsB b = wb at c2 hsb
      generalize wordsB c = wc at c3 hw2 hl2
      go_enter Tryd.func8, Tryd.ntmps8
      go_wp2_with fail
      refine hA.mono ?_
      rintro e w1 ⟨rfl, hb1⟩
      go_wp2_with fail
      refine (c1 w1 hb1).mono ?_
      rintro e w2 ⟨A1, k1, rfl, hk1, hi1, hb2'⟩
      have hb2 := hb1.trans (hb2'.mono hb1.size)
      go_wp2_with fail
      refine (c2 w2 hb2).mono ?_
      rintro e w3 ⟨A2, k2, rfl, hk2, hi2, hb3'⟩
      have hb3 := hb2.trans (hb3'.mono hb2.size)
      go_wp2_with fail
      rw [show a ++ (⟨#[32]⟩ : ByteArray) ++ b = c from Hwc.out]
      refine (c3 w3 hb3).mono ?_
      rintro e w4 ⟨A3, k3, rfl, hk3, hi3, hb4'⟩
      have hb4 := hb3.trans (hb4'.mono hb3.size)
      cases wa with
      | false =>
        obtain rfl : wc = false := by rw [hw2.out, hsa.out]; rfl
        go_wp2_with fail
        refine (c4 _).mono ?_
        rintro e w5 ⟨rfl, hb5'⟩
        have hb5 := hb4.trans (hb5'.mono hb4.size)
        go_wp2_with fail
        refine (c5 w5 hb5).mono ?_
        rintro e w6 ⟨rfl, hb6'⟩
        have hb6 := hb5.trans (hb6'.mono hb5.size)
        go_wp2
        go_ret
        exact ⟨by simp, hb6⟩
      | true =>
        cases wb with
        | false =>
          obtain rfl : wc = false := by rw [hw2.out, hsb.out, Bool.and_comm]; rfl
          go_wp2_with fail
          refine (c4 _).mono ?_
          rintro e w5 ⟨rfl, hb5'⟩
          have hb5 := hb4.trans (hb5'.mono hb4.size)
          go_wp2_with fail
          refine (c5 w5 hb5).mono ?_
          rintro e w6 ⟨rfl, hb6'⟩
          have hb6 := hb5.trans (hb6'.mono hb5.size)
          go_wp2
          go_ret
          exact ⟨by simp, hb6⟩

        | true =>
          by_cases hpa : 0 < la.length
          · have dpa : decide ((la.length : Int) > 0) = true := by simp; omega
            by_cases hpb : 0 < lb.length
            · have dpb : decide ((lb.length : Int) > 0) = true := by simp; omega
              obtain rfl : wc = true := by rw [hw2.out, hsa.out, hsb.out, decide_eq_true hpa, decide_eq_true hpb]; rfl
              have hcat := hl2.out rfl
              have i1 := hi1.below (hb3'.trans (hb4'.mono hb3'.size))
              have i2 := hi2.below hb4'
              have Hcat := Lib.hid hcat; clear hcat
              have HA := Lib.hid (In_C i1 (by omega))
              have HB := Lib.hid (In_C i2 (by omega))
              have HO := Lib.hid (Kd.R_of_own (enc := Value.string) (h1 := fun _ => rfl) (ok := fun _ => True) (by have := World.ownsRow_lit (base := w4.heap.size) (e := 9) (size := 1) w4 #[] 0 (Nat.le_refl _) (by decide) rfl; exact this) (fun _ _ => trivial) : Kd.string.R 9 (w4.alloc (.cells #[] 9)) w4.heap.size (fun _ => True) (.slice (some ⟨w4.heap.size, 0, none⟩) 0 0) [])
              clear c1 c2 c3 i1 i2 hi1 hi2
              go_wp2_with (first
                | ((with_reducible refine gate_dst (N := 65) rfl ?_); refine gate_guard (by rfl) ?_; refine Kd.R_append_rows Kd.string (w0 := w4) w4.heap.size rfl (.tmp 63) (.tmp 64) 22 9 (.string ByteArray.empty) 16 rfl Tryd.underlying22 info9 rfl (by decide) (by omega) (.slice (some ⟨w4.heap.size, 0, none⟩) 0 0) [] la A1 la.length k1 (fun _ => True) (fun _ => False) rfl rfl HO.out (Kd.C_alloc HA.out _) (fun _ _ h => h) (fun _ h => h.elim) (fun _ _ => trivial) ((Below.refl _ _).alloc (Nat.le_refl _) _) (by simp) (by simp; omega) ?_
                   intro v1 u1 ho1 hu1 hg1 hat1
                   clear hg1 hat1
                   rw [List.nil_append] at ho1
                   obtain ⟨B1, q1, rfl⟩ := Kd.R_slice ho1
                   have HO1 := Lib.hid ho1
                   clear ho1)
                | ((with_reducible refine gate_dst (N := 67) rfl ?_); refine gate_guard (by rfl) ?_; refine Kd.R_append_rows Kd.string (w0 := w4) w4.heap.size rfl (.tmp 65) (.tmp 66) 22 9 (.string ByteArray.empty) 16 rfl Tryd.underlying22 info9 rfl (by decide) (by omega) (.slice B1 la.length q1) la lb A2 lb.length k2 (fun _ => True) (fun _ => False) rfl rfl HO1.out (Kd.C_below HB.out hu1) (fun _ _ h => h) (fun _ h => h.elim) (fun _ _ => trivial) hu1 hu1.size (by omega) ?_
                   intro v2 u2 ho2 hu2 hg2 hat2
                   clear hg2 hat2
                   rw [← Hcat.out] at ho2
                   obtain ⟨B2, q2, rfl⟩ := Kd.R_slice ho2
                   have i3 := hi3.below hu2
                   have hsame := Same_in A3 B2 k3 q2 lc u2 (by rw [Hcat.out, List.length_append]; omega) i3 (R_In ho2).2.2
                   clear ho2 i3)
                | (go_at_call 15; refine hsame.mono ?_; rintro e u3 ⟨rfl, hu3⟩))
              have hb4b : Below w.heap.size w u3 := hb4.trans ((hu2.trans (hu3.mono hu2.size)).mono hb4.size)
              go_wp2_with fail
              refine (c4 _).mono ?_
              rintro e w5 ⟨rfl, hb5'⟩
              have hb5 := hb4b.trans (hb5'.mono hb4b.size)
              go_wp2_with fail
              refine (c5 w5 hb5).mono ?_
              rintro e w6 ⟨rfl, hb6'⟩
              have hb6 := hb5.trans (hb6'.mono hb5.size)
              go_wp2
              go_ret
              exact ⟨by simp, hb6⟩
            · have dpb : decide ((lb.length : Int) > 0) = false := decide_eq_false (by omega)
              obtain rfl : wc = false := by rw [hw2.out, hsb.out, decide_eq_false hpb, Bool.and_false, Bool.and_false]
              go_wp2_with fail
              refine (c4 _).mono ?_
              rintro e w5 ⟨rfl, hb5'⟩
              have hb5 := hb4.trans (hb5'.mono hb4.size)
              go_wp2_with fail
              refine (c5 w5 hb5).mono ?_
              rintro e w6 ⟨rfl, hb6'⟩
              have hb6 := hb5.trans (hb6'.mono hb5.size)
              go_wp2
              go_ret
              exact ⟨by simp, hb6⟩

          · have dpa : decide ((la.length : Int) > 0) = false := decide_eq_false (by omega)
            obtain rfl : wc = false := by rw [hw2.out, hsa.out, decide_eq_false hpa, Bool.and_false, Bool.false_and]
            go_wp2_with fail
            refine (c4 _).mono ?_
            rintro e w5 ⟨rfl, hb5'⟩
            have hb5 := hb4.trans (hb5'.mono hb4.size)
            go_wp2_with fail
            refine (c5 w5 hb5).mono ?_
            rintro e w6 ⟨rfl, hb6'⟩
            have hb6 := hb5.trans (hb6'.mono hb5.size)
            go_wp2
            go_ret
            exact ⟨by simp, hb6⟩

    · have db : decide ((b.size : Int) > 200) = true := by simp; omega
      go_enter Tryd.func8, Tryd.ntmps8
      go_wp2_with (go_at_call 11; refine hA.mono ?_; rintro e w1 ⟨rfl, hb1⟩)
      go_ret
      exact ⟨rfl, hb1⟩
  · have da : decide ((a.size : Int) > 300) = true := by simp; omega
    go_enter Tryd.func8, Tryd.ntmps8
    go_wp2_with (go_at_call 11; refine hA.mono ?_; rintro e w1 ⟨rfl, hb1⟩)
    go_ret
    exact ⟨rfl, hb1⟩
end Go.Proofs.YthjekbmgbidcfaaDoor.Lex
