/- The walks of the reference's Words and Names. -/
import Derived.Test.YthjekbmgbidcfaaDoorLexWords
namespace Go.Proofs.YthjekbmgbidcfaaDoor.Lex
open Go.RowKit Go.Lib Go.Proofs.YthjekbmgbidcfaaDoorW.PrintWords

theorem pieces_is {s : ByteArray} {l : List ByteArray} (h : Pieces 32 s l) : l = blankB s := map_data_inj (h.trans (split_pieces 32 s).symm)
theorem pieces_comma {s : ByteArray} {l : List ByteArray} (h : Pieces 44 s l) : l = commaB s := map_data_inj (h.trans (split_pieces 44 s).symm)

set_option maxHeartbeats 1000000 in
theorem RefNames_calls (s : ByteArray) (w : World) (hs : s.size ≤ 100000) :
    Calls Tryd.prog 37 #[.string s] w (TextsPost (if riseB (commaB s) = true then commaB s else []) (riseB (commaB s)) w) := by
  have hS := RefSplit_calls s 44 w hs
  rw [show (((44 : UInt8).toNat : Nat) : Int) = 44 from rfl] at hS
  have hp := comma_pos s
  have hpl : (commaB s).length ≤ 100001 := by
    have := Lib.countB_le ⟨#[44]⟩ (by decide) s.size s (Nat.le_refl _)
    rw [commaB_len]; omega
  have hS2 : Calls Tryd.prog 65 #[.string s, .int .u8 44] w fun e w' => ∃ A cc, e = .returned (.slice A (commaB s).length cc) ∧ (commaB s).length ≤ cc ∧ In w' A (commaB s) ∧ Below w.heap.size w w' := by
    refine hS.mono ?_
    rintro e w' ⟨l, A, cc, rfl, hpc, hR, hb⟩
    obtain rfl := pieces_comma hpc
    exact ⟨A, cc, rfl, (R_In hR).2.1, (R_In hR).2.2, hb⟩
  clear hS hs
  obtain ⟨l, hl⟩ : ∃ l, commaB s = l := ⟨_, rfl⟩
  rw [hl] at hS2 hp hpl ⊢
  clear hl
  have hr : ∀ w2 A cc, In w2 A l → Calls Tryd.prog 53 #[.slice A l.length cc] w2 fun e w' => e = .returned (.bool (riseB l)) ∧ w2 = w' := by
    intro w2 A cc hi
    obtain ⟨ad, rfl, _, ht⟩ := hi (by omega)
    exact Rise_calls ad cc l w2 ht hp (by omega)
  cases hrb : riseB l with
  | false =>
    rw [hrb] at hr
    clear hrb
    go_enter Tryd.func37, Tryd.ntmps37
    go_wp2_with (first | (go_at_call 65; refine hS2.mono ?_; rintro e w1 ⟨A, cc, rfl, hcc, hi, hb⟩; have hr2 := hr _ _ cc hi) | (go_at_call 53; refine hr2.mono ?_; rintro e w2 ⟨rfl, rfl⟩))
    go_ret2
    exact ⟨none, 0, rfl, Nat.le_refl _, nilIn _, hb⟩
  | true =>
    rw [hrb] at hr
    clear hrb
    go_enter Tryd.func37, Tryd.ntmps37
    go_wp2_with (first | (go_at_call 65; refine hS2.mono ?_; rintro e w1 ⟨A, cc, rfl, hcc, hi, hb⟩; have hr2 := hr _ _ cc hi) | (go_at_call 53; refine hr2.mono ?_; rintro e w2 ⟨rfl, rfl⟩))
    go_ret2
    exact ⟨A, cc, rfl, hcc, hi, hb⟩

set_option maxHeartbeats 2000000 in
theorem RefWords_calls (s : ByteArray) (w : World) :
    Calls Tryd.prog 34 #[.string s] w (TextsPost (wordsL s) (wordsB s) w) := by
  cases he : s.toList.isEmpty with
  | true =>
    have hb : wordsB s = true := by unfold wordsB; rw [he]; rfl
    have hl := words_none (s := s) (.inl he)
    rw [hb, hl]
    have h0 : s.toList = [] := by simpa using he
    clear hb hl he
    go_enter Tryd.func34, Tryd.ntmps34
    go_wp2
    go_ret2
    exact ⟨_, _, rfl, Nat.le_refl _, fun h => absurd h (by simp), (Below.refl _ _).alloc (Nat.le_refl _) _⟩
  | false =>
    have h0 : (s.toList.isEmpty) = false := he
    have hwb : wordsB s = (!outB 32 126 s && (decide (s.size ≤ 512) && !Lib.containsS (blankB s) ⟨#[]⟩)) := by unfold wordsB; rw [he]; rfl
    have hws : wordsB s = true → wordsL s = blankB s := fun h => words_some he h
    have hwn : wordsB s = false → wordsL s = [] := fun h => words_none (.inr h)
    have Hwb := Lib.hid hwb; clear hwb
    have Hws := Lib.hid hws; clear hws
    have Hwn := Lib.hid hwn; clear hwn
    have no : wordsB s = false → ∀ w', Below w.heap.size w w' → TextsPost (wordsL s) (wordsB s) w (.returned (.tuple #[.slice none 0 0, .bool false])) w' := by
      intro h w' hb
      rw [h, Hwn.out h]
      exact ⟨none, 0, rfl, Nat.le_refl _, nilIn _, hb⟩
    have No := Lib.hid no; clear no
    have hne : ¬ s.toList = [] := fun h => by rw [h] at h0; cases h0
    clear he
    by_cases h5 : s.size ≤ 512
    · have d5 : decide ((s.size : Int) > 512) = false := by simp; omega
      go_enter Tryd.func34, Tryd.ntmps34
      go_wp2
      go_loop [4] (fun v => ∃ k : Nat, k ≤ s.size ∧ v = .int .i64 k ∧ ∀ i, ∀ h : i < s.size, i < k → outP 32 126 s[i].toNat = false) (fun v => s.size - (intOf v).toNat)
      case atStart => exact ⟨0, Nat.zero_le _, rfl, fun i _ hi => absurd hi (Nat.not_lt_zero _)⟩
      case round =>
        obtain ⟨k, hk, rfl, hg⟩ := hrel
        have HG := Lib.hid hg; clear hg
        by_cases hlt : k < s.size
        · have HK' := Lib.hid (show outP 32 126 s[k].toNat = (decide (s[k].toNat < 32) || decide (126 < s[k].toNat)) from rfl)
          have bad : outP 32 126 s[k].toNat = true → wordsB s = false := fun hp => by
            have : outB 32 126 s = true := by
              cases h : outB 32 126 s with
              | true => rfl
              | false => have := (outB_false_iff 32 126 s).1 h k hlt; rw [hp] at this; cases this
            rw [Hwb.out, this]; rfl
          have Bad := Lib.hid bad; clear bad
          by_cases c1 : (s[k].toNat : Int) < 32
          · have d1 : decide ((s[k].toNat : Int) < 32) = true := decide_eq_true c1
            have hb := Lib.hid (No.out (Bad.out (by rw [HK'.out, decide_eq_true (show s[k].toNat < 32 by omega)]; rfl)))
            go_wp2
            go_ret2
            exact hb.out _ (Below.refl _ _)
          · have d1 : decide ((s[k].toNat : Int) < 32) = false := decide_eq_false c1
            by_cases c2 : (s[k].toNat : Int) > 126
            · have d2 : decide ((s[k].toNat : Int) > 126) = true := decide_eq_true c2
              have hb := Lib.hid (No.out (Bad.out (by rw [HK'.out, decide_eq_true (show 126 < s[k].toNat by omega), Bool.or_true])))
              go_wp2
              go_ret2
              exact hb.out _ (Below.refl _ _)
            · have d2 : decide ((s[k].toNat : Int) > 126) = false := decide_eq_false c2
              have good := Lib.hid (show outP 32 126 s[k].toNat = false by rw [HK'.out, decide_eq_false (show ¬ s[k].toNat < 32 by omega), decide_eq_false (show ¬ 126 < s[k].toNat by omega)]; rfl)
              go_wp2
              go_round
              case rel =>
                refine ⟨k + 1, by omega, by go_num, fun i h hi => ?_⟩
                by_cases e : i = k
                · subst e; exact good.out
                · exact HG.out i h (by omega)
              case measure => simp [intOf]; omega
        · have ho := (outB_false_iff 32 126 s).2 (fun i h => HG.out i h (by omega))
          have hS := RefSplit_calls s 32 w (by omega)
          rw [show (((32 : UInt8).toNat : Nat) : Int) = 32 from rfl] at hS
          have hS2 : Calls Tryd.prog 65 #[.string s, .int .u8 32] w fun e w' => ∃ A cc, e = .returned (.slice A (blankB s).length cc) ∧ (blankB s).length ≤ cc ∧ In w' A (blankB s) ∧ Below w.heap.size w w' := by
            refine hS.mono ?_
            rintro e w' ⟨l, A, cc, rfl, hpc, hR, hb⟩
            obtain rfl := pieces_is hpc
            exact ⟨A, cc, rfl, (R_In hR).2.1, (R_In hR).2.2, hb⟩
          have hbl : (blankB s).length ≤ 513 := by
            have := Lib.countB_le ⟨#[32]⟩ (by decide) s.size s (Nat.le_refl _)
            rw [blankB_len]; omega
          have hwb2 : wordsB s = !Lib.containsS (blankB s) ⟨#[]⟩ := by rw [Hwb.out, ho, decide_eq_true h5]; rfl
          have hws2 := Hws.out
          clear hS ho HG
          obtain ⟨l, hl⟩ : ∃ l, blankB s = l := ⟨_, rfl⟩
          rw [hl] at hS2 hwb2 hws2 hbl
          have Hwb2 := Lib.hid hwb2; clear hwb2
          have Hws2 := Lib.hid hws2; clear hws2
          clear hl
          obtain ⟨n, hn⟩ : ∃ n, l.length = n := ⟨_, rfl⟩
          rw [hn] at hS2 hbl
          have Hn := Lib.hid hn; clear hn
          go_wp2_with (go_at_call 65; refine hS2.mono ?_; rintro e w1 ⟨A, cc, rfl, hcc, hi, hb⟩; have HI := Lib.hid hi; clear hi)
          go_loop [34] (fun v => ∃ k : Nat, k ≤ n ∧ v = .int .i64 k ∧ ∀ i, i < k → l.getD i ByteArray.empty ≠ ⟨#[]⟩) (fun v => n - (intOf v).toNat)
          case atStart => exact ⟨0, Nat.zero_le _, rfl, fun i hi => absurd hi (Nat.not_lt_zero _)⟩
          case round =>
            obtain ⟨j, hj, rfl, hg⟩ := hrel
            have HG := Lib.hid hg; clear hg
            by_cases hjl : j < n
            · obtain ⟨ad, rfl, _, ht⟩ := HI.out (by rw [Hn.out]; omega)
              have hx : w1.cell? (ad.add j) = some (.string (l.getD j ByteArray.empty)) := ht j (by rw [Hn.out]; exact hjl)
              clear ht
              obtain ⟨x, hxd⟩ : ∃ x, l.getD j ByteArray.empty = x := ⟨_, rfl⟩
              rw [hxd] at hx
              have Hx := Lib.hid hxd; clear hxd
              by_cases hxe : x.toList = []
              · have hin : (⟨#[]⟩ : ByteArray) ∈ l := by
                  have e : x = ⟨#[]⟩ := bytes_eq (by rw [ByteArray.toList_eq] at hxe; rw [hxe])
                  rw [← e, ← Hx.out, List.getD_eq_getElem?_getD, List.getElem?_eq_getElem (by rw [Hn.out]; exact hjl)]
                  exact List.getElem_mem _
                have hf := Lib.hid (No.out (by rw [Hwb2.out, (containsS_iff l ⟨#[]⟩).2 hin]; rfl))
                clear hin
                go_wp2
                go_ret2
                exact hf.out _ hb
              · have hx2 : x.toList.isEmpty = false := by cases h : x.toList with | nil => exact absurd h hxe | cons a b => rfl
                have hx3 := Lib.hid (show x ≠ ⟨#[]⟩ from fun e => hxe (by rw [e, ByteArray.toList_eq]))
                go_wp2
                go_round
                case rel =>
                  refine ⟨j + 1, by omega, by go_num, fun i hi' => ?_⟩
                  by_cases e : i = j
                  · rw [e, Hx.out]; exact hx3.out
                  · exact HG.out i (by omega)
                case measure => simp [intOf]; omega
            · have hnc : Lib.containsS l ⟨#[]⟩ = false := by
                cases h : Lib.containsS l ⟨#[]⟩ with
                | false => rfl
                | true =>
                  obtain ⟨i, hi, e⟩ := List.getElem_of_mem ((containsS_iff l ⟨#[]⟩).1 h)
                  have := HG.out i (by have := Hn.out; omega)
                  rw [List.getD_eq_getElem?_getD, List.getElem?_eq_getElem hi] at this
                  exact absurd e this
              have hy : wordsB s = true := by rw [Hwb2.out, hnc]; rfl
              have hf : TextsPost (wordsL s) (wordsB s) w (.returned (.tuple #[.slice A n cc, .bool true])) w1 := by
                rw [hy, Hws2.out hy]
                exact ⟨A, cc, by rw [Hn.out], by rw [Hn.out]; exact hcc, HI.out, hb⟩
              have hf' := Lib.hid hf
              clear hnc hy hf
              go_wp2
              go_ret2
              exact hf'.out
    · have d5 : decide ((s.size : Int) > 512) = true := by simp; omega
      have hf := Lib.hid (No.out (by rw [Hwb.out, decide_eq_false h5, Bool.false_and, Bool.and_false]))
      go_enter Tryd.func34, Tryd.ntmps34
      go_wp2
      go_ret2
      exact hf.out _ (Below.refl _ _)
end Go.Proofs.YthjekbmgbidcfaaDoor.Lex
