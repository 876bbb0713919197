/- The walk of the reference's Name (paths): the same words. -/
import Derived.Test.YthjekbmgbidcfaaDoorPathWord
import Derived.Test.YthjekbmgbidcfaaDoorLexRef
namespace Go.Proofs.YthjekbmgbidcfaaDoor.Lex
open Go.RowKit Go.Lib

theorem allPlain_iff (s : ByteArray) : allPlain s.toList = true ↔ ∀ i, ∀ h : i < s.size, plainP s[i].toNat = true := by
  unfold allPlain
  rw [ByteArray.toList_eq, List.all_eq_true]
  constructor
  · intro h i hi'
    have h' : i < s.data.toList.length := by simpa using hi'
    have := h (s.data.toList[i]) (List.getElem_mem h')
    rw [Array.getElem_toList] at this
    exact this
  · intro h b hb
    obtain ⟨i, hi', rfl⟩ := List.getElem_of_mem hb
    have h' : i < s.size := by simpa using hi'
    rw [Array.getElem_toList]
    exact h i h'

set_option maxHeartbeats 1000000 in
theorem RefPathName_calls (s : ByteArray) (w : World) :
    Calls Tryd.prog 61 #[.string s] w fun e w' => e = .returned (.bool (wordL s.data.toList)) ∧ w = w' := by
  rw [← ByteArray.toList_eq]
  by_cases h0 : s.size < 1
  · have hn : wordL s.toList = false := by
      unfold wordL
      have : s.toList.isEmpty = true := by
        cases h : s.toList.isEmpty with
        | true => rfl
        | false => rw [nonempty_iff] at h; omega
      rw [this]; rfl
    have Hn := Lib.hid hn; clear hn
    have d : decide ((s.size : Int) < 1) = true := by simp; omega
    clear h0
    go_enter Tryd.func61, Tryd.ntmps61
    go_wp2
    go_ret
    exact ⟨by rw [Hn.out]; rfl, rfl⟩
  · have hne : s.toList.isEmpty = false := by rw [nonempty_iff]; omega
    have d : decide ((s.size : Int) < 1) = false := by simp; omega
    clear h0
    by_cases h16 : s.size ≤ 64
    · have d2 : decide ((s.size : Int) > 64) = false := by simp; omega
      cases h1 : (s.toList == [46])
      · cases h2 : (s.toList == [46, 46])
        · have hn : wordL s.toList = allPlain s.toList := by
            unfold wordL
            rw [hne, h1, h2, len_toList, decide_eq_true h16]; simp
          have Hn := Lib.hid hn; clear hn hne
          go_enter Tryd.func61, Tryd.ntmps61
          go_wp2
          go_loop [3] (fun v => ∃ k : Nat, k ≤ s.size ∧ v = .int .i64 k ∧ ∀ i, ∀ h : i < s.size, i < k → plainP s[i].toNat = true) (fun v => s.size - (intOf v).toNat)
          case atStart => exact ⟨0, Nat.zero_le _, rfl, fun i _ hi => absurd hi (Nat.not_lt_zero _)⟩
          case round =>
            obtain ⟨k, hk, rfl, hg⟩ := hrel
            have HG := Lib.hid hg; clear hg
            by_cases hlt : k < s.size
            · cases hp : plainP s[k].toNat
              · have bad := Lib.hid (show allPlain s.toList = false from by
                  cases h : allPlain s.toList with
                  | false => rfl
                  | true => have := (allPlain_iff s).1 h k hlt; rw [hp] at this; exact absurd this (by decide))
                have hc : ∀ w2, Calls Tryd.prog 90 #[.int .u8 s[k].toNat] w2 fun e w' => e = .returned (.bool false) ∧ w2 = w' := fun w2 => by rw [← hp]; exact sign_calls _ w2 (UInt8.toNat_lt _)
                clear hp
                go_wp2_with (go_at_call 90; refine (hc _).mono ?_; rintro e w' ⟨rfl, rfl⟩)
                go_ret
                exact ⟨by rw [Hn.out, bad.out]; rfl, rfl⟩
              · have good := Lib.hid hp
                have hc : ∀ w2, Calls Tryd.prog 90 #[.int .u8 s[k].toNat] w2 fun e w' => e = .returned (.bool true) ∧ w2 = w' := fun w2 => by rw [← hp]; exact sign_calls _ w2 (UInt8.toNat_lt _)
                clear hp
                go_wp2_with (go_at_call 90; refine (hc _).mono ?_; rintro e w' ⟨rfl, rfl⟩)
                go_round
                case rel =>
                  refine ⟨k + 1, by omega, by go_num, fun i h hi => ?_⟩
                  by_cases e : i = k
                  · subst e; exact good.out
                  · exact HG.out i h (by omega)
                case measure => simp [intOf]; omega
            · go_wp2
              go_ret
              refine ⟨?_, rfl⟩
              rw [Hn.out, (allPlain_iff s).2 (fun i h => HG.out i h (by omega))]; rfl
        · have hn : wordL s.toList = false := by
            unfold wordL
            rw [h2]; simp
          have Hn := Lib.hid hn; clear hn h16 hne
          go_enter Tryd.func61, Tryd.ntmps61
          go_wp2
          go_ret
          exact ⟨by rw [Hn.out]; rfl, rfl⟩
      · have hn : wordL s.toList = false := by
          unfold wordL
          rw [h1]; simp
        have Hn := Lib.hid hn; clear hn h16 hne
        go_enter Tryd.func61, Tryd.ntmps61
        go_wp2
        go_ret
        exact ⟨by rw [Hn.out]; rfl, rfl⟩
    · have hn : wordL s.toList = false := by
        unfold wordL
        rw [len_toList, decide_eq_false h16]; simp
      have Hn := Lib.hid hn; clear hn hne
      have d2 : decide ((s.size : Int) > 64) = true := by simp; omega
      clear h16
      go_enter Tryd.func61, Tryd.ntmps61
      go_wp2
      go_ret
      exact ⟨by rw [Hn.out]; rfl, rfl⟩
end Go.Proofs.YthjekbmgbidcfaaDoor.Lex
