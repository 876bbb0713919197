/- The walks of path.name and of the reference's sign and Name: a name is told by its bytes. -/
import Derived.Test.YthjekbmgbidcfaaDoorPathName
namespace Go.Proofs.YthjekbmgbidcfaaDoor.Lex
open Go.RowKit Go.Lib

theorem idx_any (p : Nat → Bool) (hp : ∀ r, 128 ≤ r → p r = true) (s : ByteArray) : ∀ f pos, s.size ≤ pos + f →
    (0 ≤ idxFuncFrom p true s f pos ↔ ∃ i, ∃ h : i < s.size, pos ≤ i ∧ p s[i].toNat = true)
  | 0, pos, hf => by
    simp only [idxFuncFrom]
    constructor
    · intro h; omega
    · rintro ⟨i, h, hp, _⟩; omega
  | f + 1, pos, hf => by
    unfold idxFuncFrom
    by_cases hps : pos < s.size
    · rw [if_pos hps, decode_at, getBang s pos hps]
      by_cases hb : s[pos].toNat < 128
      · rw [decodeN_low _ _ _ _ _ hb]
        by_cases hq : p s[pos].toNat = true
        · rw [if_pos hq]
          exact ⟨fun _ => ⟨pos, hps, Nat.le_refl _, hq⟩, fun _ => by omega⟩
        · rw [if_neg hq, idx_any p hp s f (pos + 1) (by omega)]
          constructor
          · rintro ⟨i, h, h1, h2⟩; exact ⟨i, h, by omega, h2⟩
          · rintro ⟨i, h, h1, h2⟩
            refine ⟨i, h, ?_, h2⟩
            by_cases e : i = pos
            · subst e; exact absurd h2 hq
            · omega
      · have h1 := decodeN_high (s.size - pos) s[pos].toNat (s.get! (pos + 1)).toNat (s.get! (pos + 2)).toNat (s.get! (pos + 3)).toNat (by omega)
        rw [if_pos (hp _ h1)]
        exact ⟨fun _ => ⟨pos, hps, Nat.le_refl _, hp _ (by omega)⟩, fun _ => by omega⟩
    · rw [if_neg hps]
      constructor
      · intro h; omega
      · rintro ⟨i, h, hp, _⟩; omega
theorem contains_any (p : Nat → Bool) (hp : ∀ r, 128 ≤ r → p r = true) (s : ByteArray) : decide (0 ≤ idxFunc p true s) = s.data.toList.any fun b => p b.toNat := by
  rw [Bool.eq_iff_iff, decide_eq_true_eq]
  unfold idxFunc
  rw [idx_any p hp s s.size 0 (by omega), List.any_eq_true]
  constructor
  · rintro ⟨i, h, _, h2⟩
    exact ⟨s[i], by rw [ByteArray.getElem_eq_getElem_data]; exact Array.getElem_mem_toList _, h2⟩
  · rintro ⟨b, hb, h2⟩
    obtain ⟨i, h, rfl⟩ := List.getElem_of_mem hb
    have h' : i < s.data.size := by simpa using h
    exact ⟨i, h', Nat.zero_le _, by rw [Array.getElem_toList] at h2; exact h2⟩

/-- Bytes that can all be in a name. -/
def allPlain (l : List UInt8) : Bool := l.all fun b => plainP b.toNat
/-- A name of a path, by its bytes. -/
def wordL (l : List UInt8) : Bool := !l.isEmpty && decide (l.length ≤ 64) && !(l == [46]) && !(l == [46, 46]) && allPlain l

theorem any_not_all (l : List UInt8) : (l.any fun b => !plainP b.toNat) = !allPlain l := by
  unfold allPlain
  rw [List.any_eq_not_all_not]; simp
theorem len_toList (s : ByteArray) : s.toList.length = s.size := by rw [ByteArray.toList_eq, Array.length_toList]; rfl

set_option maxHeartbeats 1000000 in
theorem path_name_calls (s : ByteArray) (w : World) :
    Calls Tryd.prog 59 #[.string s] w fun e w' => e = .returned (.bool (wordL s.data.toList)) ∧ Below w.heap.size w w' := by
  have hC := Tryd.strings_ContainsFunc_grows 88 #[] (enters_of Tryd.func88 (by kernel_rfl) rfl) (fun r => !plainP r) s w (path_name1 w)
  rw [contains_any _ (fun r h => by simp [plainP]; omega), any_not_all] at hC
  rw [← ByteArray.toList_eq] at hC ⊢
  by_cases h0 : s.toList = []
  · have hn : wordL s.toList = false := by rw [h0]; rfl
    have Hn := Lib.hid hn; clear hn
    go_enter Tryd.func59, Tryd.ntmps59
    go_wp2
    go_ret
    exact ⟨by rw [Hn.out]; rfl, Below.refl _ _⟩
  · have h0b : (!s.toList.isEmpty) = true := by simpa using h0
    clear h0
    by_cases h16 : s.size ≤ 64
    · have d : decide ((s.size : Int) ≤ 64) = true := by simp; omega
      cases h1 : (s.toList == [46])
      · cases h2 : (s.toList == [46, 46])
        · have hn : wordL s.toList = !!allPlain s.toList := by
            unfold wordL
            rw [h0b, h1, h2, len_toList, decide_eq_true h16]; simp
          have Hn := Lib.hid hn; clear hn
          clear h16
          generalize allPlain s.toList = ap at hC Hn
          go_enter Tryd.func59, Tryd.ntmps59
          go_wp2_with (go_at_call 62; refine hC.mono ?_; rintro e w' ⟨rfl, hb⟩)
          go_ret
          exact ⟨by rw [Hn.out]; simp, hb⟩
        · have hn : wordL s.toList = false := by
            unfold wordL
            rw [h2]; simp
          have Hn := Lib.hid hn; clear hn h16
          go_enter Tryd.func59, Tryd.ntmps59
          go_wp2
          go_ret
          exact ⟨by rw [Hn.out]; rfl, Below.refl _ _⟩
      · have hn : wordL s.toList = false := by
          unfold wordL
          rw [h1]; simp
        have Hn := Lib.hid hn; clear hn h16
        go_enter Tryd.func59, Tryd.ntmps59
        go_wp2
        go_ret
        exact ⟨by rw [Hn.out]; rfl, Below.refl _ _⟩
    · have hn : wordL s.toList = false := by
        unfold wordL
        rw [len_toList, decide_eq_false h16]; simp
      have Hn := Lib.hid hn; clear hn
      have d : decide ((s.size : Int) ≤ 64) = false := by simp; omega
      clear h16
      go_enter Tryd.func59, Tryd.ntmps59
      go_wp2
      go_ret
      exact ⟨by rw [Hn.out]; rfl, Below.refl _ _⟩

theorem sign_calls (r : Nat) (w : World) (_ : r < 256) :
    Calls Tryd.prog 90 #[.int .u8 r] w fun e w' => e = .returned (.bool (plainP r)) ∧ w = w' := by
  have z1 : (r : Int) < 97 ↔ r < 97 := by omega
  have z2 : (122 : Int) < (r : Int) ↔ 122 < r := by omega
  have z3 : (r : Int) < 65 ↔ r < 65 := by omega
  have z4 : (90 : Int) < (r : Int) ↔ 90 < r := by omega
  have z5 : (r : Int) < 48 ↔ r < 48 := by omega
  have z6 : (57 : Int) < (r : Int) ↔ 57 < r := by omega
  by_cases c1 : r < 97
  · by_cases c3 : r < 65
    · by_cases c5 : r < 48
      · by_cases e1 : (r : Int) = 46
        · have hp : plainP r = true := by unfold plainP; simp; omega
          have Hp := Lib.hid hp
          clear hp
          go_enter Tryd.func90, Tryd.ntmps90
          go_wp2
          go_ret
          exact ⟨by rw [Hp.out]; rfl, rfl⟩
        by_cases e2 : (r : Int) = 95
        · have hp : plainP r = true := by unfold plainP; simp; omega
          have Hp := Lib.hid hp
          clear hp
          go_enter Tryd.func90, Tryd.ntmps90
          go_wp2
          go_ret
          exact ⟨by rw [Hp.out]; rfl, rfl⟩
        by_cases e3 : (r : Int) = 45
        · have hp : plainP r = true := by unfold plainP; simp; omega
          have Hp := Lib.hid hp
          clear hp
          go_enter Tryd.func90, Tryd.ntmps90
          go_wp2
          go_ret
          exact ⟨by rw [Hp.out]; rfl, rfl⟩
        have hp : plainP r = false := by unfold plainP; simp; omega
        have Hp := Lib.hid hp
        clear hp
        go_enter Tryd.func90, Tryd.ntmps90
        go_wp2
        go_ret
        exact ⟨by rw [Hp.out]; first | rfl | (simp; omega), rfl⟩
      · by_cases c6 : 57 < r
        · by_cases e1 : (r : Int) = 46
          · have hp : plainP r = true := by unfold plainP; simp; omega
            have Hp := Lib.hid hp
            clear hp
            go_enter Tryd.func90, Tryd.ntmps90
            go_wp2
            go_ret
            exact ⟨by rw [Hp.out]; rfl, rfl⟩
          by_cases e2 : (r : Int) = 95
          · have hp : plainP r = true := by unfold plainP; simp; omega
            have Hp := Lib.hid hp
            clear hp
            go_enter Tryd.func90, Tryd.ntmps90
            go_wp2
            go_ret
            exact ⟨by rw [Hp.out]; rfl, rfl⟩
          by_cases e3 : (r : Int) = 45
          · have hp : plainP r = true := by unfold plainP; simp; omega
            have Hp := Lib.hid hp
            clear hp
            go_enter Tryd.func90, Tryd.ntmps90
            go_wp2
            go_ret
            exact ⟨by rw [Hp.out]; rfl, rfl⟩
          have hp : plainP r = false := by unfold plainP; simp; omega
          have Hp := Lib.hid hp
          clear hp
          go_enter Tryd.func90, Tryd.ntmps90
          go_wp2
          go_ret
          exact ⟨by rw [Hp.out]; first | rfl | (simp; omega), rfl⟩
        · have hp : plainP r = true := by unfold plainP; simp; omega
          have Hp := Lib.hid hp
          clear hp
          go_enter Tryd.func90, Tryd.ntmps90
          go_wp2
          go_ret
          exact ⟨by rw [Hp.out]; rfl, rfl⟩
    · by_cases c4 : 90 < r
      · by_cases e1 : (r : Int) = 46
        · have c5 : ¬ r < 48 := by omega
          have c6 : 57 < r := by omega
          have hp : plainP r = true := by unfold plainP; simp; omega
          have Hp := Lib.hid hp
          clear hp
          go_enter Tryd.func90, Tryd.ntmps90
          go_wp2
          go_ret
          exact ⟨by rw [Hp.out]; rfl, rfl⟩
        by_cases e2 : (r : Int) = 95
        · have c5 : ¬ r < 48 := by omega
          have c6 : 57 < r := by omega
          have hp : plainP r = true := by unfold plainP; simp; omega
          have Hp := Lib.hid hp
          clear hp
          go_enter Tryd.func90, Tryd.ntmps90
          go_wp2
          go_ret
          exact ⟨by rw [Hp.out]; rfl, rfl⟩
        by_cases e3 : (r : Int) = 45
        · have c5 : ¬ r < 48 := by omega
          have c6 : 57 < r := by omega
          have hp : plainP r = true := by unfold plainP; simp; omega
          have Hp := Lib.hid hp
          clear hp
          go_enter Tryd.func90, Tryd.ntmps90
          go_wp2
          go_ret
          exact ⟨by rw [Hp.out]; rfl, rfl⟩
        have c5 : ¬ r < 48 := by omega
        have c6 : 57 < r := by omega
        have hp : plainP r = false := by unfold plainP; simp; omega
        have Hp := Lib.hid hp
        clear hp
        go_enter Tryd.func90, Tryd.ntmps90
        go_wp2
        go_ret
        exact ⟨by rw [Hp.out]; first | rfl | (simp; omega), rfl⟩
      · have hp : plainP r = true := by unfold plainP; simp; omega
        have Hp := Lib.hid hp
        clear hp
        go_enter Tryd.func90, Tryd.ntmps90
        go_wp2
        go_ret
        exact ⟨by rw [Hp.out]; rfl, rfl⟩
  · by_cases c2 : 122 < r
    · by_cases e1 : (r : Int) = 46
      · have c3 : ¬ r < 65 := by omega
        have c4 : 90 < r := by omega
        have c5 : ¬ r < 48 := by omega
        have c6 : 57 < r := by omega
        have hp : plainP r = true := by unfold plainP; simp; omega
        have Hp := Lib.hid hp
        clear hp
        go_enter Tryd.func90, Tryd.ntmps90
        go_wp2
        go_ret
        exact ⟨by rw [Hp.out]; rfl, rfl⟩
      by_cases e2 : (r : Int) = 95
      · have c3 : ¬ r < 65 := by omega
        have c4 : 90 < r := by omega
        have c5 : ¬ r < 48 := by omega
        have c6 : 57 < r := by omega
        have hp : plainP r = true := by unfold plainP; simp; omega
        have Hp := Lib.hid hp
        clear hp
        go_enter Tryd.func90, Tryd.ntmps90
        go_wp2
        go_ret
        exact ⟨by rw [Hp.out]; rfl, rfl⟩
      by_cases e3 : (r : Int) = 45
      · have c3 : ¬ r < 65 := by omega
        have c4 : 90 < r := by omega
        have c5 : ¬ r < 48 := by omega
        have c6 : 57 < r := by omega
        have hp : plainP r = true := by unfold plainP; simp; omega
        have Hp := Lib.hid hp
        clear hp
        go_enter Tryd.func90, Tryd.ntmps90
        go_wp2
        go_ret
        exact ⟨by rw [Hp.out]; rfl, rfl⟩
      have c3 : ¬ r < 65 := by omega
      have c4 : 90 < r := by omega
      have c5 : ¬ r < 48 := by omega
      have c6 : 57 < r := by omega
      have hp : plainP r = false := by unfold plainP; simp; omega
      have Hp := Lib.hid hp
      clear hp
      go_enter Tryd.func90, Tryd.ntmps90
      go_wp2
      go_ret
      exact ⟨by rw [Hp.out]; first | rfl | (simp; omega), rfl⟩
    · have hp : plainP r = true := by unfold plainP; simp; omega
      have Hp := Lib.hid hp
      clear hp
      go_enter Tryd.func90, Tryd.ntmps90
      go_wp2
      go_ret
      exact ⟨by rw [Hp.out]; rfl, rfl⟩
end Go.Proofs.YthjekbmgbidcfaaDoor.Lex
