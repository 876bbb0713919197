/- Plain facts (no program): where a text's runes lie within a span of ASCII letters, told by its bytes. -/
import Derived.Shelf.GgClosure.StringsRunes
import Derived.Lib.DecodeN
namespace Go.Proofs.YthjekbmgbidcfaaDoor.Lex
open Go.Lib

/-- A rune that lies outside lo .. hi. -/
def outP (lo hi : Nat) (r : Nat) : Bool := decide (r < lo) || decide (hi < r)
/-- Some byte lies outside lo .. hi. -/
def outB (lo hi : Nat) (s : ByteArray) : Bool := s.data.toList.any fun b => outP lo hi b.toNat

theorem decodeN_high (n b0 b1 b2 b3 : Nat) (h : 128 ≤ b0) : 128 ≤ (decodeN n b0 b1 b2 b3).1 := by
  unfold decodeN
  repeat' split
  all_goals first | omega | (simp only []; omega)
theorem decodeN_low (n b0 b1 b2 b3 : Nat) (h : b0 < 128) : decodeN n b0 b1 b2 b3 = (b0, 1) := by
  unfold decodeN; rw [if_pos h]
theorem getBang (s : ByteArray) (i : Nat) (h : i < s.size) : s.get! i = s[i] := by
  have h' : i < s.data.size := h
  show s.data[i]! = s.data[i]
  rw [getElem!_pos s.data i h']
theorem idx_out (lo hi : Nat) (hh : hi < 128) (s : ByteArray) : ∀ f pos, s.size ≤ pos + f →
    (0 ≤ idxFuncFrom (outP lo hi) true s f pos ↔ ∃ i, ∃ h : i < s.size, pos ≤ i ∧ outP lo hi s[i].toNat = true)
  | 0, pos, hf => by
    simp only [idxFuncFrom]
    constructor
    · intro h; omega
    · rintro ⟨i, h, hp, _⟩; omega
  | f + 1, pos, hf => by
    unfold idxFuncFrom
    by_cases hps : pos < s.size
    · rw [if_pos hps, decode_at, getBang s pos hps]
      by_cases hb : s[pos].toNat < 128
      · rw [decodeN_low _ _ _ _ _ hb]
        by_cases hp : outP lo hi s[pos].toNat = true
        · rw [if_pos hp]
          exact ⟨fun _ => ⟨pos, hps, Nat.le_refl _, hp⟩, fun _ => by omega⟩
        · rw [if_neg hp, idx_out lo hi hh s f (pos + 1) (by omega)]
          constructor
          · rintro ⟨i, h, h1, h2⟩; exact ⟨i, h, by omega, h2⟩
          · rintro ⟨i, h, h1, h2⟩
            refine ⟨i, h, ?_, h2⟩
            by_cases e : i = pos
            · subst e; exact absurd h2 hp
            · omega
      · have h1 := decodeN_high (s.size - pos) s[pos].toNat (s.get! (pos + 1)).toNat (s.get! (pos + 2)).toNat (s.get! (pos + 3)).toNat (by omega)
        have hp : outP lo hi (decodeN (s.size - pos) s[pos].toNat (s.get! (pos + 1)).toNat (s.get! (pos + 2)).toNat (s.get! (pos + 3)).toNat).1 = true := by
          simp only [outP, Bool.or_eq_true, decide_eq_true_eq]; omega
        rw [if_pos hp]
        exact ⟨fun _ => ⟨pos, hps, Nat.le_refl _, by simp only [outP, Bool.or_eq_true, decide_eq_true_eq]; omega⟩, fun _ => by omega⟩
    · rw [if_neg hps]
      constructor
      · intro h; omega
      · rintro ⟨i, h, hp, _⟩; omega
theorem contains_out (lo hi : Nat) (hh : hi < 128) (s : ByteArray) : decide (0 ≤ idxFunc (outP lo hi) true s) = outB lo hi s := by
  rw [Bool.eq_iff_iff, decide_eq_true_eq]
  unfold idxFunc outB
  rw [idx_out lo hi hh s s.size 0 (by omega), List.any_eq_true]
  constructor
  · rintro ⟨i, h, _, h2⟩
    exact ⟨s[i], by rw [ByteArray.getElem_eq_getElem_data]; exact Array.getElem_mem_toList _, h2⟩
  · rintro ⟨b, hb, h2⟩
    obtain ⟨i, h, rfl⟩ := List.getElem_of_mem hb
    have h' : i < s.data.size := by simpa using h
    exact ⟨i, h', Nat.zero_le _, by rw [Array.getElem_toList] at h2; exact h2⟩
end Go.Proofs.YthjekbmgbidcfaaDoor.Lex
