/- The walk of lex.Join: names' text, if it comes back. -/
import Derived.Test.YthjekbmgbidcfaaDoorLexNames
namespace Go.Proofs.YthjekbmgbidcfaaDoor.Lex
open Go.RowKit Go.Lib

def joined (l : List ByteArray) : ByteArray := ⟨(Lib.join (l.map (·.data.toList)) [44]).toArray⟩
def joinB (l : List ByteArray) : ByteArray := if riseB (commaB (joined l)) = true ∧ commaB (joined l) = l then joined l else ⟨#[]⟩
/-- The cells from ad on hold some texts. -/
def Texts (w : World) (ad : Addr) (l : List ByteArray) : Prop := ∀ i, i < l.length → w.cell? (ad.add i) = some (.string (l.getD i ByteArray.empty))
theorem block_add (a : Addr) (n : Nat) : (a.add n).block = a.block := by unfold Addr.add; split <;> rfl
theorem add_add (a : Addr) (i j : Nat) : (a.add i).add j = a.add (i + j) := by
  unfold Addr.add
  by_cases hi : i = 0 <;> by_cases hj : j = 0 <;> simp [hi, hj, Nat.add_assoc]
theorem add_zero (a : Addr) : a.add 0 = a := by unfold Addr.add; rw [if_pos rfl]
theorem add_own (b o i : Nat) : (⟨b, o, none⟩ : Addr).add i = ⟨b, o + i, none⟩ := by unfold Addr.add; split <;> simp_all
theorem Texts.below {w w' : World} {ad : Addr} {l : List ByteArray} {B : Nat} (h : Texts w ad l) (hb : Below B w w') (hB : ad.block < B) : Texts w' ad l :=
  fun i hi => (hb.cell (p := ad.add i) (by rw [block_add]; exact hB)).trans (h i hi)
theorem texts_of_block {w : World} {b : Nat} {l : List ByteArray} (h : w.heap[b]? = some (.cells (l.map Value.string).toArray 9 (0, 0))) : Texts w ⟨b, 0, none⟩ l := by
  intro i hi
  rw [add_own, Nat.zero_add]
  unfold World.cell?
  simp only [h]
  simp [List.getD_eq_getElem?_getD, List.getElem?_eq_getElem hi]
theorem pw_below_drewN {B : Nat} {w W : World} (h : Below B w W) (n : Nat) : Below B w (W.drewN n) := ⟨h.os, h.tape, h.output, h.size, h.block⟩
theorem comma_empty : commaB ⟨#[]⟩ = [⟨#[]⟩] := by
  have h : Lib.countB ⟨#[]⟩ ⟨#[44]⟩ = 0 := Nat.le_zero.1 (Lib.countB_le ⟨#[44]⟩ (by decide) 0 ⟨#[]⟩ (Nat.le_refl _))
  unfold commaB; rw [h]; rfl
theorem rise_empty : riseB (commaB ⟨#[]⟩) = false := by
  rw [comma_empty]
  exact rise_no 0 (by decide) (by decide +kernel)

set_option maxHeartbeats 1000000 in
theorem Join_none (a : Option Addr) (c : Nat) (m : Int) (w : World) (hm : w.cell? ⟨5, 0, none⟩ = some (.int .i64 m)) :
    Calls Tryd.prog 12 #[.slice a 0 c] w fun e w' => e = .returned (.string ⟨#[]⟩) ∧ Below w.heap.size w w' := by
  have hJ := Tryd.strings_Join_none a c ⟨#[44]⟩ w
  have hN := Names_calls ⟨#[]⟩ m w (by decide) hm
  go_enter Tryd.func12, Tryd.ntmps12
  go_wp2_with (first | (go_at_call 50; refine hJ.mono ?_; rintro e w' ⟨rfl, rfl⟩) | (go_at_call 13; refine hN.mono ?_; rintro e w2 ⟨hb, ⟨_, rfl⟩ | ⟨hr, _⟩⟩; rotate_left; exact absurd (rise_empty.symm.trans hr) (by decide)))
  go_ret
  exact ⟨rfl, hb⟩

set_option maxHeartbeats 1000000 in
theorem Join_calls (b o c : Nat) (l : List ByteArray) (m : Int) (w : World) (hl : Texts w ⟨b, o, none⟩ l) (hb0 : b < w.heap.size) (hcap : l.length ≤ c) (hn : l.length ≤ 140737488355328)
    (hs : (joined l).size < 4294967281) (hm : w.cell? ⟨5, 0, none⟩ = some (.int .i64 m)) :
    Calls Tryd.prog 12 #[.slice (some ⟨b, o, none⟩) l.length c] w fun e w' => e = .returned (.string (joinB l)) ∧ Below w.heap.size w w' := by
  have hJ := Tryd.strings_Join b o c l ⟨#[44]⟩ w (fun j x hx => by
    obtain ⟨h1, h2⟩ := List.getElem?_eq_some_iff.1 hx
    rw [← add_own, hl j h1, List.getD_eq_getElem?_getD, hx]; rfl) hb0 hn hcap (by
      have : (joined l).size = (Lib.join (l.map (·.data.toList)) [44]).length := by unfold joined ByteArray.size; exact List.size_toArray
      show (Lib.join (l.map (·.data.toList)) [44]).length ≤ _
      omega)
  replace hJ : Calls Tryd.prog 50 #[.slice (some ⟨b, o, none⟩) l.length c, .string ⟨#[44]⟩] w fun e w' => e = .returned (.string (joined l)) ∧ Below w.heap.size w w' := hJ
  obtain ⟨s, hsd⟩ : ∃ s, joined l = s := ⟨_, rfl⟩
  have hN : ∀ w1, Below w.heap.size w w1 → Calls Tryd.prog 13 #[.string s] w1 (NamesPost s w1) := fun w1 hb1 => Names_calls s m w1 (by rw [← hsd]; exact hs) ((hb1.cell (p := ⟨5, 0, none⟩) (World.block_lt_of_cell? _ _ hm)).trans hm)
  rw [hsd] at hJ
  have hnn := hl
  have HL := Lib.hid hl; clear hl hnn
  have hlen : l.length ≤ 9223372036854775807 := by omega
  have HS := Lib.hid hsd; clear hsd hs hm
  have fin : joinB l = if riseB (commaB s) = true ∧ commaB s = l then s else ⟨#[]⟩ := by unfold joinB; rw [HS.out]
  have Fin := Lib.hid fin; clear fin
  cases hr : riseB (commaB s) with
  | false =>
    have HR := Lib.hid hr; clear hr
    go_enter Tryd.func12, Tryd.ntmps12
    go_wp2_with (first | (go_at_call 50; refine hJ.mono ?_; rintro e w1 ⟨rfl, hb1⟩) | (go_at_call 13; refine (hN _ hb1).mono ?_; rintro e w2 ⟨hb2, ⟨_, rfl⟩ | ⟨hr, _⟩⟩; rotate_left; exact absurd (HR.out.symm.trans hr) (by decide)))
    go_ret
    exact ⟨by rw [Fin.out, if_neg (by rw [HR.out]; simp)]; rfl, hb1.trans (hb2.mono hb1.size)⟩
  | true =>
    have HR := Lib.hid hr; clear hr
    obtain ⟨p, hp⟩ : ∃ p, commaB s = p := ⟨_, rfl⟩
    have hpl : p.length ≤ 9223372036854775807 := by
      have h1 := HR.out
      unfold riseB at h1
      rw [Bool.and_eq_true, decide_eq_true_eq, hp] at h1
      omega
    have HP := Lib.hid hp; clear hp
    obtain ⟨q, hq⟩ : ∃ q, decide (p = l) = q := ⟨_, rfl⟩
    have hE : ∀ w1 w2 : World, Below w.heap.size w w1 → Below w1.heap.size w1 w2 → w2.heap[w1.heap.size]? = some (.cells (p.map Value.string).toArray 9 (0, 0)) →
        Calls Tryd.prog 51 #[.slice (some ⟨w1.heap.size, 0, none⟩) p.length p.length, .slice (some ⟨b, o, none⟩) l.length c] w2 fun e w' => e = .returned (.bool q) ∧ ∃ k, w' = w2.drewN k := by
      intro w1 w2 hb1 hb2 hblk
      have h1 : ∀ j, j < p.length → w2.cell? ⟨w1.heap.size, 0 + j, none⟩ = _ := fun j hj => (congrArg w2.cell? (add_own w1.heap.size 0 j)).symm.trans (texts_of_block hblk j hj)
      have h2 : ∀ j, j < l.length → w2.cell? ⟨b, o + j, none⟩ = _ := fun j hj => (congrArg w2.cell? (add_own b o j)).symm.trans (((HL.out.below hb1 hb0).below hb2 (Nat.lt_of_lt_of_le hb0 hb1.size)) j hj)
      have hc := Tryd.slices_Equal_string w1.heap.size 0 p.length p.length b o l.length c p l w2 (Nat.le_refl _) (Nat.le_refl _) hpl hlen h1 h2
      rw [List.take_length, List.take_length, hq] at hc
      exact hc
    have Hq := Lib.hid hq; clear hq
    cases q with
    | true =>
      go_enter Tryd.func12, Tryd.ntmps12
      go_wp2_with (first | (go_at_call 50; refine hJ.mono ?_; rintro e w1 ⟨rfl, hb1⟩) | (go_at_call 13; refine (hN _ hb1).mono ?_; rintro e w2 ⟨hb2, ⟨hr, _⟩ | ⟨_, rfl, hblk⟩⟩; exact absurd (HR.out.symm.trans hr) (by decide); rw [HP.out] at hblk ⊢; have hcE := hE _ _ hb1 hb2 hblk; clear hblk) | (go_at_call 51; refine hcE.mono ?_; rintro e w3 ⟨rfl, k, rfl⟩))
      go_ret
      exact ⟨by rw [Fin.out, if_pos ⟨HR.out, by rw [HP.out]; exact of_decide_eq_true Hq.out⟩]; rfl, pw_below_drewN (hb1.trans (hb2.mono hb1.size)) k⟩
    | false =>
      go_enter Tryd.func12, Tryd.ntmps12
      go_wp2_with (first | (go_at_call 50; refine hJ.mono ?_; rintro e w1 ⟨rfl, hb1⟩) | (go_at_call 13; refine (hN _ hb1).mono ?_; rintro e w2 ⟨hb2, ⟨hr, _⟩ | ⟨_, rfl, hblk⟩⟩; exact absurd (HR.out.symm.trans hr) (by decide); rw [HP.out] at hblk ⊢; have hcE := hE _ _ hb1 hb2 hblk; clear hblk) | (go_at_call 51; refine hcE.mono ?_; rintro e w3 ⟨rfl, k, rfl⟩))
      go_ret
      exact ⟨by rw [Fin.out, if_neg (fun h => by rw [HP.out] at h; exact absurd h.2 (of_decide_eq_false Hq.out))]; rfl, pw_below_drewN (hb1.trans (hb2.mono hb1.size)) k⟩
end Go.Proofs.YthjekbmgbidcfaaDoor.Lex
