/- The walk of lex.Names: the pieces between commas, if they are names that rise, and no more than 32. -/
import Derived.Test.YthjekbmgbidcfaaDoorLexName
namespace Go.Proofs.YthjekbmgbidcfaaDoor.Lex
open Go.RowKit Go.Lib

/-- The k-th of some texts is a name, and above the one ahead. -/
def goodAt (l : List ByteArray) (i : Nat) : Bool := nameB (l.getD i ByteArray.empty) && (decide (i = 0) || Op.bytesLess (l.getD (i - 1) ByteArray.empty).toList (l.getD i ByteArray.empty).toList)
def riseB (l : List ByteArray) : Bool := decide (l.length ≤ 32) && (List.range l.length).all (goodAt l)
/-- The pieces between a text's commas. -/
def commaB (s : ByteArray) : List ByteArray := Lib.splitB ⟨#[44]⟩ 0 (Lib.countB s ⟨#[44]⟩) s
theorem commaB_len (s : ByteArray) : (commaB s).length = Lib.countB s ⟨#[44]⟩ + 1 := Lib.splitB_all _ (by decide) 0 _ s rfl

theorem rise_no {l : List ByteArray} (k : Nat) (hk : k < l.length) (h : goodAt l k = false) : riseB l = false := by
  unfold riseB
  rw [Bool.and_eq_false_iff]
  right
  rw [List.all_eq_false]
  exact ⟨k, List.mem_range.2 hk, by simp [h]⟩
theorem rise_yes {l : List ByteArray} (hn : l.length ≤ 32) (h : ∀ i, i < l.length → goodAt l i = true) : riseB l = true := by
  unfold riseB
  rw [decide_eq_true hn, Bool.true_and, List.all_eq_true]
  exact fun i hi => h i (List.mem_range.1 hi)

/-- What Names gives: the pieces in the call's own new block, or nil. -/
def NamesPost (s : ByteArray) (w : World) (e : Ending) (w' : World) : Prop :=
  Below w.heap.size w w' ∧ ((riseB (commaB s) = false ∧ e = .returned (.tuple #[.slice none 0 0, .bool false])) ∨
    (riseB (commaB s) = true ∧ e = .returned (.tuple #[.slice (some ⟨w.heap.size, 0, none⟩) (commaB s).length (commaB s).length, .bool true]) ∧
      w'.heap[w.heap.size]? = some (.cells ((commaB s).map Value.string).toArray 9 (0, 0))))

set_option maxHeartbeats 1000000 in
theorem Names_calls (s : ByteArray) (m : Int) (w : World) (hs : s.size < 4294967281) (hm : w.cell? ⟨5, 0, none⟩ = some (.int .i64 m)) :
    Calls Tryd.prog 13 #[.string s] w (NamesPost s w) := by
  have hC := Tryd.strings_Split s ⟨#[44]⟩ m w hs hm (by decide)
  have hlen := commaB_len s
  have hle := Lib.countB_le ⟨#[44]⟩ (by decide) s.size s (Nat.le_refl _)
  obtain ⟨l, hl⟩ : ∃ l, commaB s = l := ⟨_, rfl⟩
  unfold commaB at hl
  rw [hl] at hC
  replace hl : commaB s = l := hl
  unfold NamesPost
  rw [hl] at hlen ⊢
  obtain ⟨n, hn⟩ : ∃ n, Lib.countB s ⟨#[44]⟩ + 1 = n := ⟨_, rfl⟩
  rw [hn] at hC hlen
  have hcell0 : ∀ i, i < n → (w.alloc (.cells (l.map Value.string).toArray 9)).cell? ⟨w.heap.size, i, none⟩ = some (.string (l.getD i ByteArray.empty)) := by
    intro i hi
    rw [World.cell?_alloc_new]
    simp [List.getD_eq_getElem?_getD, List.getElem?_eq_getElem (show i < l.length by omega)]
  have hblk0 : (w.alloc (.cells (l.map Value.string).toArray 9)).heap[w.heap.size]? = some (.cells (l.map Value.string).toArray 9 (0, 0)) := heap_alloc_new _ _
  have hsz0 : w.heap.size < (w.alloc (.cells (l.map Value.string).toArray 9)).heap.size := by simp
  obtain ⟨W, hW⟩ : ∃ W, w.alloc (.cells (l.map Value.string).toArray 9) = W := ⟨_, rfl⟩
  have hbW : Below w.heap.size w W := hW ▸ (Below.refl _ w).alloc (Nat.le_refl _) _
  rw [hW] at hC hcell0 hblk0 hsz0
  clear hW
  have hnn : n ≤ 4294967281 := by omega
  have Hl := Lib.hid hlen; clear hlen
  have HC := Lib.hid hcell0; clear hcell0
  have HB := Lib.hid hblk0; clear hblk0
  clear hl hn hle hm hs
  by_cases h32 : n ≤ 32
  · have d0 : decide ((n : Int) > 32) = false := by simp; omega
    go_enter Tryd.func13, Tryd.ntmps13
    go_wp2_with (go_at_call 52; refine hC.mono ?_; rintro e w' ⟨rfl, rfl⟩)
    go_loopw [14] (fun v wr => ∃ k : Nat, k ≤ n ∧ v = .int .i64 k ∧ (∀ i, i < k → goodAt l i = true) ∧ Below w'.heap.size w' wr) (fun v _ => n - (intOf v).toNat)
    case atStart => exact ⟨0, Nat.zero_le _, rfl, fun i hi => absurd hi (Nat.not_lt_zero _), Below.refl _ _⟩
    case round =>
      obtain ⟨k, hk, rfl, hgood, hbr⟩ := hrel
      have HG := Lib.hid hgood; clear hgood
      by_cases hlt : k < n
      · have hx : wr.cell? ⟨w.heap.size, k, none⟩ = some (.string (l.getD k ByteArray.empty)) := (hbr.cell (p := ⟨w.heap.size, k, none⟩) hsz0).trans (HC.out k hlt)
        obtain ⟨x, hxd⟩ : ∃ x, l.getD k ByteArray.empty = x := ⟨_, rfl⟩
        rw [hxd] at hx
        have hN : ∀ ww : World, Calls Tryd.prog 38 #[.string x] ww fun e w' => e = .returned (.bool (nameB x)) ∧ Below ww.heap.size ww w' := fun ww => Name_calls x ww
        have Hx := Lib.hid hxd; clear hxd
        cases hnb : nameB x with
        | false =>
          rw [hnb] at hN
          have hbad : goodAt l k = false := by unfold goodAt; rw [Hx.out, hnb, Bool.false_and]
          have HBad := Lib.hid (rise_no k (by rw [Hl.out]; exact hlt) hbad); clear hbad hnb
          go_wp2_with (go_at_call 38; refine (hN _).mono ?_; rintro e w2 ⟨rfl, hb2⟩)
          go_ret2
          exact ⟨hbW.trans ((hbr.trans (hb2.mono hbr.size)).mono hbW.size), .inl ⟨HBad.out, rfl⟩⟩
        | true =>
          rw [hnb] at hN
          by_cases hk0 : k = 0
          · subst hk0
            have hgd : goodAt l 0 = true := by unfold goodAt; rw [Hx.out, hnb]; simp
            have HGd := Lib.hid hgd; clear hgd hnb
            have hx' : wr.cell? ⟨w.heap.size, 0, none⟩ = some (.string x) := hx
            go_wp2_with (go_at_call 38; refine (hN _).mono ?_; rintro e w2 ⟨rfl, hb2⟩)
            go_roundw
            case rel => exact ⟨1, by omega, by go_num, fun i hi => (by have e : i = 0 := by omega
                                                                       rw [e]; exact HGd.out), hbr.trans (hb2.mono hbr.size)⟩
            case measure => simp [intOf]; omega
          · have hx1 : wr.cell? ⟨w.heap.size, k - 1, none⟩ = some (.string (l.getD (k - 1) ByteArray.empty)) := (hbr.cell (p := ⟨w.heap.size, k - 1, none⟩) hsz0).trans (HC.out (k - 1) (by omega))
            obtain ⟨y, hyd⟩ : ∃ y, l.getD (k - 1) ByteArray.empty = y := ⟨_, rfl⟩
            rw [hyd] at hx1
            have Hy := Lib.hid hyd; clear hyd
            have hk1 : (1 : Int) ≤ k := by omega
            have hszr : w.heap.size < wr.heap.size := Nat.lt_of_lt_of_le hsz0 hbr.size
            have dk : decide ((k : Int) > 0) = true := by simp; omega
            have tn : ((k : Int) - 1).toNat = k - 1 := by omega
            have z0 : (0 : Int) ≤ (k : Int) - 1 := by omega
            have z1 : (k : Int) - 1 < n := by omega
            cases hlb : Op.bytesLess y.toList x.toList with
            | true =>
              have hgd : goodAt l k = true := by unfold goodAt; rw [Hx.out, Hy.out, hnb, hlb]; simp
              have HGd := Lib.hid hgd; clear hgd hnb
              go_wp2_with (go_at_call 38; refine (hN _).mono ?_; rintro e w2 ⟨rfl, hb2⟩; have hx2 := (hb2.cell (p := ⟨w.heap.size, k - 1, none⟩) hszr).trans hx1)
              go_roundw
              case rel =>
                refine ⟨k + 1, by omega, by go_num, fun i hi => ?_, hbr.trans (hb2.mono hbr.size)⟩
                by_cases e : i = k
                · rw [e]; exact HGd.out
                · exact HG.out i (by omega)
              case measure => simp [intOf]; omega
            | false =>
              have hbad : goodAt l k = false := by unfold goodAt; rw [Hx.out, Hy.out, hnb, hlb, decide_eq_false hk0]; rfl
              have HBad := Lib.hid (rise_no k (by rw [Hl.out]; exact hlt) hbad); clear hbad hnb
              go_wp2_with (go_at_call 38; refine (hN _).mono ?_; rintro e w2 ⟨rfl, hb2⟩; have hx2 := (hb2.cell (p := ⟨w.heap.size, k - 1, none⟩) hszr).trans hx1)
              go_ret2
              exact ⟨hbW.trans ((hbr.trans (hb2.mono hbr.size)).mono hbW.size), .inl ⟨HBad.out, rfl⟩⟩
      · go_wp2
        go_ret2
        have e : k = n := by omega
        refine ⟨hbW.trans (hbr.mono hbW.size), .inr ⟨rise_yes (by rw [Hl.out]; exact h32) (fun i hi => HG.out i (by rw [Hl.out] at hi; omega)), ?_, ?_⟩⟩
        · rw [Hl.out]; rfl
        · rw [hbr.block _ hsz0]; exact HB.out
  · have d0 : decide ((n : Int) > 32) = true := by simp; omega
    go_enter Tryd.func13, Tryd.ntmps13
    go_wp2_with (go_at_call 52; refine hC.mono ?_; rintro e w' ⟨rfl, rfl⟩)
    go_ret2
    exact ⟨hbW, .inl ⟨by unfold riseB; rw [decide_eq_false (by rw [Hl.out]; exact h32), Bool.false_and], rfl⟩⟩
end Go.Proofs.YthjekbmgbidcfaaDoor.Lex
