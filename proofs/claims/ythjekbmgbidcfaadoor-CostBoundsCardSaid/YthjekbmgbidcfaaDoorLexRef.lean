/- The walks of the reference's Name, Rise and Same: each answers as the program's own words say. -/
import Derived.Test.YthjekbmgbidcfaaDoorLexJoin
import Derived.Deep.QuietTactic
import Derived.BigQuiet
namespace Go.Proofs.YthjekbmgbidcfaaDoor.Lex
open Go.RowKit Go.Lib

theorem outB_false_iff (lo hi : Nat) (s : ByteArray) : outB lo hi s = false ↔ ∀ i, ∀ h : i < s.size, outP lo hi s[i].toNat = false := by
  unfold outB
  rw [List.any_eq_false]
  constructor
  · intro h i hi'
    have h' : i < s.data.toList.length := by simpa using hi'
    have := h (s.data.toList[i]) (List.getElem_mem h')
    simp only [Bool.not_eq_true] at this
    rw [Array.getElem_toList] at this
    exact this
  · intro h b hb
    obtain ⟨i, hi', rfl⟩ := List.getElem_of_mem hb
    have h' : i < s.size := by simpa using hi'
    rw [Array.getElem_toList]
    simp only [Bool.not_eq_true]
    exact h i h'
theorem nonempty_iff (s : ByteArray) : s.toList.isEmpty = false ↔ 1 ≤ s.size := by
  rw [ByteArray.toList_eq]
  have e : s.data.toList.length = s.size := Array.length_toList
  cases h : s.data.toList with
  | nil =>
    rw [h] at e
    simp only [List.length_nil] at e
    constructor
    · intro h; cases h
    · intro h; omega
  | cons a t =>
    rw [h] at e
    simp only [List.length_cons] at e
    exact ⟨fun _ => by omega, fun _ => rfl⟩

set_option maxHeartbeats 400000 in
theorem RefName_calls (s : ByteArray) (w : World) :
    Calls Tryd.prog 39 #[.string s] w fun e w' => e = .returned (.bool (nameB s)) ∧ w = w' := by
  by_cases h0 : s.size < 1
  · have hn : nameB s = false := by
      unfold nameB
      have : s.toList.isEmpty = true := by
        cases h : s.toList.isEmpty with
        | true => rfl
        | false => rw [nonempty_iff] at h; omega
      rw [this]; rfl
    have Hn := Lib.hid hn; clear hn
    have d : decide ((s.size : Int) < 1) = true := by simp; omega
    clear h0
    go_enter Tryd.func39, Tryd.ntmps39
    go_wp2
    go_ret
    exact ⟨by rw [Hn.out]; rfl, rfl⟩
  · have hne : s.toList.isEmpty = false := by rw [nonempty_iff]; omega
    have d : decide ((s.size : Int) < 1) = false := by simp; omega
    clear h0
    by_cases h16 : s.size ≤ 16
    · have d2 : decide ((s.size : Int) > 16) = false := by simp; omega
      have hn : nameB s = !outB 97 122 s := by unfold nameB; rw [hne, decide_eq_true h16]; simp
      have Hn := Lib.hid hn; clear hn hne
      go_enter Tryd.func39, Tryd.ntmps39
      go_wp2
      go_loop [3] (fun v => ∃ k : Nat, k ≤ s.size ∧ v = .int .i64 k ∧ ∀ i, ∀ h : i < s.size, i < k → outP 97 122 s[i].toNat = false) (fun v => s.size - (intOf v).toNat)
      case atStart => exact ⟨0, Nat.zero_le _, rfl, fun i _ hi => absurd hi (Nat.not_lt_zero _)⟩
      case round =>
        obtain ⟨k, hk, rfl, hg⟩ := hrel
        have HG := Lib.hid hg; clear hg
        by_cases hlt : k < s.size
        · have HK : outP 97 122 s[k].toNat = (decide (s[k].toNat < 97) || decide (122 < s[k].toNat)) := rfl
          have HK' := Lib.hid HK; clear HK
          by_cases c1 : (s[k].toNat : Int) < 97
          · have bad := Lib.hid (show outB 97 122 s = true from by
              cases h : outB 97 122 s with
              | true => rfl
              | false => have := (outB_false_iff 97 122 s).1 h k hlt; rw [HK'.out, decide_eq_true (by omega), Bool.true_or] at this; exact absurd this (by decide))
            have d1 : decide ((s[k].toNat : Int) < 97) = true := decide_eq_true c1
            go_wp2
            go_ret
            exact ⟨by rw [Hn.out, bad.out]; rfl, rfl⟩
          · have d1 : decide ((s[k].toNat : Int) < 97) = false := decide_eq_false c1
            by_cases c2 : (s[k].toNat : Int) > 122
            · have bad := Lib.hid (show outB 97 122 s = true from by
                cases h : outB 97 122 s with
                | true => rfl
                | false => have := (outB_false_iff 97 122 s).1 h k hlt; rw [HK'.out, decide_eq_true (show 122 < s[k].toNat by omega), Bool.or_true] at this; exact absurd this (by decide))
              have d3 : decide ((s[k].toNat : Int) > 122) = true := decide_eq_true c2
              go_wp2
              go_ret
              exact ⟨by rw [Hn.out, bad.out]; rfl, rfl⟩
            · have d3 : decide ((s[k].toNat : Int) > 122) = false := decide_eq_false c2
              have good := Lib.hid (show outP 97 122 s[k].toNat = false from by rw [HK'.out, decide_eq_false (by omega), decide_eq_false (by omega)]; rfl)
              go_wp2
              go_round
              case rel =>
                refine ⟨k + 1, by omega, by go_num, fun i h hi => ?_⟩
                by_cases e : i = k
                · subst e; exact good.out
                · exact HG.out i h (by omega)
              case measure => simp [intOf]; omega
        · go_wp2
          go_ret
          refine ⟨?_, rfl⟩
          rw [Hn.out, (outB_false_iff 97 122 s).2 (fun i h => HG.out i h (by omega))]; rfl
    · have d2 : decide ((s.size : Int) > 16) = true := by simp; omega
      have hn : nameB s = false := by unfold nameB; rw [hne, decide_eq_false h16]; rfl
      have Hn := Lib.hid hn; clear hn hne h16
      go_enter Tryd.func39, Tryd.ntmps39
      go_wp2
      go_ret
      exact ⟨by rw [Hn.out]; rfl, rfl⟩

/-- Rise: names such, one at least. -/
def riseR (l : List ByteArray) : Bool := decide (1 ≤ l.length) && riseB l

set_option maxHeartbeats 1000000 in
theorem Rise_none (a : Option Addr) (c : Nat) (w : World) : Calls Tryd.prog 53 #[.slice a 0 c] w fun e w' => e = .returned (.bool false) ∧ w = w' := by
  go_enter Tryd.func53, Tryd.ntmps53
  go_wp2
  go_ret
  exact ⟨rfl, rfl⟩

set_option maxHeartbeats 1000000 in
theorem Rise_calls (ad : Addr) (c : Nat) (l : List ByteArray) (w : World) (hl : Texts w ad l) (h1 : 1 ≤ l.length) (hm : l.length ≤ 9223372036854775807) :
    Calls Tryd.prog 53 #[.slice (some ad) l.length c] w fun e w' => e = .returned (.bool (riseB l)) ∧ w = w' := by
  have HL := Lib.hid hl; clear hl
  obtain ⟨n, hn⟩ : ∃ n, l.length = n := ⟨_, rfl⟩
  rw [hn] at h1 hm ⊢
  have Hn := Lib.hid hn; clear hn
  have d0 : decide ((n : Int) < 1) = false := by simp; omega
  by_cases h32 : n ≤ 32
  · have d1 : decide ((n : Int) > 32) = false := by simp; omega
    go_enter Tryd.func53, Tryd.ntmps53
    go_wp2
    go_loop [15] (fun v => ∃ k : Nat, k ≤ n ∧ v = .int .i64 k ∧ (∀ i, i < k → goodAt l i = true)) (fun v => n - (intOf v).toNat)
    case atStart => exact ⟨0, Nat.zero_le _, rfl, fun i hi => absurd hi (Nat.not_lt_zero _)⟩
    case round =>
      obtain ⟨k, hk, rfl, hgood⟩ := hrel
      have HG := Lib.hid hgood; clear hgood
      by_cases hlt : k < n
      · have hx : w.cell? (ad.add k) = some (.string (l.getD k ByteArray.empty)) := HL.out k (by rw [Hn.out]; exact hlt)
        obtain ⟨x, hxd⟩ : ∃ x, l.getD k ByteArray.empty = x := ⟨_, rfl⟩
        rw [hxd] at hx
        have hN : ∀ ww : World, Calls Tryd.prog 39 #[.string x] ww fun e w' => e = .returned (.bool (nameB x)) ∧ ww = w' := fun ww => RefName_calls x ww
        have Hx := Lib.hid hxd; clear hxd
        cases hnb : nameB x with
        | false =>
          rw [hnb] at hN
          have hbad : goodAt l k = false := by unfold goodAt; rw [Hx.out, hnb, Bool.false_and]
          have HBad := Lib.hid (rise_no k (by rw [Hn.out]; exact hlt) hbad); clear hbad hnb
          go_wp2_with (go_at_call 39; refine (hN _).mono ?_; rintro e w2 ⟨rfl, rfl⟩)
          go_ret
          exact ⟨by rw [HBad.out]; rfl, rfl⟩
        | true =>
          rw [hnb] at hN
          by_cases hk0 : k = 0
          · subst hk0
            have hgd : goodAt l 0 = true := by unfold goodAt; rw [Hx.out, hnb]; simp
            have HGd := Lib.hid hgd; clear hgd hnb
            have hx' : w.cell? ad = some (.string x) := by rw [← add_zero ad]; exact hx
            go_wp2_with (go_at_call 39; refine (hN _).mono ?_; rintro e w2 ⟨rfl, rfl⟩)
            go_round
            case rel => exact ⟨1, by omega, by go_num, fun i hi => (by have e : i = 0 := by omega
                                                                       rw [e]; exact HGd.out)⟩
            case measure => simp [intOf]; omega
          · have hx1 : w.cell? (ad.add (k - 1)) = some (.string (l.getD (k - 1) ByteArray.empty)) := HL.out (k - 1) (by rw [Hn.out]; omega)
            obtain ⟨y, hyd⟩ : ∃ y, l.getD (k - 1) ByteArray.empty = y := ⟨_, rfl⟩
            rw [hyd] at hx1
            have Hy := Lib.hid hyd; clear hyd
            have hk1 : (1 : Int) ≤ k := by omega
            have dk : decide ((k : Int) > 0) = true := by simp; omega
            have tn : ((k : Int) - 1).toNat = k - 1 := by omega
            have z0 : (0 : Int) ≤ (k : Int) - 1 := by omega
            have z1 : (k : Int) - 1 < n := by omega
            cases hlb : Op.bytesLess y.toList x.toList with
            | true =>
              have hgd : goodAt l k = true := by unfold goodAt; rw [Hx.out, Hy.out, hnb, hlb]; simp
              have HGd := Lib.hid hgd; clear hgd hnb
              go_wp2_with (go_at_call 39; refine (hN _).mono ?_; rintro e w2 ⟨rfl, rfl⟩)
              go_round
              case rel =>
                refine ⟨k + 1, by omega, by go_num, fun i hi => ?_⟩
                by_cases e : i = k
                · rw [e]; exact HGd.out
                · exact HG.out i (by omega)
              case measure => simp [intOf]; omega
            | false =>
              have hbad : goodAt l k = false := by unfold goodAt; rw [Hx.out, Hy.out, hnb, hlb, decide_eq_false hk0]; rfl
              have HBad := Lib.hid (rise_no k (by rw [Hn.out]; exact hlt) hbad); clear hbad hnb
              go_wp2_with (go_at_call 39; refine (hN _).mono ?_; rintro e w2 ⟨rfl, rfl⟩)
              go_ret
              exact ⟨by rw [HBad.out]; rfl, rfl⟩
      · go_wp2
        go_ret
        exact ⟨by rw [rise_yes (by rw [Hn.out]; exact h32) (fun i hi => HG.out i (by rw [Hn.out] at hi; omega))]; rfl, rfl⟩
  · have d1 : decide ((n : Int) > 32) = true := by simp; omega
    have hr := Lib.hid (show riseB l = false by unfold riseB; rw [decide_eq_false (by rw [Hn.out]; exact h32), Bool.false_and])
    go_enter Tryd.func53, Tryd.ntmps53
    go_wp2
    go_ret
    exact ⟨by rw [hr.out]; rfl, rfl⟩

set_option maxHeartbeats 1000000 in
theorem Same_lens (a1 a2 : Option Addr) (n c m d : Nat) (w : World) (h : n ≠ m) :
    Calls Tryd.prog 15 #[.slice a1 n c, .slice a2 m d] w fun e w' => e = .returned (.bool false) ∧ ∃ q, w' = w.drewN q := by
  have d0 : ((n : Int) != (m : Int)) = true := by rw [bne_iff_ne]; omega
  go_enter Tryd.func15, Tryd.ntmps15
  go_wp2
  go_ret
  exact ⟨rfl, 0, rfl⟩

/-- Same: of two rows of one length. -/
theorem same_false {l l' : List ByteArray} (k : Nat) (h : l.getD k ByteArray.empty ≠ l'.getD k ByteArray.empty) : decide (l = l') = false :=
  decide_eq_false fun e => h (by rw [e])
theorem same_true {l l' : List ByteArray} (hl : l.length = l'.length) (h : ∀ i, i < l.length → l.getD i ByteArray.empty = l'.getD i ByteArray.empty) : decide (l = l') = true := by
  refine decide_eq_true (List.ext_getElem hl fun i h1 h2 => ?_)
  have := h i h1
  rw [List.getD_eq_getElem?_getD, List.getD_eq_getElem?_getD, List.getElem?_eq_getElem h1, List.getElem?_eq_getElem h2] at this
  exact this

set_option maxHeartbeats 1000000 in
theorem Same_calls (a1 a2 : Option Addr) (c d : Nat) (l l' : List ByteArray) (w : World) (hn : l.length = l'.length) (hm : l.length ≤ 9223372036854775807)
    (h1 : 0 < l.length → ∃ ad, a1 = some ad ∧ Texts w ad l) (h2 : 0 < l.length → ∃ ad, a2 = some ad ∧ Texts w ad l') :
    Calls Tryd.prog 15 #[.slice a1 l.length c, .slice a2 l'.length d] w fun e w' => e = .returned (.bool (decide (l = l'))) ∧ ∃ q, w' = w.drewN q := by
  have H1 := Lib.hid h1; clear h1
  have H2 := Lib.hid h2; clear h2
  rw [← hn]
  obtain ⟨n, hn'⟩ : ∃ n, l.length = n := ⟨_, rfl⟩
  have Hn := Lib.hid hn; clear hn
  rw [hn'] at hm ⊢
  have Hl := Lib.hid hn'; clear hn'
  have d0 : ((n : Int) != (n : Int)) = false := by simp
  go_enter Tryd.func15, Tryd.ntmps15
  go_wp2
  go_loopw [13] (fun v wr => ∃ k : Nat, k ≤ n ∧ v = .int .i64 k ∧ (∀ i, i < k → l.getD i ByteArray.empty = l'.getD i ByteArray.empty) ∧ ∃ q, wr = w.drewN q) (fun v _ => n - (intOf v).toNat)
  case atStart => exact ⟨0, Nat.zero_le _, rfl, fun i hi => absurd hi (Nat.not_lt_zero _), 0, rfl⟩
  case round =>
    obtain ⟨k, hk, rfl, hg, q, rfl⟩ := hrel
    have HG := Lib.hid hg; clear hg
    by_cases hlt : k < n
    · obtain ⟨ad1, rfl, t1⟩ := H1.out (by rw [Hl.out]; omega)
      obtain ⟨ad2, rfl, t2⟩ := H2.out (by rw [Hl.out]; omega)
      have hx : w.cell? (ad1.add k) = some (.string (l.getD k ByteArray.empty)) := t1 k (by rw [Hl.out]; exact hlt)
      have hy : w.cell? (ad2.add k) = some (.string (l'.getD k ByteArray.empty)) := t2 k (by rw [← Hn.out, Hl.out]; exact hlt)
      clear t1 t2
      obtain ⟨x, hxd⟩ : ∃ x, l.getD k ByteArray.empty = x := ⟨_, rfl⟩
      obtain ⟨y, hyd⟩ : ∃ y, l'.getD k ByteArray.empty = y := ⟨_, rfl⟩
      rw [hxd] at hx
      rw [hyd] at hy
      have Hx := Lib.hid hxd; clear hxd
      have Hy := Lib.hid hyd; clear hyd
      have z0 : (0 : Int) ≤ (k : Int) := by omega
      have z1 : (k : Int) < n := by omega
      by_cases e : x = y
      · subst e
        go_wp2
        go_quiet (fail)
        go_wp2
        go_roundw
        case rel =>
          refine ⟨k + 1, by omega, by go_num, fun i hi => ?_, _, rfl⟩
          by_cases e : i = k
          · rw [e, Hx.out, Hy.out]
          · exact HG.out i (by omega)
        case measure => simp [intOf]; omega
      · have bad := Lib.hid (same_false (l := l) (l' := l') k (by rw [Hx.out, Hy.out]; exact e))
        have ne : (x.toList == y.toList) = false := beq_eq_false_iff_ne.2 fun h => e (by
          rw [ByteArray.toList_eq, ByteArray.toList_eq] at h
          exact ByteArray.ext (Array.ext' h))
        clear e
        go_wp2
        go_quiet (fail)
        go_wp2
        go_ret
        exact ⟨by rw [bad.out]; rfl, _, World.drewN_drewN ..⟩
    · go_wp2
      go_ret
      exact ⟨by rw [same_true (Hn.out) (fun i hi => HG.out i (by rw [Hl.out] at hi; omega))]; rfl, q, rfl⟩

set_option maxHeartbeats 1000000 in
theorem lexAlive_calls (m : Int) (w : World) (hm : w.cell? ⟨5, 0, none⟩ = some (.int .i64 m)) :
    Calls Tryd.prog 11 #[] w fun e w' => e = .returned (.bool true) ∧ Below w.heap.size w w' := by
  have h1 : riseB (commaB ⟨#[108, 105, 115, 116, 44, 114, 101, 97, 100]⟩) = true := by decide +kernel
  have h1l : (commaB ⟨#[108, 105, 115, 116, 44, 114, 101, 97, 100]⟩).length = 2 := by decide +kernel
  have h2 : riseB (commaB ⟨#[114, 101, 97, 100, 44, 108, 105, 115, 116]⟩) = false := by decide +kernel
  have hN1 := Names_calls ⟨#[108, 105, 115, 116, 44, 114, 101, 97, 100]⟩ m w (by decide) hm
  have hN2 : ∀ w1, Below w.heap.size w w1 → Calls Tryd.prog 13 #[.string ⟨#[114, 101, 97, 100, 44, 108, 105, 115, 116]⟩] w1 (NamesPost ⟨#[114, 101, 97, 100, 44, 108, 105, 115, 116]⟩ w1) := fun w1 hb1 => Names_calls _ m w1 (by decide) ((hb1.cell (p := ⟨5, 0, none⟩) (World.block_lt_of_cell? _ _ hm)).trans hm)
  have H1 := Lib.hid h1; clear h1
  have H1l := Lib.hid h1l; clear h1l
  have H2 := Lib.hid h2; clear h2
  clear hm
  go_enter Tryd.func11, Tryd.ntmps11
  go_wp2_with fail
  refine hN1.mono ?_
  rintro e w1 ⟨hb1, ⟨hr, _⟩ | ⟨_, rfl, _⟩⟩
  · exact absurd (H1.out.symm.trans hr) (by decide)
  rw [H1l.out]
  go_wp2_with fail
  refine (hN2 _ hb1).mono ?_
  rintro e w2 ⟨hb2, ⟨_, rfl⟩ | ⟨hr, _⟩⟩
  · go_wp2
    go_ret
    exact ⟨rfl, hb1.trans (hb2.mono hb1.size)⟩
  · exact absurd (H2.out.symm.trans hr) (by decide)
end Go.Proofs.YthjekbmgbidcfaaDoor.Lex
