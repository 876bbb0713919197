/- The walks of the reference's Names and Under (paths). -/
import Derived.Test.YthjekbmgbidcfaaDoorPathRef
namespace Go.Proofs.YthjekbmgbidcfaaDoor.Lex
open Go.RowKit Go.Lib Go.Proofs.YthjekbmgbidcfaaDoorW.PrintWords

/-- A slice of texts is handed back. -/
def GivesTexts (l : List ByteArray) (w : World) (e : Ending) (w' : World) : Prop := ∃ A cc, e = .returned (.slice A l.length cc) ∧ l.length ≤ cc ∧ In w' A l ∧ Below w.heap.size w w'
theorem pnames_gives {l : List ByteArray} {w w' : World} {e : Ending} (h : PNames l w e w') : GivesTexts l w e w' := by
  obtain ⟨hb, ⟨rfl, rfl⟩ | ⟨_, g, rfl, ht, hg⟩⟩ := h
  · exact ⟨none, 0, rfl, Nat.le_refl _, fun h => absurd h (by simp), hb⟩
  · exact ⟨_, _, rfl, Nat.le_refl _, fun _ => ⟨_, rfl, hg, ht⟩, hb⟩

set_option maxHeartbeats 1000000 in
theorem RefPathNames_calls (s : ByteArray) (w : World) (hs : s.size ≤ 100000) :
    Calls Tryd.prog 30 #[.string s] w (GivesTexts (pnames s) w) := by
  have hR := RefRight_calls s w hs
  rw [← right_eq] at hR
  cases hr : rightL s.data.toList
  · have hp : pnames s = [] := by unfold pnames; rw [if_pos (.inl hr)]
    rw [hp]
    rw [hr] at hR
    clear hr hp
    go_enter Tryd.func30, Tryd.ntmps30
    go_wp2_with (go_at_call 27; refine hR.mono ?_; rintro e w' ⟨rfl, hb⟩)
    go_ret
    exact ⟨_, _, rfl, Nat.le_refl _, fun h => absurd h (by simp), hb.alloc hb.size _⟩
  · rw [hr] at hR
    by_cases h1 : s.data.toList = [47]
    · have hp : pnames s = [] := by unfold pnames; rw [if_pos (.inr h1)]
      obtain rfl : s = ⟨#[47]⟩ := ByteArray.ext (Array.ext' h1)
      rw [hp]
      clear hr hp h1
      go_enter Tryd.func30, Tryd.ntmps30
      go_wp2_with (go_at_call 27; refine hR.mono ?_; rintro e w' ⟨rfl, hb⟩)
      go_ret
      exact ⟨_, _, rfl, Nat.le_refl _, fun h => absurd h (by simp), hb.alloc hb.size _⟩
    · have hp : pnames s = cutB 47 (s.extract 1 s.size) := by unfold pnames; rw [if_neg (by rintro (h | h); rw [hr] at h; cases h; exact h1 h)]
      rw [hp]
      have ne : (s.toList == [47]) = false := by rw [beq_eq_false_iff_ne, ByteArray.toList_eq]; exact h1
      have h1s : 1 ≤ s.size := by
        have : s.data.toList.length = s.size := Array.length_toList
        cases hd : s.data.toList with
        | nil => rw [hd] at hr; exact absurd hr (by decide)
        | cons b t => rw [hd, List.length_cons] at this; omega
      have hC := fun w2 => RefPieces_calls (s.extract 1 s.size) w2 (by rw [ByteArray.size_extract]; omega)
      obtain ⟨l, hl⟩ : ∃ l, cutB 47 (s.extract 1 s.size) = l := ⟨_, rfl⟩
      rw [hl] at hC ⊢
      clear hr hp h1 hl
      go_enter Tryd.func30, Tryd.ntmps30
      go_wp2_with (first | (go_at_call 27; refine hR.mono ?_; rintro e w2 ⟨rfl, hb2⟩) | (go_at_call 60; refine (hC _).mono ?_; rintro e w3 ⟨A, cc, rfl, hcc, hi, hb3⟩))
      go_ret
      exact ⟨A, cc, rfl, hcc, hi, hb2.trans (hb3.mono hb2.size)⟩

theorem take_extract (s : ByteArray) (n : Nat) : (s.extract 0 n).data.toList = s.data.toList.take n := by
  rw [Lib.extract_data, List.drop_zero, Nat.sub_zero]

set_option maxHeartbeats 2000000 in
theorem RefUnder_calls (top p : ByteArray) (w : World) (ht : top.size ≤ 100000) (hp : p.size ≤ 100000) :
    Calls Tryd.prog 32 #[.string top, .string p] w fun e w' => e = .returned (.bool (underR top.data.toList p.data.toList)) ∧ Below w.heap.size w w' := by
  have hR1 := fun w2 => RefRight_calls top w2 ht
  have hR2 := fun w2 => RefRight_calls p w2 hp
  have l1 : top.data.toList.length = top.size := Array.length_toList
  have l2 : p.data.toList.length = p.size := Array.length_toList
  have hu : underR top.data.toList p.data.toList = (rightR top.data.toList && rightR p.data.toList && (top.data.toList == [47] || p.data.toList == top.data.toList || (decide (top.size < p.size) && p.data.toList.take top.size == top.data.toList && p.data.toList[top.size]? == some 47))) := by
    unfold underR; rw [l1, l2]
  cases r1 : rightR top.data.toList
  · rw [r1] at hR1 hu
    have Hu := Lib.hid hu
    clear hu r1 l1 l2
    go_enter Tryd.func32, Tryd.ntmps32
    go_wp2_with (go_at_call 27; refine (hR1 _).mono ?_; rintro e w' ⟨rfl, hb⟩)
    go_ret
    exact ⟨by rw [Hu.out]; rfl, hb⟩
  · cases r2 : rightR p.data.toList
    · rw [r1, r2] at hu
      rw [r1] at hR1
      rw [r2] at hR2
      have Hu := Lib.hid hu
      clear hu r1 r2 l1 l2
      go_enter Tryd.func32, Tryd.ntmps32
      go_wp2_with fail
      refine (hR1 _).mono ?_; rintro e w1 ⟨rfl, hb1⟩
      go_wp2_with fail
      refine (hR2 _).mono ?_; rintro e w2 ⟨rfl, hb2⟩
      go_wp2
      go_ret
      exact ⟨by rw [Hu.out]; rfl, hb1.trans (hb2.mono hb1.size)⟩
    · rw [r1, r2, Bool.true_and, Bool.true_and] at hu
      rw [r1] at hR1
      rw [r2] at hR2
      clear r1 r2
      by_cases e1 : top.data.toList = [47]
      · have Hu := Lib.hid (show underR top.data.toList p.data.toList = true from by rw [hu, e1]; rfl)
        obtain rfl : top = ⟨#[47]⟩ := ByteArray.ext (Array.ext' e1)
        clear hu e1 l1 l2
        go_enter Tryd.func32, Tryd.ntmps32
        go_wp2_with fail
        refine (hR1 _).mono ?_; rintro e w1 ⟨rfl, hb1⟩
        go_wp2_with fail
        refine (hR2 _).mono ?_; rintro e w2 ⟨rfl, hb2⟩
        go_wp2
        go_ret
        exact ⟨by rw [Hu.out]; rfl, hb1.trans (hb2.mono hb1.size)⟩
      · have n1 : (top.toList == [47]) = false := by rw [beq_eq_false_iff_ne, ByteArray.toList_eq]; exact e1
        rw [beq_eq_false_iff_ne.2 e1, Bool.false_or] at hu
        by_cases e2 : p.data.toList = top.data.toList
        · have n2 : (p.toList == top.toList) = true := by rw [beq_iff_eq, ByteArray.toList_eq, ByteArray.toList_eq]; exact e2
          have Hu := Lib.hid (show underR top.data.toList p.data.toList = true from by rw [hu, e2]; simp)
          clear hu e1 e2 l1 l2
          go_enter Tryd.func32, Tryd.ntmps32
          go_wp2_with fail
          refine (hR1 _).mono ?_; rintro e w1 ⟨rfl, hb1⟩
          go_wp2_with fail
          refine (hR2 _).mono ?_; rintro e w2 ⟨rfl, hb2⟩
          go_wp2
          go_ret
          exact ⟨by rw [Hu.out]; rfl, hb1.trans (hb2.mono hb1.size)⟩
        · have n2 : (p.toList == top.toList) = false := by rw [beq_eq_false_iff_ne, ByteArray.toList_eq, ByteArray.toList_eq]; exact e2
          rw [beq_eq_false_iff_ne.2 e2, Bool.false_or] at hu
          by_cases e3 : top.size < p.size
          · have d3 : decide ((p.size : Int) > (top.size : Int)) = true := decide_eq_true (by omega)
            rw [decide_eq_true e3, Bool.true_and] at hu
            by_cases e4 : p.data.toList.take top.size = top.data.toList
            · have n4 : ((p.extract 0 top.size).toList == top.toList) = true := by rw [beq_iff_eq, ByteArray.toList_eq, ByteArray.toList_eq, take_extract]; exact e4
              rw [e4, List.getElem?_eq_getElem (by omega), Array.getElem_toList] at hu
              by_cases e5 : p[top.size] = 47
              · have n5 : ((p[top.size].toNat : Int) == 47) = true := by rw [e5]; rfl
                have Hu := Lib.hid (show underR top.data.toList p.data.toList = true from by
                  rw [hu]
                  have : p.data[top.size] = 47 := e5
                  rw [this]; simp)
                clear hu e1 e2 e4 e5 l1 l2
                go_enter Tryd.func32, Tryd.ntmps32
                go_wp2_with fail
                refine (hR1 _).mono ?_; rintro e w1 ⟨rfl, hb1⟩
                go_wp2_with fail
                refine (hR2 _).mono ?_; rintro e w2 ⟨rfl, hb2⟩
                go_wp2
                go_ret
                exact ⟨by rw [Hu.out]; rfl, hb1.trans (hb2.mono hb1.size)⟩
              · have n5 : ((p[top.size].toNat : Int) == 47) = false := by
                  rw [beq_eq_false_iff_ne]; intro h; exact e5 (UInt8.toNat_inj.1 (show p[top.size].toNat = 47 by omega))
                have Hu := Lib.hid (show underR top.data.toList p.data.toList = false from by
                  rw [hu]
                  have : ¬ p.data[top.size] = 47 := e5
                  simp [this])
                clear hu e1 e2 e4 e5 l1 l2
                go_enter Tryd.func32, Tryd.ntmps32
                go_wp2_with fail
                refine (hR1 _).mono ?_; rintro e w1 ⟨rfl, hb1⟩
                go_wp2_with fail
                refine (hR2 _).mono ?_; rintro e w2 ⟨rfl, hb2⟩
                go_wp2
                go_ret
                exact ⟨by rw [Hu.out]; rfl, hb1.trans (hb2.mono hb1.size)⟩
            · have n4 : ((p.extract 0 top.size).toList == top.toList) = false := by rw [beq_eq_false_iff_ne, ByteArray.toList_eq, ByteArray.toList_eq, take_extract]; exact e4
              have Hu := Lib.hid (show underR top.data.toList p.data.toList = false from by rw [hu, beq_eq_false_iff_ne.2 e4]; rfl)
              clear hu e1 e2 e4 l1 l2
              go_enter Tryd.func32, Tryd.ntmps32
              go_wp2_with fail
              refine (hR1 _).mono ?_; rintro e w1 ⟨rfl, hb1⟩
              go_wp2_with fail
              refine (hR2 _).mono ?_; rintro e w2 ⟨rfl, hb2⟩
              go_wp2
              go_ret
              exact ⟨by rw [Hu.out]; rfl, hb1.trans (hb2.mono hb1.size)⟩
          · have d3 : decide ((p.size : Int) > (top.size : Int)) = false := decide_eq_false (by omega)
            have Hu := Lib.hid (show underR top.data.toList p.data.toList = false from by rw [hu, decide_eq_false e3]; rfl)
            clear hu e1 e2 l1 l2
            go_enter Tryd.func32, Tryd.ntmps32
            go_wp2_with fail
            refine (hR1 _).mono ?_; rintro e w1 ⟨rfl, hb1⟩
            go_wp2_with fail
            refine (hR2 _).mono ?_; rintro e w2 ⟨rfl, hb2⟩
            go_wp2
            go_ret
            exact ⟨by rw [Hu.out]; rfl, hb1.trans (hb2.mono hb1.size)⟩
end Go.Proofs.YthjekbmgbidcfaaDoor.Lex
