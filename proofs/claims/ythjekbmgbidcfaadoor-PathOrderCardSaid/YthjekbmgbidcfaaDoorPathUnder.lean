/- The walks of path.Right, path.Names, path.Under. -/
import Derived.Test.YthjekbmgbidcfaaDoorPathNormal
import Derived.Test.YthjekbmgbidcfaaDoorLexJoin
namespace Go.Proofs.YthjekbmgbidcfaaDoor.Lex
open Go.RowKit Go.Lib

theorem right_is (s : ByteArray) : rightL s.data.toList = (normB s && decide (s = normS s)) := by
  unfold rightL normB normS
  cases h : normalL s.data.toList with
  | none => rfl
  | some p =>
    show (some p == some s.data.toList) = (true && decide (s = ⟨p.toArray⟩))
    rw [Bool.true_and, Bool.eq_iff_iff, beq_iff_eq, decide_eq_true_eq]
    constructor
    · intro e
      injection e with e
      exact ByteArray.ext (Array.ext' (by rw [← e]))
    · intro e
      have := congrArg (fun b : ByteArray => b.data.toList) e
      simp only at this
      rw [this]
theorem Right_calls (s : ByteArray) (w : World) (hs : s.size ≤ 100000) :
    Calls Tryd.prog 26 #[.string s] w fun e w' => e = .returned (.bool (rightL s.data.toList)) ∧ Below w.heap.size w w' := by
  have hN := Normal_calls s w hs
  rw [right_is]
  cases hb : normB s
  · rw [hb] at hN
    go_enter Tryd.func26, Tryd.ntmps26
    go_wp2_with (go_at_call 24; refine hN.mono ?_; rintro e w' ⟨rfl, hb⟩)
    go_ret
    exact ⟨rfl, hb⟩
  · rw [hb] at hN
    obtain ⟨x, hx⟩ : ∃ x, normS s = x := ⟨_, rfl⟩
    rw [hx] at hN ⊢
    by_cases he : s = x
    · subst he
      rw [decide_eq_true rfl]
      clear hx hb
      go_enter Tryd.func26, Tryd.ntmps26
      go_wp2_with (go_at_call 24; refine hN.mono ?_; rintro e w' ⟨rfl, hb⟩)
      go_ret
      exact ⟨rfl, hb⟩
    · rw [decide_eq_false he]
      have ne : (s.toList == x.toList) = false := by
        rw [beq_eq_false_iff_ne, ByteArray.toList_eq, ByteArray.toList_eq]
        exact fun h => he (ByteArray.ext (Array.ext' h))
      clear hx hb he
      go_enter Tryd.func26, Tryd.ntmps26
      go_wp2_with (go_at_call 24; refine hN.mono ?_; rintro e w' ⟨rfl, hb⟩)
      go_ret
      exact ⟨rfl, hb⟩

/-- A path's names, as texts. -/
def pnames (s : ByteArray) : List ByteArray := if rightL s.data.toList = false ∨ s.data.toList = [47] then [] else cutB 47 (s.extract 1 s.size)
theorem extract_tail (s : ByteArray) : (s.extract 1 s.size).data.toList = s.data.toList.tail := by
  rw [Lib.extract_data]
  have : s.data.toList.length = s.size := Array.length_toList
  rw [List.drop_one]
  exact List.take_of_length_le (by rw [List.length_tail]; omega)
theorem pnames_data (s : ByteArray) : (pnames s).map (·.data.toList) = namesL s.data.toList := by
  unfold pnames namesL
  split
  · rfl
  · rw [cutB_data, extract_tail]
theorem cutB_pos (c : UInt8) (s : ByteArray) : cutB c s ≠ [] := by
  intro h
  have := cutB_data c s
  rw [h] at this
  exact pieces_ne c _ this.symm

/-- What Names gives: nil, or the names in a new block. -/
def PNames (l : List ByteArray) (w : World) (e : Ending) (w' : World) : Prop :=
  Below w.heap.size w w' ∧ ((l = [] ∧ e = .returned (.slice none 0 0)) ∨
    (l ≠ [] ∧ ∃ g, e = .returned (.slice (some ⟨g, 0, none⟩) l.length l.length) ∧ Texts w' ⟨g, 0, none⟩ l ∧ g < w'.heap.size))

theorem PathNames_calls (s : ByteArray) (m : Int) (w : World) (hs : s.size ≤ 100000) (hm : w.cell? ⟨5, 0, none⟩ = some (.int .i64 m)) :
    Calls Tryd.prog 29 #[.string s] w (PNames (pnames s) w) := by
  have hR := Right_calls s w hs
  cases hr : rightL s.data.toList
  · have hp : pnames s = [] := by unfold pnames; rw [if_pos (.inl hr)]
    rw [hp]
    rw [hr] at hR
    clear hr hp hm
    go_enter Tryd.func29, Tryd.ntmps29
    go_wp2_with (go_at_call 26; refine hR.mono ?_; rintro e w' ⟨rfl, hb⟩)
    go_ret
    exact ⟨hb, .inl ⟨rfl, rfl⟩⟩
  · rw [hr] at hR
    by_cases h1 : s.data.toList = [47]
    · have hp : pnames s = [] := by unfold pnames; rw [if_pos (.inr h1)]
      obtain rfl : s = ⟨#[47]⟩ := ByteArray.ext (Array.ext' h1)
      rw [hp]
      clear hr hp hm h1
      go_enter Tryd.func29, Tryd.ntmps29
      go_wp2_with (go_at_call 26; refine hR.mono ?_; rintro e w' ⟨rfl, hb⟩)
      go_ret
      exact ⟨hb, .inl ⟨rfl, rfl⟩⟩
    · have hp : pnames s = cutB 47 (s.extract 1 s.size) := by unfold pnames; rw [if_neg (by rintro (h | h); rw [hr] at h; cases h; exact h1 h)]
      rw [hp]
      have ne : (s.toList == [47]) = false := by rw [beq_eq_false_iff_ne, ByteArray.toList_eq]; exact h1
      have h1s : 1 ≤ s.size := by
        have : s.data.toList.length = s.size := Array.length_toList
        cases hd : s.data.toList with
        | nil => rw [hd] at hr; exact absurd hr (by decide)
        | cons b t => rw [hd, List.length_cons] at this; omega
      have hC : ∀ w2, Below w.heap.size w w2 → Calls Tryd.prog 52 #[.string (s.extract 1 s.size), .string ⟨#[47]⟩] w2 fun e w' => e = .returned (.slice (some ⟨w2.heap.size, 0, none⟩) (cutB 47 (s.extract 1 s.size)).length (cutB 47 (s.extract 1 s.size)).length) ∧ w' = w2.alloc (.cells ((cutB 47 (s.extract 1 s.size)).map Value.string).toArray 9) := by
        intro w2 hb2
        have h := Tryd.strings_Split (s.extract 1 s.size) ⟨#[47]⟩ m w2 (by rw [ByteArray.size_extract]; omega) ((hb2.cell (p := ⟨5, 0, none⟩) (World.block_lt_of_cell? _ _ hm)).trans hm) (by decide)
        have hl : (cutB 47 (s.extract 1 s.size)).length = Lib.countB (s.extract 1 s.size) ⟨#[47]⟩ + 1 := Lib.splitB_all _ (by decide) 0 _ _ rfl
        rw [hl]
        exact h
      have hne := cutB_pos 47 (s.extract 1 s.size)
      obtain ⟨l, hl⟩ : ∃ l, cutB 47 (s.extract 1 s.size) = l := ⟨_, rfl⟩
      rw [hl] at hC hne ⊢
      clear hr hp h1 hl
      go_enter Tryd.func29, Tryd.ntmps29
      go_wp2_with (first | (go_at_call 26; refine hR.mono ?_; rintro e w2 ⟨rfl, hb2⟩) | (go_at_call 52; refine (hC _ hb2).mono ?_; rintro e w3 ⟨rfl, rfl⟩))
      go_ret
      exact ⟨hb2.alloc hb2.size _, .inr ⟨hne, _, rfl, texts_of_block (heap_alloc_new _ _), by simp⟩⟩

theorem under_is {top p : ByteArray} (h1 : rightL top.data.toList = true) (h2 : rightL p.data.toList = true) : underL top.data.toList p.data.toList = decide ((pnames top) <+: (pnames p)) := by
  unfold underL
  rw [h1, h2, Bool.true_and, Bool.true_and, ← pnames_data, ← pnames_data, Bool.eq_iff_iff, decide_eq_true_eq, decide_eq_true_eq]
  constructor
  · intro h
    rw [List.prefix_iff_eq_take] at h ⊢
    rw [← List.map_take] at h
    rw [List.length_map] at h
    exact cutB_inj h
  · rintro ⟨t, ht⟩
    exact ⟨t.map (·.data.toList), by rw [← List.map_append, ht]⟩

theorem pnames_len (s : ByteArray) (hs : s.size ≤ 100000) : (pnames s).length ≤ 100001 := by
  unfold pnames
  split
  · exact Nat.zero_le _
  · have h2 : (cutB 47 (s.extract 1 s.size)).length = Lib.countB (s.extract 1 s.size) ⟨#[47]⟩ + 1 := Lib.splitB_all _ (by decide) 0 _ _ rfl
    have h3 := Lib.countB_le ⟨#[47]⟩ (by decide) (s.extract 1 s.size).size (s.extract 1 s.size) (Nat.le_refl _)
    have h4 : (s.extract 1 s.size).size ≤ 100000 := by rw [ByteArray.size_extract]; omega
    omega

set_option maxHeartbeats 2000000 in
theorem Under_calls (top p : ByteArray) (m : Int) (w : World) (ht : top.size ≤ 100000) (hp : p.size ≤ 100000) (hm : w.cell? ⟨5, 0, none⟩ = some (.int .i64 m)) :
    Calls Tryd.prog 31 #[.string top, .string p] w fun e w' => e = .returned (.bool (underL top.data.toList p.data.toList)) ∧ Below w.heap.size w w' := by
  have hR1 := fun w2 => Right_calls top w2 ht
  have hR2 := fun w2 => Right_calls p w2 hp
  cases r1 : rightL top.data.toList
  · have hu : underL top.data.toList p.data.toList = false := by unfold underL; rw [r1]; rfl
    rw [hu]
    rw [r1] at hR1
    clear hu r1 hm
    go_enter Tryd.func31, Tryd.ntmps31
    go_wp2_with (go_at_call 26; refine (hR1 _).mono ?_; rintro e w' ⟨rfl, hb⟩)
    go_ret
    exact ⟨rfl, hb⟩
  · cases r2 : rightL p.data.toList
    · have hu : underL top.data.toList p.data.toList = false := by unfold underL; rw [r1, r2]; rfl
      rw [hu]
      rw [r1] at hR1
      rw [r2] at hR2
      clear hu r1 r2 hm
      go_enter Tryd.func31, Tryd.ntmps31
      go_wp2_with fail
      refine (hR1 _).mono ?_; rintro e w1 ⟨rfl, hb1⟩
      go_wp2_with fail
      refine (hR2 _).mono ?_; rintro e w2 ⟨rfl, hb2⟩
      go_wp2
      go_ret
      exact ⟨rfl, hb1.trans (hb2.mono hb1.size)⟩
    · rw [under_is r1 r2]
      rw [r1] at hR1
      rw [r2] at hR2
      have hN1 : ∀ w2, Below w.heap.size w w2 → Calls Tryd.prog 29 #[.string top] w2 (PNames (pnames top) w2) := fun w2 hb => PathNames_calls top m w2 ht ((hb.cell (p := ⟨5, 0, none⟩) (World.block_lt_of_cell? _ _ hm)).trans hm)
      have hN2 : ∀ w2, Below w.heap.size w w2 → Calls Tryd.prog 29 #[.string p] w2 (PNames (pnames p) w2) := fun w2 hb => PathNames_calls p m w2 hp ((hb.cell (p := ⟨5, 0, none⟩) (World.block_lt_of_cell? _ _ hm)).trans hm)
      have l1 := pnames_len top ht
      have l2 := pnames_len p hp
      obtain ⟨a, ha⟩ : ∃ a, pnames top = a := ⟨_, rfl⟩
      obtain ⟨b, hb⟩ : ∃ b, pnames p = b := ⟨_, rfl⟩
      rw [ha] at hN1 l1 ⊢
      rw [hb] at hN2 l2 ⊢
      have HM := Lib.hid hm
      clear ha hb r1 r2 hm ht hp
      obtain ⟨q, hq⟩ : ∃ q, decide (a <+: b) = q := ⟨_, rfl⟩
      rw [hq]
      have Hq := Lib.hid hq
      clear hq
      go_enter Tryd.func31, Tryd.ntmps31
      go_wp2_with fail
      refine (hR1 _).mono ?_; rintro e w1 ⟨rfl, hb1⟩
      go_wp2_with fail
      refine (hR2 _).mono ?_; rintro e w2 ⟨rfl, hb2⟩
      have hb12 := hb1.trans (hb2.mono hb1.size)
      go_wp2_with fail
      refine (hN1 _ hb12).mono ?_
      rintro e w3 ⟨hb3, hA⟩
      have hb13 := hb12.trans (hb3.mono hb12.size)
      rcases hA with ⟨rfl, rfl⟩ | ⟨hne, g1, rfl, ht1, hg1⟩
      · -- no name: whatever the other one has
        go_wp2_with fail
        refine (hN2 _ hb13).mono ?_
        rintro e w4 ⟨hb4, hB⟩
        have hb14 := hb13.trans (hb4.mono hb13.size)
        rcases hB with ⟨rfl, rfl⟩ | ⟨hne, g2, rfl, ht2, hg2⟩
        · go_wp2_with (go_at_call 51; refine (Tryd.slices_Equal_string_empty _ _ _ _ _ _ (by omega)).mono ?_; rintro e w5 ⟨rfl, rfl⟩)
          go_ret
          exact ⟨by rw [← Hq.out]; simp, hb14⟩
        · go_wp2_with (go_at_call 51; refine (Tryd.slices_Equal_string_empty _ _ _ _ _ _ (by omega)).mono ?_; rintro e w5 ⟨rfl, rfl⟩)
          go_ret
          exact ⟨by rw [← Hq.out]; simp, hb14⟩
      · go_wp2_with fail
        refine (hN2 _ hb13).mono ?_
        rintro e w4 ⟨hb4, hB⟩
        have hb14 := hb13.trans (hb4.mono hb13.size)
        have hpos : 0 < a.length := List.length_pos_iff.2 hne
        rcases hB with ⟨rfl, rfl⟩ | ⟨hne2, g2, rfl, ht2, hg2⟩
        · have d : decide ((a.length : Int) ≤ 0) = false := decide_eq_false (by omega)
          have hf := Lib.hid (show decide (a <+: []) = false from decide_eq_false (fun h => hne (List.prefix_nil.1 h)))
          clear hpos
          go_wp2
          go_ret
          exact ⟨by rw [← Hq.out, hf.out]; rfl, hb14⟩
        · by_cases hle : a.length ≤ b.length
          · have d : decide ((a.length : Int) ≤ (b.length : Int)) = true := decide_eq_true (by omega)
            have c1 : ∀ j, j < a.length → w4.cell? ⟨g1, 0 + j, none⟩ = _ := fun j hj => (congrArg w4.cell? (add_own g1 0 j)).symm.trans ((ht1.below hb4 hg1) j hj)
            have c2 : ∀ j, j < b.length → w4.cell? ⟨g2, 0 + j, none⟩ = _ := fun j hj => (congrArg w4.cell? (add_own g2 0 j)).symm.trans (ht2 j hj)
            have hE := Tryd.slices_Equal_string g1 0 a.length a.length g2 0 a.length b.length a b w4 (Nat.le_refl _) hle (by omega) (by omega) c1 c2
            rw [List.take_length] at hE
            have hv : decide (a = b.take a.length) = decide (a <+: b) := by
              rw [Bool.eq_iff_iff, decide_eq_true_eq, decide_eq_true_eq, List.prefix_iff_eq_take]
            rw [hv, Hq.out] at hE
            clear c1 c2 hv ht1 ht2
            go_wp2_with (go_at_call 51; refine hE.mono ?_; rintro e w5 ⟨rfl, k, rfl⟩)
            go_ret
            exact ⟨rfl, below_drewN' hb14 k⟩
          · have d : decide ((a.length : Int) ≤ (b.length : Int)) = false := decide_eq_false (by omega)
            have hf := Lib.hid (show decide (a <+: b) = false from decide_eq_false (fun h => hle h.length_le))
            go_wp2
            go_ret
            exact ⟨by rw [← Hq.out, hf.out]; rfl, hb14⟩
end Go.Proofs.YthjekbmgbidcfaaDoor.Lex
