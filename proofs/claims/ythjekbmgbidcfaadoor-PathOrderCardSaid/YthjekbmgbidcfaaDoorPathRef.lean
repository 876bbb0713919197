/- The walks of the reference's pieces, Right, Names, Under (paths). -/
import Derived.Test.YthjekbmgbidcfaaDoorRefSplit
import Derived.Test.YthjekbmgbidcfaaDoorPathRefName
import Derived.Test.YthjekbmgbidcfaaDoorPathUnder
namespace Go.Proofs.YthjekbmgbidcfaaDoor.Lex
open Go.RowKit Go.Lib Go.Proofs.YthjekbmgbidcfaaDoorW.PrintWords

set_option maxHeartbeats 2000000 in
theorem Pieces47_calls (s : ByteArray) (w : World) (hs : s.size ≤ 100000) :
    Calls Tryd.prog 60 #[.string s] w fun e w' => ∃ l A cc, e = .returned (.slice A l.length cc) ∧ Pieces 47 s l ∧ Kd.string.R 9 w' w.heap.size (fun _ => True) (.slice A l.length cc) l ∧ Below w.heap.size w w' := by
  have HO := Lib.hid (Kd.R_of_own (enc := Value.string) (h1 := fun _ => rfl) (ok := fun _ => True) (by have := World.ownsRow_lit (base := w.heap.size) (e := 9) (size := 1) w #[] 0 (Nat.le_refl _) (by decide) rfl; exact this) (fun _ _ => trivial) : Kd.string.R 9 (w.alloc (.cells #[] 9)) w.heap.size (fun _ => True) (.slice (some ⟨w.heap.size, 0, none⟩) 0 0) [])
  go_enter Tryd.func60, Tryd.ntmps60
  go_wp2
  go_loopw [3, 4, 5] (fun v5 v6 v7 wr => ∃ (k f : Nat) (done : List ByteArray), k ≤ s.size + 1 ∧ v7 = .int .i64 k ∧ v6 = .int .i64 f ∧ (k ≤ s.size → Cut 47 s k f done) ∧ (k = s.size + 1 → done.map (·.data.toList) = pieces 47 s.data.toList) ∧ Kd.string.R 9 wr w.heap.size (fun _ => True) v5 done ∧ Below w.heap.size w wr) (fun _ _ v _ => s.size + 1 - (intOf v).toNat)
  case atStart => exact ⟨0, 0, [], Nat.zero_le _, rfl, rfl, fun _ => cut_start 47 s, fun h => absurd h (by omega), HO.out, (Below.refl _ _).alloc (Nat.le_refl _) _⟩
  case round =>
    obtain ⟨k, f, done, hk, rfl, rfl, hcut, hend, hown, hbw⟩ := hrel
    have HC := Lib.hid hcut; clear hcut
    have HE := Lib.hid hend; clear hend
    have HW := Lib.hid hown; clear hown
    by_cases hk1 : k = s.size + 1
    · have d : decide ((k : Int) ≤ (s.size : Int)) = false := by simp; omega
      go_wp2
      obtain ⟨A, cc, rfl⟩ := Kd.R_slice HW.out
      go_ret
      exact ⟨done, A, cc, rfl, HE.out hk1, HW.out, hbw⟩
    · obtain ⟨A, cc, rfl⟩ := Kd.R_slice HW.out
      have hcut := HC.out (by omega)
      have hf := hcut.1
      have hdl := cut_len hcut (by omega)
      have hc2 := Lib.hid hcut; clear hcut HC HE
      have d : decide ((k : Int) ≤ (s.size : Int)) = true := by simp; omega
      by_cases hks : k = s.size
      · have d2 : ((k : Int) == (s.size : Int)) = true := by rw [beq_iff_eq]; omega
        have Hks := Lib.hid hks; clear hks
        go_wp2_with (at_builtin; refine Kd.R_append Kd.string (w0 := w) w.heap.size rfl (.tmp 23) (.tmp 28) 22 9 (.string ByteArray.empty) 16 rfl Tryd.underlying22 info9 rfl (by decide) (by omega) (.slice A done.length cc) done (s.extract f k) [.string (s.extract f k)] (fun _ => True) (fun _ => False) rfl rfl rfl (fun _ h => h.elim) (fun _ _ => trivial) HW.out hbw hbw.size (by omega) ?_; intro v1 w1 ho hb1 hg1 hat; clear hg1 hat)
        go_roundw
        case rel =>
          refine ⟨k + 1, k + 1, done ++ [s.extract f k], by omega, by go_num, by go_num, fun h => absurd h (by have := Hks.out; omega), fun _ => ?_, ho, hb1⟩
          have e := Hks.out
          subst e
          exact cut_end hc2.out
        case measure => simp [intOf]; omega
      · have hlt : k < s.size := by omega
        have d2 : ((k : Int) == (s.size : Int)) = false := by rw [beq_eq_false_iff_ne]; omega
        by_cases hb : s[k] = 47
        · have d3 : ((s[k].toNat : Int) == 47) = true := by rw [hb]; rfl
          have Hb := Lib.hid hb; clear hb
          go_wp2_with (at_builtin; refine Kd.R_append Kd.string (w0 := w) w.heap.size rfl (.tmp 23) (.tmp 28) 22 9 (.string ByteArray.empty) 16 rfl Tryd.underlying22 info9 rfl (by decide) (by omega) (.slice A done.length cc) done (s.extract f k) [.string (s.extract f k)] (fun _ => True) (fun _ => False) rfl rfl rfl (fun _ h => h.elim) (fun _ _ => trivial) HW.out hbw hbw.size (by omega) ?_; intro v1 w1 ho hb1 hg1 hat; clear hg1 hat)
          go_roundw
          case rel => exact ⟨k + 1, k + 1, done ++ [s.extract f k], by omega, by go_num, by go_num, fun _ => cut_sep hc2.out hlt Hb.out, fun h => absurd h (by omega), ho, hb1⟩
          case measure => simp [intOf]; omega
        · have d3 : ((s[k].toNat : Int) == 47) = false := by
            rw [beq_eq_false_iff_ne]
            intro h
            exact hb (UInt8.toNat_inj.1 (show s[k].toNat = 47 by omega))
          go_wp2
          go_roundw
          case rel => exact ⟨k + 1, f, done, by omega, by go_num, rfl, fun _ => cut_go hc2.out hlt hb, fun h => absurd h (by omega), HW.out, hbw⟩
          case measure => simp [intOf]; omega

/-- The pieces of a text, as the reference cuts them. -/
theorem RefPieces_calls (s : ByteArray) (w : World) (hs : s.size ≤ 100000) :
    Calls Tryd.prog 60 #[.string s] w fun e w' => ∃ A cc, e = .returned (.slice A (cutB 47 s).length cc) ∧ (cutB 47 s).length ≤ cc ∧ In w' A (cutB 47 s) ∧ Below w.heap.size w w' := by
  refine (Pieces47_calls s w hs).mono ?_
  rintro e w' ⟨l, A, cc, rfl, hp, hR, hb⟩
  obtain rfl : l = cutB 47 s := map_data_inj (hp.trans (cutB_data 47 s).symm)
  obtain ⟨_, h2, h3⟩ := R_In hR
  exact ⟨A, cc, rfl, h2, h3, hb⟩

theorem cutB_len47 (s : ByteArray) (hs : s.size ≤ 100000) : (cutB 47 s).length ≤ 100001 := by
  have h2 : (cutB 47 s).length = Lib.countB s ⟨#[47]⟩ + 1 := Lib.splitB_all _ (by decide) 0 _ _ rfl
  have h3 := Lib.countB_le ⟨#[47]⟩ (by decide) s.size s (Nat.le_refl _)
  omega
theorem head_at (s : ByteArray) (h : 0 < s.size) : s.data.toList.head? = some s[0] := by
  have : s.data.toList.length = s.size := Array.length_toList
  rw [List.head?_eq_getElem?, List.getElem?_eq_getElem (by omega), Array.getElem_toList]; rfl
theorem rightR_rest {s : ByteArray} (h1 : s.data.toList ≠ [47]) (h2 : s.size ≤ 256) (h3 : 0 < s.size) (h4 : s[0] = 47) : rightR s.data.toList = (cutB 47 (s.extract 1 s.size)).all fun x => wordL x.data.toList := by
  have hl : s.data.toList.length = s.size := Array.length_toList
  unfold rightR
  rw [beq_eq_false_iff_ne.2 h1, hl, decide_eq_true h2, head_at s h3, h4, ← extract_tail, ← cutB_data, List.all_map]
  simp
  rfl
theorem all_words {l : List ByteArray} : (l.all fun x => wordL x.data.toList) = true ↔ ∀ i, i < l.length → wordL (l.getD i ByteArray.empty).data.toList = true := by
  rw [List.all_eq_true]
  constructor
  · intro h i hi
    rw [List.getD_eq_getElem?_getD, List.getElem?_eq_getElem hi]
    exact h _ (List.getElem_mem hi)
  · intro h x hx
    obtain ⟨i, hi, rfl⟩ := List.getElem_of_mem hx
    have := h i hi
    rwa [List.getD_eq_getElem?_getD, List.getElem?_eq_getElem hi] at this

set_option maxHeartbeats 2000000 in
theorem RefRight_calls (s : ByteArray) (w : World) (hs : s.size ≤ 100000) :
    Calls Tryd.prog 27 #[.string s] w fun e w' => e = .returned (.bool (rightR s.data.toList)) ∧ Below w.heap.size w w' := by
  have hl : s.data.toList.length = s.size := Array.length_toList
  by_cases h1 : s.data.toList = [47]
  · obtain rfl : s = ⟨#[47]⟩ := ByteArray.ext (Array.ext' h1)
    clear h1 hl hs
    go_enter Tryd.func27, Tryd.ntmps27
    go_wp2
    go_ret
    exact ⟨rfl, Below.refl _ _⟩
  · have ne : (s.toList == [47]) = false := by rw [beq_eq_false_iff_ne, ByteArray.toList_eq]; exact h1
    by_cases h2 : s.size ≤ 256
    · have d2 : decide ((s.size : Int) > 256) = false := decide_eq_false (by omega)
      by_cases h3 : 0 < s.size
      · have d3 : ((s.size : Int) == 0) = false := by rw [beq_eq_false_iff_ne]; omega
        by_cases h4 : s[0] = 47
        · have d4 : ((s[0].toNat : Int) != 47) = false := by rw [h4]; rfl
          rw [rightR_rest h1 h2 h3 h4]
          have hP := RefPieces_calls (s.extract 1 s.size) w (by rw [ByteArray.size_extract]; omega)
          have hle := cutB_len47 (s.extract 1 s.size) (by rw [ByteArray.size_extract]; omega)
          obtain ⟨l, hll⟩ : ∃ l, cutB 47 (s.extract 1 s.size) = l := ⟨_, rfl⟩
          rw [hll] at hP hle ⊢
          obtain ⟨n, hn⟩ : ∃ n, l.length = n := ⟨_, rfl⟩
          rw [hn] at hP hle
          have Hn := Lib.hid hn
          obtain ⟨q, hq⟩ : ∃ q, (l.all fun x => wordL x.data.toList) = q := ⟨_, rfl⟩
          rw [hq]
          have Hq := Lib.hid hq
          clear h1 h4 hll hn hq hl
          go_enter Tryd.func27, Tryd.ntmps27
          go_wp2_with (go_at_call 60; refine hP.mono ?_; rintro e w1 ⟨A, cc, rfl, hcc, hi, hb⟩; have HI := Lib.hid hi; clear hi)
          go_loop [24] (fun v => ∃ k : Nat, k ≤ n ∧ v = .int .i64 k ∧ ∀ i, i < k → wordL (l.getD i ByteArray.empty).data.toList = true) (fun v => n - (intOf v).toNat)
          case atStart => exact ⟨0, Nat.zero_le _, rfl, fun i hi => absurd hi (Nat.not_lt_zero _)⟩
          case round =>
            obtain ⟨k, hk, rfl, hg⟩ := hrel
            have HG := Lib.hid hg; clear hg
            by_cases hlt : k < n
            · obtain ⟨ad, rfl, _, ht⟩ := HI.out (by rw [Hn.out]; omega)
              have hc := ht k (by rw [Hn.out]; exact hlt)
              have HT := Lib.hid ht; clear ht
              have hN := RefPathName_calls (l.getD k ByteArray.empty) w1
              have hkl := Lib.hid (show wordL (l.getD k ByteArray.empty).data.toList = wordL (l.getD k ByteArray.empty).data.toList from rfl)
              obtain ⟨x, hx⟩ : ∃ x, l.getD k ByteArray.empty = x := ⟨_, rfl⟩
              rw [hx] at hc hN
              have HX := Lib.hid hx; clear hx
              cases hw : wordL x.data.toList
              · rw [hw] at hN
                have bad := Lib.hid (show q = false from by
                  rw [← Hq.out]
                  cases h : l.all fun x => wordL x.data.toList with
                  | false => rfl
                  | true => have := all_words.1 h k (by rw [Hn.out]; exact hlt); rw [HX.out, hw] at this; cases this)
                clear hw
                go_wp2_with (go_at_call 61; refine hN.mono ?_; rintro e w' ⟨rfl, rfl⟩)
                go_ret
                exact ⟨by rw [bad.out]; rfl, hb⟩
              · rw [hw] at hN
                have good := Lib.hid hw; clear hw
                go_wp2_with (go_at_call 61; refine hN.mono ?_; rintro e w' ⟨rfl, rfl⟩)
                go_round
                case rel =>
                  refine ⟨k + 1, by omega, by go_num, fun i hi => ?_⟩
                  by_cases e : i = k
                  · subst e; rw [HX.out]; exact good.out
                  · exact HG.out i (by omega)
                case measure => simp [intOf]; omega
            · go_wp2
              go_ret
              refine ⟨?_, hb⟩
              rw [← Hq.out, all_words.2 (fun i hi => HG.out i (by rw [Hn.out] at hi; omega))]; rfl
        · have d4 : ((s[0].toNat : Int) != 47) = true := by
            rw [bne_iff_ne]; intro h; exact h4 (UInt8.toNat_inj.1 (show s[0].toNat = 47 by omega))
          have hf := Lib.hid (show rightR s.data.toList = false from by
            unfold rightR
            rw [beq_eq_false_iff_ne.2 h1, head_at s h3]
            simp [h4])
          clear h1 h4 hl
          go_enter Tryd.func27, Tryd.ntmps27
          go_wp2
          go_ret
          exact ⟨by rw [hf.out]; rfl, Below.refl _ _⟩
      · have d3 : ((s.size : Int) == 0) = true := by rw [beq_iff_eq]; omega
        have hf := Lib.hid (show rightR s.data.toList = false from by
          have : s.data.toList = [] := List.length_eq_zero_iff.1 (by omega)
          rw [this]; rfl)
        clear h1 hl
        go_enter Tryd.func27, Tryd.ntmps27
        go_wp2
        go_ret
        exact ⟨by rw [hf.out]; rfl, Below.refl _ _⟩
    · have d2 : decide ((s.size : Int) > 256) = true := decide_eq_true (by omega)
      have hf := Lib.hid (show rightR s.data.toList = false from by
        unfold rightR
        rw [beq_eq_false_iff_ne.2 h1, hl, decide_eq_false h2]; rfl)
      clear h1 hl
      go_enter Tryd.func27, Tryd.ntmps27
      go_wp2
      go_ret
      exact ⟨by rw [hf.out]; rfl, Below.refl _ _⟩
end Go.Proofs.YthjekbmgbidcfaaDoor.Lex
