/- The law LexJoins: its walk, out of the contracts. -/
import Derived.Test.YthjekbmgbidcfaaDoorLexRefJoin
import Derived.Test.YthjekbmgbidcfaaDoorSplitPlain
import Derived.Test.YthjekbmgbidcfaaDoorWWords
namespace Go.Proofs.YthjekbmgbidcfaaDoor.Lex
open Go.RowKit Go.Lib Go.Proofs.YthjekbmgbidcfaaDoorW.PrintWords

/-! ### Plain -/
theorem comma_data (s : ByteArray) : (commaB s).map (·.data.toList) = pieces 44 s.data.toList := split_pieces 44 s
theorem map_data_inj : ∀ {a b : List ByteArray}, a.map (·.data.toList) = b.map (·.data.toList) → a = b
  | [], [], _ => rfl
  | [], _ :: _, h => by cases h
  | _ :: _, [], h => by cases h
  | x :: a, y :: b, h => by
    rw [List.map_cons, List.map_cons] at h
    injection h with h1 h2
    rw [bytes_eq h1, map_data_inj h2]
theorem name_free {s : ByteArray} (h : nameB s = true) : (44 : UInt8) ∉ s.data.toList := by
  unfold nameB at h
  simp only [Bool.and_eq_true, Bool.not_eq_true'] at h
  intro hm
  have h2 := h.2.2
  unfold outB at h2
  rw [List.any_eq_false] at h2
  have := h2 44 hm
  exact this (by decide)
theorem rise_names {l : List ByteArray} (h : riseB l = true) : ∀ y ∈ l, nameB y = true := by
  unfold riseB at h
  rw [Bool.and_eq_true, List.all_eq_true] at h
  intro y hy
  obtain ⟨i, hi, rfl⟩ := List.getElem_of_mem hy
  have := h.2 i (List.mem_range.2 hi)
  unfold goodAt at this
  rw [Bool.and_eq_true, List.getD_eq_getElem?_getD, List.getElem?_eq_getElem hi] at this
  exact this.1
theorem comma_joined {l : List ByteArray} (hr : riseB l = true) (h1 : 1 ≤ l.length) : commaB (joined l) = l := by
  apply map_data_inj
  rw [comma_data]
  match l, hr, h1 with
  | x :: r, hr, _ =>
    show pieces 44 (Lib.join ((x :: r).map (·.data.toList)) [44]).toArray.toList = _
    rw [List.map_cons]
    refine pieces_join 44 _ _ fun y hy => ?_
    rw [← List.map_cons (f := fun b : ByteArray => b.data.toList)] at hy
    obtain ⟨z, hz, rfl⟩ := List.mem_map.1 hy
    exact name_free (rise_names hr z hz)
theorem comma_pos (s : ByteArray) : 1 ≤ (commaB s).length := by rw [commaB_len]; omega
theorem join_eq (l : List ByteArray) : joinB l = joinR l := by
  unfold joinB joinR riseR
  by_cases hr : riseB l = true
  · by_cases h1 : 1 ≤ l.length
    · rw [comma_joined hr h1, hr, decide_eq_true h1]; simp
    · rw [decide_eq_false h1, Bool.false_and, if_neg, if_neg (by simp)]
      rintro ⟨_, h2⟩
      have := comma_pos (joined l)
      rw [h2] at this
      exact h1 this
  · rw [if_neg, if_neg]
    · simp [hr]
    · rintro ⟨h1, h2⟩
      rw [h2] at h1
      exact hr h1
theorem join_yes {l : List ByteArray} (h : riseR l = true) : joinB l = joined l ∧ riseB (commaB (joined l)) = true ∧ commaB (joined l) = l := by
  unfold riseR at h
  rw [Bool.and_eq_true, decide_eq_true_eq] at h
  have e := comma_joined h.2 h.1
  refine ⟨?_, by rw [e]; exact h.2, e⟩
  unfold joinB
  rw [if_pos ⟨by rw [e]; exact h.2, e⟩]
theorem join_no {l : List ByteArray} (h : riseR l = false) : joinB l = ⟨#[]⟩ := by
  rw [join_eq]; unfold joinR; rw [h]; rfl
theorem joined_ne {l : List ByteArray} (h : riseB (commaB (joined l)) = true) : (joined l).toList.isEmpty = false := by
  cases he : (joined l).toList.isEmpty with
  | false => rfl
  | true =>
    have e : joined l = ⟨#[]⟩ := by
      apply bytes_eq
      rw [ByteArray.toList_eq] at he
      simpa using he
    rw [e, rise_empty] at h
    cases h
def tot (l : List ByteArray) (k : Nat) : Nat := ((l.take k).map fun s => s.size + 1).sum
theorem tot_step (l : List ByteArray) (k : Nat) (h : k < l.length) : tot l (k + 1) = tot l k + ((l.getD k ByteArray.empty).size + 1) := by
  unfold tot
  rw [List.take_succ_eq_append_getElem h, List.map_append, List.sum_append, List.getD_eq_getElem?_getD, List.getElem?_eq_getElem h]
  simp
theorem tot_len (l : List ByteArray) : l.length ≤ tot l l.length := by
  unfold tot
  rw [List.take_length]
  induction l with
  | nil => exact Nat.le_refl _
  | cons x l ih => rw [List.map_cons, List.sum_cons, List.length_cons]; omega
theorem fold_size (r : List ByteArray) : ∀ x : ByteArray, (r.foldl addC x).size = x.size + (r.map fun s => s.size + 1).sum := by
  induction r with
  | nil => intro x; simp
  | cons y r ih => intro x; rw [List.foldl_cons, ih, size_addC, List.map_cons, List.sum_cons]; omega
theorem joined_size (l : List ByteArray) : (joined l).size ≤ tot l l.length := by
  unfold tot
  rw [List.take_length]
  match l with
  | [] => exact Nat.le_refl 0
  | x :: r => rw [joined_cons, fold_size, List.map_cons, List.sum_cons]; omega

/-! ### The walk -/
theorem info9 : (Tryd.prog.info? 9).map (fun i => (i.zero, i.size, i.bytes)) = some (some (.string ByteArray.empty), 1, 16) := by kernel_rfl
theorem texts_C {w : World} {ad : Addr} {l : List ByteArray} (h : Texts w ad l) (hm : l.length ≤ 9223372036854775807) : Kd.string.C w (some ad) l.length l :=
  Kd.C_of_reads (enc := Value.string) (d := ByteArray.empty) (h1 := fun _ => rfl) ⟨rfl, hm, fun _ => ⟨ad, rfl, fun j hj => h j hj⟩⟩
theorem C_texts {w : World} {g : Nat} {l : List ByteArray} (h : Kd.string.C w (some ⟨g, 0, none⟩) l.length l) : Texts w ⟨g, 0, none⟩ l := by
  intro i hi
  have h2 := Kd.reads_of_C (enc := Value.string) (d := ByteArray.empty) (h1 := fun _ => rfl) h
  obtain ⟨ad, e, hc⟩ := h2.2.2 (by omega)
  cases e
  exact hc i hi

/-- A slice of texts as it comes in: nil, empty or not. -/
def In (w : World) (a : Option Addr) (l : List ByteArray) : Prop := 0 < l.length → ∃ ad, a = some ad ∧ ad.block < w.heap.size ∧ Texts w ad l
theorem In.below {w w' : World} {a : Option Addr} {l : List ByteArray} (h : In w a l) (hb : Below w.heap.size w w') : In w' a l := fun h0 => by
  obtain ⟨ad, e, hlt, ht⟩ := h h0
  exact ⟨ad, e, Nat.lt_of_lt_of_le hlt hb.size, ht.below hb hlt⟩

theorem RefJoin_in (a : Option Addr) (c : Nat) (l : List ByteArray) (w : World) (hin : In w a l) (hlc : l.length ≤ c) (hcm : c ≤ 9223372036854775807) (hs : (joined l).size ≤ 9223372036854775807) :
    Calls Tryd.prog 14 #[.slice a l.length c] w fun e w' => e = .returned (.string (joinR l)) ∧ w = w' := by
  match l, hin, hlc, hs with
  | [], _, _, _ => exact RefJoin_none a c w
  | x :: r, hin, hlc, hs =>
    obtain ⟨ad, rfl, _, ht⟩ := hin (by simp)
    exact RefJoin_calls ad c x r w ht hlc hcm hs
theorem Join_own (base : Nat) (ok : Nat → Prop) (A : Option Addr) (c : Nat) (l : List ByteArray) (m : Int) (w : World) (ho : Kd.string.R 9 w base ok (.slice A l.length c) l) (hn : l.length ≤ 140737488355328)
    (hs : (joined l).size < 4294967281) (hm : w.cell? ⟨5, 0, none⟩ = some (.int .i64 m)) :
    Calls Tryd.prog 12 #[.slice A l.length c] w fun e w' => e = .returned (.string (joinB l)) ∧ Below w.heap.size w w' := by
  by_cases h0 : 0 < l.length
  · obtain ⟨g, cap, he, _, hg, _⟩ := Kd.R_form ho h0
    injection he with e1 e2 e3
    subst e1
    subst e3
    obtain ⟨_, hc, hC⟩ := Kd.R_reads' ho
    exact Join_calls g 0 c l m w (C_texts hC) hg hc hn hs hm
  · obtain rfl : l = [] := List.length_eq_zero_iff.1 (by omega)
    have := Join_none A c m w hm
    rw [join_no (l := []) rfl]
    exact this
theorem tot_joined {l : List ByteArray} (h : tot l l.length ≤ 2000) : (joined l).size ≤ 2000 := Nat.le_trans (joined_size l) h

set_option maxHeartbeats 2000000 in
theorem LexJoins_calls (a : Option Addr) (c : Nat) (l : List ByteArray) (m : Int) (w : World) (hin : In w a l) (hlc : l.length ≤ c) (hcm : c ≤ 9223372036854775807) (hsz : ∀ s ∈ l, s.size ≤ 140737488351232)
    (hm : w.cell? ⟨5, 0, none⟩ = some (.int .i64 m)) :
    Calls Tryd.prog 3 #[.slice a l.length c] w fun e w' => e = .returned (.bool true) ∧ Below w.heap.size w w' := by
  have hA := lexAlive_calls m w hm
  have HM := Lib.hid hm; clear hm
  have HI := Lib.hid hin; clear hin
  have HZ := Lib.hid hsz; clear hsz
  obtain ⟨n, hn⟩ : ∃ n, l.length = n := ⟨_, rfl⟩
  rw [hn] at hlc ⊢
  have Hn := Lib.hid hn; clear hn
  go_enter Tryd.func3, Tryd.ntmps3
  go_wp2_with (go_at_call 11; refine hA.mono ?_; rintro e w1 ⟨rfl, hb1⟩)
  go_loop [3, 13] (fun u v => ∃ k : Nat, k ≤ n ∧ v = .int .i64 k ∧ u = .int .i64 (tot l k) ∧ tot l k ≤ 2000) (fun _ v => n - (intOf v).toNat)
  case atStart => exact ⟨0, Nat.zero_le _, rfl, rfl, Nat.zero_le _⟩
  case round =>
    obtain ⟨k, hk, rfl, rfl, ht⟩ := hrel
    by_cases hlt : k < n
    · obtain ⟨ad, rfl, hadlt, htx⟩ := HI.out (by rw [Hn.out]; omega)
      have hx : w1.cell? (ad.add k) = some (.string (l.getD k ByteArray.empty)) := (htx.below hb1 hadlt) k (by rw [Hn.out]; exact hlt)
      have hst := Lib.hid (tot_step l k (by rw [Hn.out]; exact hlt))
      have hxs : (l.getD k ByteArray.empty).size ≤ 140737488351232 := HZ.out _ (by rw [List.getD_eq_getElem?_getD, List.getElem?_eq_getElem (by rw [Hn.out]; exact hlt)]; exact List.getElem_mem _)
      obtain ⟨x, hxd⟩ : ∃ x, l.getD k ByteArray.empty = x := ⟨_, rfl⟩
      rw [hxd] at hx hxs
      have Hx := Lib.hid hxd; clear hxd htx
      obtain ⟨t, htd⟩ : ∃ t, tot l k = t := ⟨_, rfl⟩
      rw [htd] at ht ⊢
      have Ht := Lib.hid htd; clear htd
      by_cases h2 : t + (x.size + 1) ≤ 2000
      · have d : decide ((t : Int) + ((x.size : Int) + 1) > 2000) = false := by simp; omega
        go_wp2
        go_round
        case rel => exact ⟨k + 1, by omega, by go_num, by rw [hst.out, Hx.out, Ht.out]; go_num, by rw [hst.out, Hx.out, Ht.out]; exact h2⟩
        case measure => simp [intOf]; omega
      · have d : decide ((t : Int) + ((x.size : Int) + 1) > 2000) = true := by simp; omega
        go_wp2
        go_ret
        exact ⟨rfl, hb1⟩
    · obtain rfl : k = n := by omega
      have ht2 : tot l l.length ≤ 2000 := by rw [Hn.out]; exact ht
      have hjs : (joined l).size ≤ 2000 := Nat.le_trans (joined_size l) ht2
      have hln : l.length ≤ 2000 := Nat.le_trans (tot_len l) ht2
      have hk2 : k ≤ 2000 := by rw [← Hn.out]; exact hln
      have Ht2 := Lib.hid ht2; clear ht2
      have cR := fun ww (h : In ww a l) => RefJoin_in a c l ww h (by rw [Hn.out]; exact hlc) hcm (by omega)
      have cJ := fun (base : Nat) ok A c' ww (ho : Kd.string.R 9 ww base ok (.slice A l.length c') l) (hmm : ww.cell? ⟨5, 0, none⟩ = some (.int .i64 m)) => Join_own base ok A c' l m ww ho (by omega) (by omega) hmm
      rw [Hn.out] at cR
      rw [← join_eq] at cR
      clear hjs hln
      have HCR := Lib.hid cR; clear cR
      have HCJ := Lib.hid cJ; clear cJ
      have hr0 : Kd.string.C w1 a l.length l := by
        by_cases h0 : 0 < l.length
        · obtain ⟨ad, e, hlt', htx⟩ := HI.out h0
          rw [e]
          exact texts_C (htx.below hb1 hlt') (by rw [Hn.out]; omega)
        · obtain rfl : l = [] := List.length_eq_zero_iff.1 (by omega)
          exact ⟨rfl, by simp, fun h => absurd h (by simp)⟩
      rw [Hn.out] at hr0
      have HR0 := Lib.hid hr0; clear hr0
      have hm1 : w1.cell? ⟨5, 0, none⟩ = some (.int .i64 m) := (hb1.cell (p := ⟨5, 0, none⟩) (World.block_lt_of_cell? _ _ HM.out)).trans HM.out
      have HM1 := Lib.hid hm1; clear hm1
      have HO := Lib.hid (Kd.R_of_own (enc := Value.string) (h1 := fun _ => rfl) (ok := fun _ => True) (by have := World.ownsRow_lit (base := w1.heap.size) (e := 9) (size := 1) w1 #[] 0 (Nat.le_refl _) (by decide) rfl; exact this) (fun _ _ => trivial) : Kd.string.R 9 (w1.alloc (.cells #[] 9)) w1.heap.size (fun _ => True) (.slice (some ⟨w1.heap.size, 0, none⟩) 0 0) [])
      go_wp2_with (first
        | (at_builtin; refine Kd.R_append_rows Kd.string (w0 := w1) w1.heap.size rfl (.tmp 25) (.tmp 26) 22 9 (.string ByteArray.empty) 16 rfl Tryd.underlying22 info9 rfl (by decide) (by omega) (.slice (some ⟨w1.heap.size, 0, none⟩) 0 0) [] l a k c (fun _ => True) (fun _ => False) rfl rfl ?aO ?aR (fun _ _ h => h) (fun _ h => h.elim) (fun _ _ => trivial) ?aB ?aS ?aL ?_
           (case aO => exact HO.out)
           (case aR => exact Kd.C_alloc HR0.out _)
           (case aB => exact (Below.refl _ _).alloc (Nat.le_refl _) _)
           (case aS => simp)
           (case aL => simp; omega)
           intro v1 w2 ho hb2 hg2 hat
           clear hg2 hat
           rw [List.nil_append] at ho
           obtain ⟨A', c', rfl⟩ := Kd.R_slice ho
           have hmm : w2.cell? ⟨5, 0, none⟩ = some (.int .i64 m) := (hb2.cell (p := ⟨5, 0, none⟩) (World.block_lt_of_cell? _ _ HM1.out)).trans HM1.out
           have hJ := HCJ.out _ _ _ _ _ ho hmm
           rw [Hn.out] at hJ ⊢
           have HM2 := Lib.hid hmm; clear hmm ho)
        | (go_at_call 12; refine hJ.mono ?_; rintro e w3 ⟨rfl, hb3⟩; clear hJ))
      have hm3 : w3.cell? ⟨5, 0, none⟩ = some (.int .i64 m) := (hb3.cell (p := ⟨5, 0, none⟩) (World.block_lt_of_cell? _ _ HM2.out)).trans HM2.out
      have hb13 : Below w.heap.size w w3 := hb1.trans ((hb2.trans (hb3.mono hb2.size)).mono hb1.size)
      have js := Lib.hid (tot_joined Ht2.out)
      have cN := Names_calls (joinB l) m w3 (by
        have := js.out
        unfold joinB
        split
        · omega
        · decide) hm3
      clear hm3
      cases hrr : riseR l with
      | false =>
        have e0 := Lib.hid (join_no hrr)
        rw [e0.out] at cN ⊢
        have cR' := HCR.out
        rw [e0.out] at cR'
        refine cN.mono ?_
        rintro e w4 ⟨hb4, ⟨_, rfl⟩ | ⟨hr, _⟩⟩
        · have hb14 := hb13.trans (hb4.mono hb13.size)
          have cR2 := cR' w4 (HI.out.below hb14)
          clear cR' cN HCR HCJ
          go_wp2_with (go_at_call 14; refine cR2.mono ?_; rintro e w5 ⟨rfl, rfl⟩)
          go_ret
          exact ⟨rfl, hb14⟩
        · exact absurd (rise_empty.symm.trans hr) (by decide)
      | true =>
        obtain ⟨e1, e2, e3⟩ := join_yes hrr
        have hne := joined_ne e2
        have cR' := HCR.out
        rw [e1] at cN cR' ⊢
        obtain ⟨s, hs⟩ : ∃ s, joined l = s := ⟨_, rfl⟩
        rw [hs] at cN cR' e2 e3 hne ⊢
        unfold NamesPost at cN
        rw [e3, Hn.out] at cN
        rw [e3] at e2
        have E2 := Lib.hid e2; clear e2
        clear hs e1 e3
        have hne' : (!s.toList.isEmpty) = true := by rw [hne]; rfl
        have hne2 : s.toList ≠ [] := fun h => by rw [h] at hne; cases hne
        refine cN.mono ?_
        rintro e w4 ⟨hb4, ⟨hr, _⟩ | ⟨_, rfl, hblk⟩⟩
        · exact absurd (E2.out.symm.trans hr) (by decide)
        · have hb14 := hb13.trans (hb4.mono hb13.size)
          have cR2 := cR' w4 (HI.out.below hb14)
          have hin4 := HI.out.below hb14
          have cS := Same_calls a (some ⟨w3.heap.size, 0, none⟩) c k l l w4 rfl (by rw [Hn.out]; omega) (fun h => by obtain ⟨ad, e, _, t⟩ := hin4 h; exact ⟨ad, e, t⟩) (fun _ => ⟨_, rfl, texts_of_block hblk⟩)
          rw [Hn.out, decide_eq_true rfl] at cS
          clear cR' cN HCR HCJ hin4 hblk hne
          go_wp2_with (first | (go_at_call 14; refine cR2.mono ?_; rintro e w5 ⟨rfl, rfl⟩) | (go_at_call 15; refine cS.mono ?_; rintro e w5 ⟨rfl, q, rfl⟩))
          go_ret
          exact ⟨rfl, Lex.pw_below_drewN hb14 q⟩
end Go.Proofs.YthjekbmgbidcfaaDoor.Lex
