/- The walk of the reference's Normal. -/
import Derived.Test.YthjekbmgbidcfaaDoorPathRefUnder
import Derived.Test.YthjekbmgbidcfaaDoorWGuard
namespace Go.Proofs.YthjekbmgbidcfaaDoor.Lex
open Go.RowKit Go.Lib Go.Proofs.YthjekbmgbidcfaaDoorW.PrintWords

theorem In.less {w : World} {A : Option Addr} {l : List ByteArray} (h : In w A l) : In w A l.dropLast := fun h0 => by
  rw [List.length_dropLast] at h0
  obtain ⟨ad, e, hlt, ht⟩ := h (by omega)
  refine ⟨ad, e, hlt, fun i hi => ?_⟩
  rw [List.length_dropLast] at hi
  rw [ht i (by omega), List.getD_eq_getElem?_getD, List.getD_eq_getElem?_getD, List.getElem?_dropLast, if_pos hi]
/-- The names' text, each behind a slash. -/
def slashed (l : List ByteArray) : List UInt8 := (l.map fun x => 47 :: x.data.toList).flatten
theorem slashed_path (l : List ByteArray) (hne : l ≠ []) : pathOf (l.map (·.data.toList)) = slashed l := by
  rw [path_tail _ (by intro h; exact hne (List.map_eq_nil_iff.1 h)), List.map_map]; rfl
theorem slashed_snoc (l : List ByteArray) (k : Nat) (h : k < l.length) : slashed (l.take (k + 1)) = slashed (l.take k) ++ 47 :: (l.getD k ByteArray.empty).data.toList := by
  unfold slashed
  rw [List.take_succ_eq_append_getElem h, List.map_append, List.flatten_append, List.getD_eq_getElem?_getD, List.getElem?_eq_getElem h]
  simp
theorem slashed_nil {l : List ByteArray} (h : slashed l = []) : l = [] := by
  cases l with
  | nil => rfl
  | cons x r => simp [slashed] at h

theorem In_Cp {w : World} {a : Option Addr} {l : List ByteArray} (h : In w a l) (hm : l.length ≤ 9223372036854775807) : Kd.string.C w a l.length l := by
  by_cases h0 : 0 < l.length
  · obtain ⟨ad, e, _, ht⟩ := h h0
    rw [e]; exact texts_C ht hm
  · obtain rfl : l = [] := List.length_eq_zero_iff.1 (by omega)
    exact ⟨rfl, by simp, fun h => absurd h (Nat.lt_irrefl 0)⟩
theorem take_next (l : List ByteArray) (k : Nat) (h : k < l.length) : l.take (k + 1) = l.take k ++ [l.getD k ByteArray.empty] := by
  rw [List.take_succ_eq_append_getElem h, List.getD_eq_getElem?_getD, List.getElem?_eq_getElem h]; rfl

set_option maxRecDepth 100000 in
set_option maxHeartbeats 4000000 in
theorem RefNormal_calls (s : ByteArray) (w : World) (hsz : s.size ≤ 100000) :
    Calls Tryd.prog 25 #[.string s] w fun e w' => e = .returned (.tuple #[.string (normS s), .bool (normB s)]) ∧ Below w.heap.size w w' := by
  have hl : s.data.toList.length = s.size := Array.length_toList
  have no : normalL s.data.toList = none → normS s = ⟨#[]⟩ ∧ normB s = false := fun h => by unfold normS normB; rw [h]; exact ⟨rfl, rfl⟩
  by_cases h0 : 0 < s.size
  · have d0 : ((s.size : Int) == 0) = false := by rw [beq_eq_false_iff_ne]; omega
    by_cases h4 : s[0] = 47
    · have d4 : ((s[0].toNat : Int) != 47) = false := by rw [h4]; rfl
      have hs : s.data.toList = 47 :: (s.extract 1 s.size).data.toList := by
        rw [extract_tail]
        have h1 := head_at s h0
        rw [h4] at h1
        cases hd : s.data.toList with
        | nil => rw [hd] at h1; cases h1
        | cons b t => rw [hd] at h1; injection h1 with h1; rw [h1]; rfl
      have so := fun ls => normal_so (s := s) (r := s.extract 1 s.size) (ls := ls) hs
      have hnot := fun h => no (normal_not (s := s) (r := s.extract 1 s.size) hs h)
      have hP := fun w2 => RefPieces_calls (s.extract 1 s.size) w2 (by rw [ByteArray.size_extract]; omega)
      have hle := cutB_len47 (s.extract 1 s.size) (by rw [ByteArray.size_extract]; omega)
      obtain ⟨l, hll⟩ : ∃ l, cutB 47 (s.extract 1 s.size) = l := ⟨_, rfl⟩
      rw [hll] at hP hle so hnot
      obtain ⟨n, hn⟩ : ∃ n, l.length = n := ⟨_, rfl⟩
      rw [hn] at hP hle
      have Hn := Lib.hid hn
      have So := Lib.hid so
      have Not := Lib.hid hnot
      have No := Lib.hid no
      clear h4 hs so hnot hll hn no hl
      go_enter Tryd.func25, Tryd.ntmps25
      go_wp2_with (go_at_call 60; refine (hP _).mono ?_; rintro e w1 ⟨Ap, cp, rfl, hcp, hip, hb1⟩)
      have hb := ((Below.refl _ w).alloc (Nat.le_refl _) (.cells #[] 9)).trans (hb1.mono (by simp))
      have HI := Lib.hid hip
      clear hip hb1
      go_loopw [4, 23] (fun v4 v23 wr => ∃ (k : Nat) (ls : List ByteArray) (A : Option Addr) (c : Nat), k ≤ n ∧ v23 = .int .i64 k ∧ v4 = .slice A ls.length c ∧ ls.length ≤ c ∧ ls.length ≤ k ∧ In wr A ls ∧ pfold [] ((l.take k).map (·.data.toList)) = some (ls.map (·.data.toList)) ∧ Below w1.heap.size w1 wr)
        (fun _ v _ => n - (intOf v).toNat)
      case atStart => exact ⟨0, [], _, _, Nat.zero_le _, rfl, rfl, Nat.le_refl _, Nat.le_refl _, fun h => absurd h (by simp), rfl, Below.refl _ _⟩
      case round =>
        obtain ⟨k, ls, A, c, hk, rfl, rfl, hlc, hlk, hin, hf, hbw⟩ := hrel
        have HF := Lib.hid hf
        have HIN := Lib.hid hin
        clear hf hin
        by_cases hlt : k < n
        · have hnone : pstep (ls.map (·.data.toList)) (l.getD k ByteArray.empty).data.toList = none → pfold [] (l.map (·.data.toList)) = none := fun h =>
            fold_stop (List.take_prefix (k + 1) l) (by rw [take_next l k (by rw [Hn.out]; exact hlt), fold_snoc _ HF.out, h])
          have hsome : ∀ ls' : List ByteArray, pstep (ls.map (·.data.toList)) (l.getD k ByteArray.empty).data.toList = some (ls'.map (·.data.toList)) → pfold [] ((l.take (k + 1)).map (·.data.toList)) = some (ls'.map (·.data.toList)) := fun ls' h => by
            rw [take_next l k (by rw [Hn.out]; exact hlt), fold_snoc _ HF.out, h]
          obtain ⟨ad, rfl, _, ht⟩ := (HI.out.below hbw) (by rw [Hn.out]; omega)
          have hc := ht k (by rw [Hn.out]; exact hlt)
          clear ht
          obtain ⟨x, hx⟩ : ∃ x, l.getD k ByteArray.empty = x := ⟨_, rfl⟩
          rw [hx] at hc hnone hsome
          clear hx
          have HX := Lib.hid (ByteArray.toList_eq x).symm
          have HNo := Lib.hid hnone
          have HSo := Lib.hid hsome
          clear hnone hsome
          have hN := fun W => RefPathName_calls x W
          by_cases e1 : x.toList = []
          · go_wp2
            go_roundw
            case rel => exact ⟨k + 1, ls, A, c, by omega, by go_num, rfl, hlc, by omega, HIN.out, HSo.out ls (pstep_skip (by rw [HX.out]; exact .inl e1)), hbw⟩
            case measure => simp [intOf]; omega
          · have ne1 : (x.toList.isEmpty) = false := by simpa using e1
            cases e2 : (x.toList == [46])
            · cases e3 : (x.toList == [46, 46])
              · cases hw : wordL x.data.toList
                · rw [hw] at hN
                  have hz := Lib.hid (Not.out (HNo.out (pstep_none (by rw [HX.out]; exact e1) (by rw [HX.out]; intro h; rw [h] at e2; exact absurd e2 (by decide)) (by rw [HX.out]; intro h; rw [h] at e3; exact absurd e3 (by decide)) hw)))
                  clear hw
                  go_wp2_with (go_at_call 61; refine (hN _).mono ?_; rintro e w' ⟨rfl, rfl⟩)
                  go_ret2
                  exact ⟨by rw [hz.out.1, hz.out.2]; rfl, hb.trans (hbw.mono hb.size)⟩
                · rw [hw] at hN
                  have hwx := Lib.hid hw
                  clear hw
                  have HC := Lib.hid (In_Cp HIN.out (by omega))
                  have HO := Lib.hid (Kd.R_of_own (enc := Value.string) (h1 := fun _ => rfl) (ok := fun _ => True) (by have := World.ownsRow_lit (base := w1.heap.size) (e := 9) (size := 1) wr #[] 0 hbw.size (by decide) rfl; exact this) (fun _ _ => trivial) : Kd.string.R 9 (wr.alloc (.cells #[] 9)) w1.heap.size (fun _ => True) (.slice (some ⟨wr.heap.size, 0, none⟩) 0 0) [])
                  go_wp2_with (first
                    | (go_at_call 61; refine (hN _).mono ?_; rintro e w' ⟨rfl, rfl⟩)
                    | (at_builtin; refine Kd.R_append_rows Kd.string (w0 := w1) w1.heap.size rfl (.tmp 46) (.tmp 47) 22 9 (.string ByteArray.empty) 16 rfl Tryd.underlying22 info9 rfl (by decide) (by omega) _ [] ls A ls.length c (fun _ => True) (fun _ => False) rfl rfl ?aO ?aR (fun _ _ h => h) (fun _ h => h.elim) (fun _ _ => trivial) ?aB ?aS ?aL ?_
                       (case aO => exact HO.out)
                       (case aR => exact Kd.C_alloc HC.out _)
                       (case aB => exact hbw.alloc hbw.size _)
                       (case aS => have := hbw.size; simp; omega)
                       (case aL => simp; omega)
                       intro v1 w2 ho hb2 hg2 hat
                       clear hg2 hat
                       have HR1 := Lib.hid ho
                       clear ho)
                    | (at_builtin; refine Kd.R_append Kd.string (w0 := w1) w1.heap.size rfl (.tmp 48) (.tmp 50) 22 9 (.string ByteArray.empty) 16 rfl Tryd.underlying22 info9 rfl (by decide) (by omega) v1 ls x [.string x] (fun _ => True) (fun _ => False) rfl rfl rfl (fun _ h => h.elim) (fun _ _ => trivial) HR1.out hb2 hb2.size (by omega) ?_
                       intro v3 w3 ho3 hb3 hg3 hat3
                       clear hg3 hat3
                       have HR3 := Lib.hid ho3
                       clear ho3))
                  obtain ⟨A3, c3, rfl⟩ := Kd.R_slice HR3.out
                  obtain ⟨_, hlc3, hin3⟩ := R_In HR3.out
                  go_roundw
                  case rel =>
                    exact ⟨k + 1, ls ++ [x], A3, c3, by omega, by go_num, rfl, hlc3, by rw [List.length_append, List.length_singleton]; omega, hin3, HSo.out _ (by rw [pstep_word hwx.out, List.map_append]; rfl), hb3⟩
                  case measure => simp [intOf]; omega
              · have hup : x.toList = [46, 46] := by simpa using e3
                by_cases hls : ls.length = 0
                · have d5 : ((ls.length : Int) == 0) = true := by rw [beq_iff_eq]; omega
                  have hz := Lib.hid (Not.out (HNo.out (pstep_none (by rw [HX.out]; exact e1) (by rw [HX.out, hup]; decide) (fun _ => by rw [List.length_eq_zero_iff.1 hls]; rfl) (by rw [HX.out, hup]; decide))))
                  clear hls hup
                  go_wp2
                  go_ret2
                  exact ⟨by rw [hz.out.1, hz.out.2]; rfl, hb.trans (hbw.mono hb.size)⟩
                · obtain ⟨m, hm⟩ : ∃ m, ls.length = m + 1 := ⟨ls.length - 1, by omega⟩
                  have hz := Lib.hid (HSo.out ls.dropLast (by rw [HX.out, hup, pstep_up (by intro h; have h9 := congrArg List.length h; rw [List.length_map, hm] at h9; exact absurd h9 (Nat.succ_ne_zero m)), List.map_dropLast]))
                  have hlm := Lib.hid (show ls.dropLast.length = m by rw [List.length_dropLast, hm]; rfl)
                  have hmc : m + 1 ≤ c := by omega
                  have hmk : m + 1 ≤ k := by omega
                  rw [hm]
                  have d5 : ((m : Int) + 1 == 0) = false := by rw [beq_eq_false_iff_ne]; omega
                  have Hm := Lib.hid hm
                  clear hls hup hm hlc hlk
                  go_wp2
                  go_roundw
                  case rel =>
                    exact ⟨k + 1, ls.dropLast, A, c, by omega, by go_num, by rw [hlm.out], by rw [hlm.out]; omega, by rw [hlm.out]; omega, HIN.out.less, hz.out, hbw⟩
                  case measure => simp [intOf]; omega
            · go_wp2
              go_roundw
              case rel => exact ⟨k + 1, ls, A, c, by omega, by go_num, rfl, hlc, by omega, HIN.out, HSo.out ls (pstep_skip (by rw [HX.out]; exact .inr (by simpa using e2))), hbw⟩
              case measure => simp [intOf]; omega
        · have hall : l.take k = l := List.take_of_length_le (by rw [Hn.out]; omega)
          have hfl := HF.out
          rw [hall] at hfl
          have hnm := So.out ls hfl
          have hwords := pfold_names _ _ _ hfl (fun y hy => absurd hy (List.not_mem_nil))
          have hwl : ∀ i, i < ls.length → (ls.getD i ByteArray.empty).size ≤ 64 := by
            intro i hi
            have hg : ls.getD i ByteArray.empty ∈ ls := by rw [List.getD_eq_getElem?_getD, List.getElem?_eq_getElem hi]; exact List.getElem_mem hi
            have h2 := hwords _ (List.mem_map.2 ⟨_, hg, rfl⟩)
            unfold wordL at h2
            simp only [Bool.and_eq_true, decide_eq_true_eq] at h2
            have h3 := h2.1.1.1.2
            rw [Array.length_toList] at h3
            exact h3
          have HNm := Lib.hid hnm
          have HW := Lib.hid hwl
          clear hall hfl hnm hwords hwl HF
          obtain ⟨m, hm⟩ : ∃ m, ls.length = m := ⟨_, rfl⟩
          rw [hm] at hlc hlk
          rw [hm]
          have Hm := Lib.hid hm
          clear hm
          go_wp2
          go_loop [7, 55] (fun v7 v55 => ∃ (j : Nat) (q : ByteArray), j ≤ m ∧ v55 = .int .i64 j ∧ v7 = .string q ∧ q.data.toList = slashed (ls.take j) ∧ q.size ≤ 65 * j) (fun _ v => m - (intOf v).toNat)
          case atStart => exact ⟨0, ⟨#[]⟩, Nat.zero_le _, rfl, rfl, rfl, Nat.le_refl _⟩
          case round =>
            obtain ⟨j, q, hj, rfl, rfl, hq, hqs⟩ := hrel
            have HQ := Lib.hid hq
            clear hq
            by_cases hjm : j < m
            · obtain ⟨ad, rfl, _, ht⟩ := HIN.out (by rw [Hm.out]; omega)
              have hc := ht j (by rw [Hm.out]; exact hjm)
              clear ht
              have hxs := HW.out j (by rw [Hm.out]; exact hjm)
              have hnext := slashed_snoc ls j (by rw [Hm.out]; exact hjm)
              obtain ⟨x, hx⟩ : ∃ x, ls.getD j ByteArray.empty = x := ⟨_, rfl⟩
              rw [hx] at hc hxs hnext
              have HNx := Lib.hid hnext
              clear hx hnext
              go_wp2
              go_round
              case rel =>
                refine ⟨j + 1, _, by omega, by go_num, rfl, ?_, ?_⟩
                · rw [data_add, data_add, HQ.out, HNx.out]; simp
                · rw [ByteArray.size_append, ByteArray.size_append]
                  show q.size + (1 + x.size) ≤ _
                  omega
              case measure => simp [intOf]; omega
            · have hqa : q.data.toList = slashed ls := by rw [HQ.out, List.take_of_length_le (by rw [Hm.out]; omega)]
              have hql : q.data.toList.length = q.size := Array.length_toList
              have fin : ∀ p : ByteArray, p.data.toList = pathOf (ls.map (·.data.toList)) → (256 < p.size → normS s = ⟨#[]⟩ ∧ normB s = false) ∧ (p.size ≤ 256 → normS s = p ∧ normB s = true) := by
                intro p hp
                have hpl : p.data.toList.length = p.size := Array.length_toList
                have h1 := HNm.out
                rw [← hp, hpl] at h1
                refine ⟨fun h => ?_, fun h => ?_⟩
                · rw [if_pos h] at h1; exact No.out h1
                · rw [if_neg (by omega)] at h1
                  unfold normS normB; rw [h1]
                  exact ⟨rfl, rfl⟩
              by_cases hls : ls = []
              · have hq0 : q = ⟨#[]⟩ := ByteArray.ext (Array.ext' (by rw [hqa, hls]; rfl))
                have Fin := Lib.hid ((fin ⟨#[47]⟩ (by rw [hls]; rfl)).2 (by decide))
                subst hq0
                clear hqa hql fin hls
                go_wp2
                go_ret2
                exact ⟨by rw [Fin.out.1, Fin.out.2]; rfl, hb.trans (hbw.mono hb.size)⟩
              · have nq : ¬ q.toList = [] := by rw [ByteArray.toList_eq, hqa]; exact fun h => hls (slashed_nil h)
                have hp := fin q (by rw [slashed_path ls hls, hqa])
                by_cases h256 : 256 < q.size
                · have Fin := Lib.hid (hp.1 h256)
                  have d6 : decide ((q.size : Int) > 256) = true := decide_eq_true (by omega)
                  have nq2 : (q.toList.isEmpty) = false := by simpa using nq
                  clear hqa hql fin hls hp
                  go_wp2
                  go_ret2
                  exact ⟨by rw [Fin.out.1, Fin.out.2]; rfl, hb.trans (hbw.mono hb.size)⟩
                · have Fin := Lib.hid (hp.2 (by omega))
                  have d6 : decide ((q.size : Int) > 256) = false := decide_eq_false (by omega)
                  have nq2 : (q.toList.isEmpty) = false := by simpa using nq
                  clear hqa hql fin hls hp
                  go_wp2
                  go_ret2
                  exact ⟨by rw [Fin.out.1, Fin.out.2]; rfl, hb.trans (hbw.mono hb.size)⟩
    · have d4 : ((s[0].toNat : Int) != 47) = true := by
        rw [bne_iff_ne]; intro h; exact h4 (UInt8.toNat_inj.1 (show s[0].toNat = 47 by omega))
      have hf := Lib.hid (no (by
        have h1 := head_at s h0
        cases hd : s.data.toList with
        | nil => rfl
        | cons b t =>
          rw [hd] at h1; injection h1 with h1
          show (if b = 47 then _ else none) = none
          rw [if_neg (by rw [h1]; exact h4)]))
      clear no h4 hl
      go_enter Tryd.func25, Tryd.ntmps25
      go_wp2
      go_ret2
      exact ⟨by rw [hf.out.1, hf.out.2]; rfl, Below.refl _ _⟩
  · have d0 : ((s.size : Int) == 0) = true := by rw [beq_iff_eq]; omega
    have hf := Lib.hid (no (by
      have : s.data.toList = [] := List.length_eq_zero_iff.1 (by omega)
      rw [this]; rfl))
    clear no hl
    go_enter Tryd.func25, Tryd.ntmps25
    go_wp2
    go_ret2
    exact ⟨by rw [hf.out.1, hf.out.2]; rfl, Below.refl _ _⟩
end Go.Proofs.YthjekbmgbidcfaaDoor.Lex
