/- The walks of the reference's Digits and Number. -/
import Derived.Test.YthjekbmgbidcfaaDoorLexNumber
namespace Go.Proofs.YthjekbmgbidcfaaDoor.Lex
open Go.RowKit Go.Lib

set_option maxHeartbeats 1000000 in
set_option maxRecDepth 100000 in
theorem Digits_calls : ∀ (u : Nat) (w : World), u < 18446744073709551616 →
    Calls Tryd.prog 40 #[.int .u64 u] w fun e w' => e = .returned (.string ⟨(Lib.decDigits u).toArray⟩) ∧ Below w.heap.size w w' := by
  intro u
  induction u using Nat.strongRecOn with
  | _ u ih =>
    intro w hu
    by_cases h : u < 10
    · have d : decide ((u : Int) < 10) = true := by simp; omega
      have hd := Lib.hid (show decDigits u = [UInt8.ofNat (48 + u)] by rw [decDigits, dif_pos h])
      have hcv : (convert 80 9 (.slice (some ⟨w.heap.size, 0, none⟩) 1 1)).run Tryd.prog (w.alloc (.cells #[.int .u8 (48 + (u : Int))] 5)) = .ok (.string ⟨(decDigits u).toArray⟩) (w.alloc (.cells #[.int .u8 (48 + (u : Int))] 5)) := by
        have hl : (decDigits u).length = 1 := by rw [hd.out]; rfl
        have hc := run_convert_bytes_back (P := Tryd.prog) (w.alloc (.cells #[.int .u8 (48 + (u : Int))] 5)) 80 9 5 ⟨w.heap.size, 0, none⟩ 1 (decDigits u) Tryd.underlying80 Tryd.underlying5 Tryd.underlying9 (fun j hj => by
          obtain rfl : j = 0 := by omega
          rw [add_zero, World.cell?_alloc_new]
          have e : (decDigits u)[0].toNat = 48 + u := by
            have := digit_of u h
            simp only [hd.out, List.getElem_cons_zero]; exact this
          rw [e]
          simp)
        rw [hl] at hc
        exact hc
      clear ih hu
      go_enter Tryd.func40, Tryd.ntmps40
      go_wp2
      go_ret
      exact ⟨rfl, (Below.refl _ _).alloc (Nat.le_refl _) _⟩
    · have d : decide ((u : Int) < 10) = false := by simp; omega
      have h1 := fun ww => ih (u / 10) (by omega) ww (by omega)
      have h2 := fun ww => ih (u % 10) (by omega) ww (by omega)
      have hd := Lib.hid (show decDigits u = decDigits (u / 10) ++ decDigits (u % 10) by
        rw [decDigits, dif_neg h, decDigits_one (show u % 10 < 10 by omega)])
      have hn1 := nDigits_le20 (u / 10) (by omega)
      have hn2 := nDigits_le20 (u % 10) (by omega)
      rw [← decDigits_length] at hn1 hn2
      have e1 : ((u : Int) / 10) = ((u / 10 : Nat) : Int) := by omega
      have e2 : ((u : Int) % 10) = ((u % 10 : Nat) : Int) := by omega
      obtain ⟨x, hx⟩ : ∃ x : ByteArray, ⟨(decDigits (u / 10)).toArray⟩ = x := ⟨_, rfl⟩
      obtain ⟨y, hy⟩ : ∃ y : ByteArray, ⟨(decDigits (u % 10)).toArray⟩ = y := ⟨_, rfl⟩
      have hxs : x.size ≤ 20 := by rw [← hx]; exact hn1
      have hys : y.size ≤ 20 := by rw [← hy]; exact hn2
      have fin := Lib.hid (show x ++ y = ⟨(decDigits u).toArray⟩ by
        apply bytes_eq
        rw [data_add, ← hx, ← hy, hd.out])
      simp only [hx] at h1
      simp only [hy] at h2
      rw [← e1] at h1
      rw [← e2] at h2
      have hu' : (u : Int) ≤ 18446744073709551615 := by omega
      clear ih hx hy hn1 hn2 e1 e2 hu
      go_enter Tryd.func40, Tryd.ntmps40
      go_wp2_with fail

      refine (h1 _).mono ?_
      rintro e w1 ⟨rfl, hb1⟩
      go_wp2_with fail
      refine (h2 _).mono ?_
      rintro e w2 ⟨rfl, hb2⟩
      go_wp2
      go_ret
      exact ⟨by rw [← fin.out]; rfl, hb1.trans (hb2.mono hb1.size)⟩

/-- What the reference's loop has read behind k bytes. -/
def accN (s : ByteArray) (k : Nat) : Nat := dval 0 (s.data.toList.take k) % 18446744073709551616
theorem acc_step (s : ByteArray) (k : Nat) (h : k < s.size) (hd : isDig s[k] = true) :
    IntKind.u64.wrap (IntKind.u64.wrap (IntKind.u64.wrap ((accN s k : Nat) * 10) + (s[k].toNat : Int)) - 48) = ((accN s (k + 1) : Nat) : Int) := by
  have e : accN s (k + 1) = (dval 0 (s.data.toList.take k) * 10 + (s[k].toNat - 48)) % 18446744073709551616 := by
    unfold accN; rw [take_snoc' s k h, dval_snoc]
  simp only [isDig, Bool.and_eq_true, decide_eq_true_eq] at hd
  rw [e, IntKind.wrap_u64, IntKind.wrap_u64, IntKind.wrap_u64]
  unfold accN
  omega
theorem acc_end (s : ByteArray) : accN s s.size = numV s.data.toList := by
  unfold accN numV
  rw [List.take_of_length_le (by rw [Array.length_toList]; exact Nat.le_refl _)]
theorem all_dig (s : ByteArray) (h : ∀ i, ∀ hi : i < s.size, isDig s[i] = true) : s.data.toList.all isDig = true := by
  rw [List.all_eq_true]
  intro b hb
  obtain ⟨i, hi, rfl⟩ := List.getElem_of_mem hb
  have h' : i < s.size := by simpa using hi
  rw [Array.getElem_toList]
  exact h i h'
theorem not_dig (s : ByteArray) (k : Nat) (hk : k < s.size) (h : isDig s[k] = false) : s.data.toList.all isDig = false := by
  rw [List.all_eq_false]
  exact ⟨s[k], by rw [ByteArray.getElem_eq_getElem_data]; exact Array.getElem_mem_toList _, by rw [h]; simp⟩

set_option maxHeartbeats 1000000 in
set_option maxRecDepth 100000 in
theorem RefNumber_calls (s : ByteArray) (w : World) :
    Calls Tryd.prog 36 #[.string s] w fun e w' => e = .returned (.tuple #[.int .u64 (numN s.data.toList), .bool (numB s.data.toList)]) ∧ Below w.heap.size w w' := by
  by_cases h20 : 20 < s.size
  · have d : decide ((s.size : Int) > 20) = true := by simp; omega
    obtain ⟨h1, h2⟩ := num_long (l := s.data.toList) (by rw [Array.length_toList]; exact h20)
    rw [h1, h2]
    clear h1 h2 h20
    go_enter Tryd.func36, Tryd.ntmps36
    go_wp2
    go_ret2
    exact ⟨rfl, Below.refl _ _⟩
  · have d : decide ((s.size : Int) > 20) = false := by simp; omega
    have hsz : s.size ≤ 20 := by omega
    clear h20
    go_enter Tryd.func36, Tryd.ntmps36
    go_wp2
    go_loop [4, 5] (fun u v => ∃ k : Nat, k ≤ s.size ∧ v = .int .i64 k ∧ u = .int .u64 (accN s k : Nat) ∧ ∀ i, ∀ h : i < s.size, i < k → isDig s[i] = true) (fun _ v => s.size - (intOf v).toNat)
    case atStart => exact ⟨0, Nat.zero_le _, rfl, rfl, fun i _ hi => absurd hi (Nat.not_lt_zero _)⟩
    case round =>
      obtain ⟨k, hk, rfl, rfl, hg⟩ := hrel
      have HG := Lib.hid hg; clear hg
      by_cases hlt : k < s.size
      · have hdg := Lib.hid (show isDig s[k] = (decide (48 ≤ s[k].toNat) && decide (s[k].toNat ≤ 57)) from rfl)
        have bad : isDig s[k] = false → numB s.data.toList = false ∧ numN s.data.toList = 0 := fun h => num_sign (not_dig s k hlt h)
        have Bad := Lib.hid bad; clear bad
        obtain ⟨a, ha⟩ : ∃ a : Nat, accN s k = a := ⟨_, rfl⟩
        have hst := fun h => acc_step s k hlt h
        rw [ha] at hst ⊢
        have Hst := Lib.hid hst; clear hst ha
        by_cases c1 : (s[k].toNat : Int) < 48
        · have d1 : decide ((s[k].toNat : Int) < 48) = true := decide_eq_true c1
          have hb := Lib.hid (Bad.out (by rw [hdg.out, decide_eq_false (by omega), Bool.false_and]))
          go_wp2
          go_ret2
          exact ⟨by rw [hb.out.1, hb.out.2]; rfl, Below.refl _ _⟩
        · have d1 : decide ((s[k].toNat : Int) < 48) = false := decide_eq_false c1
          by_cases c2 : (s[k].toNat : Int) > 57
          · have d2 : decide ((s[k].toNat : Int) > 57) = true := decide_eq_true c2
            have hb := Lib.hid (Bad.out (by rw [hdg.out, decide_eq_false (show ¬ s[k].toNat ≤ 57 by omega), Bool.and_false]))
            go_wp2
            go_ret2
            exact ⟨by rw [hb.out.1, hb.out.2]; rfl, Below.refl _ _⟩
          · have d2 : decide ((s[k].toNat : Int) > 57) = false := decide_eq_false c2
            have good := Lib.hid (show isDig s[k] = true by rw [hdg.out, decide_eq_true (show 48 ≤ s[k].toNat by omega), decide_eq_true (show s[k].toNat ≤ 57 by omega)]; rfl)
            have hst2 := Lib.hid (Hst.out good.out)
            go_wp2
            go_round
            case rel =>
              refine ⟨k + 1, by omega, by go_num, ?_, fun i h hi => ?_⟩
              · rw [← hst2.out]
              · by_cases e : i = k
                · subst e; exact good.out
                · exact HG.out i h (by omega)
            case measure => simp [intOf]; omega
      · obtain rfl : k = s.size := by omega
        have hall := all_dig s (fun i h => HG.out i h h)
        rw [acc_end]
        have hD := fun ww => Digits_calls (numV s.data.toList) ww (numV_lt _)
        obtain ⟨v, hv⟩ : ∃ v, numV s.data.toList = v := ⟨_, rfl⟩
        rw [hv] at hD ⊢
        have hnb : numB s.data.toList = decide (decDigits v = s.data.toList) := by unfold numB; rw [hv]
        have hnn : numN s.data.toList = if numB s.data.toList = true then v else 0 := by unfold numN; rw [hv]
        have Hb := Lib.hid hnb; clear hnb
        have Hn := Lib.hid hnn; clear hnn
        clear hv hall
        have ds : ∀ l : List UInt8, (⟨l.toArray⟩ : ByteArray).toList = l := fun l => by rw [ByteArray.toList_eq]
        by_cases hd : decDigits v = s.data.toList
        · have e1 := Lib.hid (show numB s.data.toList = true by rw [Hb.out, decide_eq_true hd])
          have hs : (⟨(decDigits v).toArray⟩ : ByteArray) = s := bytes_eq (by rw [hd])
          rw [hs] at hD
          clear hs hd ds
          go_wp2_with (go_at_call 40; refine (hD _).mono ?_; rintro e w1 ⟨rfl, hb1⟩)
          go_ret2
          exact ⟨by rw [Hn.out, e1.out]; rfl, hb1⟩
        · have e1 := Lib.hid (show numB s.data.toList = false by rw [Hb.out, decide_eq_false hd])
          have ne : ((⟨(decDigits v).toArray⟩ : ByteArray).toList == s.toList) = false := by
            rw [beq_eq_false_iff_ne, ds, ByteArray.toList_eq]; exact hd
          obtain ⟨x, hx⟩ : ∃ x : ByteArray, ⟨(decDigits v).toArray⟩ = x := ⟨_, rfl⟩
          rw [hx] at hD ne
          clear hx hd ds
          go_wp2_with (go_at_call 40; refine (hD _).mono ?_; rintro e w1 ⟨rfl, hb1⟩)
          go_ret2
          exact ⟨by rw [Hn.out, e1.out]; rfl, hb1⟩
end Go.Proofs.YthjekbmgbidcfaaDoor.Lex
