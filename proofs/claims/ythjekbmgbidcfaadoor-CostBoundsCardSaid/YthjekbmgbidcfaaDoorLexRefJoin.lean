/- The walk of the reference's Join, and the plain law that it gives what the program's Join gives. -/
import Derived.Test.YthjekbmgbidcfaaDoorLexRef
import Derived.Lib.Join
namespace Go.Proofs.YthjekbmgbidcfaaDoor.Lex
open Go.RowKit Go.Lib

def addC (a y : ByteArray) : ByteArray := a ++ ((⟨#[44]⟩ : ByteArray) ++ y)
theorem bytes_eq {a b : ByteArray} (h : a.data.toList = b.data.toList) : a = b := ByteArray.ext (Array.ext' h)
theorem data_add (a b : ByteArray) : (a ++ b).data.toList = a.data.toList ++ b.data.toList := by
  rw [ByteArray.data_append, Array.toList_append]
theorem fold_data (r : List ByteArray) : ∀ x : ByteArray, (r.foldl addC x).data.toList = x.data.toList ++ Lib.joinTail [44] (r.map (·.data.toList)) := by
  induction r with
  | nil => intro x; simp [Lib.joinTail]
  | cons y r ih =>
    intro x
    rw [List.foldl_cons, ih, addC, data_add, data_add]
    simp [Lib.joinTail]
theorem joined_cons (x : ByteArray) (r : List ByteArray) : joined (x :: r) = r.foldl addC x := by
  apply bytes_eq
  rw [fold_data]
  show (Lib.join (((x :: r).map (·.data.toList))) [44]).toArray.toList = _
  rw [List.map_cons, Lib.join_cons]
theorem size_addC (a y : ByteArray) : (addC a y).size = a.size + (1 + y.size) := by
  unfold addC; rw [ByteArray.size_append, ByteArray.size_append]; rfl
theorem fold_mono (r : List ByteArray) : ∀ x : ByteArray, x.size ≤ (r.foldl addC x).size := by
  induction r with
  | nil => intro x; exact Nat.le_refl _
  | cons y r ih => intro x; have h1 := ih (addC x y); have h2 := size_addC x y; rw [List.foldl_cons]; omega
theorem fold_take_le (r : List ByteArray) (x : ByteArray) (k : Nat) : ((r.take k).foldl addC x).size ≤ (r.foldl addC x).size := by
  have h := fold_mono (r.drop k) ((r.take k).foldl addC x)
  rw [← List.foldl_append, List.take_append_drop] at h
  exact h
theorem fold_step (r : List ByteArray) (x : ByteArray) (k : Nat) (hk : k < r.length) : (r.take (k + 1)).foldl addC x = addC ((r.take k).foldl addC x) (r.getD k ByteArray.empty) := by
  rw [List.take_succ_eq_append_getElem hk, List.foldl_append, List.getD_eq_getElem?_getD, List.getElem?_eq_getElem hk]
  rfl

def joinR (l : List ByteArray) : ByteArray := if riseR l = true then joined l else ⟨#[]⟩

set_option maxHeartbeats 1000000 in
theorem RefJoin_none (a : Option Addr) (c : Nat) (w : World) :
    Calls Tryd.prog 14 #[.slice a 0 c] w fun e w' => e = .returned (.string ⟨#[]⟩) ∧ w = w' := by
  go_enter Tryd.func14, Tryd.ntmps14
  go_wp2_with (go_at_call 53; refine (Rise_none _ _ _).mono ?_; rintro e w' ⟨rfl, rfl⟩)
  go_ret
  exact ⟨rfl, rfl⟩

set_option maxHeartbeats 1000000 in
theorem RefJoin_calls (ad : Addr) (c : Nat) (x : ByteArray) (r : List ByteArray) (w : World) (hl : Texts w ad (x :: r)) (hm : (x :: r).length ≤ c) (hc : c ≤ 9223372036854775807) (hs : (joined (x :: r)).size ≤ 9223372036854775807) :
    Calls Tryd.prog 14 #[.slice (some ad) (x :: r).length c] w fun e w' => e = .returned (.string (joinR (x :: r))) ∧ w = w' := by
  have hR := fun ww => Rise_calls ad c (x :: r) ww
  have hR' := hR w hl (by simp) (by omega)
  clear hR
  have hx : w.cell? ad = some (.string x) := by rw [← add_zero ad]; exact hl 0 (by simp)
  have HL := Lib.hid hl; clear hl
  have hn : (x :: r).length = r.length + 1 := rfl
  rw [hn] at hR' hm ⊢
  clear hn
  rw [joined_cons] at hs
  have fin : joinR (x :: r) = if riseB (x :: r) = true then r.foldl addC x else ⟨#[]⟩ := by
    unfold joinR riseR; rw [joined_cons]; simp
  have Fin := Lib.hid fin; clear fin
  obtain ⟨n, hn⟩ : ∃ n, r.length = n := ⟨_, rfl⟩
  rw [hn] at hR' hm ⊢
  have Hn := Lib.hid hn; clear hn
  cases hr : riseB (x :: r) with
  | false =>
    rw [hr] at hR'
    have HR := Lib.hid hr; clear hr
    go_enter Tryd.func14, Tryd.ntmps14
    go_wp2_with (go_at_call 53; refine hR'.mono ?_; rintro e w' ⟨rfl, rfl⟩)
    go_ret
    exact ⟨by rw [Fin.out, if_neg (by rw [HR.out]; simp)]; rfl, rfl⟩
  | true =>
    rw [hr] at hR'
    have HR := Lib.hid hr; clear hr
    by_cases h1 : c = 1
    · obtain rfl : n = 0 := by omega
      subst h1
      go_enter Tryd.func14, Tryd.ntmps14
      go_wp2_with (go_at_call 53; refine hR'.mono ?_; rintro e w' ⟨rfl, rfl⟩)
      go_loop [3, 15] (fun u v => u = .string x ∧ v = .int .i64 0) (fun _ _ => 0)
      case atStart => exact ⟨rfl, rfl⟩
      case round =>
        obtain ⟨rfl, rfl⟩ := hrel
        go_wp2
        go_ret
        exact ⟨by rw [Fin.out, if_pos HR.out, List.length_eq_zero_iff.1 Hn.out]; rfl, rfl⟩
    · have hc1 : (1 : Int) ≤ c := by omega
      go_enter Tryd.func14, Tryd.ntmps14
      go_wp2_with (go_at_call 53; refine hR'.mono ?_; rintro e w' ⟨rfl, rfl⟩)
      go_loop [3, 15] (fun u v => ∃ k : Nat, k ≤ n ∧ v = .int .i64 k ∧ u = .string ((r.take k).foldl addC x)) (fun _ v => n - (intOf v).toNat)
      case atStart => exact ⟨0, Nat.zero_le _, rfl, rfl⟩
      case round =>
        obtain ⟨k, hk, rfl, rfl⟩ := hrel
        by_cases hlt : k < n
        · have hy : w.cell? ⟨ad.block, ad.off + 1 + k, none⟩ = some (.string (r.getD k ByteArray.empty)) := by
            have := HL.out (k + 1) (by have := Hn.out; simp; omega)
            rw [show ad.off + 1 + k = ad.off + (k + 1) by omega]
            exact this
          have h2 := fold_take_le r x (k + 1)
          rw [fold_step r x k (by rw [Hn.out]; exact hlt), size_addC] at h2
          have hst := Lib.hid (fold_step r x k (by rw [Hn.out]; exact hlt))
          obtain ⟨y, hyd⟩ : ∃ y, r.getD k ByteArray.empty = y := ⟨_, rfl⟩
          obtain ⟨a, had⟩ : ∃ a, (r.take k).foldl addC x = a := ⟨_, rfl⟩
          rw [hyd] at hy h2
          rw [had] at h2 ⊢
          have hst' := Lib.hid (show (r.take (k + 1)).foldl addC x = addC a y by rw [hst.out, had, hyd])
          clear hst hyd had
          have b1 : (1 : Int) + y.size ≤ 9223372036854775807 := by omega
          go_wp2
          go_round
          case rel => exact ⟨k + 1, by omega, by go_num, by rw [hst'.out]; rfl⟩
          case measure => simp [intOf]; omega
        · obtain rfl : k = n := by omega
          go_wp2
          go_ret
          exact ⟨by rw [Fin.out, if_pos HR.out, ← Hn.out, List.take_length]; rfl, rfl⟩
end Go.Proofs.YthjekbmgbidcfaaDoor.Lex
