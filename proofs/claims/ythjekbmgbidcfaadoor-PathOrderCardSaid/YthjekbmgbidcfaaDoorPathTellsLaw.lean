/- The laws PathTells and PathOrder: their walks, out of the contracts. -/
import Derived.Test.YthjekbmgbidcfaaDoorPathRefNormal
namespace Go.Proofs.YthjekbmgbidcfaaDoor.Lex
open Go.RowKit Go.Lib

set_option maxHeartbeats 1000000 in
theorem PSame_calls (a1 a2 : Option Addr) (c d : Nat) (l l' : List ByteArray) (w : World) (hn : l.length = l'.length) (hm : l.length ≤ 9223372036854775807)
    (h1 : 0 < l.length → ∃ ad, a1 = some ad ∧ Texts w ad l) (h2 : 0 < l.length → ∃ ad, a2 = some ad ∧ Texts w ad l') :
    Calls Tryd.prog 28 #[.slice a1 l.length c, .slice a2 l'.length d] w fun e w' => e = .returned (.bool (decide (l = l'))) ∧ ∃ q, w' = w.drewN q := by
  have H1 := Lib.hid h1; clear h1
  have H2 := Lib.hid h2; clear h2
  rw [← hn]
  obtain ⟨n, hn'⟩ : ∃ n, l.length = n := ⟨_, rfl⟩
  have Hn := Lib.hid hn; clear hn
  rw [hn'] at hm ⊢
  have Hl := Lib.hid hn'; clear hn'
  have d0 : ((n : Int) != (n : Int)) = false := by simp
  go_enter Tryd.func28, Tryd.ntmps28
  go_wp2
  go_loopw [13] (fun v wr => ∃ k : Nat, k ≤ n ∧ v = .int .i64 k ∧ (∀ i, i < k → l.getD i ByteArray.empty = l'.getD i ByteArray.empty) ∧ ∃ q, wr = w.drewN q) (fun v _ => n - (intOf v).toNat)
  case atStart => exact ⟨0, Nat.zero_le _, rfl, fun i hi => absurd hi (Nat.not_lt_zero _), 0, rfl⟩
  case round =>
    obtain ⟨k, hk, rfl, hg, q, rfl⟩ := hrel
    have HG := Lib.hid hg; clear hg
    by_cases hlt : k < n
    · obtain ⟨ad1, rfl, t1⟩ := H1.out (by rw [Hl.out]; omega)
      obtain ⟨ad2, rfl, t2⟩ := H2.out (by rw [Hl.out]; omega)
      have hx : w.cell? (ad1.add k) = some (.string (l.getD k ByteArray.empty)) := t1 k (by rw [Hl.out]; exact hlt)
      have hy : w.cell? (ad2.add k) = some (.string (l'.getD k ByteArray.empty)) := t2 k (by rw [← Hn.out, Hl.out]; exact hlt)
      clear t1 t2
      obtain ⟨x, hxd⟩ : ∃ x, l.getD k ByteArray.empty = x := ⟨_, rfl⟩
      obtain ⟨y, hyd⟩ : ∃ y, l'.getD k ByteArray.empty = y := ⟨_, rfl⟩
      rw [hxd] at hx
      rw [hyd] at hy
      have Hx := Lib.hid hxd; clear hxd
      have Hy := Lib.hid hyd; clear hyd
      have z0 : (0 : Int) ≤ (k : Int) := by omega
      have z1 : (k : Int) < n := by omega
      by_cases e : x = y
      · subst e
        go_wp2
        go_quiet (fail)
        go_wp2
        go_roundw
        case rel =>
          refine ⟨k + 1, by omega, by go_num, fun i hi => ?_, _, rfl⟩
          by_cases e : i = k
          · rw [e, Hx.out, Hy.out]
          · exact HG.out i (by omega)
        case measure => simp [intOf]; omega
      · have bad := Lib.hid (same_false (l := l) (l' := l') k (by rw [Hx.out, Hy.out]; exact e))
        have ne : (x.toList == y.toList) = false := beq_eq_false_iff_ne.2 fun h => e (by
          rw [ByteArray.toList_eq, ByteArray.toList_eq] at h
          exact ByteArray.ext (Array.ext' h))
        clear e
        go_wp2
        go_quiet (fail)
        go_wp2
        go_ret
        exact ⟨by rw [bad.out]; rfl, _, World.drewN_drewN ..⟩
    · go_wp2
      go_ret
      exact ⟨by rw [same_true (Hn.out) (fun i hi => HG.out i (by rw [Hl.out] at hi; omega))]; rfl, q, rfl⟩


theorem PSame_in (a1 a2 : Option Addr) (c d : Nat) (l : List ByteArray) (w : World) (hm : l.length ≤ 9223372036854775807) (h1 : In w a1 l) (h2 : In w a2 l) :
    Calls Tryd.prog 28 #[.slice a1 l.length c, .slice a2 l.length d] w fun e w' => e = .returned (.bool true) ∧ Below w.heap.size w w' := by
  have := PSame_calls a1 a2 c d l l w rfl hm (fun h => by obtain ⟨ad, e, _, t⟩ := h1 h; exact ⟨ad, e, t⟩) (fun h => by obtain ⟨ad, e, _, t⟩ := h2 h; exact ⟨ad, e, t⟩)
  rw [decide_eq_true rfl] at this
  refine this.mono ?_
  rintro e w' ⟨he, q, rfl⟩
  exact ⟨he, below_drewN' (Below.refl _ _) q⟩

def al : ByteArray := ⟨#[47, 47, 97, 47, 46, 47, 98, 47, 46, 46, 47, 99, 47]⟩
theorem alive_normal : normalL al.data.toList = some [47, 97, 47, 99] := by decide +kernel
theorem alive_S : normS ⟨#[47, 47, 97, 47, 46, 47, 98, 47, 46, 46, 47, 99, 47]⟩ = ⟨#[47, 97, 47, 99]⟩ ∧ normB ⟨#[47, 47, 97, 47, 46, 47, 98, 47, 46, 46, 47, 99, 47]⟩ = true := by
  have h : normalL (⟨#[47, 47, 97, 47, 46, 47, 98, 47, 46, 46, 47, 99, 47]⟩ : ByteArray).data.toList = some [47, 97, 47, 99] := alive_normal
  unfold normS normB
  rw [h]
  exact ⟨rfl, rfl⟩
theorem alive_u1 : underL (⟨#[47, 97]⟩ : ByteArray).data.toList (⟨#[47, 97, 47, 98]⟩ : ByteArray).data.toList = true := by decide +kernel
theorem alive_u2 : underL (⟨#[47, 97]⟩ : ByteArray).data.toList (⟨#[47, 97, 98]⟩ : ByteArray).data.toList = false := by decide +kernel

set_option maxHeartbeats 1000000 in
theorem pathAlive_calls (m : Int) (w : World) (hm : w.cell? ⟨5, 0, none⟩ = some (.int .i64 m)) :
    Calls Tryd.prog 23 #[] w fun e w' => e = .returned (.bool true) ∧ Below w.heap.size w w' := by
  have hmm : ∀ w2, Below w.heap.size w w2 → w2.cell? ⟨5, 0, none⟩ = some (.int .i64 m) := fun w2 hb => (hb.cell (p := ⟨5, 0, none⟩) (World.block_lt_of_cell? _ _ hm)).trans hm
  have c1 := fun w2 => Normal_calls ⟨#[47, 47, 97, 47, 46, 47, 98, 47, 46, 46, 47, 99, 47]⟩ w2 (by decide)
  rw [alive_S.1, alive_S.2] at c1
  have c2 := fun w2 (hb : Below w.heap.size w w2) => Under_calls ⟨#[47, 97]⟩ ⟨#[47, 97, 47, 98]⟩ m w2 (by decide) (by decide) (hmm w2 hb)
  rw [alive_u1] at c2
  have c3 := fun w2 (hb : Below w.heap.size w w2) => Under_calls ⟨#[47, 97]⟩ ⟨#[47, 97, 98]⟩ m w2 (by decide) (by decide) (hmm w2 hb)
  rw [alive_u2] at c3
  clear hmm hm
  go_enter Tryd.func23, Tryd.ntmps23
  go_wp2_with fail
  refine (c1 _).mono ?_
  rintro e w1 ⟨rfl, hb1⟩
  go_wp2_with fail
  refine (c2 w1 hb1).mono ?_
  rintro e w2 ⟨rfl, hbx⟩
  have hb2 := hb1.trans (hbx.mono hb1.size)
  go_wp2_with fail
  refine (c3 w2 hb2).mono ?_
  rintro e w3 ⟨rfl, hby⟩
  have hb3 := hb2.trans (hby.mono hb2.size)
  go_wp2
  go_ret
  exact ⟨rfl, hb3⟩

set_option maxHeartbeats 4000000 in
theorem PathTells_calls (p q : ByteArray) (m : Int) (w : World) (hm : w.cell? ⟨5, 0, none⟩ = some (.int .i64 m)) :
    Calls Tryd.prog 5 #[.string p, .string q] w fun e w' => e = .returned (.bool true) ∧ Below w.heap.size w w' := by
  have hA := pathAlive_calls m w hm
  have hmm : ∀ w2, Below w.heap.size w w2 → w2.cell? ⟨5, 0, none⟩ = some (.int .i64 m) := fun w2 hb => (hb.cell (p := ⟨5, 0, none⟩) (World.block_lt_of_cell? _ _ hm)).trans hm
  by_cases h1 : p.size ≤ 1000
  · have d1 : decide ((p.size : Int) > 1000) = false := decide_eq_false (by omega)
    by_cases h2 : q.size ≤ 1000
    · have d2 : decide ((q.size : Int) > 1000) = false := decide_eq_false (by omega)
      have c1 := fun w2 => Normal_calls p w2 (by omega)
      have c2 := fun w2 => RefNormal_calls p w2 (by omega)
      have c3 := fun w2 => Right_calls p w2 (by omega)
      have c4 := fun w2 => RefRight_calls p w2 (by omega)
      have c5 := fun w2 (hb : Below w.heap.size w w2) => (PathNames_calls p m w2 (by omega) (hmm w2 hb)).mono fun e w' h => pnames_gives h
      have c6 := fun w2 => RefPathNames_calls p w2 (by omega)
      have c7 := fun w2 (hb : Below w.heap.size w w2) => Under_calls p q m w2 (by omega) (by omega) (hmm w2 hb)
      have c8 := fun w2 => RefUnder_calls p q w2 (by omega) (by omega)
      have c9 := fun w2 (hb : Below w.heap.size w w2) => Under_calls q p m w2 (by omega) (by omega) (hmm w2 hb)
      have c10 := fun w2 => RefUnder_calls q p w2 (by omega) (by omega)
      have hpl := pnames_len p (by omega)
      rw [← right_eq] at c4
      rw [← under_eq] at c8 c10
      generalize normS p = ns at c1 c2
      generalize normB p = nb at c1 c2
      generalize rightL p.data.toList = r at c3 c4
      generalize pnames p = l at c5 c6 hpl
      generalize underL p.data.toList q.data.toList = u1 at c7 c8
      generalize underL q.data.toList p.data.toList = u2 at c9 c10
      clear hmm hm
      go_enter Tryd.func5, Tryd.ntmps5
      go_wp2_with fail
      refine hA.mono ?_
      rintro e w1 ⟨rfl, hb1⟩
      go_wp2_with fail
      refine (c1 w1).mono ?_
      rintro e w2 ⟨rfl, hbx⟩
      have hb2 := hb1.trans (hbx.mono hb1.size)
      clear hbx
      go_wp2_with fail
      refine (c2 w2).mono ?_
      rintro e w3 ⟨rfl, hbx⟩
      have hb3 := hb2.trans (hbx.mono hb2.size)
      clear hbx
      go_wp2_with fail
      refine (c3 w3).mono ?_
      rintro e w4 ⟨rfl, hbx⟩
      have hb4 := hb3.trans (hbx.mono hb3.size)
      clear hbx
      go_wp2_with fail
      refine (c4 w4).mono ?_
      rintro e w5 ⟨rfl, hbx⟩
      have hb5 := hb4.trans (hbx.mono hb4.size)
      clear hbx
      go_wp2_with fail
      refine (c5 w5 hb5).mono ?_
      rintro e w6 ⟨A1, k1, rfl, hk1, hi1, hbx⟩
      have hb6 := hb5.trans (hbx.mono hb5.size)
      clear hbx
      go_wp2_with fail
      refine (c6 w6).mono ?_
      rintro e w7 ⟨A2, k2, rfl, hk2, hi2, hbx⟩
      have hb7 := hb6.trans (hbx.mono hb6.size)
      have hs := PSame_in A1 A2 k1 k2 l w7 (by omega) (hi1.below hbx) hi2
      clear hbx
      go_wp2_with fail
      refine (hs).mono ?_
      rintro e w8 ⟨rfl, hbx⟩
      have hb8 := hb7.trans (hbx.mono hb7.size)
      clear hbx
      go_wp2_with fail
      refine (c7 w8 hb8).mono ?_
      rintro e w9 ⟨rfl, hbx⟩
      have hb9 := hb8.trans (hbx.mono hb8.size)
      clear hbx
      go_wp2_with fail
      refine (c8 w9).mono ?_
      rintro e w10 ⟨rfl, hbx⟩
      have hb10 := hb9.trans (hbx.mono hb9.size)
      clear hbx
      go_wp2_with fail
      refine (c9 w10 hb10).mono ?_
      rintro e w11 ⟨rfl, hbx⟩
      have hb11 := hb10.trans (hbx.mono hb10.size)
      clear hbx
      go_wp2_with fail
      refine (c10 w11).mono ?_
      rintro e w12 ⟨rfl, hbx⟩
      have hb12 := hb11.trans (hbx.mono hb11.size)
      clear hbx
      go_wp2
      go_ret
      exact ⟨by simp, hb12⟩
    · have d2 : decide ((q.size : Int) > 1000) = true := decide_eq_true (by omega)
      go_enter Tryd.func5, Tryd.ntmps5
      go_wp2_with (go_at_call 23; refine hA.mono ?_; rintro e w1 ⟨rfl, hb1⟩)
      go_ret
      exact ⟨rfl, hb1⟩
  · have d1 : decide ((p.size : Int) > 1000) = true := decide_eq_true (by omega)
    go_enter Tryd.func5, Tryd.ntmps5
    go_wp2_with (go_at_call 23; refine hA.mono ?_; rintro e w1 ⟨rfl, hb1⟩)
    go_ret
    exact ⟨rfl, hb1⟩
end Go.Proofs.YthjekbmgbidcfaaDoor.Lex
