/- The law PathOrder: its walk, out of the contracts. -/
import Derived.Test.YthjekbmgbidcfaaDoorPathTellsLaw
namespace Go.Proofs.YthjekbmgbidcfaaDoor.Lex
open Go.RowKit Go.Lib

theorem normS_of {s : ByteArray} {p : List UInt8} (h : normalL s.data.toList = some p) : normS s = ⟨p.toArray⟩ := by unfold normS; rw [h]
theorem norm_right {s : ByteArray} (h : normB s = true) : normB (normS s) = true ∧ normS (normS s) = normS s ∧ rightL (normS s).data.toList = true := by
  unfold normB at h
  cases hn : normalL s.data.toList with
  | none => rw [hn] at h; cases h
  | some p =>
    have e : (normS s).data.toList = p := by unfold normS; rw [hn]
    have h2 := normal_right hn
    refine ⟨?_, ?_, ?_⟩
    · unfold normB; rw [e, h2]; rfl
    · rw [normS_of (s := normS s) (by rw [e]; exact h2), normS_of hn]
    · rw [e]; unfold rightL; rw [h2]; exact beq_self_eq_true _
theorem norm_empty {s : ByteArray} (h : normB s = false) : normS s = ⟨#[]⟩ := by
  unfold normB at h
  unfold normS
  cases hn : normalL s.data.toList with
  | none => rfl
  | some p => rw [hn] at h; cases h

set_option maxHeartbeats 8000000 in
theorem PathOrder_calls (p q s : ByteArray) (m : Int) (w : World) (hm : w.cell? ⟨5, 0, none⟩ = some (.int .i64 m)) :
    Calls Tryd.prog 6 #[.string p, .string q, .string s] w fun e w' => e = .returned (.bool true) ∧ Below w.heap.size w w' := by
  have hA := pathAlive_calls m w hm
  have hmm : ∀ w2, Below w.heap.size w w2 → w2.cell? ⟨5, 0, none⟩ = some (.int .i64 m) := fun w2 hb => (hb.cell (p := ⟨5, 0, none⟩) (World.block_lt_of_cell? _ _ hm)).trans hm
  by_cases h1 : p.size ≤ 500
  · have d1 : decide ((p.size : Int) > 500) = false := decide_eq_false (by omega)
    by_cases h2 : q.size ≤ 500
    · have d2 : decide ((q.size : Int) > 500) = false := decide_eq_false (by omega)
      by_cases h3 : s.size ≤ 500
      · have d3 : decide ((s.size : Int) > 500) = false := decide_eq_false (by omega)
        have cpp := fun w2 (hb : Below w.heap.size w w2) => Under_calls p p m w2 (by omega) (by omega) (hmm w2 hb)
        have cwp := fun w2 (hb : Below w.heap.size w w2) => Under_calls ⟨#[47]⟩ p m w2 (by decide) (by omega) (hmm w2 hb)
        have cr := fun w2 => Right_calls p w2 (by omega)
        have cpq := fun w2 (hb : Below w.heap.size w w2) => Under_calls p q m w2 (by omega) (by omega) (hmm w2 hb)
        have cqp := fun w2 (hb : Below w.heap.size w w2) => Under_calls q p m w2 (by omega) (by omega) (hmm w2 hb)
        have cqs := fun w2 (hb : Below w.heap.size w w2) => Under_calls q s m w2 (by omega) (by omega) (hmm w2 hb)
        have cps := fun w2 (hb : Below w.heap.size w w2) => Under_calls p s m w2 (by omega) (by omega) (hmm w2 hb)
        have cN := fun w2 => Normal_calls p w2 (by omega)
        have hnl : (normS p).size ≤ 1000 := by
          cases hb : normB p
          · rw [norm_empty hb]; decide
          · have h := (rightL_iff _).1 (norm_right hb).2.2
            obtain ⟨_, _, _, h256⟩ := h
            rw [Array.length_toList] at h256
            exact Nat.le_trans h256 (by decide)
        have cX := fun w2 => Normal_calls (normS p) w2 (by omega)
        have cR := fun w2 => Right_calls (normS p) w2 (by omega)
        rw [under_self] at cpp
        rw [show (⟨#[47]⟩ : ByteArray).data.toList = [47] from rfl, under_whole] at cwp
        have hpq : underL p.data.toList q.data.toList = true → underL q.data.toList p.data.toList = true → p = q := fun a b => ByteArray.ext (Array.ext' (under_both a b))
        have htr : underL p.data.toList q.data.toList = true → underL q.data.toList s.data.toList = true → underL p.data.toList s.data.toList = true := under_trans
        have hyes : normB p = true → normB (normS p) = true ∧ normS (normS p) = normS p ∧ rightL (normS p).data.toList = true := norm_right
        have hno : normB p = false → normS p = ⟨#[]⟩ := norm_empty
        generalize normB (normS p) = xb at cX hyes
        generalize normS (normS p) = xs at cX hyes
        generalize rightL (normS p).data.toList = xr at cR hyes
        generalize normS p = ns at cN cX cR hyes hno
        generalize normB p = nb at cN hyes hno
        generalize rightL p.data.toList = r at cpp cwp cr
        generalize underL p.data.toList q.data.toList = a at cpq hpq htr
        generalize underL q.data.toList p.data.toList = b at cqp hpq
        generalize underL q.data.toList s.data.toList = c at cqs htr
        generalize underL p.data.toList s.data.toList = d at cps htr
        have ns_ne : (ns.toList == ns.toList) = true := beq_self_eq_true _
        clear hmm hm hnl
        cases nb
        · obtain rfl := hno rfl
          clear hyes hno
          cases a
          · clear hpq htr
            go_enter Tryd.func6, Tryd.ntmps6
            go_wp2_with fail
            refine hA.mono ?_
            rintro e w1 ⟨rfl, hb1⟩
            go_wp2_with fail
            refine (cpp w1 hb1).mono ?_
            rintro e w2 ⟨rfl, hbx⟩
            have hb2 := hb1.trans (hbx.mono hb1.size)
            clear hbx
            go_wp2_with fail
            refine (cr w2).mono ?_
            rintro e w3 ⟨rfl, hbx⟩
            have hb3 := hb2.trans (hbx.mono hb2.size)
            clear hbx
            go_wp2_with fail
            refine (cwp w3 hb3).mono ?_
            rintro e w4 ⟨rfl, hbx⟩
            have hb4 := hb3.trans (hbx.mono hb3.size)
            clear hbx
            go_wp2_with fail
            refine (cr w4).mono ?_
            rintro e w5 ⟨rfl, hbx⟩
            have hb5 := hb4.trans (hbx.mono hb4.size)
            clear hbx
            go_wp2_with fail
            refine (cpq w5 hb5).mono ?_
            rintro e w6 ⟨rfl, hbx⟩
            have hb6 := hb5.trans (hbx.mono hb5.size)
            clear hbx
            go_wp2_with fail
            refine (cpq w6 hb6).mono ?_
            rintro e w7 ⟨rfl, hbx⟩
            have hb7 := hb6.trans (hbx.mono hb6.size)
            clear hbx
            go_wp2_with fail
            refine (cN w7).mono ?_
            rintro e w8 ⟨rfl, hbx⟩
            have hb8 := hb7.trans (hbx.mono hb7.size)
            clear hbx
            go_wp2_with fail
            refine (cX w8).mono ?_
            rintro e w9 ⟨rfl, hbx⟩
            have hb9 := hb8.trans (hbx.mono hb8.size)
            clear hbx
            go_wp2
            go_ret
            exact ⟨by first | rfl | simp, hb9⟩
          · cases b
            · clear hpq
              cases c
              · clear htr
                go_enter Tryd.func6, Tryd.ntmps6
                go_wp2_with fail
                refine hA.mono ?_
                rintro e w1 ⟨rfl, hb1⟩
                go_wp2_with fail
                refine (cpp w1 hb1).mono ?_
                rintro e w2 ⟨rfl, hbx⟩
                have hb2 := hb1.trans (hbx.mono hb1.size)
                clear hbx
                go_wp2_with fail
                refine (cr w2).mono ?_
                rintro e w3 ⟨rfl, hbx⟩
                have hb3 := hb2.trans (hbx.mono hb2.size)
                clear hbx
                go_wp2_with fail
                refine (cwp w3 hb3).mono ?_
                rintro e w4 ⟨rfl, hbx⟩
                have hb4 := hb3.trans (hbx.mono hb3.size)
                clear hbx
                go_wp2_with fail
                refine (cr w4).mono ?_
                rintro e w5 ⟨rfl, hbx⟩
                have hb5 := hb4.trans (hbx.mono hb4.size)
                clear hbx
                go_wp2_with fail
                refine (cpq w5 hb5).mono ?_
                rintro e w6 ⟨rfl, hbx⟩
                have hb6 := hb5.trans (hbx.mono hb5.size)
                clear hbx
                go_wp2_with fail
                refine (cqp w6 hb6).mono ?_
                rintro e w7 ⟨rfl, hbx⟩
                have hb7 := hb6.trans (hbx.mono hb6.size)
                clear hbx
                go_wp2_with fail
                refine (cpq w7 hb7).mono ?_
                rintro e w8 ⟨rfl, hbx⟩
                have hb8 := hb7.trans (hbx.mono hb7.size)
                clear hbx
                go_wp2_with fail
                refine (cqs w8 hb8).mono ?_
                rintro e w9 ⟨rfl, hbx⟩
                have hb9 := hb8.trans (hbx.mono hb8.size)
                clear hbx
                go_wp2_with fail
                refine (cN w9).mono ?_
                rintro e w10 ⟨rfl, hbx⟩
                have hb10 := hb9.trans (hbx.mono hb9.size)
                clear hbx
                go_wp2_with fail
                refine (cX w10).mono ?_
                rintro e w11 ⟨rfl, hbx⟩
                have hb11 := hb10.trans (hbx.mono hb10.size)
                clear hbx
                go_wp2
                go_ret
                exact ⟨by first | rfl | simp, hb11⟩
              · obtain rfl := htr rfl rfl
                clear htr
                go_enter Tryd.func6, Tryd.ntmps6
                go_wp2_with fail
                refine hA.mono ?_
                rintro e w1 ⟨rfl, hb1⟩
                go_wp2_with fail
                refine (cpp w1 hb1).mono ?_
                rintro e w2 ⟨rfl, hbx⟩
                have hb2 := hb1.trans (hbx.mono hb1.size)
                clear hbx
                go_wp2_with fail
                refine (cr w2).mono ?_
                rintro e w3 ⟨rfl, hbx⟩
                have hb3 := hb2.trans (hbx.mono hb2.size)
                clear hbx
                go_wp2_with fail
                refine (cwp w3 hb3).mono ?_
                rintro e w4 ⟨rfl, hbx⟩
                have hb4 := hb3.trans (hbx.mono hb3.size)
                clear hbx
                go_wp2_with fail
                refine (cr w4).mono ?_
                rintro e w5 ⟨rfl, hbx⟩
                have hb5 := hb4.trans (hbx.mono hb4.size)
                clear hbx
                go_wp2_with fail
                refine (cpq w5 hb5).mono ?_
                rintro e w6 ⟨rfl, hbx⟩
                have hb6 := hb5.trans (hbx.mono hb5.size)
                clear hbx
                go_wp2_with fail
                refine (cqp w6 hb6).mono ?_
                rintro e w7 ⟨rfl, hbx⟩
                have hb7 := hb6.trans (hbx.mono hb6.size)
                clear hbx
                go_wp2_with fail
                refine (cpq w7 hb7).mono ?_
                rintro e w8 ⟨rfl, hbx⟩
                have hb8 := hb7.trans (hbx.mono hb7.size)
                clear hbx
                go_wp2_with fail
                refine (cqs w8 hb8).mono ?_
                rintro e w9 ⟨rfl, hbx⟩
                have hb9 := hb8.trans (hbx.mono hb8.size)
                clear hbx
                go_wp2_with fail
                refine (cps w9 hb9).mono ?_
                rintro e w10 ⟨rfl, hbx⟩
                have hb10 := hb9.trans (hbx.mono hb9.size)
                clear hbx
                go_wp2_with fail
                refine (cN w10).mono ?_
                rintro e w11 ⟨rfl, hbx⟩
                have hb11 := hb10.trans (hbx.mono hb10.size)
                clear hbx
                go_wp2_with fail
                refine (cX w11).mono ?_
                rintro e w12 ⟨rfl, hbx⟩
                have hb12 := hb11.trans (hbx.mono hb11.size)
                clear hbx
                go_wp2
                go_ret
                exact ⟨by first | rfl | simp, hb12⟩
            · obtain rfl := hpq rfl rfl
              clear hpq
              cases c
              · clear htr
                go_enter Tryd.func6, Tryd.ntmps6
                go_wp2_with fail
                refine hA.mono ?_
                rintro e w1 ⟨rfl, hb1⟩
                go_wp2_with fail
                refine (cpp w1 hb1).mono ?_
                rintro e w2 ⟨rfl, hbx⟩
                have hb2 := hb1.trans (hbx.mono hb1.size)
                clear hbx
                go_wp2_with fail
                refine (cr w2).mono ?_
                rintro e w3 ⟨rfl, hbx⟩
                have hb3 := hb2.trans (hbx.mono hb2.size)
                clear hbx
                go_wp2_with fail
                refine (cwp w3 hb3).mono ?_
                rintro e w4 ⟨rfl, hbx⟩
                have hb4 := hb3.trans (hbx.mono hb3.size)
                clear hbx
                go_wp2_with fail
                refine (cr w4).mono ?_
                rintro e w5 ⟨rfl, hbx⟩
                have hb5 := hb4.trans (hbx.mono hb4.size)
                clear hbx
                go_wp2_with fail
                refine (cpq w5 hb5).mono ?_
                rintro e w6 ⟨rfl, hbx⟩
                have hb6 := hb5.trans (hbx.mono hb5.size)
                clear hbx
                go_wp2_with fail
                refine (cqp w6 hb6).mono ?_
                rintro e w7 ⟨rfl, hbx⟩
                have hb7 := hb6.trans (hbx.mono hb6.size)
                clear hbx
                go_wp2_with fail
                refine (cpq w7 hb7).mono ?_
                rintro e w8 ⟨rfl, hbx⟩
                have hb8 := hb7.trans (hbx.mono hb7.size)
                clear hbx
                go_wp2_with fail
                refine (cqs w8 hb8).mono ?_
                rintro e w9 ⟨rfl, hbx⟩
                have hb9 := hb8.trans (hbx.mono hb8.size)
                clear hbx
                go_wp2_with fail
                refine (cN w9).mono ?_
                rintro e w10 ⟨rfl, hbx⟩
                have hb10 := hb9.trans (hbx.mono hb9.size)
                clear hbx
                go_wp2_with fail
                refine (cX w10).mono ?_
                rintro e w11 ⟨rfl, hbx⟩
                have hb11 := hb10.trans (hbx.mono hb10.size)
                clear hbx
                go_wp2
                go_ret
                exact ⟨by first | rfl | simp, hb11⟩
              · obtain rfl := htr rfl rfl
                clear htr
                go_enter Tryd.func6, Tryd.ntmps6
                go_wp2_with fail
                refine hA.mono ?_
                rintro e w1 ⟨rfl, hb1⟩
                go_wp2_with fail
                refine (cpp w1 hb1).mono ?_
                rintro e w2 ⟨rfl, hbx⟩
                have hb2 := hb1.trans (hbx.mono hb1.size)
                clear hbx
                go_wp2_with fail
                refine (cr w2).mono ?_
                rintro e w3 ⟨rfl, hbx⟩
                have hb3 := hb2.trans (hbx.mono hb2.size)
                clear hbx
                go_wp2_with fail
                refine (cwp w3 hb3).mono ?_
                rintro e w4 ⟨rfl, hbx⟩
                have hb4 := hb3.trans (hbx.mono hb3.size)
                clear hbx
                go_wp2_with fail
                refine (cr w4).mono ?_
                rintro e w5 ⟨rfl, hbx⟩
                have hb5 := hb4.trans (hbx.mono hb4.size)
                clear hbx
                go_wp2_with fail
                refine (cpq w5 hb5).mono ?_
                rintro e w6 ⟨rfl, hbx⟩
                have hb6 := hb5.trans (hbx.mono hb5.size)
                clear hbx
                go_wp2_with fail
                refine (cqp w6 hb6).mono ?_
                rintro e w7 ⟨rfl, hbx⟩
                have hb7 := hb6.trans (hbx.mono hb6.size)
                clear hbx
                go_wp2_with fail
                refine (cpq w7 hb7).mono ?_
                rintro e w8 ⟨rfl, hbx⟩
                have hb8 := hb7.trans (hbx.mono hb7.size)
                clear hbx
                go_wp2_with fail
                refine (cqs w8 hb8).mono ?_
                rintro e w9 ⟨rfl, hbx⟩
                have hb9 := hb8.trans (hbx.mono hb8.size)
                clear hbx
                go_wp2_with fail
                refine (cps w9 hb9).mono ?_
                rintro e w10 ⟨rfl, hbx⟩
                have hb10 := hb9.trans (hbx.mono hb9.size)
                clear hbx
                go_wp2_with fail
                refine (cN w10).mono ?_
                rintro e w11 ⟨rfl, hbx⟩
                have hb11 := hb10.trans (hbx.mono hb10.size)
                clear hbx
                go_wp2_with fail
                refine (cX w11).mono ?_
                rintro e w12 ⟨rfl, hbx⟩
                have hb12 := hb11.trans (hbx.mono hb11.size)
                clear hbx
                go_wp2
                go_ret
                exact ⟨by first | rfl | simp, hb12⟩
        · obtain ⟨rfl, rfl, rfl⟩ := hyes rfl
          clear hno hyes
          cases a
          · clear hpq htr
            go_enter Tryd.func6, Tryd.ntmps6
            go_wp2_with fail
            refine hA.mono ?_
            rintro e w1 ⟨rfl, hb1⟩
            go_wp2_with fail
            refine (cpp w1 hb1).mono ?_
            rintro e w2 ⟨rfl, hbx⟩
            have hb2 := hb1.trans (hbx.mono hb1.size)
            clear hbx
            go_wp2_with fail
            refine (cr w2).mono ?_
            rintro e w3 ⟨rfl, hbx⟩
            have hb3 := hb2.trans (hbx.mono hb2.size)
            clear hbx
            go_wp2_with fail
            refine (cwp w3 hb3).mono ?_
            rintro e w4 ⟨rfl, hbx⟩
            have hb4 := hb3.trans (hbx.mono hb3.size)
            clear hbx
            go_wp2_with fail
            refine (cr w4).mono ?_
            rintro e w5 ⟨rfl, hbx⟩
            have hb5 := hb4.trans (hbx.mono hb4.size)
            clear hbx
            go_wp2_with fail
            refine (cpq w5 hb5).mono ?_
            rintro e w6 ⟨rfl, hbx⟩
            have hb6 := hb5.trans (hbx.mono hb5.size)
            clear hbx
            go_wp2_with fail
            refine (cpq w6 hb6).mono ?_
            rintro e w7 ⟨rfl, hbx⟩
            have hb7 := hb6.trans (hbx.mono hb6.size)
            clear hbx
            go_wp2_with fail
            refine (cN w7).mono ?_
            rintro e w8 ⟨rfl, hbx⟩
            have hb8 := hb7.trans (hbx.mono hb7.size)
            clear hbx
            go_wp2_with fail
            refine (cX w8).mono ?_
            rintro e w9 ⟨rfl, hbx⟩
            have hb9 := hb8.trans (hbx.mono hb8.size)
            clear hbx
            go_wp2_with fail
            refine (cR w9).mono ?_
            rintro e w10 ⟨rfl, hbx⟩
            have hb10 := hb9.trans (hbx.mono hb9.size)
            clear hbx
            go_wp2
            go_ret
            exact ⟨by first | rfl | simp, hb10⟩
          · cases b
            · clear hpq
              cases c
              · clear htr
                go_enter Tryd.func6, Tryd.ntmps6
                go_wp2_with fail
                refine hA.mono ?_
                rintro e w1 ⟨rfl, hb1⟩
                go_wp2_with fail
                refine (cpp w1 hb1).mono ?_
                rintro e w2 ⟨rfl, hbx⟩
                have hb2 := hb1.trans (hbx.mono hb1.size)
                clear hbx
                go_wp2_with fail
                refine (cr w2).mono ?_
                rintro e w3 ⟨rfl, hbx⟩
                have hb3 := hb2.trans (hbx.mono hb2.size)
                clear hbx
                go_wp2_with fail
                refine (cwp w3 hb3).mono ?_
                rintro e w4 ⟨rfl, hbx⟩
                have hb4 := hb3.trans (hbx.mono hb3.size)
                clear hbx
                go_wp2_with fail
                refine (cr w4).mono ?_
                rintro e w5 ⟨rfl, hbx⟩
                have hb5 := hb4.trans (hbx.mono hb4.size)
                clear hbx
                go_wp2_with fail
                refine (cpq w5 hb5).mono ?_
                rintro e w6 ⟨rfl, hbx⟩
                have hb6 := hb5.trans (hbx.mono hb5.size)
                clear hbx
                go_wp2_with fail
                refine (cqp w6 hb6).mono ?_
                rintro e w7 ⟨rfl, hbx⟩
                have hb7 := hb6.trans (hbx.mono hb6.size)
                clear hbx
                go_wp2_with fail
                refine (cpq w7 hb7).mono ?_
                rintro e w8 ⟨rfl, hbx⟩
                have hb8 := hb7.trans (hbx.mono hb7.size)
                clear hbx
                go_wp2_with fail
                refine (cqs w8 hb8).mono ?_
                rintro e w9 ⟨rfl, hbx⟩
                have hb9 := hb8.trans (hbx.mono hb8.size)
                clear hbx
                go_wp2_with fail
                refine (cN w9).mono ?_
                rintro e w10 ⟨rfl, hbx⟩
                have hb10 := hb9.trans (hbx.mono hb9.size)
                clear hbx
                go_wp2_with fail
                refine (cX w10).mono ?_
                rintro e w11 ⟨rfl, hbx⟩
                have hb11 := hb10.trans (hbx.mono hb10.size)
                clear hbx
                go_wp2_with fail
                refine (cR w11).mono ?_
                rintro e w12 ⟨rfl, hbx⟩
                have hb12 := hb11.trans (hbx.mono hb11.size)
                clear hbx
                go_wp2
                go_ret
                exact ⟨by first | rfl | simp, hb12⟩
              · obtain rfl := htr rfl rfl
                clear htr
                go_enter Tryd.func6, Tryd.ntmps6
                go_wp2_with fail
                refine hA.mono ?_
                rintro e w1 ⟨rfl, hb1⟩
                go_wp2_with fail
                refine (cpp w1 hb1).mono ?_
                rintro e w2 ⟨rfl, hbx⟩
                have hb2 := hb1.trans (hbx.mono hb1.size)
                clear hbx
                go_wp2_with fail
                refine (cr w2).mono ?_
                rintro e w3 ⟨rfl, hbx⟩
                have hb3 := hb2.trans (hbx.mono hb2.size)
                clear hbx
                go_wp2_with fail
                refine (cwp w3 hb3).mono ?_
                rintro e w4 ⟨rfl, hbx⟩
                have hb4 := hb3.trans (hbx.mono hb3.size)
                clear hbx
                go_wp2_with fail
                refine (cr w4).mono ?_
                rintro e w5 ⟨rfl, hbx⟩
                have hb5 := hb4.trans (hbx.mono hb4.size)
                clear hbx
                go_wp2_with fail
                refine (cpq w5 hb5).mono ?_
                rintro e w6 ⟨rfl, hbx⟩
                have hb6 := hb5.trans (hbx.mono hb5.size)
                clear hbx
                go_wp2_with fail
                refine (cqp w6 hb6).mono ?_
                rintro e w7 ⟨rfl, hbx⟩
                have hb7 := hb6.trans (hbx.mono hb6.size)
                clear hbx
                go_wp2_with fail
                refine (cpq w7 hb7).mono ?_
                rintro e w8 ⟨rfl, hbx⟩
                have hb8 := hb7.trans (hbx.mono hb7.size)
                clear hbx
                go_wp2_with fail
                refine (cqs w8 hb8).mono ?_
                rintro e w9 ⟨rfl, hbx⟩
                have hb9 := hb8.trans (hbx.mono hb8.size)
                clear hbx
                go_wp2_with fail
                refine (cps w9 hb9).mono ?_
                rintro e w10 ⟨rfl, hbx⟩
                have hb10 := hb9.trans (hbx.mono hb9.size)
                clear hbx
                go_wp2_with fail
                refine (cN w10).mono ?_
                rintro e w11 ⟨rfl, hbx⟩
                have hb11 := hb10.trans (hbx.mono hb10.size)
                clear hbx
                go_wp2_with fail
                refine (cX w11).mono ?_
                rintro e w12 ⟨rfl, hbx⟩
                have hb12 := hb11.trans (hbx.mono hb11.size)
                clear hbx
                go_wp2_with fail
                refine (cR w12).mono ?_
                rintro e w13 ⟨rfl, hbx⟩
                have hb13 := hb12.trans (hbx.mono hb12.size)
                clear hbx
                go_wp2
                go_ret
                exact ⟨by first | rfl | simp, hb13⟩
            · obtain rfl := hpq rfl rfl
              clear hpq
              cases c
              · clear htr
                go_enter Tryd.func6, Tryd.ntmps6
                go_wp2_with fail
                refine hA.mono ?_
                rintro e w1 ⟨rfl, hb1⟩
                go_wp2_with fail
                refine (cpp w1 hb1).mono ?_
                rintro e w2 ⟨rfl, hbx⟩
                have hb2 := hb1.trans (hbx.mono hb1.size)
                clear hbx
                go_wp2_with fail
                refine (cr w2).mono ?_
                rintro e w3 ⟨rfl, hbx⟩
                have hb3 := hb2.trans (hbx.mono hb2.size)
                clear hbx
                go_wp2_with fail
                refine (cwp w3 hb3).mono ?_
                rintro e w4 ⟨rfl, hbx⟩
                have hb4 := hb3.trans (hbx.mono hb3.size)
                clear hbx
                go_wp2_with fail
                refine (cr w4).mono ?_
                rintro e w5 ⟨rfl, hbx⟩
                have hb5 := hb4.trans (hbx.mono hb4.size)
                clear hbx
                go_wp2_with fail
                refine (cpq w5 hb5).mono ?_
                rintro e w6 ⟨rfl, hbx⟩
                have hb6 := hb5.trans (hbx.mono hb5.size)
                clear hbx
                go_wp2_with fail
                refine (cqp w6 hb6).mono ?_
                rintro e w7 ⟨rfl, hbx⟩
                have hb7 := hb6.trans (hbx.mono hb6.size)
                clear hbx
                go_wp2_with fail
                refine (cpq w7 hb7).mono ?_
                rintro e w8 ⟨rfl, hbx⟩
                have hb8 := hb7.trans (hbx.mono hb7.size)
                clear hbx
                go_wp2_with fail
                refine (cqs w8 hb8).mono ?_
                rintro e w9 ⟨rfl, hbx⟩
                have hb9 := hb8.trans (hbx.mono hb8.size)
                clear hbx
                go_wp2_with fail
                refine (cN w9).mono ?_
                rintro e w10 ⟨rfl, hbx⟩
                have hb10 := hb9.trans (hbx.mono hb9.size)
                clear hbx
                go_wp2_with fail
                refine (cX w10).mono ?_
                rintro e w11 ⟨rfl, hbx⟩
                have hb11 := hb10.trans (hbx.mono hb10.size)
                clear hbx
                go_wp2_with fail
                refine (cR w11).mono ?_
                rintro e w12 ⟨rfl, hbx⟩
                have hb12 := hb11.trans (hbx.mono hb11.size)
                clear hbx
                go_wp2
                go_ret
                exact ⟨by first | rfl | simp, hb12⟩
              · obtain rfl := htr rfl rfl
                clear htr
                go_enter Tryd.func6, Tryd.ntmps6
                go_wp2_with fail
                refine hA.mono ?_
                rintro e w1 ⟨rfl, hb1⟩
                go_wp2_with fail
                refine (cpp w1 hb1).mono ?_
                rintro e w2 ⟨rfl, hbx⟩
                have hb2 := hb1.trans (hbx.mono hb1.size)
                clear hbx
                go_wp2_with fail
                refine (cr w2).mono ?_
                rintro e w3 ⟨rfl, hbx⟩
                have hb3 := hb2.trans (hbx.mono hb2.size)
                clear hbx
                go_wp2_with fail
                refine (cwp w3 hb3).mono ?_
                rintro e w4 ⟨rfl, hbx⟩
                have hb4 := hb3.trans (hbx.mono hb3.size)
                clear hbx
                go_wp2_with fail
                refine (cr w4).mono ?_
                rintro e w5 ⟨rfl, hbx⟩
                have hb5 := hb4.trans (hbx.mono hb4.size)
                clear hbx
                go_wp2_with fail
                refine (cpq w5 hb5).mono ?_
                rintro e w6 ⟨rfl, hbx⟩
                have hb6 := hb5.trans (hbx.mono hb5.size)
                clear hbx
                go_wp2_with fail
                refine (cqp w6 hb6).mono ?_
                rintro e w7 ⟨rfl, hbx⟩
                have hb7 := hb6.trans (hbx.mono hb6.size)
                clear hbx
                go_wp2_with fail
                refine (cpq w7 hb7).mono ?_
                rintro e w8 ⟨rfl, hbx⟩
                have hb8 := hb7.trans (hbx.mono hb7.size)
                clear hbx
                go_wp2_with fail
                refine (cqs w8 hb8).mono ?_
                rintro e w9 ⟨rfl, hbx⟩
                have hb9 := hb8.trans (hbx.mono hb8.size)
                clear hbx
                go_wp2_with fail
                refine (cps w9 hb9).mono ?_
                rintro e w10 ⟨rfl, hbx⟩
                have hb10 := hb9.trans (hbx.mono hb9.size)
                clear hbx
                go_wp2_with fail
                refine (cN w10).mono ?_
                rintro e w11 ⟨rfl, hbx⟩
                have hb11 := hb10.trans (hbx.mono hb10.size)
                clear hbx
                go_wp2_with fail
                refine (cX w11).mono ?_
                rintro e w12 ⟨rfl, hbx⟩
                have hb12 := hb11.trans (hbx.mono hb11.size)
                clear hbx
                go_wp2_with fail
                refine (cR w12).mono ?_
                rintro e w13 ⟨rfl, hbx⟩
                have hb13 := hb12.trans (hbx.mono hb12.size)
                clear hbx
                go_wp2
                go_ret
                exact ⟨by first | rfl | simp, hb13⟩
      · have d3 : decide ((s.size : Int) > 500) = true := decide_eq_true (by omega)
        go_enter Tryd.func6, Tryd.ntmps6
        go_wp2_with (go_at_call 23; refine hA.mono ?_; rintro e w1 ⟨rfl, hb1⟩)
        go_ret
        exact ⟨rfl, hb1⟩
    · have d2 : decide ((q.size : Int) > 500) = true := decide_eq_true (by omega)
      go_enter Tryd.func6, Tryd.ntmps6
      go_wp2_with (go_at_call 23; refine hA.mono ?_; rintro e w1 ⟨rfl, hb1⟩)
      go_ret
      exact ⟨rfl, hb1⟩
  · have d1 : decide ((p.size : Int) > 500) = true := decide_eq_true (by omega)
    go_enter Tryd.func6, Tryd.ntmps6
    go_wp2_with (go_at_call 23; refine hA.mono ?_; rintro e w1 ⟨rfl, hb1⟩)
    go_ret
    exact ⟨rfl, hb1⟩
end Go.Proofs.YthjekbmgbidcfaaDoor.Lex
