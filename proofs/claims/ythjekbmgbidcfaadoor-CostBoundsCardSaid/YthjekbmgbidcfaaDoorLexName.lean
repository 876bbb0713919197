/- The walks of lex.Name and of its function literal: a name is told by its bytes. -/
import Derived.Test.YthjekbmgbidcfaaDoorShelf
import Derived.Test.YthjekbmgbidcfaaDoorLexPlain
import Derived.WalkKit
import Derived.Lib.Hide
import Derived.WalkSpells
import Derived.WalkLawsBesides
namespace Go.Proofs.YthjekbmgbidcfaaDoor.Lex
open Go.RowKit Go.Lib

theorem name1 (w : World) : PredAt Tryd.prog 68 #[] encR (outP 97 122) w := fun W r _ => by
  unfold FnGives
  by_cases h1 : r < 97 <;> by_cases h2 : 122 < r
  all_goals
    have z1 : (r : Int) < 97 ↔ r < 97 := by omega
    have z2 : (122 : Int) < (r : Int) ↔ 122 < r := by omega
    go_enter Tryd.func68, Tryd.ntmps68
    go_wp2
    all_goals first | (exfalso; omega) | (go_ret; exact ⟨by simp [outP, h1, h2], 0, rfl⟩)

/-- Is a text a name? -/
def nameB (s : ByteArray) : Bool := !(s.toList.isEmpty) && (decide (s.size ≤ 16) && !outB 97 122 s)

set_option maxHeartbeats 400000 in
theorem Name_calls (s : ByteArray) (w : World) :
    Calls Tryd.prog 38 #[.string s] w fun e w' => e = .returned (.bool (nameB s)) ∧ Below w.heap.size w w' := by
  have hC := Tryd.strings_ContainsFunc 68 #[] (enters_of Tryd.func68 (by kernel_rfl) rfl) (outP 97 122) s w (name1 w)
  rw [contains_out 97 122 (by decide)] at hC
  by_cases h0 : s.toList = []
  · have hn : nameB s = false := by unfold nameB; rw [h0]; rfl
    have Hn := Lib.hid hn; clear hn
    go_enter Tryd.func38, Tryd.ntmps38
    go_wp2
    go_ret
    exact ⟨by rw [Hn.out]; rfl, Below.refl _ _⟩
  · have h0b : (!s.toList.isEmpty) = true := by simpa using h0
    clear h0
    by_cases h16 : s.size ≤ 16
    · have hn : nameB s = !outB 97 122 s := by unfold nameB; rw [h0b, decide_eq_true h16]; simp
      have Hn := Lib.hid hn; clear hn
      have d : decide ((s.size : Int) ≤ 16) = true := by simp; omega
      clear h16
      go_enter Tryd.func38, Tryd.ntmps38
      go_wp2_with (go_at_call 62; refine hC.mono ?_; rintro e w' ⟨rfl, hb⟩)
      go_ret
      exact ⟨by rw [Hn.out]; rfl, hb⟩
    · have hn : nameB s = false := by unfold nameB; rw [h0b, decide_eq_false h16]; rfl
      have Hn := Lib.hid hn; clear hn
      have d : decide ((s.size : Int) ≤ 16) = false := by simp; omega
      clear h16
      go_enter Tryd.func38, Tryd.ntmps38
      go_wp2
      go_ret
      exact ⟨by rw [Hn.out]; rfl, Below.refl _ _⟩
end Go.Proofs.YthjekbmgbidcfaaDoor.Lex
