/- The walks of path.plain, path.name and its literal: a name is told by its bytes. strings.IndexRune at "._-" beyond ASCII. -/
import Derived.Test.YthjekbmgbidcfaaDoorLexName
import Derived.Laws.Runes
import Derived.WalkMore
import Derived.Deep.QuietTactic
import Derived.BigQuiet
import Derived.Laws.RangeString
import Derived.Deep.LoopGhost
import Derived.Lib.Walk
import Derived.Shelf.Strings.FuncGrows
namespace Go.Proofs.YthjekbmgbidcfaaDoor.Lex
open Go.RowKit Go.Lib

abbrev dots : ByteArray := ⟨#[46, 95, 45]⟩

set_option maxRecDepth 1000000 in
set_option maxHeartbeats 4000000 in
theorem dots_err (w : World) :
    Calls Tryd.prog 136 #[.string dots, .int .i32 65533] w fun e w' => e = .returned (.int .i64 (-1)) ∧ Below w.heap.size w w' := by
  go_enter Tryd.func136, Tryd.ntmps136
  go_wp2
  go_loopg [5] 3 (fun g _ wx => ∃ i : Nat, i + g = 3 ∧ wx = w.iter dots i)
  case atStart => exact ⟨0, rfl, rfl⟩
  case round =>
    obtain ⟨i, hig, rfl⟩ := hrel
    match gk, hig with
    | 0, hig =>
      obtain rfl : i = 3 := by omega
      have hnx := run_next_end (P := Tryd.prog) w dots 3
      go_wp2
      go_ret
      exact ⟨rfl, (Below.refl _ _).alloc (Nat.le_refl _) _⟩
    | 1, hig =>
      obtain rfl : i = 2 := by omega
      have hnx := fun ty => run_next_ascii (P := Tryd.prog) w dots 2 ty (by decide) (by decide)
      go_wp2
      go_roundg 0
      case measure => omega
      case rel => exact ⟨3, rfl, rfl⟩
    | 2, hig =>
      obtain rfl : i = 1 := by omega
      have hnx := fun ty => run_next_ascii (P := Tryd.prog) w dots 1 ty (by decide) (by decide)
      go_wp2
      go_roundg 1
      case measure => omega
      case rel => exact ⟨2, rfl, rfl⟩
    | 3, hig =>
      obtain rfl : i = 0 := by omega
      have hnx := fun ty => run_next_ascii (P := Tryd.prog) w dots 0 ty (by decide) (by decide)
      go_wp2
      go_roundg 2
      case measure => omega
      case rel => exact ⟨1, rfl, rfl⟩
    | g + 4, hig => omega

set_option maxRecDepth 1000000 in
set_option maxHeartbeats 4000000 in
theorem dots_invalid (r : Int) (w : World) (h0 : 128 ≤ r) (h1 : r ≤ 1114111) (he : (r == 65533) = false) (hv : Lib.validRune r = false) :
    Calls Tryd.prog 136 #[.string dots, .int .i32 r] w fun e w' => e = .returned (.int .i64 (-1)) ∧ Below w.heap.size w w' := by
  have d1 : decide (r < 128) = false := by simp; omega
  go_enter Tryd.func136, Tryd.ntmps136
  go_wp2_with (go_at_call 150; refine (Tryd.utf8_ValidRune r _).mono ?_; rintro e w' ⟨rfl, rfl⟩; rw [hv])
  go_ret
  exact ⟨rfl, Below.refl _ _⟩

set_option maxRecDepth 1000000 in
set_option maxHeartbeats 4000000 in
theorem dots_valid (r : Int) (w : World) (h0 : 128 ≤ r) (h1 : r ≤ 1114111) (he : (r == 65533) = false) (hv : Lib.validRune r = true) :
    Calls Tryd.prog 136 #[.string dots, .int .i32 r] w fun e w' => e = .returned (.int .i64 (-1)) ∧ Below w.heap.size w w' := by
  have d1 : decide (r < 128) = false := by simp; omega
  have hu : Utf8.valid r = true := by
    revert hv; unfold Lib.validRune Utf8.valid; intro hv; simp at hv ⊢; omega
  obtain ⟨e2, e4, e1⟩ := encode_facts r hu h0
  go_enter Tryd.func136, Tryd.ntmps136
  go_wp2_with (go_at_call 150; refine (Tryd.utf8_ValidRune r _).mono ?_; rintro e w' ⟨rfl, rfl⟩; rw [hv])
  go_step3
  obtain hz | hz | hz : (Utf8.encode r).size = 2 ∨ (Utf8.encode r).size = 3 ∨ (Utf8.encode r).size = 4 := by omega
  · have hb : ∃ c : UInt8, 128 ≤ c.toNat ∧ ∀ h : 1 < (Utf8.encode r).size, (Utf8.encode r)[1]'h = c := ⟨(Utf8.encode r)[1]'(by omega), by have := e1 (by omega); simp only [hz] at this; exact this, fun _ => rfl⟩
    obtain ⟨c, hc, hcc⟩ := hb
    have hne : ((dots[1].toNat : Int) != (c.toNat : Int)) = true := by rw [bne_iff_ne]; have : dots[1].toNat = 95 := rfl; omega
    have hix : decide (Lib.indexByte [45] c < 0) = true := by
      have hn : ¬ (45 : UInt8) = c := by intro h; rw [← h] at hc; revert hc; decide
      simp [Lib.indexByte, hn]
    clear e1
    go_wp2
    generalize Utf8.encode r = rs at *
    go_loopw [9] (fun v9 wr => v9 = .int .i64 1 ∧ Below w'.heap.size w' wr) (fun _ _ => 0)
    case atStart => exact ⟨rfl, Below.refl _ _⟩
    case round =>
      obtain ⟨rfl, hb⟩ := hrel
      have hcc := hcc (by omega)
      go_wp2
      go_step3
      go_wp2
      go_quiet (fail)
      go_wp2
      have hw2 : IntKind.i64.wrap 2 = 2 := by decide
      have hd : dots.size = 3 := rfl
      replace hb : Below w'.heap.size w' (wr.drewN nq) := below_drewN' hb nq
      generalize wr.drewN nq = wq at hb
      go_quiet (exact Calls.quiet_of_same (Tryd.strings_IndexByte _ _ _))
      go_wp2
      simp +zetaDelta only [Exit.noGoto, Exit.inBlock, Exit.then]
      go_ret
      exact ⟨rfl, below_drewN' hb _⟩
  · have hb : ∃ c : UInt8, 128 ≤ c.toNat ∧ ∀ h : 2 < (Utf8.encode r).size, (Utf8.encode r)[2]'h = c := ⟨(Utf8.encode r)[2]'(by omega), by have := e1 (by omega); simp only [hz] at this; exact this, fun _ => rfl⟩
    obtain ⟨c, hc, hcc⟩ := hb
    have hne : ((dots[2].toNat : Int) != (c.toNat : Int)) = true := by rw [bne_iff_ne]; have : dots[2].toNat = 45 := rfl; omega
    have hix : decide (Lib.indexByte [] c < 0) = true := by
      rfl
    clear e1
    go_wp2
    generalize Utf8.encode r = rs at *
    go_loopw [9] (fun v9 wr => v9 = .int .i64 2 ∧ Below w'.heap.size w' wr) (fun _ _ => 0)
    case atStart => exact ⟨rfl, Below.refl _ _⟩
    case round =>
      obtain ⟨rfl, hb⟩ := hrel
      have hcc := hcc (by omega)
      go_wp2
      go_step3
      go_wp2
      go_quiet (fail)
      go_wp2
      have hw2 : IntKind.i64.wrap 3 = 3 := by decide
      have hd : dots.size = 3 := rfl
      replace hb : Below w'.heap.size w' (wr.drewN nq) := below_drewN' hb nq
      generalize wr.drewN nq = wq at hb
      go_quiet (exact Calls.quiet_of_same (Tryd.strings_IndexByte _ _ _))
      go_wp2
      simp +zetaDelta only [Exit.noGoto, Exit.inBlock, Exit.then]
      go_ret
      exact ⟨rfl, below_drewN' hb _⟩
  · clear e1
    go_wp2
    generalize Utf8.encode r = rs at *
    go_loopw [9] (fun v9 wr => v9 = .int .i64 3 ∧ Below w'.heap.size w' wr) (fun _ _ => 0)
    case atStart => exact ⟨rfl, Below.refl _ _⟩
    case round =>
      obtain ⟨rfl, hb⟩ := hrel
      have hd : dots.size = 3 := rfl
      go_wp2
      simp +zetaDelta only [Exit.noGoto, Exit.inBlock]
      go_ret
      exact ⟨rfl, hb⟩

theorem ContainsRune_dots (r : Nat) (w : World) (h0 : 128 ≤ r) (h1 : r ≤ 1114111) :
    Calls Tryd.prog 113 #[.string dots, .int .i32 r] w fun e w' => e = .returned (.bool false) ∧ Below w.heap.size w w' := by
  have hc : Calls Tryd.prog 136 #[.string dots, .int .i32 r] w fun e w' => e = .returned (.int .i64 (-1)) ∧ Below w.heap.size w w' := by
    by_cases he : (r : Int) = 65533
    · rw [he]; exact dots_err w
    · have he' : ((r : Int) == 65533) = false := by rw [beq_eq_false_iff_ne]; exact he
      cases hv : Lib.validRune (r : Int)
      · exact dots_invalid r w (by omega) (by omega) he' hv
      · exact dots_valid r w (by omega) (by omega) he' hv
  go_enter Tryd.func113, Tryd.ntmps113
  go_wp2_with (go_at_call 136; refine hc.mono ?_; rintro e w' ⟨rfl, hb⟩)
  go_ret
  exact ⟨rfl, hb⟩

/-- Can a sign be in a name of a path? -/
def plainP (r : Nat) : Bool := decide (97 ≤ r) && decide (r ≤ 122) || decide (65 ≤ r) && decide (r ≤ 90) || decide (48 ≤ r) && decide (r ≤ 57) || r == 46 || r == 95 || r == 45

theorem dots_ascii : ∀ r : Fin 128, (plainP r.val = true ↔ ((97 ≤ r.val ∧ r.val ≤ 122) ∨ (65 ≤ r.val ∧ r.val ≤ 90) ∨ (48 ≤ r.val ∧ r.val ≤ 57) ∨ decide (0 ≤ Lib.indexByte dots.data.toList r.val.toUInt8) = true)) := by decide

theorem ContainsRune_ends (r : Nat) (w : World) (h1 : r ≤ 1114111) (a : ¬ (97 ≤ r ∧ r ≤ 122)) (b : ¬ (65 ≤ r ∧ r ≤ 90)) (c : ¬ (48 ≤ r ∧ r ≤ 57)) :
    Calls Tryd.prog 113 #[.string dots, .int .i32 r] w fun e w' => e = .returned (.bool (plainP r)) ∧ Below w.heap.size w w' := by
  by_cases h : r < 128
  · have hd := dots_ascii ⟨r, h⟩
    have he : plainP r = decide (0 ≤ Lib.indexByte dots.data.toList r.toUInt8) := by
      rw [Bool.eq_iff_iff]
      refine hd.trans ⟨fun hx => ?_, fun hx => .inr (.inr (.inr hx))⟩
      rcases hx with hx | hx | hx | hx
      · exact absurd hx a
      · exact absurd hx b
      · exact absurd hx c
      · exact hx
    refine (Tryd.strings_ContainsRune_ascii dots r w (by omega) (by omega)).mono ?_
    rintro e w' ⟨rfl, rfl⟩
    exact ⟨by rw [he]; rfl, Below.refl _ _⟩
  · have he : plainP r = false := by
      unfold plainP; simp; omega
    rw [he]
    exact ContainsRune_dots r w (by omega) h1

theorem plain_calls (r : Nat) (w : World) (h1 : r ≤ 1114111) :
    Calls Tryd.prog 89 #[.int .i32 r] w fun e w' => e = .returned (.bool (plainP r)) ∧ Below w.heap.size w w' := by
  have z1 : (r : Int) < 97 ↔ r < 97 := by omega
  have z2 : (122 : Int) < (r : Int) ↔ 122 < r := by omega
  have z3 : (r : Int) < 65 ↔ r < 65 := by omega
  have z4 : (90 : Int) < (r : Int) ↔ 90 < r := by omega
  have z5 : (r : Int) < 48 ↔ r < 48 := by omega
  have z6 : (57 : Int) < (r : Int) ↔ 57 < r := by omega
  by_cases c1 : r < 97
  · by_cases c3 : r < 65
    · by_cases c5 : r < 48
      · have Hc := Lib.hid (ContainsRune_ends r w h1 (by omega) (by omega) (by omega))
        go_enter Tryd.func89, Tryd.ntmps89
        go_wp2_with (go_at_call 113; refine Hc.out.mono ?_; rintro e w' ⟨rfl, hb⟩)
        go_ret
        exact ⟨by first | rfl | (simp; intros; omega), hb⟩
      · by_cases c6 : 57 < r
        · have Hc := Lib.hid (ContainsRune_ends r w h1 (by omega) (by omega) (by omega))
          go_enter Tryd.func89, Tryd.ntmps89
          go_wp2_with (go_at_call 113; refine Hc.out.mono ?_; rintro e w' ⟨rfl, hb⟩)
          go_ret
          exact ⟨by first | rfl | (simp; intros; omega), hb⟩
        · have hp : plainP r = true := by unfold plainP; simp; omega
          have Hp := Lib.hid hp
          clear hp
          go_enter Tryd.func89, Tryd.ntmps89
          go_wp2
          go_ret
          exact ⟨by rw [Hp.out]; rfl, Below.refl _ _⟩
    · by_cases c4 : 90 < r
      · have c5 : ¬ r < 48 := by omega
        have c6 : 57 < r := by omega
        have Hc := Lib.hid (ContainsRune_ends r w h1 (by omega) (by omega) (by omega))
        go_enter Tryd.func89, Tryd.ntmps89
        go_wp2_with (go_at_call 113; refine Hc.out.mono ?_; rintro e w' ⟨rfl, hb⟩)
        go_ret
        exact ⟨by first | rfl | (simp; intros; omega), hb⟩
      · have hp : plainP r = true := by unfold plainP; simp; omega
        have Hp := Lib.hid hp
        clear hp
        go_enter Tryd.func89, Tryd.ntmps89
        go_wp2
        go_ret
        exact ⟨by rw [Hp.out]; rfl, Below.refl _ _⟩
  · by_cases c2 : 122 < r
    · have c3 : ¬ r < 65 := by omega
      have c4 : 90 < r := by omega
      have c5 : ¬ r < 48 := by omega
      have c6 : 57 < r := by omega
      have Hc := Lib.hid (ContainsRune_ends r w h1 (by omega) (by omega) (by omega))
      go_enter Tryd.func89, Tryd.ntmps89
      go_wp2_with (go_at_call 113; refine Hc.out.mono ?_; rintro e w' ⟨rfl, hb⟩)
      go_ret
      exact ⟨by first | rfl | (simp; intros; omega), hb⟩
    · have hp : plainP r = true := by unfold plainP; simp; omega
      have Hp := Lib.hid hp
      clear hp
      go_enter Tryd.func89, Tryd.ntmps89
      go_wp2
      go_ret
      exact ⟨by rw [Hp.out]; rfl, Below.refl _ _⟩

theorem path_name1 (w : World) : PredGrows Tryd.prog 88 #[] (fun r => !plainP r) w := fun W r hr _ => by
  go_enter Tryd.func88, Tryd.ntmps88
  go_wp2_with (go_at_call 89; refine (plain_calls r _ hr).mono ?_; rintro e w' ⟨rfl, hb⟩)
  go_ret
  exact ⟨rfl, hb⟩
end Go.Proofs.YthjekbmgbidcfaaDoor.Lex
