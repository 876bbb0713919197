/- The walk of the reference's split: it gives what lies between the signs. -/
import Derived.Test.YthjekbmgbidcfaaDoorLexJoinsLaw
import Derived.Lib.CutLaws
namespace Go.Proofs.YthjekbmgbidcfaaDoor.Lex
open Go.RowKit Go.Lib Go.Proofs.YthjekbmgbidcfaaDoorW.PrintWords

/-! ### Plain -/
theorem pieces_snoc_sep (c : UInt8) : ∀ l, pieces c (l ++ [c]) = pieces c l ++ [[]]
  | [] => by simp [pieces]
  | b :: t => by
    have ih := pieces_snoc_sep c t
    rw [List.cons_append, pieces, pieces, ih]
    split
    · rfl
    · cases h : pieces c t with
      | nil => exact absurd h (pieces_ne c t)
      | cons p r => rfl
theorem pieces_snoc (c b : UInt8) (hb : b ≠ c) : ∀ (l : List UInt8) (d : List (List UInt8)) (x : List UInt8), pieces c l = d ++ [x] → pieces c (l ++ [b]) = d ++ [x ++ [b]]
  | [], d, x, h => by
    cases d with
    | nil =>
      have e : x = [] := by simpa [pieces] using h.symm
      rw [e, List.nil_append, pieces, if_neg hb]; rfl
    | cons y d => simp [pieces] at h
  | a :: t, d, x, h => by
    rw [List.cons_append, pieces]
    rw [pieces] at h
    split
    · rename_i ha
      rw [if_pos ha] at h
      cases d with
      | nil =>
        rw [List.nil_append] at h
        injection h with h1 h2
        exact absurd h2 (pieces_ne c t)
      | cons y d =>
        rw [List.cons_append] at h
        injection h with h1 h2
        rw [pieces_snoc c b hb t d x h2, ← h1]; rfl
    · rename_i ha
      rw [if_neg ha] at h
      cases hp : pieces c t with
      | nil => exact absurd hp (pieces_ne c t)
      | cons p r =>
        rw [hp] at h
        cases d with
        | nil =>
          rw [List.nil_append] at h
          injection h with h1 h2
          subst h2
          have := pieces_snoc c b hb t [] p (by rw [hp]; rfl)
          rw [this]
          simp only [List.nil_append]
          rw [← h1]; rfl
        | cons y d =>
          rw [List.cons_append] at h
          injection h with h1 h2
          have := pieces_snoc c b hb t (p :: d) x (by rw [hp, h2]; rfl)
          rw [this, ← h1]; rfl

/-- What the reference's loop has made, its sign c, so far: k bytes, the piece that is open from f on. -/
def Cut (c : UInt8) (s : ByteArray) (k f : Nat) (done : List ByteArray) : Prop :=
  f ≤ k ∧ pieces c (s.data.toList.take k) = done.map (·.data.toList) ++ [(s.data.toList.take k).drop f]
theorem cut_start (c : UInt8) (s : ByteArray) : Cut c s 0 0 [] := ⟨Nat.le_refl _, by simp [pieces]⟩
theorem take_snoc' (s : ByteArray) (k : Nat) (h : k < s.size) : s.data.toList.take (k + 1) = s.data.toList.take k ++ [s[k]] := by
  rw [List.take_succ_eq_append_getElem (by simpa using h)]; rfl
theorem extract_list (s : ByteArray) (f k : Nat) : (s.extract f k).data.toList = (s.data.toList.take k).drop f := by
  rw [extract_data, List.drop_take]
theorem cut_sep {c : UInt8} {s : ByteArray} {k f : Nat} {done : List ByteArray} (h : Cut c s k f done) (hk : k < s.size) (hc : s[k] = c) : Cut c s (k + 1) (k + 1) (done ++ [s.extract f k]) := by
  refine ⟨Nat.le_refl _, ?_⟩
  rw [take_snoc' s k hk, hc, pieces_snoc_sep, h.2, List.map_append, List.map_cons, List.map_nil, extract_list]
  have hl : (s.data.toList.take k).length = k := by rw [List.length_take, Array.length_toList]; exact Nat.min_eq_left (Nat.le_of_lt hk)
  have hd : (s.data.toList.take k ++ [c]).drop (k + 1) = [] := List.drop_eq_nil_of_le (by rw [List.length_append, hl]; exact Nat.le_refl _)
  rw [hd]
theorem cut_go {c : UInt8} {s : ByteArray} {k f : Nat} {done : List ByteArray} (h : Cut c s k f done) (hk : k < s.size) (hc : s[k] ≠ c) : Cut c s (k + 1) f done := by
  refine ⟨Nat.le_succ_of_le h.1, ?_⟩
  have hl : (s.data.toList.take k).length = k := by rw [List.length_take, Array.length_toList]; exact Nat.min_eq_left (Nat.le_of_lt hk)
  rw [take_snoc' s k hk, pieces_snoc c s[k] hc _ _ _ h.2, List.drop_append_of_le_length (by rw [hl]; exact h.1)]
theorem cut_end {c : UInt8} {s : ByteArray} {f : Nat} {done : List ByteArray} (h : Cut c s s.size f done) : (done ++ [s.extract f s.size]).map (·.data.toList) = pieces c s.data.toList := by
  have hl : s.data.toList.take s.size = s.data.toList := List.take_of_length_le (by rw [Array.length_toList]; exact Nat.le_refl _)
  have := h.2
  rw [hl] at this
  rw [this, List.map_append, List.map_cons, List.map_nil, extract_list, hl]
theorem cut_len {c : UInt8} {s : ByteArray} {k f : Nat} {done : List ByteArray} (h : Cut c s k f done) (hk : k ≤ s.size) : done.length ≤ k := by
  have key : ∀ l : List UInt8, (pieces c l).length ≤ l.length + 1 := by
    intro l
    induction l with
    | nil => exact Nat.le_refl _
    | cons b t ih =>
      unfold pieces
      split
      · rw [List.length_cons, List.length_cons]; omega
      · split
        · simp
        · rename_i e; rw [e] at ih; rw [List.length_cons] at ih ⊢; rw [List.length_cons]; omega
  have := key (s.data.toList.take k)
  rw [h.2, List.length_append, List.length_map, List.length_take] at this
  simp at this
  omega
theorem R_In {w : World} {base : Nat} {ok : Nat → Prop} {A : Option Addr} {n c : Nat} {l : List ByteArray} (h : Kd.string.R 9 w base ok (.slice A n c) l) : n = l.length ∧ n ≤ c ∧ In w A l := by
  obtain ⟨h1, h2, h3⟩ := Kd.R_reads' h
  refine ⟨h1, h2, fun h0 => ?_⟩
  subst h1
  obtain ⟨g, cap, he, _, hg, _⟩ := Kd.R_form h h0
  injection he with e1 e2 e3
  subst e1
  exact ⟨_, rfl, hg, C_texts h3⟩

/-- A text's pieces, as texts. -/
def Pieces (c : UInt8) (s : ByteArray) (l : List ByteArray) : Prop := l.map (·.data.toList) = pieces c s.data.toList

set_option maxHeartbeats 2000000 in
theorem RefSplit_calls (s : ByteArray) (b : UInt8) (w : World) (hs : s.size ≤ 100000) :
    Calls Tryd.prog 65 #[.string s, .int .u8 b.toNat] w fun e w' => ∃ l A cc, e = .returned (.slice A l.length cc) ∧ Pieces b s l ∧ Kd.string.R 9 w' w.heap.size (fun _ => True) (.slice A l.length cc) l ∧ Below w.heap.size w w' := by
  have HO := Lib.hid (Kd.R_of_own (enc := Value.string) (h1 := fun _ => rfl) (ok := fun _ => True) (by have := World.ownsRow_lit (base := w.heap.size) (e := 9) (size := 1) w #[] 0 (Nat.le_refl _) (by decide) rfl; exact this) (fun _ _ => trivial) : Kd.string.R 9 (w.alloc (.cells #[] 9)) w.heap.size (fun _ => True) (.slice (some ⟨w.heap.size, 0, none⟩) 0 0) [])
  go_enter Tryd.func65, Tryd.ntmps65
  go_wp2
  go_loopw [5, 6, 7] (fun v5 v6 v7 wr => ∃ (k f : Nat) (done : List ByteArray), k ≤ s.size + 1 ∧ v7 = .int .i64 k ∧ v6 = .int .i64 f ∧ (k ≤ s.size → Cut b s k f done) ∧ (k = s.size + 1 → done.map (·.data.toList) = pieces b s.data.toList) ∧ Kd.string.R 9 wr w.heap.size (fun _ => True) v5 done ∧ Below w.heap.size w wr) (fun _ _ v _ => s.size + 1 - (intOf v).toNat)
  case atStart => exact ⟨0, 0, [], Nat.zero_le _, rfl, rfl, fun _ => cut_start b s, fun h => absurd h (by omega), HO.out, (Below.refl _ _).alloc (Nat.le_refl _) _⟩
  case round =>
    obtain ⟨k, f, done, hk, rfl, rfl, hcut, hend, hown, hbw⟩ := hrel
    have HC := Lib.hid hcut; clear hcut
    have HE := Lib.hid hend; clear hend
    have HW := Lib.hid hown; clear hown
    by_cases hk1 : k = s.size + 1
    · have d : decide ((k : Int) ≤ (s.size : Int)) = false := by simp; omega
      go_wp2
      obtain ⟨A, cc, rfl⟩ := Kd.R_slice HW.out
      go_ret
      exact ⟨done, A, cc, rfl, HE.out hk1, HW.out, hbw⟩
    · obtain ⟨A, cc, rfl⟩ := Kd.R_slice HW.out
      have hcut := HC.out (by omega)
      have hf := hcut.1
      have hdl := cut_len hcut (by omega)
      have hc2 := Lib.hid hcut; clear hcut HC HE
      have d : decide ((k : Int) ≤ (s.size : Int)) = true := by simp; omega
      by_cases hks : k = s.size
      · have d2 : ((k : Int) == (s.size : Int)) = true := by rw [beq_iff_eq]; omega
        have Hks := Lib.hid hks; clear hks
        go_wp2_with (at_builtin; refine Kd.R_append Kd.string (w0 := w) w.heap.size rfl (.tmp 26) (.tmp 31) 22 9 (.string ByteArray.empty) 16 rfl Tryd.underlying22 info9 rfl (by decide) (by omega) (.slice A done.length cc) done (s.extract f k) [.string (s.extract f k)] (fun _ => True) (fun _ => False) rfl rfl rfl (fun _ h => h.elim) (fun _ _ => trivial) HW.out hbw hbw.size (by omega) ?_; intro v1 w1 ho hb1 hg1 hat; clear hg1 hat)
        go_roundw
        case rel =>
          refine ⟨k + 1, k + 1, done ++ [s.extract f k], by omega, by go_num, by go_num, fun h => absurd h (by have := Hks.out; omega), fun _ => ?_, ho, hb1⟩
          have e := Hks.out
          subst e
          exact cut_end hc2.out
        case measure => simp [intOf]; omega
      · have hlt : k < s.size := by omega
        have d2 : ((k : Int) == (s.size : Int)) = false := by rw [beq_eq_false_iff_ne]; omega
        by_cases hb : s[k] = b
        · have d3 : ((s[k].toNat : Int) == (b.toNat : Int)) = true := by rw [hb]; simp
          have Hb := Lib.hid hb; clear hb
          go_wp2_with (at_builtin; refine Kd.R_append Kd.string (w0 := w) w.heap.size rfl (.tmp 26) (.tmp 31) 22 9 (.string ByteArray.empty) 16 rfl Tryd.underlying22 info9 rfl (by decide) (by omega) (.slice A done.length cc) done (s.extract f k) [.string (s.extract f k)] (fun _ => True) (fun _ => False) rfl rfl rfl (fun _ h => h.elim) (fun _ _ => trivial) HW.out hbw hbw.size (by omega) ?_; intro v1 w1 ho hb1 hg1 hat; clear hg1 hat)
          go_roundw
          case rel => exact ⟨k + 1, k + 1, done ++ [s.extract f k], by omega, by go_num, by go_num, fun _ => cut_sep hc2.out hlt Hb.out, fun h => absurd h (by omega), ho, hb1⟩
          case measure => simp [intOf]; omega
        · have d3 : ((s[k].toNat : Int) == (b.toNat : Int)) = false := by
            rw [beq_eq_false_iff_ne]
            intro h
            exact hb (UInt8.toNat_inj.1 (by omega))
          go_wp2
          go_roundw
          case rel => exact ⟨k + 1, f, done, by omega, by go_num, rfl, fun _ => cut_go hc2.out hlt hb, fun h => absurd h (by omega), HW.out, hbw⟩
          case measure => simp [intOf]; omega
end Go.Proofs.YthjekbmgbidcfaaDoor.Lex
