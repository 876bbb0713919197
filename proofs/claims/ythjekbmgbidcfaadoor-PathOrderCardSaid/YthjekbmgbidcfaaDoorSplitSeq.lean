/- strings.SplitSeq at a sign of one byte: its value feeds a loop with what lies between the signs. -/
import Derived.Test.YthjekbmgbidcfaaDoorRangeBox
import Derived.Test.YthjekbmgbidcfaaDoorLexName
import Derived.Test.YthjekbmgbidcfaaDoorSplitPlain
import Derived.TacticsInMore
import Derived.LoopNIn
import Derived.LoopIn
import Derived.OwnWalkIn
namespace Go.Proofs.YthjekbmgbidcfaaDoor.Lex
open Go.RowKit Go.Lib
attribute [local go_sem] Oper.semAt_some

/-! ### Plain -/
/-- What lies between the bytes c of a text. -/
def cutB (c : UInt8) (s : ByteArray) : List ByteArray := Lib.splitB ⟨#[c]⟩ 0 (Lib.countB s ⟨#[c]⟩) s
theorem cutB_data (c : UInt8) (s : ByteArray) : (cutB c s).map (·.data.toList) = pieces c s.data.toList := split_pieces c s
theorem cutB_inj : ∀ {a b : List ByteArray}, a.map (·.data.toList) = b.map (·.data.toList) → a = b
  | [], [], _ => rfl
  | [], _ :: _, h => by cases h
  | _ :: _, [], h => by cases h
  | x :: a, y :: b, h => by
    rw [List.map_cons, List.map_cons] at h
    injection h with h1 h2
    rw [show x = y from ByteArray.ext (Array.ext' h1), cutB_inj h2]
theorem indexB_none (c : UInt8) : ∀ l : List UInt8, c ∉ l → indexByte l c = -1
  | [], _ => rfl
  | b :: l, h => by
    have hb : (b == c) = false := beq_eq_false_iff_ne.2 fun e => h (by rw [e]; exact List.mem_cons_self)
    rw [indexByte, hb, indexB_none c l (fun hm => h (List.mem_cons_of_mem _ hm))]; rfl
theorem indexB_some (c : UInt8) (t : List UInt8) : ∀ p : List UInt8, c ∉ p → indexByte (p ++ c :: t) c = p.length
  | [], _ => by simp [indexByte]
  | b :: p, h => by
    have hb : (b == c) = false := beq_eq_false_iff_ne.2 fun e => h (by rw [e]; exact List.mem_cons_self)
    rw [List.cons_append, indexByte, hb, indexB_some c t p (fun hm => h (List.mem_cons_of_mem _ hm))]
    have h2 : (((p.length : Nat) : Int) == -1) = false := by rw [beq_eq_false_iff_ne]; omega
    rw [h2]; simp
theorem cutB_step (c : UInt8) (s : ByteArray) : (indexByte s.data.toList c = -1 ∧ cutB c s = [s]) ∨
    (∃ i : Nat, i < s.size ∧ indexByte s.data.toList c = i ∧ cutB c s = s.extract 0 i :: cutB c (s.extract (i + 1) s.size)) := by
  by_cases h : c ∈ s.data.toList
  · obtain ⟨p, t, h1, h2⟩ := first_of_mem c _ h
    have hl : s.size = p.length + (t.length + 1) := by
      have h3 := congrArg List.length h2
      rw [List.length_append, List.length_cons, Array.length_toList] at h3
      exact h3
    refine .inr ⟨p.length, by omega, by rw [h2]; exact indexB_some c t p h1, cutB_inj ?_⟩
    rw [List.map_cons, cutB_data, cutB_data, h2, pieces_cut c t p h1]
    have e1 : (s.extract 0 p.length).data.toList = p := by
      rw [Lib.extract_data, h2]; simp
    have e2 : (s.extract (p.length + 1) s.size).data.toList = t := by
      rw [Lib.extract_data, h2]
      have h4 : (p ++ c :: t).length = s.size := by rw [List.length_append, List.length_cons]; omega
      rw [List.drop_append, List.drop_eq_nil_of_le (by omega), List.nil_append, show p.length + 1 - p.length = 1 by omega, List.drop_one, List.tail_cons]
      exact List.take_of_length_le (by omega)
    rw [e1, e2]
  · refine .inl ⟨indexB_none c _ h, cutB_inj ?_⟩
    rw [cutB_data, pieces_plain c _ h]; rfl

/-! ### The walks -/
/-- The iterator's three captured variables lie in the blocks b, b + 1, b + 2. -/
def Kept3 (b : Nat) (W W' : World) : Prop := ∀ k, b ≤ k → k < b + 3 → W'.heap[k]? = W.heap[k]?
theorem kept3_t {b : Nat} {A B C : World} (h : Kept3 b A B) (k : Kept3 b B C) : Kept3 b A C := fun i h1 h2 => (k i h1 h2).trans (h i h1 h2)

set_option maxRecDepth 100000 in
set_option maxHeartbeats 2000000 in
theorem splitSeq1_feeds (n : Nat) (b : Nat) (c : UInt8) (s : ByteArray) (w : World) (hs : s.size ≤ 1000000)
    (h0 : Boxed w b 9 (.string s)) (h1 : Boxed w (b + 1) 9 (.string ⟨#[c]⟩)) (h2 : Boxed w (b + 2) 3 (.int .i64 0)) :
    Feeds (n + 1) Tryd.prog 111 #[.pointer (some ⟨b + 1, 0, none⟩), .pointer (some ⟨b, 0, none⟩), .pointer (some ⟨b + 2, 0, none⟩)] (fun x : ByteArray => #[Value.string x]) (Kept3 b) b (cutB c s) w := by
  intro l J Jx W hW hJ hJs hJx hY hJ0
  have g0 : Boxed W b 9 (.string s) := (hW.block b h0.lt).trans h0
  have g1 : Boxed W (b + 1) 9 (.string ⟨#[c]⟩) := (hW.block _ h1.lt).trans h1
  have g2 : Boxed W (b + 2) 3 (.int .i64 0) := (hW.block _ h2.lt).trans h2
  have c0 := g0.cell; have c1 := g1.cell; have c2 := g2.cell
  have HB := Lib.hid (And.intro g0 (And.intro g1 g2))
  clear g0 g1 g2 h0 h1 h2 hJ
  refine callsIn_of_wp Tryd.func111 rfl trivial ?_ rfl
  simp only [Tryd.ntmps111, List.size_toArray, List.length_cons, List.length_nil, Nat.reduceAdd, Nat.reduceSub, Array.replicate_succ, Array.replicate_zero, List.push_toArray, List.append_toArray, List.nil_append, List.cons_append]
  gi_wp2
  clear c0 c1 c2
  gi_loopw [7, 8] (fun _ _ wr => ∃ pre t, cutB c s = pre ++ cutB c t ∧ t.size ≤ 1000000 ∧ J pre wr ∧ Boxed wr b 9 (.string t) ∧ Boxed wr (b + 1) 9 (.string ⟨#[c]⟩) ∧ Boxed wr (b + 2) 3 (.int .i64 0))
    (fun _ _ wr => match wr.cell? ⟨b, 0, none⟩ with | some (.string t) => t.size | _ => 0)
  case atStart => exact ⟨[], s, rfl, hs, hJ0, HB.out.1, HB.out.2.1, HB.out.2.2⟩
  case round =>
    obtain ⟨pre, t, hx, hts, hJp, b0, b1, b2⟩ := hrel
    have c0 := b0.cell; have c1 := b1.cell; have c2 := b2.cell
    have HB2 := Lib.hid (And.intro b0 (And.intro b1 b2))
    clear b0 b1 b2
    have hI := fun W => Tryd.strings_Index_one t c W
    rcases cutB_step c t with ⟨hi, hc⟩ | ⟨i, hit, hi, hc⟩
    · rw [hi] at hI
      rw [hc] at hx
      obtain ⟨fn, tmps, assign, body, hy, hR⟩ := hY pre t wr (by rw [hx]; exact List.prefix_refl _) hJp
      have HX := Lib.hid hx
      clear hx hi hc hY
      gi_wp2_with (first | (refine ⟨trivial, ?_⟩; gi_at_call 96; refine (callsIn_wide.2 (hI _)).mono ?_; rintro e w' ⟨rfl, rfl⟩))
      refine hR.mono ?_
      rintro e W3 (⟨rfl, hJ3, _⟩ | ⟨rfl, hJx3⟩)
      · gi_wp2
        go_end0
        exact ⟨⟨_, rfl⟩, .inl (HX.out ▸ hJ3)⟩
      · gi_wp2
        go_end0
        exact ⟨⟨_, rfl⟩, .inr hJx3⟩
    · rw [hi] at hI
      rw [hc] at hx
      have hpre : pre ++ [t.extract 0 i] <+: cutB c s := by rw [hx]; exact ⟨cutB c (t.extract (i + 1) t.size), by rw [List.append_assoc]; rfl⟩
      obtain ⟨fn, tmps, assign, body, hy, hR⟩ := hY pre (t.extract 0 i) wr hpre hJp
      have HX := Lib.hid hx
      clear hx hi hc hpre
      gi_wp2_with (first | (refine ⟨trivial, ?_⟩; gi_at_call 96; refine (callsIn_wide.2 (hI _)).mono ?_; rintro e w' ⟨rfl, rfl⟩))
      refine hR.mono ?_
      rintro e W3 (⟨rfl, hJ3, hk3⟩ | ⟨rfl, hJx3⟩)
      · have b0 : Boxed W3 b 9 (.string t) := (hk3 b (Nat.le_refl _) (by omega)).trans HB2.out.1
        have b1 : Boxed W3 (b + 1) 9 (.string ⟨#[c]⟩) := (hk3 (b + 1) (by omega) (by omega)).trans HB2.out.2.1
        have b2 : Boxed W3 (b + 2) 3 (.int .i64 0) := (hk3 (b + 2) (by omega) (by omega)).trans HB2.out.2.2
        have d0 := b0.cell; have d1 := b1.cell; have d2 := b2.cell; have df := b0.frozen
        have HB3 := Lib.hid (And.intro b0 (And.intro b1 b2))
        clear b0 b1 b2
        gi_wp2
        go_roundw
        case rel =>
          refine ⟨pre ++ [t.extract 0 i], t.extract (i + 1) t.size, ?_, ?_, hJs _ _ _ hJ3, HB3.out.1.set _, HB3.out.2.1.other (by omega) _, HB3.out.2.2.other (by omega) _⟩
          · rw [HX.out, List.append_assoc]; rfl
          · rw [ByteArray.size_extract]; omega
        case measure =>
          rw [(HB3.out.1.set (.string (t.extract (i + 1) t.size))).cell, HB2.out.1.cell]
          show (t.extract (i + 1) t.size).size < t.size
          rw [ByteArray.size_extract]; omega
      · gi_wp2
        refine bodyPost_ret (results_none rfl _ _ _) rfl ?_
        exact ⟨⟨_, rfl⟩, .inr hJx3⟩

/-- The world behind SplitSeq: three boxes more. -/
def seqWorld (s : ByteArray) (c : UInt8) (w : World) : World := ((w.alloc (.cells #[.string s] 9)).alloc (.cells #[.string ⟨#[c]⟩] 9)).alloc (.cells #[.int .i64 0] 3)
theorem splitSeq_calls (s : ByteArray) (c : UInt8) (w : World) :
    Calls Tryd.prog 87 #[.string s, .string ⟨#[c]⟩, .int .i64 0] w fun e w' => e = .returned (.func (.func 111) #[] #[.pointer (some ⟨w.heap.size + 1, 0, none⟩), .pointer (some ⟨w.heap.size, 0, none⟩), .pointer (some ⟨w.heap.size + 2, 0, none⟩)]) ∧ w' = seqWorld s c w := by
  go_enter Tryd.func87, Tryd.ntmps87
  go_wp2
  go_ret
  exact ⟨rfl, rfl⟩
theorem SplitSeq_calls (s : ByteArray) (c : UInt8) (w : World) :
    Calls Tryd.prog 58 #[.string s, .string ⟨#[c]⟩] w fun e w' => e = .returned (.func (.func 111) #[] #[.pointer (some ⟨w.heap.size + 1, 0, none⟩), .pointer (some ⟨w.heap.size, 0, none⟩), .pointer (some ⟨w.heap.size + 2, 0, none⟩)]) ∧ w' = seqWorld s c w := by
  have hc := splitSeq_calls s c w
  go_enter Tryd.func58, Tryd.ntmps58
  go_wp2_with (go_at_call 87; refine hc.mono ?_; rintro e w' ⟨rfl, rfl⟩)
  go_ret
  exact ⟨rfl, rfl⟩
theorem seqWorld_size (s : ByteArray) (c : UInt8) (w : World) : (seqWorld s c w).heap.size = w.heap.size + 3 := by simp [seqWorld]
theorem seqWorld_below (s : ByteArray) (c : UInt8) (w : World) : Below w.heap.size w (seqWorld s c w) :=
  (((Below.refl _ w).alloc (Nat.le_refl _) _).alloc (by simp) _).alloc (by simp; omega) _
theorem seqWorld_boxes (s : ByteArray) (c : UInt8) (w : World) : Boxed (seqWorld s c w) w.heap.size 9 (.string s) ∧ Boxed (seqWorld s c w) (w.heap.size + 1) 9 (.string ⟨#[c]⟩) ∧ Boxed (seqWorld s c w) (w.heap.size + 2) 3 (.int .i64 0) := by
  refine ⟨((Boxed.new w 9 (.string s)).alloc _).alloc _, ?_, ?_⟩
  · have := Boxed.new (w.alloc (.cells #[.string s] 9)) 9 (.string ⟨#[c]⟩)
    rw [World.size_alloc] at this
    exact this.alloc _
  · have := Boxed.new ((w.alloc (.cells #[.string s] 9)).alloc (.cells #[.string ⟨#[c]⟩] 9)) 3 (.int .i64 0)
    rw [World.size_alloc, World.size_alloc] at this
    exact this
/-- The value that SplitSeq hands back feeds a loop with the text's pieces. -/
theorem seq_feeds (n : Nat) (c : UInt8) (s : ByteArray) (w : World) (hs : s.size ≤ 1000000) :
    Feeds (n + 1) Tryd.prog 111 #[.pointer (some ⟨w.heap.size + 1, 0, none⟩), .pointer (some ⟨w.heap.size, 0, none⟩), .pointer (some ⟨w.heap.size + 2, 0, none⟩)] (fun x : ByteArray => #[Value.string x]) (Kept3 w.heap.size) w.heap.size (cutB c s) (seqWorld s c w) :=
  let ⟨h0, h1, h2⟩ := seqWorld_boxes s c w
  splitSeq1_feeds n w.heap.size c s (seqWorld s c w) hs h0 h1 h2
end Go.Proofs.YthjekbmgbidcfaaDoor.Lex
