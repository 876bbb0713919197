/- The walk of path.Normal. -/
import Derived.Test.YthjekbmgbidcfaaDoorSplitSeq
import Derived.Test.YthjekbmgbidcfaaDoorPathPlain
import Derived.Maps.AppendAt
namespace Go.Proofs.YthjekbmgbidcfaaDoor.Lex
open Go.RowKit Go.Lib
attribute [local go_sem] Oper.semAt_some

def normS (s : ByteArray) : ByteArray := match normalL s.data.toList with | some p => ⟨p.toArray⟩ | none => ⟨#[]⟩
def normB (s : ByteArray) : Bool := (normalL s.data.toList).isSome

/-- Between two rounds: the names so far. -/
def NamesSo (w : World) (pre : List ByteArray) (W : World) : Prop :=
  ∃ (l : List ByteArray) (v : Value), pfold [] (pre.map (·.data.toList)) = some (l.map (·.data.toList)) ∧ l.length ≤ pre.length ∧ Boxed W (w.heap.size + 1 + 1) 22 v ∧ W.ownsRow (w.heap.size + 6) 9 1 v l.length (l.map Value.string) ∧
    Boxed W w.heap.size 9 (.string ⟨#[]⟩) ∧ Boxed W (w.heap.size + 1) 4 (.bool false) ∧ Below w.heap.size w W ∧ w.heap.size + 6 ≤ W.heap.size
/-- It has left. -/
def NamesNot (w : World) (xs : List ByteArray) (_ : Code) (W : World) : Prop :=
  pfold [] (xs.map (·.data.toList)) = none ∧ Boxed W w.heap.size 9 (.string ⟨#[]⟩) ∧ Boxed W (w.heap.size + 1) 4 (.bool false) ∧ Below w.heap.size w W

theorem boxed_own' {W W' : World} {row : Option Nat} {B : Nat} {t : TypeId} {v : Value} (h : Boxed W B t v) (hg : W.grownBy W' row) (hr : ∀ r, row = some r → ∃ o : Obj, W.heap[r]? = some o ∧ o.isCells = false) : Boxed W' B t v :=
  h.kept hg (fun e => by
    obtain ⟨o, ho, hc⟩ := hr B e.symm
    rw [show W.heap[B]? = _ from h] at ho; cases ho; cases hc)
theorem row_own' {W W' : World} {row : Option Nat} {base e k : Nat} {v : Value} {xs : List Value} (h : W.ownsRow base e 1 v k xs) (hg : W.grownBy W' row) (hr : ∀ r, row = some r → ∃ o : Obj, W.heap[r]? = some o ∧ o.isCells = false) : W'.ownsRow base e 1 v k xs := by
  refine h.kept hg ?_
  rcases h.2 with ⟨rfl, _⟩ | ⟨g, cap, cur, rfl, _, hgb, _⟩
  · exact .inl rfl
  · refine .inr fun e' => ?_
    obtain ⟨o, ho, hc⟩ := hr g (by simpa [Value.ownBlock] using e'.symm)
    rw [hgb] at ho; cases ho; cases hc
theorem row_other {W : World} {base e k b : Nat} {v u : Value} {xs : List Value} (h : W.ownsRow base e 1 v k xs) (hb : b < base) : (W.setCell ⟨b, 0, none⟩ u).ownsRow base e 1 v k xs := by
  refine h.kept (grownBy_setCell' W b u) ?_
  rcases h.2 with ⟨rfl, _⟩ | ⟨g, cap, cur, rfl, hge, _⟩
  · exact .inl rfl
  · refine .inr fun e' => ?_
    have : g = b := by simpa [Value.ownBlock] using e'
    omega
/-- One less: 'l = l[:len(l)-1]'. -/
theorem row_less {W : World} {base e k : Nat} {g cap : Nat} {xs : List Value} (h : W.ownsRow base e 1 (.slice (some ⟨g, 0, none⟩) (k + 1) cap) (k + 1) xs) : W.ownsRow base e 1 (.slice (some ⟨g, 0, none⟩) k cap) k xs.dropLast := by
  obtain ⟨hl, h2⟩ := h
  rcases h2 with ⟨_, h0⟩ | ⟨g', cap', cur, he, hb, hg, h1, h3, h4, h5⟩
  · omega
  · injection he with e1 e2 e3
    injection e1 with e1
    injection e1 with e1
    subst e1; subst e3
    refine ⟨by rw [List.length_dropLast, hl]; omega, .inr ⟨g, cap, cur, rfl, hb, hg, by omega, h3, h4, ?_⟩⟩
    have hc : cur.toList.length = cur.size := Array.length_toList
    rw [← h5, Nat.mul_one, Nat.mul_one, List.dropLast_eq_take, List.length_take, List.take_take]
    congr 1
    omega

theorem namesSo_own (w : World) (B : Nat) (hB : w.heap.size + 6 ≤ B) : OwnFrom B (NamesSo w) := by
  rintro pre X Y row ⟨l, v, h1, h2, h3, h4, h5, h6, h7, h8⟩ hg hr
  have hr' : ∀ r, row = some r → ∃ o : Obj, X.heap[r]? = some o ∧ o.isCells = false := fun r e => (hr r e).2
  exact ⟨l, v, h1, h2, boxed_own' h3 hg hr', row_own' h4 hg hr', boxed_own' h5 hg hr', boxed_own' h6 hg hr', h7.grown hg (by omega) (fun k e => by have := (hr k e).1; omega), Nat.le_trans h8 hg.size⟩
theorem namesNot_own (w : World) (xs : List ByteArray) (B : Nat) (hB : w.heap.size + 6 ≤ B) : OwnFrom B (NamesNot w xs) := by
  rintro c X Y row ⟨h1, h5, h6, h7⟩ hg hr
  have hr' : ∀ r, row = some r → ∃ o : Obj, X.heap[r]? = some o ∧ o.isCells = false := fun r e => (hr r e).2
  exact ⟨h1, boxed_own' h5 hg hr', boxed_own' h6 hg hr', h7.grown hg h7.size (fun k e => by have := (hr k e).1; omega)⟩

theorem pinfo9 : (Tryd.prog.info? 9).map (fun i => (i.zero, i.size, i.bytes)) = some (some (.string ByteArray.empty), 1, 16) := by kernel_rfl
theorem row_slice {W : World} {base e k : Nat} {v : Value} {xs : List Value} (h : W.ownsRow base e 1 v k xs) : ∃ A cap, v = .slice A k cap := by
  rcases h.2 with ⟨rfl, rfl⟩ | ⟨g, cap, cur, rfl, _⟩
  · exact ⟨_, _, rfl⟩
  · exact ⟨_, _, rfl⟩
/-- Behind an append into a box below the rows. -/
theorem box_appended {W w1 : World} {n₀ B : Nat} {t e : TypeId} {v v' : Value} {k m : Nat} {xs ys : List Value} {tmp : Obj}
    (hv : Boxed W B t v) (hte : t ≠ e) (hrow : W.ownsRow n₀ e 1 v k xs) (hn₀ : n₀ ≤ W.heap.size) (hB : B < n₀)
    (hown' : w1.ownsRow n₀ e 1 v' m ys) (hgrow : (W.alloc tmp).grownBy w1 v.ownBlock) :
    Boxed w1 B t v ∧ Boxed (w1.setCell ⟨B, 0, none⟩ v') B t v' ∧ (w1.setCell ⟨B, 0, none⟩ v').ownsRow n₀ e 1 v' m ys ∧ KeepsOthers W (w1.setCell ⟨B, 0, none⟩ v') ∧ Below B W (w1.setCell ⟨B, 0, none⟩ v') ∧
      (∀ i, i < n₀ → i ≠ B → (w1.setCell ⟨B, 0, none⟩ v').heap[i]? = W.heap[i]?) := by
  have hv1 : Boxed w1 B t v := (hv.alloc tmp).kept hgrow (hv.not_row hte hrow)
  have hbk : ∀ j, v.ownBlock = some j → n₀ ≤ j := fun j ej => by
    rcases hrow.2 with ⟨rfl, _⟩ | ⟨g, cap, cur, rfl, hb, _, _⟩
    · simp [Value.ownBlock] at ej
    · obtain rfl : g = j := by simpa [Value.ownBlock] using ej
      exact hb
  have hbel : Below n₀ W w1 := ((Below.refl n₀ W).alloc hn₀ tmp).grown hgrow (by simp; omega) hbk
  refine ⟨hv1, hv1.set v', row_other hown' hB, ?_, (hbel.mono (Nat.le_of_lt hB)).setCell (p := ⟨B, 0, none⟩) (Nat.le_refl _) v', fun i hi hne => (Below.heap_setCell w1 ⟨B, 0, none⟩ v' i hne).trans (hbel.block i hi)⟩
  refine ((KeepsOthers.alloc W tmp).trans (KeepsOthers.of_grownBy hgrow fun j o ej hj => ?_)).trans (KeepsOthers.setCell _ _ _)
  rcases (hrow.alloc tmp).2 with ⟨rfl, _⟩ | ⟨g, cap, cur, rfl, _, hgb, _⟩
  · simp [Value.ownBlock] at ej
  · obtain rfl : g = j := by simpa [Value.ownBlock] using ej
    rw [hgb] at hj; cases hj; rfl
theorem keeps_below {W W' : World} (h : Below W.heap.size W W') : KeepsOthers W W' := ⟨h.size, fun k _ hk _ => (h.block k (Array.getElem?_eq_some_iff.1 hk).1).trans hk⟩
theorem box_below {W W' : World} {B : Nat} {t : TypeId} {v : Value} (h : Boxed W B t v) (hb : Below W.heap.size W W') : Boxed W' B t v := (hb.block B h.lt).trans h
theorem row_below {W W' : World} {base e k : Nat} {v : Value} {xs : List Value} (h : W.ownsRow base e 1 v k xs) (hb : Below W.heap.size W W') : W'.ownsRow base e 1 v k xs :=
  row_own' (row := none) h ⟨hb.os, hb.tape, hb.output, hb.size, fun k hk _ => hb.block k hk⟩ (fun r e => by cases e)
theorem fold_snoc {pre : List ByteArray} {l : List ByteArray} (x : ByteArray) (h : pfold [] (pre.map (·.data.toList)) = some (l.map (·.data.toList))) :
    pfold [] ((pre ++ [x]).map (·.data.toList)) = pstep (l.map (·.data.toList)) x.data.toList := by
  rw [List.map_append, pfold_append, h]
  show pfold _ [x.data.toList] = _
  rw [pfold]
  cases pstep (l.map (·.data.toList)) x.data.toList <;> rfl
theorem pstep_skip {l : List (List UInt8)} {x : List UInt8} (h : x = [] ∨ x = [46]) : pstep l x = some l := by unfold pstep; rw [if_pos h]
theorem pstep_up {l : List (List UInt8)} (h : l ≠ []) : pstep l [46, 46] = some l.dropLast := by
  unfold pstep; rw [if_neg (by decide), if_pos rfl, if_neg h]
theorem pstep_none {l : List (List UInt8)} {x : List UInt8} (h1 : x ≠ []) (h2 : x ≠ [46]) (h3 : x = [46, 46] → l = []) (h4 : wordL x = false) : pstep l x = none := by
  unfold pstep
  rw [if_neg (fun e => e.elim h1 h2)]
  by_cases e : x = [46, 46]
  · rw [if_pos e, if_pos (h3 e)]
  · rw [if_neg e, if_neg (by rw [h4]; decide)]
theorem fold_stop {pre xs : List ByteArray} (h : pre <+: xs) (hn : pfold [] (pre.map (·.data.toList)) = none) : pfold [] (xs.map (·.data.toList)) = none := by
  obtain ⟨t, rfl⟩ := h
  rw [List.map_append, pfold_append, hn]

/-- The return: the two results are read out of their boxes. -/
theorem leave24 {n D p q : Nat} {W : World} {x : ByteArray} {y : Bool} {a : Act} {R : Ending → World → Prop} (hd : a.defers = [{ target := .collected D, args := #[] }])
    (h2 : a.tmps.getD 2 undef = .pointer (some ⟨p, 0, none⟩)) (h3 : a.tmps.getD 3 undef = .pointer (some ⟨q, 0, none⟩)) (hK : W.heap[D]? = some (.deferred (some [])))
    (b5 : Boxed W p 9 (.string x)) (b6 : Boxed W q 4 (.bool y)) (hR : R (.returned (.tuple #[.string x, .bool y])) (W.putObj D (.deferred none))) : bodyPostM Fence.wide n Tryd.prog Tryd.f24 R .ret a W := by
  show LeavesInM Fence.wide n Tryd.prog Tryd.f24 a.tmps R a.defers .returning W
  rw [hd]
  refine ⟨by simp, .inl ⟨_, _, rfl, run_takeDeferred hK, ?_⟩⟩
  have hp : p ≠ D := by rintro rfl; rw [show W.heap[p]? = _ from b5] at hK; cases hK
  have hq : q ≠ D := by rintro rfl; rw [show W.heap[q]? = _ from b6] at hK; cases hK
  have c5 : Boxed (W.putObj D (.deferred none)) p 9 (.string x) := (World.putObj_heap_other hp).trans b5
  have c6 : Boxed (W.putObj D (.deferred none)) q 4 (.bool y) := (World.putObj_heap_other hq).trans b6
  have d5 := c5.cell
  have d6 := c6.cell
  refine ⟨_, ?_, hR⟩
  simp only [Array.getD_eq_getD_getElem?] at h2 h3
  simp [results, Tryd.f24, go_sem, h2, h3, d5, d6]
theorem leave24_none {n p q : Nat} {W : World} {x : ByteArray} {y : Bool} {a : Act} {R : Ending → World → Prop} (hd : a.defers = [])
    (h2 : a.tmps.getD 2 undef = .pointer (some ⟨p, 0, none⟩)) (h3 : a.tmps.getD 3 undef = .pointer (some ⟨q, 0, none⟩))
    (b5 : Boxed W p 9 (.string x)) (b6 : Boxed W q 4 (.bool y)) (hR : R (.returned (.tuple #[.string x, .bool y])) W) : bodyPostM Fence.wide n Tryd.prog Tryd.f24 R .ret a W := by
  show LeavesInM Fence.wide n Tryd.prog Tryd.f24 a.tmps R a.defers .returning W
  rw [hd]
  have d5 := b5.cell
  have d6 := b6.cell
  refine ⟨_, ?_, hR⟩
  simp only [Array.getD_eq_getD_getElem?] at h2 h3
  simp [results, Tryd.f24, go_sem, h2, h3, d5, d6]
theorem putObj_below {B D : Nat} {w W : World} (h : Below B w W) (hD : B ≤ D) (o : Obj) : Below B w (W.putObj D o) :=
  ⟨h.os, h.tape, h.output, by rw [World.putObj_size]; exact h.size, fun k hk => (World.putObj_heap_other (by omega)).trans (h.block k hk)⟩
theorem flat_len : ∀ l : List (List UInt8), (∀ y ∈ l, wordL y = true) → ((l.map (47 :: ·)).flatten).length ≤ 65 * l.length
  | [], _ => Nat.le_refl _
  | x :: r, h => by
    have h1 := flat_len r (fun y hy => h y (List.mem_cons_of_mem _ hy))
    have h2 := h x List.mem_cons_self
    unfold wordL at h2
    simp only [Bool.and_eq_true, decide_eq_true_eq] at h2
    rw [List.map_cons, List.flatten_cons, List.length_append, List.length_cons, List.length_cons]
    omega
theorem join_len (l : List (List UInt8)) (h : ∀ y ∈ l, wordL y = true) : (join l [47]).length ≤ 65 * l.length := by
  by_cases h0 : l = []
  · rw [h0]; exact Nat.le_refl _
  · have h1 := flat_len l h
    rw [← path_tail l h0, pathOf, List.length_cons] at h1
    omega
/-- strings.Join of the names. -/
theorem join_own {W : World} {base : Nat} {A : Option Addr} {cap : Nat} {ls : List ByteArray} (h : W.ownsRow base 9 1 (.slice A ls.length cap) ls.length (ls.map Value.string)) (hw : ∀ y ∈ ls.map (·.data.toList), wordL y = true) (hl : ls.length ≤ 1000001) :
    ∃ J : ByteArray, J.data.toList = join (ls.map (·.data.toList)) [47] ∧ J.size ≤ 1000000000 ∧ Calls Tryd.prog 50 #[.slice A ls.length cap, .string ⟨#[47]⟩] W fun e w' => e = .returned (.string J) ∧ Below W.heap.size W w' := by
  have hj := join_len _ hw
  rw [List.length_map] at hj
  rcases h.2 with ⟨hv, h0⟩ | ⟨g, cap', cur, hv, hge, hg, hle, _, hsz, htk⟩
  · obtain rfl := List.length_eq_zero_iff.1 h0
    exact ⟨⟨#[]⟩, rfl, Nat.zero_le _, (Tryd.strings_Join_none A cap ⟨#[47]⟩ W).mono (fun e w' h => ⟨h.1, by rw [h.2]; exact Below.refl _ _⟩)⟩
  · injection hv with hA _ hcap
    subst hA; subst hcap
    refine ⟨⟨(join (ls.map (·.data.toList)) [47]).toArray⟩, rfl, ?_, ?_⟩
    · show (join (ls.map (·.data.toList)) [47]).toArray.size ≤ _
      rw [List.size_toArray]; omega
    · refine Tryd.strings_Join g 0 cap ls ⟨#[47]⟩ W ?_ (Array.getElem?_eq_some_iff.1 hg).1 (by omega) hle (by show (join (ls.map (·.data.toList)) [47]).length ≤ _; omega)
      intro j x hx
      obtain ⟨h1, h2⟩ := List.getElem?_eq_some_iff.1 hx
      rw [Nat.mul_one] at htk hsz
      have e : cur.toList[j]? = some (.string x) := by
        have : (cur.toList.take ls.length)[j]? = (ls.map Value.string)[j]? := by rw [htk]
        rw [List.getElem?_take, if_pos h1, List.getElem?_map, hx] at this
        exact this
      rw [Array.getElem?_toList] at e
      unfold World.cell?
      simp only [hg, Nat.zero_add, e]
      rfl
theorem normal_so {s r : ByteArray} {ls : List ByteArray} (hs : s.data.toList = 47 :: r.data.toList) (h : pfold [] ((cutB 47 r).map (·.data.toList)) = some (ls.map (·.data.toList))) :
    normalL s.data.toList = if 256 < (pathOf (ls.map (·.data.toList))).length then none else some (pathOf (ls.map (·.data.toList))) := by
  rw [cutB_data] at h
  rw [hs]
  show (if (47 : UInt8) = 47 then pend (pfold [] (pieces 47 r.data.toList)) else none) = _
  rw [if_pos rfl, h]; rfl
theorem normal_not {s r : ByteArray} (hs : s.data.toList = 47 :: r.data.toList) (h : pfold [] ((cutB 47 r).map (·.data.toList)) = none) : normalL s.data.toList = none := by
  rw [cutB_data] at h
  rw [hs]
  show (if (47 : UInt8) = 47 then pend (pfold [] (pieces 47 r.data.toList)) else none) = _
  rw [if_pos rfl, h]; rfl

set_option maxRecDepth 100000 in
set_option maxHeartbeats 4000000 in
theorem Normal_yes (s r : ByteArray) (w : World) (hs : s.data.toList = 47 :: r.data.toList) (hsz : s.size ≤ 100000) :
    Calls Tryd.prog 24 #[.string s] w fun e w' => e = .returned (.tuple #[.string (normS s), .bool (normB s)]) ∧ Below w.heap.size w w' := by
  refine callsIn_wide.1 (?_ : CallsIn Fence.wide 6 _ _ _ _ _)
  have hC : ∀ W, Calls Tryd.prog 57 #[.string s, .string ⟨#[47]⟩] W fun e w' => e = .returned (.tuple #[.string r, .bool true]) ∧ w' = W := by
    intro W
    have := Tryd.strings_CutPrefix s ⟨#[47]⟩ W
    rw [hs] at this
    have e1 : Lib.trimPrefix (47 :: r.data.toList) (⟨#[47]⟩ : ByteArray).data.toList = r.data.toList := by
      simp [Lib.trimPrefix, Lib.hasPrefix]
    have e2 : Lib.hasPrefix (47 :: r.data.toList) (⟨#[47]⟩ : ByteArray).data.toList = true := by
      simp [Lib.hasPrefix]
    rw [e1, e2] at this
    exact this
  have Hs := Lib.hid hs
  clear hs
  refine callsIn_of_wp_marks Tryd.func24 rfl trivial ?_ rfl
  simp only [Tryd.ntmps24, List.size_toArray, List.length_cons, List.length_nil, Nat.reduceAdd, Nat.reduceSub, Array.replicate_succ, Array.replicate_zero, List.push_toArray, List.append_toArray, List.nil_append, List.cons_append]
  gi_wp2_with (first | (refine ⟨trivial, ?_⟩; gi_at_call 57; refine (callsIn_wide.2 (hC _)).mono ?_; rintro e w' ⟨rfl, rfl⟩) | (refine ⟨trivial, ?_⟩; gi_at_call 58; refine (callsIn_wide.2 (SplitSeq_calls r 47 _)).mono ?_; rintro e w' ⟨rfl, rfl⟩))
  obtain ⟨V, hV⟩ : ∃ V, ((w.alloc (Obj.cells #[Value.string ⟨#[]⟩] 9)).alloc (Obj.cells #[Value.bool false] 4)).alloc (Obj.cells #[Value.slice none 0 0] 22) = V := ⟨_, rfl⟩
  have hVs : V.heap.size = w.heap.size + 1 + 1 + 1 := by rw [← hV]; simp
  have b0 : Boxed V w.heap.size 9 (.string ⟨#[]⟩) := by rw [← hV]; exact ((Boxed.new w 9 (.string ⟨#[]⟩)).alloc _).alloc _
  have b1 : Boxed V (w.heap.size + 1) 4 (.bool false) := by
    have := Boxed.new (w.alloc (.cells #[.string ⟨#[]⟩] 9)) 4 (.bool false)
    rw [World.size_alloc] at this
    rw [← hV]; exact this.alloc _
  have b2 : Boxed V (w.heap.size + 1 + 1) 22 (.slice none 0 0) := by
    have := Boxed.new ((w.alloc (.cells #[.string ⟨#[]⟩] 9)).alloc (.cells #[.bool false] 4)) 22 (.slice none 0 0)
    rw [World.size_alloc, World.size_alloc] at this
    rw [← hV]; exact this
  have hVb : Below w.heap.size w V := by rw [← hV]; exact (((Below.refl _ w).alloc (Nat.le_refl _) _).alloc (by simp) _).alloc (by simp; omega) _
  rw [hV]
  clear hV
  have hrs : r.size ≤ 1000000 := by
    have := congrArg List.length Hs.out
    rw [List.length_cons, Array.length_toList, Array.length_toList] at this
    have h2 : s.size = r.size + 1 := this
    omega
  have hF := seq_feeds 4 47 r V hrs
  obtain ⟨W0, hW0⟩ : ∃ W0, seqWorld r 47 V = W0 := ⟨_, rfl⟩
  have hWs : W0.heap.size = w.heap.size + 6 := by rw [← hW0, seqWorld_size]; omega
  have hWb := seqWorld_below r 47 V
  rw [hVs] at hF
  rw [hW0] at hF hWb ⊢
  have c0 : Boxed W0 w.heap.size 9 (.string ⟨#[]⟩) := (hWb.block _ (by omega)).trans b0
  have c1 : Boxed W0 (w.heap.size + 1) 4 (.bool false) := (hWb.block _ (by omega)).trans b1
  have c2 : Boxed W0 (w.heap.size + 1 + 1) 22 (.slice none 0 0) := (hWb.block _ (by omega)).trans b2
  have hW0b : Below w.heap.size w W0 := hVb.trans (hWb.mono (by omega))
  have Hpre : ∀ pre x, (pre ++ [x]) <+: cutB 47 r → pre.length + 1 ≤ 1000001 := by
    intro pre x h
    have h1 := h.length_le
    have h2 : (cutB 47 r).length = Lib.countB r ⟨#[47]⟩ + 1 := Lib.splitB_all _ (by decide) 0 _ r rfl
    have h3 := Lib.countB_le ⟨#[47]⟩ (by decide) r.size r (Nat.le_refl _)
    rw [List.length_append, List.length_singleton] at h1
    omega
  clear hW0 b0 b1 b2 hVb hWb
  refine range_box (by omega) (gf := 111) rfl (enters_of Tryd.func111 (by kernel_rfl) rfl) (by rw [hWs]; omega) hF kept3_t (fun W l _ hl k h1 h2 => World.putObj_heap_other (by omega)) (fun _ => rfl)
    (NamesSo w) (NamesNot w (cutB 47 r)) (namesSo_own w _ (by omega)) ?_ (namesNot_own w _ _ (by omega)) ?_
    (fun x => { tmps := #[Value.string s, undef, Value.pointer (some { block := w.heap.size, off := 0 }),
          Value.pointer (some { block := w.heap.size + 1, off := 0 }), Value.string r, Value.bool true,
          Value.pointer (some { block := w.heap.size + 1 + 1, off := 0 }), .string x, undef,
          Value.tuple #[Value.string r, Value.bool true], Value.string s,
          Value.tuple #[Value.string r, Value.bool true], Value.string r, Value.bool true, Value.bool true,
          Value.bool false, Value.string r,
          Value.func (Fn.func 111) #[]
            #[Value.pointer (some { block := w.heap.size + 1 + 1 + 1 + 1, off := 0 }),
              Value.pointer (some { block := w.heap.size + 1 + 1 + 1, off := 0 }),
              Value.pointer (some { block := w.heap.size + 1 + 1 + 1 + 2, off := 0 })],
          .string x, undef, undef, undef, undef, undef, undef, undef, undef, undef, undef, undef, undef, undef, undef,
          undef, undef, undef, undef, undef, undef, undef, undef, undef, undef, undef, undef, undef, undef, undef,
          undef, undef, undef, undef, undef], defers := [] }) ?assign ?body ?done ?stop
  · -- a store into the iterator's own cell
    rintro pre A v ⟨l, u, h1, h2, h3, h4, h5, h6, h7, h8⟩
    exact ⟨l, u, h1, h2, h3.other (by omega) _, row_other h4 (by omega), h5.other (by omega) _, h6.other (by omega) _, h7.setCell (p := ⟨w.heap.size + 1 + 1 + 1, 0, none⟩) (show w.heap.size ≤ w.heap.size + 1 + 1 + 1 by omega) _, Nat.le_trans h8 (KeepsWalks.setCell A _ v).size⟩
  · exact ⟨[], .slice none 0 0, rfl, Nat.le_refl _, c2, World.ownsRow_nil _ _ _ _, c0, c1, hW0b, by omega⟩
  case assign =>
    intro l x W K hK
    gi_wp2
    exact hK
  case body =>
    rintro l pre x W hpre ⟨ls, v, h1, h2, h3, h4, h5, h6, h7, h8⟩
    have hpl := Hpre _ _ hpre
    have hf := fold_snoc x h1
    have HF := Lib.hid hf
    have HP := Lib.hid hpre
    have HB := Lib.hid (And.intro h3 (And.intro h4 (And.intro h5 (And.intro h6 (And.intro h7 h8)))))
    obtain ⟨A, cap, rfl⟩ := row_slice h4
    have g3 := h3.cell; have f3 := h3.frozen
    have hx : x.data.toList = x.toList := (ByteArray.toList_eq x).symm
    have HX := Lib.hid hx
    clear h1 hf hpre h3 h4 h5 h6 h7 h8 hx
    have skip : x.toList = [] ∨ x.toList = [46] → boxPost (w.heap.size + 6) (Kept3 (w.heap.size + 1 + 1 + 1)) (NamesSo w) (NamesNot w (cutB 47 r)) (pre ++ [x]) W Exit.normal { tmps := #[], defers := [] } W := fun h =>
      ⟨KeepsFrom.refl _ _, fun k _ _ => rfl, ls, _, HF.out.trans (pstep_skip (by rw [HX.out]; exact h)), by rw [List.length_append, List.length_singleton]; omega, HB.out.1, HB.out.2.1, HB.out.2.2.1, HB.out.2.2.2.1, HB.out.2.2.2.2.1, HB.out.2.2.2.2.2⟩
    have Skip := Lib.hid skip
    clear skip
    rw [hWs]
    by_cases e1 : x.toList = []
    · gi_wp2
      exact Skip.out (.inl e1)
    · have ne1 : (x.toList.isEmpty) = false := by simpa using e1
      cases e2 : (x.toList == [46])
      · have stop : ∀ W', Below W.heap.size W W' → wordL x.data.toList = false → (x.toList = [46, 46] → ls = []) → 
            boxPost (w.heap.size + 6) (Kept3 (w.heap.size + 1 + 1 + 1)) (NamesSo w) (NamesNot w (cutB 47 r)) (pre ++ [x]) W Exit.ret { tmps := #[], defers := [] } ((W'.setCell ⟨w.heap.size, 0, none⟩ (.string ⟨#[]⟩)).setCell ⟨w.heap.size + 1, 0, none⟩ (.bool false)) := by
          intro W' hb hwd hup
          have k5 := box_below HB.out.2.2.1 hb
          have k6 := box_below HB.out.2.2.2.1 hb
          refine ⟨(((keeps_below hb).trans (KeepsOthers.setCell _ _ _)).trans (KeepsOthers.setCell _ _ _)).from _, fold_stop HP.out (HF.out.trans (pstep_none ?_ ?_ ?_ hwd)), (k5.set _).other (by omega) _, (k6.other (by omega) _).set _, ?_⟩
          · rw [HX.out]; intro h; rw [h] at ne1; cases ne1
          · rw [HX.out]; intro h; rw [h] at e2; exact absurd e2 (by decide)
          · rw [HX.out]; intro h; rw [hup h]; rfl
          · exact ((HB.out.2.2.2.2.1.trans (hb.mono (Nat.le_trans (by omega) HB.out.2.2.2.2.2))).setCell (p := ⟨w.heap.size, 0, none⟩) (Nat.le_refl _) _).setCell (p := ⟨w.heap.size + 1, 0, none⟩) (show w.heap.size ≤ w.heap.size + 1 by omega) _
        have Stop := Lib.hid stop
        clear stop
        have hN := fun W => path_name_calls x W
        cases e3 : (x.toList == [46, 46])
        · cases hw : wordL x.data.toList
          · rw [hw] at hN
            gi_wp2_with (refine ⟨trivial, ?_⟩; gi_at_call 59; refine (CallsIn.inRound l (callsIn_wide.2 (hN _))).mono ?_; rintro e W2 ⟨rfl, hb⟩; have k5 := box_below HB.out.2.2.1 hb; have k6 := box_below HB.out.2.2.2.1 hb; have m5 := k5.cell; have m6 := k6.cell; have n5 := k5.frozen; have n6 := k6.frozen; clear k5 k6)
            exact Stop.out _ hb hw (fun h => by rw [h] at e3; exact absurd e3 (by decide))
          · rw [hw] at hN
            obtain ⟨i0, hi, hz0, hz1, hz2⟩ := info_parts pinfo9
            have hwx := Lib.hid hw
            clear hw
            gi_wp2_with (first
              | (refine ⟨trivial, ?_⟩; gi_at_call 59; refine (CallsIn.inRound l (callsIn_wide.2 (hN _))).mono ?_; rintro e W2 ⟨rfl, hb⟩; have k3 := box_below HB.out.1 hb; have k4 := row_below HB.out.2.1 hb; have m3 := k3.cell; have hle : w.heap.size + 6 ≤ W2.heap.size := Nat.le_trans HB.out.2.2.2.2.2 hb.size; have HK := Lib.hid (And.intro k3 k4); clear k3)
              | (gi_at_builtin; refine wpListIn_append_own _ rfl _ _ 22 rfl (w.heap.size + 6) 9 i0 (.string ByteArray.empty) 1 16 Tryd.underlying22 hi hz0 hz1 hz2 rfl (by decide) _ ls.length _ rfl (k4.alloc _) ⟨W2.heap.size, 0, none⟩ 1 1 [.string x] rfl rfl (cell_one_new _ _ _) (by simp [Value.oneCell']) (by show _ ≤ 9223372036854775807; omega) (by omega) (by simp; omega) ?_; intro v' w1 hown' hgrow _; obtain ⟨g', cap', rfl⟩ := ownsRow_succ hown'; obtain ⟨hv1, hv2, hr2, hk2, hb2, hkk⟩ := box_appended HK.out.1 (by decide) HK.out.2 hle (by omega) hown' hgrow; have hc1 := hv1.cell; have hf1 := hv1.frozen))
            refine ⟨((keeps_below hb).trans hk2).from _, fun k h1 h2 => (hkk k (by omega) (by omega)).trans (hb.block k (by have := HB.out.2.2.2.2.2; omega)), ls ++ [x], _, HF.out.trans ?_, ?_, hv2, ?_, (hkk _ (by omega) (by omega)).trans (box_below HB.out.2.2.1 hb), (hkk _ (by omega) (by omega)).trans (box_below HB.out.2.2.2.1 hb), (HB.out.2.2.2.2.1.trans (hb.mono (Nat.le_trans (by omega) HB.out.2.2.2.2.2))).trans (hb2.mono (by omega)), Nat.le_trans hle hb2.size⟩
            · rw [pstep_word hwx.out, List.map_append]; rfl
            · rw [List.length_append, List.length_append, List.length_singleton]; omega
            · rw [List.length_append, List.map_append]; exact hr2
        · have hup : x.toList = [46, 46] := by simpa using e3
          have hw0 : wordL x.data.toList = false := by rw [HX.out, hup]; decide
          rw [hw0] at hN
          by_cases hls : ls.length = 0
          · have hls' := Lib.hid (List.length_eq_zero_iff.1 hls)
            have d0 : decide ((ls.length : Int) > 0) = false := decide_eq_false (by omega)
            gi_wp2_with (refine ⟨trivial, ?_⟩; gi_at_call 59; refine (CallsIn.inRound l (callsIn_wide.2 (hN _))).mono ?_; rintro e W2 ⟨rfl, hb⟩; have k5 := box_below HB.out.2.2.1 hb; have k6 := box_below HB.out.2.2.2.1 hb; have m5 := k5.cell; have m6 := k6.cell; have n5 := k5.frozen; have n6 := k6.frozen; clear k5 k6)
            exact Stop.out _ hb hw0 (fun _ => hls'.out)
          · obtain ⟨k, hk⟩ : ∃ k, ls.length = k + 1 := ⟨ls.length - 1, by omega⟩
            have hr := HB.out.2.1
            have hb3 := HB.out.1
            rw [hk] at hr hb3 g3
            obtain ⟨g, cap', hsl⟩ := ownsRow_succ hr
            injection hsl with hA _ hcap
            subst hA
            subst hcap
            have d0 : decide ((k : Int) + 1 > 0) = true := decide_eq_true (by omega)
            have hrl := row_less hr
            have hkc : k ≤ cap := by
              rcases hr.2 with ⟨hv, _⟩ | ⟨g', cap2, cur, hv, _, _, hle, _⟩
              · cases hv
              · injection hv with _ _ h3; omega
            have hlt : pre.length + 1 ≤ 1000001 := hpl
            have HR := Lib.hid hr
            have HL := Lib.hid hrl
            have HB3 := Lib.hid hb3
            clear hr hrl hb3 hls
            have hk2 : k ≤ 1000001 := by omega
            gi_wp2
            refine ⟨(KeepsOthers.setCell _ _ _).from _, fun i _ _ => Below.heap_setCell W ⟨w.heap.size + 1 + 1, 0, none⟩ _ i (show i ≠ w.heap.size + 1 + 1 by omega), ls.dropLast, _, HF.out.trans ?_, ?_, HB3.out.set _, ?_, HB.out.2.2.1.other (by omega) _, HB.out.2.2.2.1.other (by omega) _, HB.out.2.2.2.2.1.setCell (p := ⟨w.heap.size + 1 + 1, 0, none⟩) (show w.heap.size ≤ w.heap.size + 1 + 1 by omega) _, Nat.le_trans HB.out.2.2.2.2.2 (KeepsWalks.setCell W _ _).size⟩
            · rw [HX.out, hup, pstep_up (by intro h; have h9 := congrArg List.length h; rw [List.length_map, hk] at h9; exact absurd h9 (Nat.succ_ne_zero k)), List.map_dropLast]
            · rw [List.length_dropLast, List.length_append, List.length_singleton]; omega
            · rw [List.length_dropLast, hk, List.map_dropLast]
              exact row_other HL.out (by omega)
      · gi_wp2
        exact Skip.out (.inr (by simpa using e2))
  case done =>
    rintro D W hD ⟨ls, v, h1, h2, h3, h4, h5, h6, h7, h8⟩ hK
    obtain ⟨A, cap, rfl⟩ := row_slice h4
    have g3 := h3.cell
    have HB := Lib.hid (And.intro h3 (And.intro h4 (And.intro h5 (And.intro h6 (And.intro h7 h8)))))
    have HF := Lib.hid h1
    clear h1 h3 h4 h5 h6 h7 h8
    have hJ : ∃ J : ByteArray, J.data.toList = join (ls.map (·.data.toList)) [47] ∧ J.size ≤ 1000000000 ∧ Calls Tryd.prog 50 #[.slice A ls.length cap, .string ⟨#[47]⟩] W fun e w' => e = .returned (.string J) ∧ Below W.heap.size W w' := by
      have hls : ls.length ≤ 1000001 := by
        have h2' : (cutB 47 r).length = Lib.countB r ⟨#[47]⟩ + 1 := Lib.splitB_all _ (by decide) 0 _ r rfl
        have h3 := Lib.countB_le ⟨#[47]⟩ (by decide) r.size r (Nat.le_refl _)
        omega
      exact join_own HB.out.2.1 (pfold_names _ _ _ HF.out (fun y hy => absurd hy (List.not_mem_nil))) hls
    obtain ⟨J, hJ1, hJs, hJ2⟩ := hJ
    have HN := Lib.hid (normal_so Hs.out HF.out)
    have HJ := Lib.hid hJ1
    clear hJ1
    have hfin : ∀ (x : ByteArray) (y : Bool) (W2 : World), Below W.heap.size W W2 → normS s = x → normB s = y → ∀ a : Act, a.defers = [{ target := .collected D, args := #[] }] → a.tmps.getD 2 undef = .pointer (some ⟨w.heap.size, 0, none⟩) → a.tmps.getD 3 undef = .pointer (some ⟨w.heap.size + 1, 0, none⟩) →
        bodyPostM Fence.wide 6 Tryd.prog Tryd.f24 (fun e w' => e = .returned (.tuple #[.string (normS s), .bool (normB s)]) ∧ Below w.heap.size w w') Exit.ret a ((W2.setCell ⟨w.heap.size, 0, none⟩ (.string x)).setCell ⟨w.heap.size + 1, 0, none⟩ (.bool y)) := by
      intro x y W2 hb hx hy a hd h2 h3
      have k5 := box_below HB.out.2.2.1 hb
      have k6 := box_below HB.out.2.2.2.1 hb
      have hDl := (Array.getElem?_eq_some_iff.1 hK).1
      refine leave24 hd h2 h3 ?_ ((k5.set _).other (by omega) _) ((k6.other (by omega) _).set _) ?_
      · exact (Below.heap_setCell _ ⟨w.heap.size + 1, 0, none⟩ _ D (show D ≠ w.heap.size + 1 by omega)).trans ((Below.heap_setCell _ ⟨w.heap.size, 0, none⟩ _ D (show D ≠ w.heap.size by omega)).trans ((hb.block D hDl).trans hK))
      · refine ⟨by rw [hx, hy], putObj_below (((HB.out.2.2.2.2.1.trans (hb.mono (Nat.le_trans (by omega) HB.out.2.2.2.2.2))).setCell (p := ⟨w.heap.size, 0, none⟩) (Nat.le_refl _) _).setCell (p := ⟨w.heap.size + 1, 0, none⟩) (show w.heap.size ≤ w.heap.size + 1 by omega) _) (by omega) _⟩
    have Hfin := Lib.hid hfin
    clear hfin
    gi_wp2_with (refine ⟨trivial, ?_⟩; gi_at_call 50; refine (callsIn_wide.2 hJ2).mono ?_; rintro e W2 ⟨rfl, hb⟩; have k5 := box_below HB.out.2.2.1 hb; have k6 := box_below HB.out.2.2.2.1 hb; have m5 := k5.cell; have m6 := k6.cell; have n5 := k5.frozen; have n6 := k6.frozen)
    · rename_i hgt
      have hn : normalL s.data.toList = none := by rw [HN.out, if_pos (by rw [pathOf, List.length_cons, ← HJ.out, Array.length_toList]; have : J.data.size = J.size := rfl; omega)]
      exact Hfin.out _ _ _ hb (by unfold normS; rw [hn]) (by unfold normB; rw [hn]; rfl) _ rfl rfl rfl
    · rename_i hgt
      have hn : normalL s.data.toList = some (pathOf (ls.map (·.data.toList))) := by rw [HN.out, if_neg (by rw [pathOf, List.length_cons, ← HJ.out, Array.length_toList]; have : J.data.size = J.size := rfl; omega)]
      exact Hfin.out _ _ _ hb (by unfold normS; rw [hn]; exact ByteArray.ext (Array.ext' (by rw [pathOf, ← HJ.out, ByteArray.data_append]; simp))) (by unfold normB; rw [hn]; rfl) _ rfl rfl rfl
  case stop =>
    rintro D W hD ⟨h1, h5, h6, h7⟩ hK
    have hn := normal_not Hs.out h1
    have Hn := Lib.hid hn
    have HK := Lib.hid (And.intro h5 (And.intro h6 (And.intro h7 hK)))
    clear hn h1 h5 h6 h7 hK
    gi_wp2
    refine leave24 rfl rfl rfl HK.out.2.2.2 HK.out.1 HK.out.2.1 ⟨by unfold normS normB; rw [Hn.out]; rfl, putObj_below HK.out.2.2.1 (by omega) _⟩

set_option maxRecDepth 100000 in
set_option maxHeartbeats 2000000 in
theorem Normal_no (s : ByteArray) (w : World) (hs : Lib.hasPrefix s.data.toList [47] = false) (hn : normalL s.data.toList = none) :
    Calls Tryd.prog 24 #[.string s] w fun e w' => e = .returned (.tuple #[.string (normS s), .bool (normB s)]) ∧ Below w.heap.size w w' := by
  refine callsIn_wide.1 (?_ : CallsIn Fence.wide 6 _ _ _ _ _)
  have hC : ∀ W, Calls Tryd.prog 57 #[.string s, .string ⟨#[47]⟩] W fun e w' => (∃ x, e = .returned (.tuple #[.string x, .bool false])) ∧ w' = W := by
    intro W
    refine (Tryd.strings_CutPrefix s ⟨#[47]⟩ W).mono ?_
    rintro e w' ⟨rfl, rfl⟩
    exact ⟨⟨_, by rw [show (⟨#[47]⟩ : ByteArray).data.toList = [47] from rfl, hs]⟩, rfl⟩
  have Hn := Lib.hid hn
  clear hs hn
  refine callsIn_of_wp_marks Tryd.func24 rfl trivial ?_ rfl
  simp only [Tryd.ntmps24, List.size_toArray, List.length_cons, List.length_nil, Nat.reduceAdd, Nat.reduceSub, Array.replicate_succ, Array.replicate_zero, List.push_toArray, List.append_toArray, List.nil_append, List.cons_append]
  gi_wp2_with (first | (refine ⟨trivial, ?_⟩; gi_at_call 57; refine (callsIn_wide.2 (hC _)).mono ?_; rintro e w' ⟨⟨x, rfl⟩, rfl⟩))
  have b0 : Boxed ((w.alloc (.cells #[.string ⟨#[]⟩] 9)).alloc (.cells #[.bool false] 4)) w.heap.size 9 (.string ⟨#[]⟩) := (Boxed.new w 9 (.string ⟨#[]⟩)).alloc _
  have b1 : Boxed ((w.alloc (.cells #[.string ⟨#[]⟩] 9)).alloc (.cells #[.bool false] 4)) (w.heap.size + 1) 4 (.bool false) := by
    have := Boxed.new (w.alloc (.cells #[.string ⟨#[]⟩] 9)) 4 (.bool false)
    rwa [World.size_alloc] at this
  exact leave24_none rfl rfl rfl b0 b1 ⟨by unfold normS normB; rw [Hn.out]; rfl, ((Below.refl _ w).alloc (Nat.le_refl _) _).alloc (by simp) _⟩
theorem Normal_calls (s : ByteArray) (w : World) (hsz : s.size ≤ 100000) :
    Calls Tryd.prog 24 #[.string s] w fun e w' => e = .returned (.tuple #[.string (normS s), .bool (normB s)]) ∧ Below w.heap.size w w' := by
  match hd : s.data.toList with
  | [] => exact Normal_no s w (by rw [hd]; rfl) (by rw [hd]; rfl)
  | b :: t =>
    by_cases hb : b = 47
    · subst hb
      exact Normal_yes s ⟨t.toArray⟩ w hd hsz
    · refine Normal_no s w (by rw [hd]; unfold Lib.hasPrefix; simp [List.isPrefixOf]; exact fun e => hb e.symm) ?_
      rw [hd]
      show (if b = 47 then _ else none) = none
      rw [if_neg hb]
end Go.Proofs.YthjekbmgbidcfaaDoor.Lex
