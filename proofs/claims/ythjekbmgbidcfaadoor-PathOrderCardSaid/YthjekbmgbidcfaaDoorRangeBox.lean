/- A range over a function whose iterator keeps its state in a cell of its own (a captured variable that it writes between two rounds): block b. The caller's word then must abide a store into b; the iterator tells the body which part has come. At the wide fence. -/
import Derived.RangeFuncNested
import Derived.RangeFuncBound
import Derived.RangeFuncCalls
import Derived.RangeFuncLeaves
namespace Go.Proofs.YthjekbmgbidcfaaDoor.Lex
open Go Go.RowKit

/-- How a round may be left. -/
def boxPost {α : Type} (B : Nat) (Kp : World → World → Prop) (I : List α → World → Prop) (Ix : Code → World → Prop) (ys : List α) (W : World) : Exit → Act → World → Prop
  | .normal, _, W' => KeepsFrom B W W' ∧ Kp W W' ∧ I ys W'
  | .ret, _, W' => KeepsFrom B W W' ∧ Ix .ret W'
  | .exit _, _, _ => False
  | .goto _, _, _ => False
  | .panic _, _, _ => False
  | .outgrown, _, _ => False

/-- What an iterator promises whose state lies in block b: all of xs comes, in order; or a round has said 'no more'. -/
def Feeds {α : Type} (n : Nat) (P : Program) (g : Nat) (lb : Array Value) (encs : α → Array Value) (Kp : World → World → Prop) (b : Nat) (xs : List α) (w : World) : Prop :=
  ∀ (l : Nat) (J : List α → World → Prop) (Jx : World → Prop) (W : World), Below w.heap.size w W →
    (∀ s A B, J s A → A.grownBy B none → J s B) → (∀ s A v, J s A → J s (A.setCell ⟨b, 0, none⟩ v)) → (∀ A B, Jx A → A.grownBy B none → Jx B) →
    (∀ pre x W1, (pre ++ [x]) <+: xs → J pre W1 → YieldAt Fence.wide (n - 1) P l (encs x) W1 fun e W' =>
      (e = .returned (.bool true) ∧ J (pre ++ [x]) W' ∧ Kp W1 W') ∨ (e = .returned (.bool false) ∧ Jx W')) →
    J [] W →
    CallsIn Fence.wide n P g (#[.func (.yield l) #[] #[]] ++ lb) W fun e W' => (∃ v, e = .returned v) ∧ (J xs W' ∨ Jx W')

theorem kept_loop {W W' : World} {k b : Nat} {o : Obj} {v : Value} (hk : W.heap[k]? = some o) (hne : k ≠ b) (h : W' = W.setCell ⟨b, 0, none⟩ v) : W'.heap[k]? = some o := by
  rw [h]; exact (Below.heap_setCell W ⟨b, 0, none⟩ v k hne).trans hk
theorem kept_grown {W W' : World} {k : Nat} {o : Obj} (hk : W.heap[k]? = some o) (hg : W.grownBy W' none) : W'.heap[k]? = some o :=
  (hg.block k (Array.getElem?_eq_some_iff.1 hk).1 (fun e => by cases e)).trans hk

theorem range_box {α : Type} {P : Program} {n : Nat} (h1 : 1 ≤ n) {g : Operand} {ps : Array Tmp} {assign body : Code} {Q : Exit → Act → World → Prop} {a : Act} {w : World} {gf : Nat} {lb : Array Value}
    (hg : a.eval g = .func (.func gf) #[] lb) (eg : ∀ args w, (callFunc gf args).run P w = .ok (.enter gf args) w)
    {encs : α → Array Value} {Kp : World → World → Prop} {b : Nat} {xs : List α} (hb : b < w.heap.size) (hseq : Feeds (n - 1) P gf lb encs Kp b xs w)
    (hKt : ∀ {A B C : World}, Kp A B → Kp B C → Kp A C) (hKb : ∀ (W : World) (l : Nat) (o : Obj), w.heap.size ≤ l → Kp W (W.putObj l o)) (hps : ∀ x, (encs x).size = ps.size)
    (I : List α → World → Prop) (Ix : Code → World → Prop) (hI : OwnFrom w.heap.size I) (hIb : ∀ s A v, I s A → I s (A.setCell ⟨b, 0, none⟩ v)) (hIx : OwnFrom w.heap.size Ix) (h0 : I [] w) (a₁ : α → Act)
    (hassign : ∀ (l : Nat) (x : α) (W : World) (K : Act → World → Prop), K (a₁ x) W →
      assign.wpIn (Fence.wide.inRound l) (n - 1 - 1) P (Exit.then K (fun _ _ _ => False)) { tmps := (ps.zip (encs x)).foldl (fun t (p, v) => t.setIfInBounds p v) a.tmps, defers := [] } W)
    (hbody : ∀ (l : Nat) (pre : List α) (x : α) (W : World), (pre ++ [x]) <+: xs → I pre W → body.wpIn (Fence.wide.inRound l) (n - 1 - 1) P (boxPost w.heap.size Kp I Ix (pre ++ [x]) W) (a₁ x) W)
    (hdone : ∀ (D : Nat) (W : World), w.heap.size ≤ D → I xs W → W.heap[D]? = some (.deferred (some [])) → Q .normal { a with defers := { target := .collected D, args := #[] } :: a.defers } W)
    (hstop : ∀ (D : Nat) (W : World), w.heap.size ≤ D → Ix .ret W → W.heap[D]? = some (.deferred (some [])) → Code.ret.wpIn Fence.wide n P Q { a with defers := { target := .collected D, args := #[] } :: a.defers } W) :
    (Code.rangeFunc g ps assign body).wpIn Fence.wide n P Q a w := by
  refine wpIn_rangeFunc ?_
  intro fn hfn
  have hro : Fence.wide.round = none := rfl
  rw [hro]
  -- the two blocks of book-keeping: D, L
  obtain ⟨D, hD⟩ : ∃ D, w.heap.size = D := ⟨_, rfl⟩
  obtain ⟨mk, hmk⟩ : ∃ mk : LoopState → Option Code → Loop, mk = fun st pe => { state := st, pending := pe, fn, tmps := a.tmps, params := ps, assign, body, defers := D } := ⟨_, rfl⟩
  obtain ⟨W1, hW1⟩ : ∃ W1, (w.alloc (.deferred (some []))).alloc (.loop (mk .ready none)) = W1 := ⟨_, rfl⟩
  have hl1 : W1.heap[D + 1]? = some (.loop (mk .ready none)) := by
    have := World.alloc_heap_new (w.alloc (.deferred (some []))) (.loop (mk .ready none))
    rw [World.size_alloc, hD, hW1] at this; exact this
  have hd1 : W1.heap[D]? = some (.deferred (some [])) := by
    rw [← hW1, ← hD]; exact (Below.heap_alloc _ _ _ (by simp)).trans (World.alloc_heap_new w _)
  have hbel : Below w.heap.size w W1 := by rw [← hW1]; exact ((Below.refl _ w).alloc (Nat.le_refl _) _).alloc (by simp) _
  have hi1 : I [] W1 := by rw [← hW1]; exact hI.alloc _ (hI.alloc _ h0)
  rw [hD] at hb hbel hI hIx hKb hbody hdone hstop
  refine ⟨D + 1, [{ target := .collected D, args := #[] }], W1, { target := .fn (.func gf) lb, args := #[.func (.yield (D + 1)) #[] #[]] }, W1, gf,
    #[.func (.yield (D + 1)) #[] #[]] ++ lb, W1, ?_, ?_, fun _ _ => trivial, ?_, fun _ => h1, ?_⟩
  · have := run_enterLoop_outer (P := P) (w := w) fn a.tmps ps assign body
    rw [hD] at this
    rw [← hW1, hmk]; exact this
  · simp only [resolve, hg]
    simp [go_sem]
  · simp [invoke, go_sem, eg]
  · -- a step of the iterator leaves the book-keeping be
    refine (hseq (D + 1)
      (fun pre W => I pre W ∧ W.heap[D + 1]? = some (.loop (mk .ready none)) ∧ W.heap[D]? = some (.deferred (some [])))
      (fun W => Ix .ret W ∧ W.heap[D + 1]? = some (.loop (mk .done (some .ret))) ∧ W.heap[D]? = some (.deferred (some [])))
      W1 (hbel.mono (Nat.le_of_eq hD))
      (fun s A B h hgr => ⟨hI s A B none h.1 hgr (fun r e => by cases e), kept_grown h.2.1 hgr, kept_grown h.2.2 hgr⟩)
      (fun s A v h => ⟨hIb s A v h.1, kept_loop h.2.1 (by omega) rfl, kept_loop h.2.2 (by omega) rfl⟩)
      (fun A B h hgr => ⟨hIx .ret A B none h.1 hgr (fun r e => by cases e), kept_grown h.2.1 hgr, kept_grown h.2.2 hgr⟩)
      ?_ ⟨hi1, hl1, hd1⟩).mono ?_
    · -- one round
      rintro pre x W hpre ⟨hi, hl, hk⟩
      have hlt : D + 1 < W.heap.size := (Array.getElem?_eq_some_iff.1 hl).1
      have hy := run_yield (P := P) (args := encs x) hl (by rw [hmk]; exact hps x)
      rw [hmk] at hy
      refine ⟨fn, _, assign, body, hy, roundIn_of_wpIn hfn (hassign _ x W _ ⟨_, run_beginRound hl (by rw [hmk]), ?_⟩)⟩
      obtain ⟨busy, hbusy⟩ : ∃ busy, busy = W.putObj (D + 1) (.loop { mk .ready none with state := .busy }) := ⟨_, rfl⟩
      rw [← hbusy]
      have hl2 : busy.heap[D + 1]? = some (.loop { mk .ready none with state := .busy }) := by rw [hbusy]; exact World.putObj_heap_same hlt
      have hk2 : busy.heap[D]? = some (.deferred (some [])) := by rw [hbusy]; exact (World.putObj_heap_other (by omega)).trans hk
      have hkp2 : Kp W busy := by rw [hbusy]; exact hKb _ _ _ (by omega)
      have hi2 : I pre busy := by rw [hbusy]; exact hI.putObj _ hi (by omega) hl rfl
      refine wpIn_mono (hbody _ pre x _ hpre hi2) ?_
      rintro e a3 W3 hp
      match e, hp with
      | .normal, hp =>
        obtain ⟨hk3, hkp3, hi3⟩ := hp
        have hl3 := hk3.same _ _ (by omega) hl2 rfl
        have hr := run_endRound (P := P) none hl3
        rw [hmk] at hr
        refine ⟨_, _, hr, .inl ⟨rfl, ⟨hI.putObj _ hi3 (by omega) hl3 rfl, ?_, (World.putObj_heap_other (by omega)).trans (hk3.same _ _ (Nat.le_refl _) hk2 rfl)⟩, hKt (hKt hkp2 hkp3) (hKb _ _ _ (by omega))⟩⟩
        rw [hmk]; exact World.putObj_heap_same (Array.getElem?_eq_some_iff.1 hl3).1
      | .ret, hp =>
        obtain ⟨hk3, hi3⟩ := hp
        have hl3 := hk3.same _ _ (by omega) hl2 rfl
        have hr := run_endRound (P := P) (some .ret) hl3
        rw [hmk] at hr
        refine ⟨_, _, hr, .inr ⟨rfl, hIx.putObj _ hi3 (by omega) hl3 rfl, ?_, (World.putObj_heap_other (by omega)).trans (hk3.same _ _ (Nat.le_refl _) hk2 rfl)⟩⟩
        rw [hmk]; exact World.putObj_heap_same (Array.getElem?_eq_some_iff.1 hl3).1
    · -- behind the iterator
      rintro e W2 ⟨⟨v, rfl⟩, ⟨hi, hl, hk⟩ | ⟨hi, hl, hk⟩⟩
      · have hr := run_endLoop (P := P) hl (by rw [hmk]; simp)
        rw [hmk] at hr
        exact ⟨none, _, hr, hdone _ _ (Nat.le_refl _) (hI.putObj _ hi (by omega) hl rfl) ((World.putObj_heap_other (by omega)).trans hk)⟩
      · have hr := run_endLoop (P := P) hl (by rw [hmk]; simp)
        rw [hmk] at hr
        exact ⟨some .ret, _, hr, hstop _ _ (Nat.le_refl _) (hIx.putObj _ hi (by omega) hl rfl) ((World.putObj_heap_other (by omega)).trans hk)⟩
end Go.Proofs.YthjekbmgbidcfaaDoor.Lex
