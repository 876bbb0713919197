/- Plain laws (no program): a text's path, whether it is right, its names, what lies under what. -/
import Derived.Test.YthjekbmgbidcfaaDoorPathWord
import Derived.Test.YthjekbmgbidcfaaDoorSplitPlain
namespace Go.Proofs.YthjekbmgbidcfaaDoor.Lex
open Go.Lib

/-- One piece more. -/
def pstep (l : List (List UInt8)) (x : List UInt8) : Option (List (List UInt8)) :=
  if x = [] ∨ x = [46] then some l else if x = [46, 46] then (if l = [] then none else some l.dropLast) else if wordL x = true then some (l ++ [x]) else none
def pfold : List (List UInt8) → List (List UInt8) → Option (List (List UInt8))
  | l, [] => some l
  | l, x :: r => match pstep l x with
    | none => none
    | some l' => pfold l' r
def pathOf (l : List (List UInt8)) : List UInt8 := 47 :: join l [47]
/-- What the names come to. -/
def pend : Option (List (List UInt8)) → Option (List UInt8)
  | none => none
  | some l => if 256 < (pathOf l).length then none else some (pathOf l)
/-- A text's path. -/
def normalL : List UInt8 → Option (List UInt8)
  | [] => none
  | b :: r => if b = 47 then pend (pfold [] (pieces 47 r)) else none
def rightL (p : List UInt8) : Bool := normalL p == some p
def rightR (p : List UInt8) : Bool := p == [47] || (decide (p.length ≤ 256) && (p.head? == some 47) && (pieces 47 p.tail).all wordL)
def namesL (p : List UInt8) : List (List UInt8) := if rightL p = false ∨ p = [47] then [] else pieces 47 p.tail
def underL (top p : List UInt8) : Bool := rightL top && rightL p && decide (namesL top <+: namesL p)
def underR (top p : List UInt8) : Bool := rightR top && rightR p && (top == [47] || p == top || (decide (top.length < p.length) && p.take top.length == top && p[top.length]? == some 47))

theorem pfold_append (a b : List (List UInt8)) : ∀ l, pfold l (a ++ b) = match pfold l a with | none => none | some l' => pfold l' b := by
  induction a with
  | nil => intro l; rfl
  | cons x r ih =>
    intro l
    rw [List.cons_append, pfold, pfold]
    cases pstep l x with
    | none => rfl
    | some l' => exact ih l'
theorem word_ne {x : List UInt8} (h : wordL x = true) : x ≠ [] ∧ x ≠ [46] ∧ x ≠ [46, 46] := by
  refine ⟨?_, ?_, ?_⟩ <;> (rintro rfl; exact absurd h (by decide))
theorem word_free {x : List UInt8} (h : wordL x = true) : (47 : UInt8) ∉ x := by
  intro hm
  unfold wordL allPlain at h
  simp only [Bool.and_eq_true, List.all_eq_true] at h
  exact absurd (h.2 47 hm) (by decide)
theorem pstep_word {l : List (List UInt8)} {x : List UInt8} (h : wordL x = true) : pstep l x = some (l ++ [x]) := by
  obtain ⟨h1, h2, h3⟩ := word_ne h
  unfold pstep
  rw [if_neg (fun e => e.elim h1 h2), if_neg h3, if_pos h]
theorem pfold_words : ∀ (r l : List (List UInt8)), (∀ x ∈ r, wordL x = true) → pfold l r = some (l ++ r)
  | [], l, _ => by rw [List.append_nil]; rfl
  | x :: r, l, h => by
    rw [pfold, pstep_word (h x List.mem_cons_self)]
    show pfold (l ++ [x]) r = _
    rw [pfold_words r (l ++ [x]) (fun y hy => h y (List.mem_cons_of_mem _ hy)), List.append_assoc]; rfl
theorem pstep_names {l l' : List (List UInt8)} {x : List UInt8} (h : pstep l x = some l') (hl : ∀ y ∈ l, wordL y = true) : ∀ y ∈ l', wordL y = true := by
  unfold pstep at h
  split at h
  · injection h with h; subst h; exact hl
  · split at h
    · split at h
      · cases h
      · injection h with h; subst h
        exact fun y hy => hl y (List.dropLast_subset _ hy)
    · split at h
      · rename_i hx
        injection h with h; subst h
        intro y hy
        rcases List.mem_append.1 hy with hy | hy
        · exact hl y hy
        · rw [List.mem_singleton.1 hy]; exact hx
      · cases h
theorem pfold_names : ∀ (r l l' : List (List UInt8)), pfold l r = some l' → (∀ y ∈ l, wordL y = true) → ∀ y ∈ l', wordL y = true
  | [], l, l', h, hl => by cases h; exact hl
  | x :: r, l, l', h, hl => by
    rw [pfold] at h
    cases hs : pstep l x with
    | none => rw [hs] at h; cases h
    | some m => rw [hs] at h; exact pfold_names r m l' h (pstep_names hs hl)
theorem pieces_path {l : List (List UInt8)} (hl : ∀ y ∈ l, wordL y = true) (hne : l ≠ []) : pieces 47 (join l [47]) = l := by
  match l, hl, hne with
  | x :: r, hl, _ => exact pieces_join 47 x r (fun y hy => word_free (hl y hy))
theorem normal_names {s p : List UInt8} (h : normalL s = some p) : ∃ l, p = pathOf l ∧ (∀ y ∈ l, wordL y = true) ∧ p.length ≤ 256 := by
  unfold normalL at h
  match s, h with
  | b :: r, h =>
    dsimp only at h
    split at h
    · cases hf : pfold [] (pieces 47 r) with
      | none => rw [hf] at h; cases h
      | some l =>
        rw [hf, pend] at h
        split at h
        · cases h
        · rename_i hlen
          injection h with h; subst h
          exact ⟨l, rfl, pfold_names _ _ _ hf (fun y hy => absurd hy (List.not_mem_nil)), by omega⟩
    · cases h
theorem path_empty : pathOf [] = [47] := rfl
/-- A path of names is right. -/
theorem right_path {l : List (List UInt8)} (hl : ∀ y ∈ l, wordL y = true) (h256 : (pathOf l).length ≤ 256) : normalL (pathOf l) = some (pathOf l) := by
  unfold pathOf
  show (if (47 : UInt8) = 47 then pend (pfold [] (pieces 47 (join l [47]))) else none) = _
  rw [if_pos rfl]
  cases l with
  | nil => rfl
  | cons x r =>
    rw [pieces_path hl (by simp), pfold_words _ _ hl, List.nil_append, pend, if_neg (by omega)]
    rfl
theorem normal_right {s p : List UInt8} (h : normalL s = some p) : normalL p = some p := by
  obtain ⟨l, rfl, hl, h256⟩ := normal_names h
  exact right_path hl h256
theorem rightL_iff (p : List UInt8) : rightL p = true ↔ ∃ l, p = pathOf l ∧ (∀ y ∈ l, wordL y = true) ∧ p.length ≤ 256 := by
  unfold rightL
  rw [beq_iff_eq]
  constructor
  · exact normal_names
  · rintro ⟨l, rfl, hl, h⟩; exact right_path hl h
theorem rightR_iff (p : List UInt8) : rightR p = true ↔ ∃ l, p = pathOf l ∧ (∀ y ∈ l, wordL y = true) ∧ p.length ≤ 256 := by
  unfold rightR
  simp only [Bool.or_eq_true, Bool.and_eq_true, beq_iff_eq, decide_eq_true_eq, List.all_eq_true]
  constructor
  · rintro (rfl | ⟨⟨h1, h2⟩, h3⟩)
    · exact ⟨[], rfl, fun y hy => absurd hy (List.not_mem_nil), by decide⟩
    · match p, h1, h2, h3 with
      | b :: r, h1, h2, h3 =>
        simp only [List.head?_cons, Option.some.injEq] at h2
        subst h2
        refine ⟨pieces 47 r, ?_, h3, h1⟩
        unfold pathOf
        rw [join_pieces]
  · rintro ⟨l, rfl, hl, h⟩
    cases l with
    | nil => exact .inl rfl
    | cons x r =>
      refine .inr ⟨⟨h, rfl⟩, ?_⟩
      show ∀ y ∈ pieces 47 (join (x :: r) [47]), _
      rw [pieces_path hl (by simp)]
      exact hl
theorem right_eq (p : List UInt8) : rightL p = rightR p := by rw [Bool.eq_iff_iff, rightL_iff, rightR_iff]
theorem names_of {l : List (List UInt8)} (hl : ∀ y ∈ l, wordL y = true) (h256 : (pathOf l).length ≤ 256) : namesL (pathOf l) = l := by
  have hr : rightL (pathOf l) = true := (rightL_iff _).2 ⟨l, rfl, hl, h256⟩
  unfold namesL
  rw [hr]
  cases l with
  | nil => rfl
  | cons x r =>
    rw [if_neg]
    · exact pieces_path hl (by simp)
    · rintro (h | h)
      · cases h
      · unfold pathOf at h
        injection h with _ h
        have := congrArg (pieces 47) h
        rw [pieces_path hl (by simp)] at this
        have hx := (word_ne (hl x List.mem_cons_self)).1
        injection this with h1 _
        exact hx h1
theorem pieces_mid (c : UInt8) (t : List UInt8) : ∀ a : List UInt8, pieces c (a ++ c :: t) = pieces c a ++ pieces c t
  | [] => by simp [pieces]
  | b :: a => by
    have ih := pieces_mid c t a
    rw [List.cons_append, pieces, pieces, ih]
    split
    · rfl
    · cases h : pieces c a with
      | nil => exact absurd h (pieces_ne c a)
      | cons p r => rfl
theorem path_nil {l : List (List UInt8)} (hl : ∀ y ∈ l, wordL y = true) (h256 : (pathOf l).length ≤ 256) (h : pathOf l = [47]) : l = [] := by
  have h1 := names_of hl h256
  rw [h] at h1
  rw [← h1]; unfold namesL; rw [if_pos (.inr rfl)]
theorem path_tail (l : List (List UInt8)) (hne : l ≠ []) : pathOf l = (l.map (47 :: ·)).flatten := by
  match l, hne with
  | x :: r, _ => unfold pathOf; rw [join_cons]; rfl
theorem under_eq (top p : List UInt8) : underL top p = underR top p := by
  unfold underL underR
  rw [right_eq, right_eq]
  cases ht : rightR top with
  | false => rfl
  | true =>
    cases hp : rightR p with
    | false => rfl
    | true =>
      obtain ⟨a, rfl, ha, ha2⟩ := (rightR_iff _).1 ht
      obtain ⟨b, rfl, hb, hb2⟩ := (rightR_iff _).1 hp
      rw [names_of ha ha2, names_of hb hb2]
      simp only [Bool.true_and]
      rw [Bool.eq_iff_iff]
      simp only [Bool.or_eq_true, Bool.and_eq_true, beq_iff_eq, decide_eq_true_eq]
      constructor
      · rintro ⟨t, rfl⟩
        by_cases h0 : a = []
        · subst h0; exact .inl (.inl rfl)
        · cases t with
          | nil => exact .inl (.inr (by rw [List.append_nil]))
          | cons y t =>
            have e : pathOf (a ++ y :: t) = pathOf a ++ 47 :: (y ++ (t.map (47 :: ·)).flatten) := by
              rw [path_tail _ (by simp), path_tail _ h0, List.map_append, List.flatten_append]; rfl
            rw [e]
            refine .inr ⟨⟨by rw [List.length_append, List.length_cons]; omega, List.take_left⟩, ?_⟩
            rw [List.getElem?_append_right (Nat.le_refl _), Nat.sub_self]; rfl
      · rintro ((h | h) | ⟨⟨h1, h2⟩, h3⟩)
        · rw [path_nil ha ha2 h]; exact List.nil_prefix
        · have := names_of hb hb2
          rw [h, names_of ha ha2] at this
          rw [this]; exact List.prefix_refl _
        · by_cases h0 : a = []
          · rw [h0]; exact List.nil_prefix
          · have hb0 : b ≠ [] := by
              rintro rfl
              rw [path_empty] at h1
              unfold pathOf at h1
              simp only [List.length_cons, List.length_nil] at h1
              omega
            have hl := List.getElem?_eq_some_iff.1 h3
            obtain ⟨hlt, hge⟩ := hl
            have e : pathOf b = pathOf a ++ 47 :: (pathOf b).drop ((pathOf a).length + 1) := by
              have e1 := List.take_append_drop (pathOf a).length (pathOf b)
              rw [h2, List.drop_eq_getElem_cons hlt, hge] at e1
              exact e1.symm
            have e2 : join b [47] = join a [47] ++ 47 :: (pathOf b).drop ((pathOf a).length + 1) := by
              have := congrArg List.tail e
              exact this
            have e3 := congrArg (pieces 47) e2
            rw [pieces_mid, pieces_path ha h0, pieces_path hb hb0] at e3
            exact ⟨_, e3.symm⟩

/-! ### Orders -/
theorem under_self (p : List UInt8) : underL p p = rightL p := by
  unfold underL
  simp
theorem under_whole (p : List UInt8) : underL [47] p = rightL p := by
  unfold underL
  have h1 : rightL [47] = true := by decide
  have h2 : namesL [47] = [] := by unfold namesL; rw [if_pos (.inr rfl)]
  rw [h1, h2]; simp
theorem names_path {p : List UInt8} (h : rightL p = true) : pathOf (namesL p) = p := by
  obtain ⟨l, rfl, hl, h256⟩ := (rightL_iff _).1 h
  rw [names_of hl h256]
theorem under_both {p q : List UInt8} (h1 : underL p q = true) (h2 : underL q p = true) : p = q := by
  unfold underL at h1 h2
  simp only [Bool.and_eq_true, decide_eq_true_eq] at h1 h2
  have e : namesL p = namesL q := List.IsPrefix.eq_of_length_le h1.2 h2.2.length_le
  rw [← names_path h1.1.1, e, names_path h1.1.2]
theorem under_trans {p q s : List UInt8} (h1 : underL p q = true) (h2 : underL q s = true) : underL p s = true := by
  unfold underL at h1 h2 ⊢
  simp only [Bool.and_eq_true, decide_eq_true_eq] at h1 h2 ⊢
  exact ⟨⟨h1.1.1, h2.1.2⟩, h1.2.trans h2.2⟩
end Go.Proofs.YthjekbmgbidcfaaDoor.Lex
