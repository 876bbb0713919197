/- Plain laws (no program): what lies between the signs of a text: Lib's splitB at one byte is a simple recursion; it undoes a join. -/
import Derived.Lib.SplitLaws
import Derived.Lib.Join
import Derived.Shelf.Strings.Split
namespace Go.Proofs.YthjekbmgbidcfaaDoor.Lex
open Go.Lib

/-- What lies between the bytes c. -/
def pieces (c : UInt8) : List UInt8 → List (List UInt8)
  | [] => [[]]
  | b :: t => if b = c then [] :: pieces c t else match pieces c t with
    | [] => [[b]]
    | p :: r => (b :: p) :: r
theorem pieces_ne (c : UInt8) : ∀ l, pieces c l ≠ []
  | [] => by simp [pieces]
  | b :: t => by
    unfold pieces
    split
    · simp
    · split <;> simp
theorem pieces_plain (c : UInt8) : ∀ p : List UInt8, c ∉ p → pieces c p = [p]
  | [], _ => rfl
  | b :: t, h => by
    have h1 : b ≠ c := fun e => h (by rw [e]; exact List.mem_cons_self)
    have ih := pieces_plain c t (fun e => h (List.mem_cons_of_mem _ e))
    rw [pieces, if_neg h1, ih]
theorem pieces_cut (c : UInt8) (t : List UInt8) : ∀ p : List UInt8, c ∉ p → pieces c (p ++ c :: t) = p :: pieces c t
  | [], _ => by rw [List.nil_append, pieces, if_pos rfl]
  | b :: p, h => by
    have h1 : b ≠ c := fun e => h (by rw [e]; exact List.mem_cons_self)
    have ih := pieces_cut c t p (fun e => h (List.mem_cons_of_mem _ e))
    rw [List.cons_append, pieces, if_neg h1, ih]
theorem index_plain (c : UInt8) : ∀ p : List UInt8, c ∉ p → index p [c] = -1
  | [], _ => rfl
  | b :: t, h => by
    have h1 : (c == b) = false := beq_eq_false_iff_ne.2 fun e => h (by rw [e]; exact List.mem_cons_self)
    have ih := index_plain c t (fun e => h (List.mem_cons_of_mem _ e))
    rw [index, ih]
    simp [List.isPrefixOf, h1]
theorem index_cut (c : UInt8) (t : List UInt8) : ∀ p : List UInt8, c ∉ p → index (p ++ c :: t) [c] = p.length
  | [], _ => by rw [List.nil_append, index]; simp [List.isPrefixOf]
  | b :: p, h => by
    have h1 : (c == b) = false := beq_eq_false_iff_ne.2 fun e => h (by rw [e]; exact List.mem_cons_self)
    have ih := index_cut c t p (fun e => h (List.mem_cons_of_mem _ e))
    rw [List.cons_append, index, ih]
    have h2 : ((p.length : Int) == -1) = false := by rw [beq_eq_false_iff_ne]; omega
    simp [List.isPrefixOf, h1, h2]
theorem first_of_mem (c : UInt8) : ∀ l : List UInt8, c ∈ l → ∃ p t, c ∉ p ∧ l = p ++ c :: t
  | [], h => absurd h (List.not_mem_nil)
  | b :: l, h => by
    by_cases e : b = c
    · exact ⟨[], l, List.not_mem_nil, by rw [e]; rfl⟩
    · obtain ⟨p, t, h1, h2⟩ := first_of_mem c l (by rcases List.mem_cons.1 h with h | h; exact absurd h.symm e; exact h)
      exact ⟨b :: p, t, fun hm => by rcases List.mem_cons.1 hm with h | h; exact e h.symm; exact h1 h, by rw [h2]; rfl⟩
theorem splitK_pieces (c : UInt8) : ∀ (n : Nat) (l : List UInt8) (k : Nat), l.length ≤ n → l.count c ≤ k → splitK [c] 0 k l = pieces c l := by
  intro n
  induction n with
  | zero =>
    intro l k h _
    obtain rfl := List.length_eq_zero_iff.1 (Nat.le_zero.1 h)
    cases k <;> rfl
  | succ n ih =>
    intro l k h hk
    by_cases hc : c ∈ l
    · obtain ⟨p, t, h1, rfl⟩ := first_of_mem c l hc
      rw [pieces_cut c t p h1]
      rw [List.count_append, List.count_cons_self] at hk
      obtain ⟨k, rfl⟩ : ∃ m, k = m + 1 := ⟨k - 1, by omega⟩
      have h2 : ((p.length : Int) == -1) = false := by rw [beq_eq_false_iff_ne]; omega
      rw [splitK, index_cut c t p h1, if_neg (by rw [h2]; simp)]
      rw [show ((p.length : Int).toNat + [c].length) = p.length + 1 from rfl, show ((p.length : Int).toNat + 0) = p.length from rfl]
      rw [List.take_left, show (p ++ c :: t).drop (p.length + 1) = t by rw [List.drop_append]; simp]
      rw [ih t k (by rw [List.length_append, List.length_cons] at h; omega) (by omega)]
    · rw [pieces_plain c l hc]
      cases k with
      | zero => rfl
      | succ k => rw [splitK, index_plain c l hc]; rfl
theorem countB_list (s : ByteArray) (c : UInt8) : countB s ⟨#[c]⟩ = s.data.toList.count c := by
  rw [← count_one]
/-- strings.Split at one byte. -/
theorem split_pieces (c : UInt8) (s : ByteArray) : (splitB ⟨#[c]⟩ 0 (countB s ⟨#[c]⟩) s).map (·.data.toList) = pieces c s.data.toList := by
  rw [splitB_data, countB_list]
  exact splitK_pieces c _ _ _ (Nat.le_refl _) (Nat.le_refl _)
theorem pieces_tail (c : UInt8) : ∀ (r : List (List UInt8)) (x : List UInt8), c ∉ x → (∀ y ∈ r, c ∉ y) → pieces c (x ++ joinTail [c] r) = x :: r
  | [], x, h, _ => by
    rw [show joinTail [c] [] = [] from rfl, List.append_nil]; exact pieces_plain c x h
  | y :: r, x, h, hr => by
    have e : joinTail [c] (y :: r) = c :: (y ++ joinTail [c] r) := by simp [joinTail]
    rw [e, pieces_cut c _ x h, pieces_tail c r y (hr y List.mem_cons_self) (fun z hz => hr z (List.mem_cons_of_mem _ hz))]
/-- A join of pieces that bear no such byte comes back. -/
theorem pieces_join (c : UInt8) (x : List UInt8) (r : List (List UInt8)) (h : ∀ y ∈ x :: r, c ∉ y) : pieces c (join (x :: r) [c]) = x :: r := by
  rw [join_cons]
  exact pieces_tail c r x (h x List.mem_cons_self) (fun y hy => h y (List.mem_cons_of_mem _ hy))
/-- No piece bears the byte. -/
theorem pieces_free (c : UInt8) : ∀ (l : List UInt8), ∀ p ∈ pieces c l, c ∉ p
  | [], p, h => by simp [pieces] at h; rw [h]; exact List.not_mem_nil
  | b :: t, p, h => by
    have ih := pieces_free c t
    unfold pieces at h
    split at h
    · rcases List.mem_cons.1 h with h | h
      · rw [h]; exact List.not_mem_nil
      · exact ih p h
    · rename_i hb
      split at h
      · rename_i e; exact absurd e (pieces_ne c t)
      · rename_i q r e
        rw [e] at ih
        rcases List.mem_cons.1 h with h | h
        · rw [h]
          intro hm
          rcases List.mem_cons.1 hm with h | h
          · exact hb h.symm
          · exact ih q List.mem_cons_self h
        · exact ih p (List.mem_cons_of_mem _ h)
/-- The join of a text's pieces is the text. -/
theorem join_pieces (c : UInt8) : ∀ l : List UInt8, join (pieces c l) [c] = l
  | [] => by simp [pieces, join_one]
  | b :: t => by
    have ih := join_pieces c t
    unfold pieces
    split
    · rename_i hb
      cases hp : pieces c t with
      | nil => exact absurd hp (pieces_ne c t)
      | cons p r =>
        rw [hp, join_cons] at ih
        rw [join_cons, List.nil_append, hb]
        simp only [joinTail, List.map_cons, List.flatten_cons, List.cons_append, List.nil_append]
        have e2 : p ++ (List.map (fun x => c :: x) r).flatten = t := ih
        rw [e2]
    · split
      · rename_i e; exact absurd e (pieces_ne c t)
      · rename_i p r e
        rw [e, join_cons] at ih
        rw [join_cons, List.cons_append, ih]
end Go.Proofs.YthjekbmgbidcfaaDoor.Lex
