/- Items of a line, quoted texts: the plain functions and what holds of them. No program in sight. -/
import Derived.Lib.Hide
namespace Go.Proofs.YtghlodpbbghcoaaGreatDoor
def tx (l : List UInt8) : ByteArray := ⟨l.toArray⟩
theorem tx_data (l : List UInt8) : (tx l).data.toList = l := rfl
theorem tx_of (s : ByteArray) : tx s.data.toList = s := by
  obtain ⟨d⟩ := s
  rfl
theorem tx_eq {s : ByteArray} {l : List UInt8} (h : s.data.toList = l) : s = tx l := by rw [← h, tx_of]
theorem tx_size (l : List UInt8) : (tx l).size = l.length := by
  show l.toArray.size = _
  simp
/-- What stands in quotes: its text, and how many bytes it takes with the quote behind it. -/
def unqL : List UInt8 → Option (List UInt8 × Nat)
  | [] => none
  | c :: r =>
    if c = 34 then some ([], 1)
    else if c < 32 ∨ 126 < c then none
    else if c = 92 then
      match r with
      | [] => none
      | d :: r' => if d = 34 ∨ d = 92 then (unqL r').map fun p => (d :: p.1, p.2 + 2) else none
    else (unqL r).map fun p => (c :: p.1, p.2 + 1)
theorem unqL_cons (c : UInt8) (r : List UInt8) : unqL (c :: r) = if c = 34 then some ([], 1)
    else if c < 32 ∨ 126 < c then none
    else if c = 92 then
      match r with
      | [] => none
      | d :: r' => if d = 34 ∨ d = 92 then (unqL r').map fun p => (d :: p.1, p.2 + 2) else none
    else (unqL r).map fun p => (c :: p.1, p.2 + 1) := by
  conv => lhs; rw [unqL.eq_def]
def sgn (c : UInt8) : Bool := decide (32 < c) && decide (c ≤ 126) && decide (c ≠ 34)
def bareL (l : List UInt8) : Nat := (l.takeWhile sgn).length
/-- The quoted item at the beginning of a line, its first byte unread. -/
def unqR (l : List UInt8) : Option (List UInt8 × Nat) := (unqL (l.drop 1)).map fun p => (p.1, p.2 + 1)
/-- The item at the beginning of a line. -/
def itemL (l : List UInt8) : Option (List UInt8 × Bool × Nat) :=
  if l.head? = some 34 then (unqR l).map fun p => (p.1, true, p.2)
  else if bareL l = 0 then none else some (l.take (bareL l), false, bareL l)
/-- Such an item stands only if a space is behind it, or nothing. -/
def itemsL : Nat → List UInt8 → Option (List (List UInt8 × Bool))
  | 0, _ => none
  | f + 1, l => match itemL l with
    | none => none
    | some (t, q, n) => if n = l.length then some [(t, q)] else if l[n]? = some 32 then (itemsL f (l.drop (n + 1))).map fun r => (t, q) :: r else none
def itemsG (l : List UInt8) : Option (List (List UInt8 × Bool)) := itemsL (l.length + 1) l
def escL (l : List UInt8) : List UInt8 := l.flatMap fun c => if c = 34 ∨ c = 92 then [92, c] else [c]
def quoteL (l : List UInt8) : List UInt8 := 34 :: (escL l ++ [34])

theorem unqL_le : ∀ (n : Nat) (l : List UInt8), l.length ≤ n → ∀ t k, unqL l = some (t, k) → 0 < k ∧ k ≤ l.length ∧ t.length ≤ k := by
  intro n
  induction n with
  | zero =>
    intro l hl t k h
    have : l = [] := List.eq_nil_of_length_eq_zero (by omega)
    subst this
    simp [unqL] at h
  | succ n ih =>
    intro l hl t k h
    cases l with
    | nil => simp [unqL] at h
    | cons c r =>
      rw [unqL_cons] at h
      rw [List.length_cons] at hl ⊢
      split at h
      · simp only [Option.some.injEq, Prod.mk.injEq] at h
        obtain ⟨rfl, rfl⟩ := h
        exact ⟨by omega, by omega, by simp⟩
      · split at h
        · cases h
        · split at h
          · cases r with
            | nil => cases h
            | cons d r' =>
              simp only at h
              split at h
              · cases hu : unqL r' with
                | none => rw [hu] at h; cases h
                | some p =>
                  rw [hu] at h
                  obtain ⟨t2, k2⟩ := p
                  simp only [Option.map_some, Option.some.injEq, Prod.mk.injEq] at h
                  obtain ⟨rfl, rfl⟩ := h
                  rw [List.length_cons] at hl ⊢
                  have := ih r' (by omega) t2 k2 hu
                  rw [List.length_cons]
                  omega
              · cases h
          · cases hu : unqL r with
            | none => rw [hu] at h; cases h
            | some p =>
              rw [hu] at h
              obtain ⟨t2, k2⟩ := p
              simp only [Option.map_some, Option.some.injEq, Prod.mk.injEq] at h
              obtain ⟨rfl, rfl⟩ := h
              have := ih r (by omega) t2 k2 hu
              rw [List.length_cons]
              omega
theorem bareL_le (l : List UInt8) : bareL l ≤ l.length := (List.takeWhile_sublist _).length_le
theorem unqR_le {l : List UInt8} {t : List UInt8} {k : Nat} (h : unqR l = some (t, k)) : 0 < k ∧ k ≤ l.length ∧ t.length ≤ k := by
  unfold unqR at h
  cases hu : unqL (l.drop 1) with
  | none => rw [hu] at h; cases h
  | some p =>
    obtain ⟨t2, k2⟩ := p
    rw [hu] at h
    simp only [Option.map_some, Option.some.injEq, Prod.mk.injEq] at h
    obtain ⟨rfl, rfl⟩ := h
    have := unqL_le _ _ (Nat.le_refl _) _ _ hu
    rw [List.length_drop] at this
    omega
theorem itemL_le {l t : List UInt8} {q : Bool} {k : Nat} (h : itemL l = some (t, q, k)) : 0 < k ∧ k ≤ l.length ∧ t.length ≤ l.length := by
  unfold itemL at h
  split at h
  · cases hu : unqR l with
    | none => rw [hu] at h; cases h
    | some p =>
      obtain ⟨t2, k2⟩ := p
      rw [hu] at h
      simp only [Option.map_some, Option.some.injEq, Prod.mk.injEq] at h
      obtain ⟨rfl, rfl, rfl⟩ := h
      have := unqR_le hu
      omega
  · split at h
    · cases h
    · simp only [Option.some.injEq, Prod.mk.injEq] at h
      obtain ⟨rfl, rfl, rfl⟩ := h
      have := bareL_le l
      rw [List.length_take]
      omega
theorem itemsL_more : ∀ (f g : Nat) (l : List UInt8), l.length < f → l.length < g → itemsL f l = itemsL g l := by
  intro f
  induction f with
  | zero => intro g l h; omega
  | succ f ih =>
    intro g l h1 h2
    cases g with
    | zero => omega
    | succ g =>
      rw [itemsL, itemsL]
      cases hi : itemL l with
      | none => rfl
      | some p =>
        obtain ⟨t, q, n⟩ := p
        have := itemL_le hi
        simp only
        have hl : (l.drop (n + 1)).length = l.length - (n + 1) := List.length_drop
        by_cases hn : n = l.length
        · rw [if_pos hn, if_pos hn]
        · rw [ih g (l.drop (n + 1)) (by omega) (by omega)]
theorem itemsG_none {l : List UInt8} (h : itemL l = none) : itemsG l = none := by rw [itemsG, itemsL, h]
theorem itemsG_end {l t : List UInt8} {q : Bool} {n : Nat} (h : itemL l = some (t, q, n)) (hn : n = l.length) : itemsG l = some [(t, q)] := by
  rw [itemsG, itemsL, h]
  exact if_pos hn
theorem itemsG_bad {l t : List UInt8} {q : Bool} {n : Nat} (h : itemL l = some (t, q, n)) (hn : n ≠ l.length) (hb : l[n]? ≠ some 32) : itemsG l = none := by
  rw [itemsG, itemsL, h]
  show (if n = l.length then _ else _) = _
  rw [if_neg hn, if_neg hb]
theorem itemsG_go {l t : List UInt8} {q : Bool} {n : Nat} (h : itemL l = some (t, q, n)) (hn : n ≠ l.length) (hb : l[n]? = some 32) : itemsG l = (itemsG (l.drop (n + 1))).map fun r => (t, q) :: r := by
  have := itemL_le h
  have hl : (l.drop (n + 1)).length = l.length - (n + 1) := List.length_drop
  rw [itemsG, itemsL, h]
  show (if n = l.length then _ else _) = _
  rw [if_neg hn, if_pos hb, itemsG, itemsL_more l.length ((l.drop (n + 1)).length + 1) _ (by omega) (by omega)]
/-- A quoted text of signs is read as it is. -/
def signL (l : List UInt8) : Bool := l.all fun c => decide (32 ≤ c) && decide (c ≤ 126)
theorem escL_cons (c : UInt8) (l : List UInt8) : escL (c :: l) = (if c = 34 ∨ c = 92 then [92, c] else [c]) ++ escL l := by simp [escL]
theorem unq_esc : ∀ (l : List UInt8), signL l = true → ∀ r, unqL (escL l ++ 34 :: r) = some (l, (escL l).length + 1)
  | [], _, r => by
    show unqL (34 :: r) = _
    rw [unqL_cons, if_pos rfl]
    rfl
  | c :: l, h, r => by
    have hc : 32 ≤ c ∧ c ≤ 126 := by
      simp only [signL, List.all_cons, Bool.and_eq_true, decide_eq_true_eq] at h
      exact h.1
    have hl : signL l = true := by
      simp only [signL, List.all_cons, Bool.and_eq_true, decide_eq_true_eq] at h ⊢
      exact h.2
    have ih := unq_esc l hl r
    rw [escL_cons]
    by_cases h2 : c = 34 ∨ c = 92
    · rw [if_pos h2]
      show unqL (92 :: c :: (escL l ++ 34 :: r)) = _
      rw [unqL_cons, if_neg (by decide), if_neg (by decide), if_pos rfl]
      simp only [if_pos h2, ih, Option.map_some]
      simp only [List.cons_append, List.nil_append, List.length_cons]
    · rw [if_neg h2]
      show unqL (c :: (escL l ++ 34 :: r)) = _
      have h3 : ¬ (c < 32 ∨ 126 < c) := by
        rintro (h | h)
        · exact absurd hc.1 (by simpa using h)
        · exact absurd hc.2 (by simpa using h)
      rw [unqL_cons, if_neg (fun e => h2 (.inl e)), if_neg h3, if_neg (fun e => h2 (.inr e)), ih]
      simp only [Option.map_some, List.cons_append, List.nil_append, List.length_cons]
theorem unq_esc_bad : ∀ (l : List UInt8), signL l = false → ∀ r, unqL (escL l ++ r) = none
  | [], h, r => by simp [signL] at h
  | c :: l, h, r => by
    rw [escL_cons]
    by_cases hc : 32 ≤ c ∧ c ≤ 126
    · have hl : signL l = false := by
        simp only [signL, List.all_cons, hc.1, hc.2, decide_true, Bool.true_and] at h ⊢
        exact h
      have ih := unq_esc_bad l hl r
      by_cases h2 : c = 34 ∨ c = 92
      · rw [if_pos h2]
        show unqL (92 :: c :: (escL l ++ r)) = _
        rw [unqL_cons, if_neg (by decide), if_neg (by decide), if_pos rfl]
        simp only [if_pos h2, ih, Option.map_none]
      · rw [if_neg h2]
        show unqL (c :: (escL l ++ r)) = _
        rw [unqL_cons, if_neg (fun e => h2 (.inl e))]
        split
        · rfl
        · rw [if_neg (fun e => h2 (.inr e)), ih]
          rfl
    · have h3 : c < 32 ∨ 126 < c := by
        rcases Classical.em (32 ≤ c) with h1 | h1
        · exact .inr (by simpa using fun h => hc ⟨h1, h⟩)
        · exact .inl (by simpa using h1)
      have h2 : ¬ (c = 34 ∨ c = 92) := by
        rintro (rfl | rfl)
        · exact hc ⟨by decide, by decide⟩
        · exact hc ⟨by decide, by decide⟩
      rw [if_neg h2]
      show unqL (c :: (escL l ++ r)) = _
      rw [unqL_cons, if_neg (fun e => h2 (.inl e)), if_pos h3]
theorem item_quote (l : List UInt8) : itemL (quoteL l) = if signL l then some (l, true, (quoteL l).length) else none := by
  unfold itemL quoteL unqR
  show (if some (34 : UInt8) = some 34 then _ else _) = _
  rw [if_pos rfl]
  show (Option.map _ (unqL (escL l ++ [34]))).map _ = _
  cases h : signL l with
  | true =>
    rw [unq_esc l h []]
    simp
  | false =>
    rw [unq_esc_bad l h [34]]
    rfl
theorem items_quote (l : List UInt8) : itemsG (quoteL l) = if signL l then some [(l, true)] else none := by
  have h := item_quote l
  cases hs : signL l with
  | true =>
    rw [hs, if_pos rfl] at h
    rw [itemsG_end h rfl, if_pos rfl]
  | false =>
    rw [hs] at h
    rw [itemsG_none h]
    rfl
end Go.Proofs.YtghlodpbbghcoaaGreatDoor
