/- Items of a line, quoted texts: the plain functions and what holds of them. No program in sight. -/
import Derived.Lib.Hide
import Derived.Test.YtghlodpbbghcoaaGreatDoorProg
import Derived.Test.YtghlodpbbghcoaaGreatDoorAM
import Derived.WalkKit
import Derived.WalkSpells
import Derived.Lib.AppendStr
import Derived.Lib.ConvBytes
import Derived.Laws.BytesArg
import Derived.Lib.Strings
import Derived.Test.YtghlodpbbghcoaaGreatDoorShelf
import Derived.Deep.DeepCutAuto
namespace Go.Proofs.YtghlodpbbghcoaaGreatDoor
def tx (l : List UInt8) : ByteArray := ⟨l.toArray⟩
theorem tx_data (l : List UInt8) : (tx l).data.toList = l := rfl
theorem tx_of (s : ByteArray) : tx s.data.toList = s := by
  obtain ⟨d⟩ := s
  rfl
theorem tx_eq {s : ByteArray} {l : List UInt8} (h : s.data.toList = l) : s = tx l := by rw [← h, tx_of]
theorem tx_size (l : List UInt8) : (tx l).size = l.length := by
  show l.toArray.size = _
  simp
/-- What stands in quotes: its text, and how many bytes it takes with the quote behind it. -/
def unqL : List UInt8 → Option (List UInt8 × Nat)
  | [] => none
  | c :: r =>
    if c = 34 then some ([], 1)
    else if c < 32 ∨ 126 < c then none
    else if c = 92 then
      match r with
      | [] => none
      | d :: r' => if d = 34 ∨ d = 92 then (unqL r').map fun p => (d :: p.1, p.2 + 2) else none
    else (unqL r).map fun p => (c :: p.1, p.2 + 1)
theorem unqL_cons (c : UInt8) (r : List UInt8) : unqL (c :: r) = if c = 34 then some ([], 1)
    else if c < 32 ∨ 126 < c then none
    else if c = 92 then
      match r with
      | [] => none
      | d :: r' => if d = 34 ∨ d = 92 then (unqL r').map fun p => (d :: p.1, p.2 + 2) else none
    else (unqL r).map fun p => (c :: p.1, p.2 + 1) := by
  conv => lhs; rw [unqL.eq_def]
def sgn (c : UInt8) : Bool := decide (32 < c) && decide (c ≤ 126) && decide (c ≠ 34)
def bareL (l : List UInt8) : Nat := (l.takeWhile sgn).length
/-- The quoted item at the beginning of a line, its first byte unread. -/
def unqR (l : List UInt8) : Option (List UInt8 × Nat) := (unqL (l.drop 1)).map fun p => (p.1, p.2 + 1)
/-- The item at the beginning of a line. -/
def itemL (l : List UInt8) : Option (List UInt8 × Bool × Nat) :=
  if l.head? = some 34 then (unqR l).map fun p => (p.1, true, p.2)
  else if bareL l = 0 then none else some (l.take (bareL l), false, bareL l)
/-- Such an item stands only if a space is behind it, or nothing. -/
def itemsL : Nat → List UInt8 → Option (List (List UInt8 × Bool))
  | 0, _ => none
  | f + 1, l => match itemL l with
    | none => none
    | some (t, q, n) => if n = l.length then some [(t, q)] else if l[n]? = some 32 then (itemsL f (l.drop (n + 1))).map fun r => (t, q) :: r else none
def itemsG (l : List UInt8) : Option (List (List UInt8 × Bool)) := itemsL (l.length + 1) l
def escL (l : List UInt8) : List UInt8 := l.flatMap fun c => if c = 34 ∨ c = 92 then [92, c] else [c]
def quoteL (l : List UInt8) : List UInt8 := 34 :: (escL l ++ [34])

theorem unqL_le : ∀ (n : Nat) (l : List UInt8), l.length ≤ n → ∀ t k, unqL l = some (t, k) → 0 < k ∧ k ≤ l.length ∧ t.length ≤ k := by
  intro n
  induction n with
  | zero =>
    intro l hl t k h
    have : l = [] := List.eq_nil_of_length_eq_zero (by omega)
    subst this
    simp [unqL] at h
  | succ n ih =>
    intro l hl t k h
    cases l with
    | nil => simp [unqL] at h
    | cons c r =>
      rw [unqL_cons] at h
      rw [List.length_cons] at hl ⊢
      split at h
      · simp only [Option.some.injEq, Prod.mk.injEq] at h
        obtain ⟨rfl, rfl⟩ := h
        exact ⟨by omega, by omega, by simp⟩
      · split at h
        · cases h
        · split at h
          · cases r with
            | nil => cases h
            | cons d r' =>
              simp only at h
              split at h
              · cases hu : unqL r' with
                | none => rw [hu] at h; cases h
                | some p =>
                  rw [hu] at h
                  obtain ⟨t2, k2⟩ := p
                  simp only [Option.map_some, Option.some.injEq, Prod.mk.injEq] at h
                  obtain ⟨rfl, rfl⟩ := h
                  rw [List.length_cons] at hl ⊢
                  have := ih r' (by omega) t2 k2 hu
                  rw [List.length_cons]
                  omega
              · cases h
          · cases hu : unqL r with
            | none => rw [hu] at h; cases h
            | some p =>
              rw [hu] at h
              obtain ⟨t2, k2⟩ := p
              simp only [Option.map_some, Option.some.injEq, Prod.mk.injEq] at h
              obtain ⟨rfl, rfl⟩ := h
              have := ih r (by omega) t2 k2 hu
              rw [List.length_cons]
              omega
theorem bareL_le (l : List UInt8) : bareL l ≤ l.length := (List.takeWhile_sublist _).length_le
theorem unqR_le {l : List UInt8} {t : List UInt8} {k : Nat} (h : unqR l = some (t, k)) : 0 < k ∧ k ≤ l.length ∧ t.length ≤ k := by
  unfold unqR at h
  cases hu : unqL (l.drop 1) with
  | none => rw [hu] at h; cases h
  | some p =>
    obtain ⟨t2, k2⟩ := p
    rw [hu] at h
    simp only [Option.map_some, Option.some.injEq, Prod.mk.injEq] at h
    obtain ⟨rfl, rfl⟩ := h
    have := unqL_le _ _ (Nat.le_refl _) _ _ hu
    rw [List.length_drop] at this
    omega
theorem itemL_le {l t : List UInt8} {q : Bool} {k : Nat} (h : itemL l = some (t, q, k)) : 0 < k ∧ k ≤ l.length ∧ t.length ≤ l.length := by
  unfold itemL at h
  split at h
  · cases hu : unqR l with
    | none => rw [hu] at h; cases h
    | some p =>
      obtain ⟨t2, k2⟩ := p
      rw [hu] at h
      simp only [Option.map_some, Option.some.injEq, Prod.mk.injEq] at h
      obtain ⟨rfl, rfl, rfl⟩ := h
      have := unqR_le hu
      omega
  · split at h
    · cases h
    · simp only [Option.some.injEq, Prod.mk.injEq] at h
      obtain ⟨rfl, rfl, rfl⟩ := h
      have := bareL_le l
      rw [List.length_take]
      omega
theorem itemsL_more : ∀ (f g : Nat) (l : List UInt8), l.length < f → l.length < g → itemsL f l = itemsL g l := by
  intro f
  induction f with
  | zero => intro g l h; omega
  | succ f ih =>
    intro g l h1 h2
    cases g with
    | zero => omega
    | succ g =>
      rw [itemsL, itemsL]
      cases hi : itemL l with
      | none => rfl
      | some p =>
        obtain ⟨t, q, n⟩ := p
        have := itemL_le hi
        simp only
        have hl : (l.drop (n + 1)).length = l.length - (n + 1) := List.length_drop
        by_cases hn : n = l.length
        · rw [if_pos hn, if_pos hn]
        · rw [ih g (l.drop (n + 1)) (by omega) (by omega)]
theorem itemsG_none {l : List UInt8} (h : itemL l = none) : itemsG l = none := by rw [itemsG, itemsL, h]
theorem itemsG_end {l t : List UInt8} {q : Bool} {n : Nat} (h : itemL l = some (t, q, n)) (hn : n = l.length) : itemsG l = some [(t, q)] := by
  rw [itemsG, itemsL, h]
  exact if_pos hn
theorem itemsG_bad {l t : List UInt8} {q : Bool} {n : Nat} (h : itemL l = some (t, q, n)) (hn : n ≠ l.length) (hb : l[n]? ≠ some 32) : itemsG l = none := by
  rw [itemsG, itemsL, h]
  show (if n = l.length then _ else _) = _
  rw [if_neg hn, if_neg hb]
theorem itemsG_go {l t : List UInt8} {q : Bool} {n : Nat} (h : itemL l = some (t, q, n)) (hn : n ≠ l.length) (hb : l[n]? = some 32) : itemsG l = (itemsG (l.drop (n + 1))).map fun r => (t, q) :: r := by
  have := itemL_le h
  have hl : (l.drop (n + 1)).length = l.length - (n + 1) := List.length_drop
  rw [itemsG, itemsL, h]
  show (if n = l.length then _ else _) = _
  rw [if_neg hn, if_pos hb, itemsG, itemsL_more l.length ((l.drop (n + 1)).length + 1) _ (by omega) (by omega)]
/-- A quoted text of signs is read as it is. -/
def signL (l : List UInt8) : Bool := l.all fun c => decide (32 ≤ c) && decide (c ≤ 126)
theorem escL_cons (c : UInt8) (l : List UInt8) : escL (c :: l) = (if c = 34 ∨ c = 92 then [92, c] else [c]) ++ escL l := by simp [escL]
theorem unq_esc : ∀ (l : List UInt8), signL l = true → ∀ r, unqL (escL l ++ 34 :: r) = some (l, (escL l).length + 1)
  | [], _, r => by
    show unqL (34 :: r) = _
    rw [unqL_cons, if_pos rfl]
    rfl
  | c :: l, h, r => by
    have hc : 32 ≤ c ∧ c ≤ 126 := by
      simp only [signL, List.all_cons, Bool.and_eq_true, decide_eq_true_eq] at h
      exact h.1
    have hl : signL l = true := by
      simp only [signL, List.all_cons, Bool.and_eq_true, decide_eq_true_eq] at h ⊢
      exact h.2
    have ih := unq_esc l hl r
    rw [escL_cons]
    by_cases h2 : c = 34 ∨ c = 92
    · rw [if_pos h2]
      show unqL (92 :: c :: (escL l ++ 34 :: r)) = _
      rw [unqL_cons, if_neg (by decide), if_neg (by decide), if_pos rfl]
      simp only [if_pos h2, ih, Option.map_some]
      simp only [List.cons_append, List.nil_append, List.length_cons]
    · rw [if_neg h2]
      show unqL (c :: (escL l ++ 34 :: r)) = _
      have h3 : ¬ (c < 32 ∨ 126 < c) := by
        rintro (h | h)
        · exact absurd hc.1 (by simpa using h)
        · exact absurd hc.2 (by simpa using h)
      rw [unqL_cons, if_neg (fun e => h2 (.inl e)), if_neg h3, if_neg (fun e => h2 (.inr e)), ih]
      simp only [Option.map_some, List.cons_append, List.nil_append, List.length_cons]
theorem unq_esc_bad : ∀ (l : List UInt8), signL l = false → ∀ r, unqL (escL l ++ r) = none
  | [], h, r => by simp [signL] at h
  | c :: l, h, r => by
    rw [escL_cons]
    by_cases hc : 32 ≤ c ∧ c ≤ 126
    · have hl : signL l = false := by
        simp only [signL, List.all_cons, hc.1, hc.2, decide_true, Bool.true_and] at h ⊢
        exact h
      have ih := unq_esc_bad l hl r
      by_cases h2 : c = 34 ∨ c = 92
      · rw [if_pos h2]
        show unqL (92 :: c :: (escL l ++ r)) = _
        rw [unqL_cons, if_neg (by decide), if_neg (by decide), if_pos rfl]
        simp only [if_pos h2, ih, Option.map_none]
      · rw [if_neg h2]
        show unqL (c :: (escL l ++ r)) = _
        rw [unqL_cons, if_neg (fun e => h2 (.inl e))]
        split
        · rfl
        · rw [if_neg (fun e => h2 (.inr e)), ih]
          rfl
    · have h3 : c < 32 ∨ 126 < c := by
        rcases Classical.em (32 ≤ c) with h1 | h1
        · exact .inr (by simpa using fun h => hc ⟨h1, h⟩)
        · exact .inl (by simpa using h1)
      have h2 : ¬ (c = 34 ∨ c = 92) := by
        rintro (rfl | rfl)
        · exact hc ⟨by decide, by decide⟩
        · exact hc ⟨by decide, by decide⟩
      rw [if_neg h2]
      show unqL (c :: (escL l ++ r)) = _
      rw [unqL_cons, if_neg (fun e => h2 (.inl e)), if_pos h3]
theorem item_quote (l : List UInt8) : itemL (quoteL l) = if signL l then some (l, true, (quoteL l).length) else none := by
  unfold itemL quoteL unqR
  show (if some (34 : UInt8) = some 34 then _ else _) = _
  rw [if_pos rfl]
  show (Option.map _ (unqL (escL l ++ [34]))).map _ = _
  cases h : signL l with
  | true =>
    rw [unq_esc l h []]
    simp
  | false =>
    rw [unq_esc_bad l h [34]]
    rfl
theorem items_quote (l : List UInt8) : itemsG (quoteL l) = if signL l then some [(l, true)] else none := by
  have h := item_quote l
  cases hs : signL l with
  | true =>
    rw [hs, if_pos rfl] at h
    rw [itemsG_end h rfl, if_pos rfl]
  | false =>
    rw [hs] at h
    rw [itemsG_none h]
    rfl
end Go.Proofs.YtghlodpbbghcoaaGreatDoor

/- Bytes of the call's own: appended, made a text. -/
namespace Go.Proofs.YtghlodpbbghcoaaGreatDoor
open Go.RowKit
theorem info5 : (Tryz.prog.info? 5).map (fun i => (i.zero, i.size, i.bytes)) = some (some (.int .u8 0), 1, 1) := by kernel_rfl
def bys (l : List UInt8) : List Value := l.map fun c => .int .u8 c.toNat
theorem bys_append (a b : List UInt8) : bys (a ++ b) = bys a ++ bys b := by simp [bys]
theorem bys_length (a : List UInt8) : (bys a).length = a.length := by simp [bys]
/-- From w to w' but v's own row nothing has changed, and v' is v's row or new. -/
structure KeepB (v : Value) (w : World) (v' : Value) (w' : World) : Prop where
  block : ∀ k, k < w.heap.size → v.ownBlock ≠ some k → w'.heap[k]? = w.heap[k]?
  own : ∀ k, v'.ownBlock = some k → v.ownBlock = some k ∨ w.heap.size ≤ k
  size : w.heap.size ≤ w'.heap.size
theorem KeepB.refl (v : Value) (w : World) : KeepB v w v w := ⟨fun _ _ _ => rfl, fun _ h => .inl h, Nat.le_refl _⟩
theorem KeepB.trans {v1 v2 v3 : Value} {a w w' : World} (h : KeepB v1 a v2 w) (k : KeepB v2 w v3 w') : KeepB v1 a v3 w' :=
  ⟨fun g hg hn => (k.block g (Nat.lt_of_lt_of_le hg h.size) fun h2 => (h.own g h2).elim hn (fun h3 => by omega)).trans (h.block g hg hn),
   fun g hg => (k.own g hg).elim (fun h2 => h.own g h2) fun h2 => .inr (Nat.le_trans h.size h2), Nat.le_trans h.size k.size⟩
theorem KeepB.of_below (v : Value) {w w' : World} (h : Below w.heap.size w w') : KeepB v w v w' := ⟨fun g hg _ => h.block g hg, fun _ h => .inl h, h.size⟩
theorem KeepB.alloc (v : Value) (w : World) (o : Obj) : KeepB v w v (w.alloc o) := KeepB.of_below v ((Below.refl _ _).alloc (Nat.le_refl _) o)
theorem KeepB.grown {v v' : Value} {w w' : World} (hg : w.grownBy w' v.ownBlock) (hn : ∀ k, v'.ownBlock = some k → v.ownBlock = some k ∨ w.heap.size ≤ k) : KeepB v w v' w' :=
  ⟨fun g h1 h2 => hg.block g h1 (Ne.symm h2), hn, hg.size⟩
theorem near_le {v v' : Value} {n : Nat} (h : ∀ k, v'.ownBlock = some k → v.ownBlock = some k ∨ n < k) : ∀ k, v'.ownBlock = some k → v.ownBlock = some k ∨ n ≤ k := fun k hk => (h k hk).imp id Nat.le_of_lt
/-- The slice v owns the bytes L. -/
def OwnY (w : World) (B : Nat) (v : Value) (L : List UInt8) : Prop := ∃ A c, v = .slice A L.length c ∧ w.ownsRow B 5 1 (.slice A L.length c) L.length (bys L)
def WrPost (B : Nat) (v0 : Value) (L : List UInt8) (w : World) (e : Ending) (w' : World) : Prop := ∃ v, e = .returned v ∧ OwnY w' B v L ∧ Below B w w' ∧ KeepB v0 w v w'
theorem OwnY.mk {w : World} {B n : Nat} {v : Value} {L : List UInt8} (h : w.ownsRow B 5 1 v n (bys L)) : OwnY w B v L := by
  have hn : n = L.length := by
    have := h.1
    rw [bys_length] at this
    omega
  subst hn
  obtain ⟨A, c, rfl, h2⟩ := own_form h
  exact ⟨A, c, rfl, h2⟩
theorem KeepB.blk {v v' : Value} {w w' : World} {B g : Nat} {L : List UInt8} {cs : Array Value} {t : TypeId} (h : KeepB v w v' w') (ho : OwnY w B v L) (hg : w.heap[g]? = some (.cells cs t (0, 0))) (ht : t ≠ 5) : w'.heap[g]? = some (.cells cs t (0, 0)) := by
  obtain ⟨A, c, rfl, h2⟩ := ho
  exact (h.block g (blk_lt hg) (own_ne h2 hg (Ne.symm ht))).trans hg
theorem OwnY.nil (w : World) (B : Nat) : OwnY w B (.slice none 0 0) [] := ⟨none, 0, rfl, World.ownsRow_nil _ _ _ _⟩
theorem OwnY.alloc {w : World} {B : Nat} {v : Value} {L : List UInt8} (h : OwnY w B v L) (o : Obj) : OwnY (w.alloc o) B v L := by
  obtain ⟨A, c, rfl, h2⟩ := h
  exact ⟨A, c, rfl, h2.alloc o⟩
theorem OwnY.drewN {w : World} {B : Nat} {v : Value} {L : List UInt8} (h : OwnY w B v L) (n : Nat) : OwnY (w.drewN n) B v L := h

theorem str_cells (s : ByteArray) : Lib.strCells s = bys s.data.toList := by
  unfold Lib.strCells bys
  simp
open Go.Lib in
theorem append_str_run {B : Nat} {v : Value} {L : List UInt8} {w : World} (ty : TypeId) (hown : OwnY w B v L) (hB : B ≤ w.heap.size) (hn : L.length ≤ 2000000) (s : ByteArray) (h0 : 0 < s.size) (hsz : s.size ≤ 1000) :
    ∃ v' w', (Builtin.append_ #[74, 9] ty #[v, .string s]).run Tryz.prog w = .ok v' w' ∧ OwnY w' B v' (L ++ s.data.toList) ∧ Below B w w' ∧ KeepB v w v' w' := by
  obtain ⟨A, c, rfl, h2⟩ := hown
  obtain ⟨i, hi, hz0, hz1, hz2⟩ := info_parts info5
  have h63 : L.length + s.size ≤ maxLen := by unfold maxLen; omega
  have h64 : L.length + s.size ≤ 140737488355328 := by omega
  obtain ⟨v', w', hr, hown', hgrow, _⟩ := run_append_own_string (P := Tryz.prog) w B 74 9 ty 5 i Tryz.underlying74 Tryz.underlying9 hi hz0 hz1 hz2 _ L.length (bys L) h2 s h63 h64 hB
  have hat : ∀ k, v'.ownBlock = some k → (Value.slice A L.length c).ownBlock = some k ∨ w.heap.size ≤ k := by
    have key : ∀ (g n c2 : Nat) (wz : World), (Builtin.append_ #[74, 9] ty #[.slice A L.length c, .string s]).run Tryz.prog w = .ok (.slice (some ⟨g, 0, none⟩) n c2) wz → ((Value.slice A L.length c).ownBlock = some g ∨ w.heap.size ≤ g) → ∀ k, v'.ownBlock = some k → (Value.slice A L.length c).ownBlock = some k ∨ w.heap.size ≤ k := by
      intro g n c2 wz h1 h3 k hk
      rw [hr] at h1
      simp only [Result.ok.injEq] at h1
      rw [h1.1] at hk
      have : g = k := by simpa [Value.ownBlock] using hk
      rw [← this]
      exact h3
    rcases h2.2 with ⟨hv, hl⟩ | ⟨g, cap, cur, hv, hbg, hg, hnc, hcm, hcs, htake⟩
    · have hr0 := run_append_nil_string (P := Tryz.prog) (w := w) 74 9 ty 5 i _ Tryz.underlying74 Tryz.underlying9 hi hz0 s h0 (by omega) (by rw [hz2]; omega)
      rw [← hv] at hr0
      exact key w.heap.size s.size _ _ hr0 (.inr (Nat.le_refl _))
    · rw [hv] at key ⊢
      by_cases hroom : L.length + s.size ≤ cap
      · exact key g _ _ _ (run_append_room_string (P := Tryz.prog) w 74 9 ty 5 i Tryz.underlying74 Tryz.underlying9 hi hz1 g L.length cap cur hg s hroom (by omega)) (.inl rfl)
      · have hxl : (bys L).length = L.length * i.size := by rw [hz1, bys_length, Nat.mul_one]
        have holds : ∀ j u, (bys L)[j]? = some u → w.cell? ((⟨g, 0, none⟩ : Addr).add j) = some u := h2.cells (g := g) (by rw [hv]; rfl)
        refine key w.heap.size _ _ _ (run_append_grow_string (P := Tryz.prog) w 74 9 ty 5 i _ Tryz.underlying74 Tryz.underlying9 hi hz0 ⟨g, 0, none⟩ L.length cap (bys L) hxl holds s (by omega) (by omega) (by rw [hz2]; exact growslice_fits (by omega) (by omega))) (.inr (Nat.le_refl _))
  refine ⟨v', w', hr, OwnY.mk (n := L.length + s.size) ?_, (Below.refl B w).grown hgrow hB (fun k hk => (h2.lt k hk).1), KeepB.grown hgrow hat⟩
  rw [bys_append, ← str_cells]
  exact hown'
theorem appendStr_any {ops : Array Oper} {rest : List Oper} {o : Oper} {a : Act} {w : World} {Q : Exit → Act → World → Prop} (hgd : o.guard = none) (sl x : Operand)
    (ho : o.op = .call { callee := .builtin .append, args := #[sl, x], argTypes := #[74, 9] }) {B : Nat} {v : Value} {L : List UInt8} (hs : a.eval sl = v) (hown : OwnY w B v L) (hB : B ≤ w.heap.size) (hn : L.length ≤ 2000000) (s : ByteArray) (hx : a.eval x = .string s) (h0 : 0 < s.size) (hsz : s.size ≤ 1000)
    (h : ∀ v' w', OwnY w' B v' (L ++ s.data.toList) → Below B w w' → KeepB v w v' w' → wpList Tryz.prog ops Q rest (a.put o.dst v') w') : wpList Tryz.prog ops Q (o :: rest) a w := by
  refine wpList_plain hgd fun K hK => ?_
  obtain ⟨v', w', hr, h2, h3, h4⟩ := append_str_run o.type hown hB hn s h0 hsz
  unfold Oper.wp execOp
  simp only [ho, resolve, invoke, builtin, Sem.run_bind, Sem.run_pure, Result.andThen_ok, List.map_toArray, List.map_cons, List.map_nil, hs, hx, hr]
  exact hK _ _ (h v' w' h2 h3 h4)
theorem appendByte_any {ops : Array Oper} {rest : List Oper} {o : Oper} {a : Act} {Q : Exit → Act → World → Prop} {w0 : World} {B : Nat} {v : Value} {L : List UInt8} (hown : OwnY w0 B v L) (hB : B ≤ w0.heap.size) (hn : L.length ≤ 2000000) (c : UInt8)
    (hgd : o.guard = none) (s x : Operand) (ho : o.op = .call { callee := .builtin .append, args := #[s, x], argTypes := #[74, 74] }) (hs : a.eval s = v) {g : Nat} (hx : a.eval x = .slice (some ⟨g, 0, none⟩) 1 1) (hgs : g = w0.heap.size) {cs : Array Value} (hcs : cs = #[.int .u8 c.toNat])
    (h : ∀ v' w', OwnY w' B v' (L ++ [c]) → Below B w0 w' → KeepB v w0 v' w' → wpList Tryz.prog ops Q rest (a.put o.dst v') w') :
    wpList Tryz.prog ops Q (o :: rest) a (w0.alloc (.cells cs 5)) := by
  subst hcs
  obtain ⟨A, n, rfl, h2⟩ := hown
  refine wpList_append_new_at info5 Tryz.underlying74 rfl (by decide) (by decide) B h2 1 hgd s x ho hs hx hgs (by simp) rfl (by omega) hB ?_
  intro v' w' hown2 hbel _ hgrow hnew
  refine h v' w' (OwnY.mk (n := L.length + 1) ?_) hbel (KeepB.grown hgrow (near_le hnew))
  rw [bys_append]
  exact hown2
theorem OwnY.below {w w' : World} {B : Nat} {v : Value} {L : List UInt8} (h : OwnY w B v L) (hb : Below w.heap.size w w') : OwnY w' B v L := by
  obtain ⟨A, c, rfl, h2⟩ := h
  exact ⟨A, c, rfl, own_below h2 hb (Nat.le_refl _)⟩
theorem conv_own {w : World} {base : Nat} {xs : List Int} {A : Option Addr} {c : Nat} (h : w.ownsRow base 5 1 (.slice A xs.length c) xs.length (xs.map (Value.int .u8))) :
    ∀ wx, Below w.heap.size w wx → (convert 74 9 (.slice A xs.length c)).run Tryz.prog wx = .ok (.string (strOfNums xs)) wx := by
  intro wx hb
  have hc := (CellsAt.of_own h).below hb
  rcases Nat.eq_zero_or_pos xs.length with h0 | h0
  · have hx : xs = [] := List.eq_nil_of_length_eq_zero h0
    subst hx
    rcases h.2 with ⟨hv, _⟩ | ⟨g, cap, cur, hv, _, hh, _⟩
    · simp only [Value.slice.injEq] at hv
      obtain ⟨rfl, _, rfl⟩ := hv
      exact run_convert_bytes_nil wx 74 5 Tryz.underlying74 Tryz.underlying5 _ _ 9 Tryz.underlying9
    · simp only [Value.slice.injEq] at hv
      obtain ⟨rfl, _, rfl⟩ := hv
      exact run_convert_bytes_arg wx 74 5 Tryz.underlying74 Tryz.underlying5 g 0 0 c [] rfl (fun i hi => absurd hi (by omega)) 9 Tryz.underlying9
  · obtain ⟨b, o, rfl, _, _⟩ := hc 0 (by simpa using h0)
    refine run_convert_bytes_arg wx 74 5 Tryz.underlying74 Tryz.underlying5 b o xs.length c xs rfl (fun i hi => ?_) 9 Tryz.underlying9
    obtain ⟨b', o', he, _, hcell⟩ := hc i (by simpa using hi)
    simp only [Option.some.injEq, Addr.mk.injEq, and_true] at he
    obtain ⟨rfl, rfl⟩ := he
    rw [hcell]
    simp [List.getD, List.getElem?_eq_getElem hi]
theorem conv_Y {w : World} {B : Nat} {v : Value} {L : List UInt8} (h : OwnY w B v L) : ∃ s : ByteArray, s.data.toList = L ∧ ∀ wx, Below w.heap.size w wx → (convert 74 9 v).run Tryz.prog wx = .ok (.string s) wx := by
  obtain ⟨A, c, rfl, h2⟩ := h
  have e : bys L = (L.map fun c => (c.toNat : Int)).map (Value.int .u8) := by unfold bys; rw [List.map_map]; rfl
  have hl : (L.map fun c => (c.toNat : Int)).length = L.length := by simp
  rw [e, ← hl] at h2
  refine ⟨strOfNums (L.map fun c => (c.toNat : Int)), ?_, ?_⟩
  · rw [strOfNums_data, List.map_map]
    conv => rhs; rw [← List.map_id L]
    refine List.map_congr_left fun b _ => ?_
    simp
  · have := conv_own h2
    rw [hl] at this
    exact this
end Go.Proofs.YtghlodpbbghcoaaGreatDoor

/- Quoted texts, read: walked. -/
namespace Go.Proofs.YtghlodpbbghcoaaGreatDoor
open Go.RowKit
/-- What is still to be read in quotes, at a place, with what has been read. -/
def unqAt (l : List UInt8) (i : Nat) (L : List UInt8) : Option (List UInt8 × Nat) := (unqL (l.drop i)).map fun p => (L ++ p.1, p.2 + i)
theorem drop_at {l : List UInt8} {i : Nat} {c : UInt8} (h : l[i]? = some c) : l.drop i = c :: l.drop (i + 1) := by
  obtain ⟨hl, he⟩ := List.getElem?_eq_some_iff.1 h
  rw [List.drop_eq_getElem_cons hl, he]
theorem unqAt_end {l : List UInt8} {i : Nat} {L : List UInt8} (h : l.length ≤ i) : unqAt l i L = none := by
  unfold unqAt
  rw [List.drop_eq_nil_of_le h]
  rfl
theorem unqAt_quote {l : List UInt8} {i : Nat} {L : List UInt8} (h : l[i]? = some 34) : unqAt l i L = some (L, i + 1) := by
  unfold unqAt
  rw [drop_at h, unqL_cons, if_pos rfl]
  simp
  omega
theorem unqAt_bad {l : List UInt8} {i : Nat} {L : List UInt8} {c : UInt8} (h : l[i]? = some c) (h1 : c ≠ 34) (h2 : c < 32 ∨ 126 < c) : unqAt l i L = none := by
  unfold unqAt
  rw [drop_at h, unqL_cons, if_neg h1, if_pos h2]
  rfl
theorem unqAt_cut {l : List UInt8} {i : Nat} {L : List UInt8} (h : l[i]? = some 92) (h2 : l.length ≤ i + 1) : unqAt l i L = none := by
  unfold unqAt
  rw [drop_at h, unqL_cons, if_neg (by decide), if_neg (by decide), if_pos rfl, List.drop_eq_nil_of_le h2]
  rfl
theorem unqAt_wrong {l : List UInt8} {i : Nat} {L : List UInt8} {d : UInt8} (h : l[i]? = some 92) (h2 : l[i + 1]? = some d) (h3 : ¬ (d = 34 ∨ d = 92)) : unqAt l i L = none := by
  unfold unqAt
  rw [drop_at h, unqL_cons, if_neg (by decide), if_neg (by decide), if_pos rfl, drop_at h2]
  simp only [if_neg h3, Option.map_none]
theorem unqAt_esc {l : List UInt8} {i : Nat} {L : List UInt8} {d : UInt8} (h : l[i]? = some 92) (h2 : l[i + 1]? = some d) (h3 : d = 34 ∨ d = 92) : unqAt l i L = unqAt l (i + 2) (L ++ [d]) := by
  unfold unqAt
  rw [drop_at h, unqL_cons, if_neg (by decide), if_neg (by decide), if_pos rfl, drop_at h2]
  simp only [if_pos h3]
  cases unqL (l.drop (i + 1 + 1)) with
  | none => rfl
  | some p => simp; omega
theorem unqAt_sign {l : List UInt8} {i : Nat} {L : List UInt8} {c : UInt8} (h : l[i]? = some c) (h1 : c ≠ 34) (h2 : ¬ (c < 32 ∨ 126 < c)) (h3 : c ≠ 92) : unqAt l i L = unqAt l (i + 1) (L ++ [c]) := by
  unfold unqAt
  rw [drop_at h, unqL_cons, if_neg h1, if_neg h2, if_neg h3]
  cases unqL (l.drop (i + 1)) with
  | none => rfl
  | some p => simp; omega
theorem unqR_start (l : List UInt8) : unqR l = unqAt l 1 [] := by
  unfold unqR unqAt
  rfl
theorem str_at {s : ByteArray} {i : Nat} (h : i < s.size) : s.data.toList[i]? = some s[i] := by
  rw [List.getElem?_eq_getElem (by simpa using h)]
  rfl
theorem u8_lt {c : UInt8} {n : Nat} (hn : n < 256) (h : (c.toNat : Int) < (n : Int)) : c < UInt8.ofNat n := by
  rw [UInt8.lt_iff_toNat_lt, UInt8.toNat_ofNat_of_lt' (by exact hn)]
  omega
/-- WHAT unquote GIVES. -/
def UnqPost (r : Option (List UInt8 × Nat)) (w : World) (e : Ending) (w' : World) : Prop :=
  (match r with
   | none => e = .returned (.tuple #[.string ⟨#[]⟩, .int .i64 0, .bool false])
   | some (t, n) => e = .returned (.tuple #[.string (tx t), .int .i64 n, .bool true])) ∧ Below w.heap.size w w'

set_option maxRecDepth 100000 in
set_option maxHeartbeats 3200000 in
theorem unquote_any (s : ByteArray) (hs : s.size ≤ 2000000) (w : World) : Calls Tryz.prog 74 #[.string s] w (UnqPost (unqR s.data.toList) w) := by
  have hz : s.data.toList.length = s.size := by simp
  obtain ⟨R, hR⟩ : ∃ R, unqR s.data.toList = R := ⟨_, rfl⟩
  rw [hR]
  have hR0 : Hid (unqAt s.data.toList 1 [] = R) := Lib.hid (by rw [← unqR_start, hR])
  replace hz := Lib.hid hz
  clear hR
  go_enter Tryz.func74, Tryz.ntmps74
  go_wp2
  go_loopw [5, 6] (fun v x6 wr => ∃ (i : Nat) (L : List UInt8), x6 = .int .i64 i ∧ i ≤ s.size + 1 ∧ L.length ≤ i ∧ Hid (OwnY wr w.heap.size v L) ∧ Hid (unqAt s.data.toList i L = R) ∧ Hid (Below w.heap.size w wr)) (fun _ x6 _ => s.size + 1 - (intOf x6).toNat)
  case atStart => exact ⟨1, [], rfl, by omega, by simp, Lib.hid (OwnY.nil _ _), hR0, Lib.hid (Below.refl _ _)⟩
  case round =>
    obtain ⟨i, L, rfl, hi, hL, hown, hres, hB⟩ := hrel
    by_cases hlt : i < s.size
    · have hsi := Lib.hid (str_at hlt)
      obtain ⟨c, hc⟩ : ∃ c : UInt8, s[i] = c := ⟨_, rfl⟩
      rw [hc] at hsi
      obtain ⟨k, hk⟩ : ∃ k : Int, (s[i].toNat : Int) = k := ⟨_, rfl⟩
      have hck : Hid ((c.toNat : Int) = k) := Lib.hid (by rw [← hc]; exact hk)
      have hi0 : (0 : Int) ≤ (i : Int) := by omega
      have hi1 : (i : Int) < (s.size : Int) := by omega
      have hBw := Lib.hid hB.out.size
      clear hc
      by_cases h34 : k = 34
      · subst h34
        have hc34 : c = 34 := by
          have := hck.out
          exact UInt8.toNat_inj.1 (by show c.toNat = 34; omega)
        have hR1 : R = some (L, i + 1) := by rw [← hres.out]; exact unqAt_quote (by rw [hsi.out, hc34])
        subst hR1
        obtain ⟨t, ht, hcv⟩ := conv_Y hown.out
        have hcv2 := hcv wr (Below.refl _ _)
        replace ht := Lib.hid ht
        clear hcv hres
        go_wp2
        go_ret3
        refine ⟨?_, hB.out⟩
        rw [tx_eq ht.out]
        rfl
      · have e34 : (k == 34) = false := by simpa using h34
        have hne : Hid (c ≠ 34) := Lib.hid (fun e => h34 (by rw [← hck.out, e]; rfl))
        by_cases hbad : k < 32 ∨ 126 < k
        · have hR1 : R = none := by
            rw [← hres.out]
            refine unqAt_bad hsi.out hne.out ?_
            have := hck.out
            rcases hbad with h | h
            · exact .inl (UInt8.lt_iff_toNat_lt.2 (by show c.toNat < 32; omega))
            · exact .inr (UInt8.lt_iff_toNat_lt.2 (by show 126 < c.toNat; omega))
          subst hR1
          by_cases h32 : k < 32
          · clear hres h34 hbad
            go_wp2
            go_ret3
            exact ⟨rfl, hB.out⟩
          · have h126 : 126 < k := by omega
            clear hres h34 hbad
            go_wp2
            go_ret3
            exact ⟨rfl, hB.out⟩
        · have h32 : ¬ k < 32 := fun h => hbad (.inl h)
          have h126 : ¬ 126 < k := fun h => hbad (.inr h)
          have hgood : Hid (¬ (c < 32 ∨ 126 < c)) := Lib.hid (by
            have := hck.out
            rintro (h | h)
            · have h2 : c.toNat < 32 := UInt8.lt_iff_toNat_lt.1 h
              omega
            · have h2 : 126 < c.toNat := UInt8.lt_iff_toNat_lt.1 h
              omega)
          clear hbad
          by_cases h92 : k = 92
          · subst h92
            have hc92 : c = 92 := by
              have := hck.out
              exact UInt8.toNat_inj.1 (by show c.toNat = 92; omega)
            subst hc92
            clear h34 e34 hne hgood h32 h126
            obtain ⟨j, hj⟩ : ∃ j : Nat, j = i + 1 := ⟨_, rfl⟩
            have hij : (i : Int) + 1 = (j : Int) := by omega
            by_cases hjs : j = s.size
            · have hR1 : R = none := by rw [← hres.out]; exact unqAt_cut hsi.out (by rw [hz.out]; omega)
              subst hR1
              have hjs2 : (s.size : Int) = (j : Int) := by omega
              have hjs3 : s.size = j := hjs.symm
              clear hres hj hjs
              go_wp2
              go_ret3
              exact ⟨rfl, hB.out⟩
            · have hjl : j < s.size := by omega
              have hsj := Lib.hid (str_at hjl)
              obtain ⟨d, hd⟩ : ∃ d : UInt8, s[j] = d := ⟨_, rfl⟩
              rw [hd] at hsj
              obtain ⟨k2, hk2⟩ : ∃ k2 : Int, (s[j].toNat : Int) = k2 := ⟨_, rfl⟩
              have hdk : Hid ((d.toNat : Int) = k2) := Lib.hid (by rw [← hd]; exact hk2)
              have hj0 : (0 : Int) ≤ (j : Int) := by omega
              have hj1 : (j : Int) < (s.size : Int) := by omega
              have ej : (j == s.size) = false := by simpa using hjs
              have ej2 : ((j : Int) == (s.size : Int)) = false := by simp; omega
              have hj' := Lib.hid hj
              clear hd hjs hj
              by_cases hok : k2 = 34 ∨ k2 = 92
              · have hR1 : Hid (unqAt s.data.toList (i + 2) (L ++ [d]) = R) := Lib.hid (by
                  rw [← hres.out]
                  refine (unqAt_esc hsi.out (by rw [← hj'.out]; exact hsj.out) ?_).symm
                  have := hdk.out
                  rcases hok with h | h
                  · exact .inl (UInt8.toNat_inj.1 (by show d.toNat = 34; omega))
                  · exact .inr (UInt8.toNat_inj.1 (by show d.toNat = 92; omega)))
                clear hres
                rcases hok with rfl | rfl
                all_goals
                  go_wp2_with (at_builtin; refine appendByte_any hown.out hBw.out (by omega) d rfl _ _ rfl rfl rfl rfl (by rw [hdk.out]) ?_; intro v' w' ho' hb' hk')
                  exact ⟨⟨i + 2, L ++ [d], by simp; omega, by omega, by simp; omega, Lib.hid ho', hR1, Lib.hid (hB.out.trans hb')⟩, by simp [intOf]; omega⟩
              · have hR1 : R = none := by
                  rw [← hres.out]
                  refine unqAt_wrong hsi.out (by rw [← hj'.out]; exact hsj.out) (fun h => hok ?_)
                  have := hdk.out
                  rcases h with rfl | rfl
                  · exact .inl (by rw [← this]; rfl)
                  · exact .inr (by rw [← this]; rfl)
                subst hR1
                have n34 : (k2 != 34) = true := by simp [bne]; exact fun h => hok (.inl h)
                have n92 : (k2 != 92) = true := by simp [bne]; exact fun h => hok (.inr h)
                clear hres hok
                go_wp2
                go_ret3
                exact ⟨rfl, hB.out⟩
          · have e92 : (k == 92) = false := by simpa using h92
            have hne2 : Hid (c ≠ 92) := Lib.hid (fun e => h92 (by rw [← hck.out, e]; rfl))
            have hR1 : Hid (unqAt s.data.toList (i + 1) (L ++ [c]) = R) := Lib.hid (by rw [← hres.out]; exact (unqAt_sign hsi.out hne.out hgood.out hne2.out).symm)
            clear hres h34 h92 hne hne2 hgood
            go_wp2_with (at_builtin; refine appendByte_any hown.out hBw.out (by omega) c rfl _ _ rfl rfl rfl rfl (by rw [hck.out]) ?_; intro v' w' ho' hb' hk')
            exact ⟨⟨i + 1, L ++ [c], by simp, by omega, by simp; omega, Lib.hid ho', hR1, Lib.hid (hB.out.trans hb')⟩, by simp [intOf]; omega⟩
    · have hR1 : R = none := by rw [← hres.out]; exact unqAt_end (by rw [hz.out]; omega)
      subst hR1
      go_wp2
      go_ret3
      exact ⟨rfl, hB.out⟩
end Go.Proofs.YtghlodpbbghcoaaGreatDoor

/- A line's item: walked. -/
namespace Go.Proofs.YtghlodpbbghcoaaGreatDoor
open Go.RowKit
theorem sgn_iff (c : UInt8) : sgn c = (decide (32 < (c.toNat : Int)) && decide ((c.toNat : Int) ≤ 126) && !((c.toNat : Int) == 34)) := by
  unfold sgn
  have h1 : decide (32 < c) = decide (32 < (c.toNat : Int)) := decide_eq_decide.2 (by rw [UInt8.lt_iff_toNat_lt]; show 32 < c.toNat ↔ _; omega)
  have h2 : decide (c ≤ 126) = decide ((c.toNat : Int) ≤ 126) := decide_eq_decide.2 (by rw [UInt8.le_iff_toNat_le]; show c.toNat ≤ 126 ↔ _; omega)
  have h3 : decide (c ≠ 34) = !((c.toNat : Int) == 34) := by
    rw [Bool.eq_iff_iff, decide_eq_true_eq, Bool.not_eq_true', beq_eq_false_iff_ne]
    constructor
    · intro h e
      exact h (UInt8.toNat_inj.1 (by show c.toNat = 34; omega))
    · rintro h rfl
      exact h rfl
  rw [h1, h2, h3]
theorem bareL_stop {l : List UInt8} {n : Nat} (h : ∀ j c, j < n → l[j]? = some c → sgn c = true) (hn : n ≤ l.length) (hs : ∀ c, l[n]? = some c → sgn c = false) : bareL l = n := by
  unfold bareL
  induction l generalizing n with
  | nil => simp at hn; subst hn; rfl
  | cons c l ih =>
    cases n with
    | zero =>
      have := hs c rfl
      rw [List.takeWhile_cons, this]
      rfl
    | succ n =>
      have := h 0 c (by omega) rfl
      rw [List.takeWhile_cons, this]
      simp only [if_true, List.length_cons]
      rw [ih (n := n) (fun j d hj hd => h (j + 1) d (by omega) (by simpa using hd)) (by simpa using hn) (fun d hd => hs d (by simpa using hd))]
theorem head_quote (s : ByteArray) : Lib.hasPrefix s.data.toList (⟨#[34]⟩ : ByteArray).data.toList = decide (s.data.toList.head? = some 34) := by
  cases s.data.toList with
  | nil => rfl
  | cons c l =>
    by_cases h : c = 34
    · subst h
      rfl
    · have h2 : (34 : UInt8) ≠ c := Ne.symm h
      simp [Lib.hasPrefix, List.isPrefixOf, h, h2]
end Go.Proofs.YtghlodpbbghcoaaGreatDoor

/- A line's item: walked. -/
namespace Go.Proofs.YtghlodpbbghcoaaGreatDoor
open Go.RowKit
theorem results_tmp4 {fn : Func} {t u v x : Tmp} (h : fn.results = #[.tmp t, .tmp u, .tmp v, .tmp x]) (tmps : Array Value) (P : Program) (w : World) :
    (results fn tmps).run P w = .ok (.tuple #[tmps.getD t undef, tmps.getD u undef, tmps.getD v undef, tmps.getD x undef]) w := by
  simp [results, h]
def ItemPost (r : Option (List UInt8 × Bool × Nat)) (w : World) (e : Ending) (w' : World) : Prop :=
  (match r with
   | none => ∃ (t : ByteArray) (q : Bool) (n : Int), e = .returned (.tuple #[.string t, .bool q, .int .i64 n, .bool false])
   | some (t, q, n) => e = .returned (.tuple #[.string (tx t), .bool q, .int .i64 n, .bool true])) ∧ Below w.heap.size w w'

set_option maxRecDepth 100000 in
set_option maxHeartbeats 3200000 in
theorem item_any (s : ByteArray) (hs : s.size ≤ 2000000) (w : World) : Calls Tryz.prog 42 #[.string s] w (ItemPost (itemL s.data.toList) w) := by
  have hpre := Tryz.strings_HasPrefix s ⟨#[34]⟩ w
  rw [head_quote] at hpre
  have hz : s.data.toList.length = s.size := by simp
  obtain ⟨r, hr⟩ : ∃ r, itemL s.data.toList = r := ⟨_, rfl⟩
  rw [hr]
  by_cases hq : s.data.toList.head? = some 34
  · have hunq := unquote_any s hs w
    have hr2 : (unqR s.data.toList).map (fun p => (p.1, true, p.2)) = r := by rw [← hr, itemL, if_pos hq]
    obtain ⟨u, hu⟩ : ∃ u, unqR s.data.toList = u := ⟨_, rfl⟩
    rw [hu] at hunq hr2
    rw [decide_eq_true hq] at hpre
    clear hr hu hq hz
    cases u with
    | none =>
      subst hr2
      go_enter Tryz.func42, Tryz.ntmps42
      go_wp2_with (first
        | (go_at_call 35; refine hpre.mono ?_; rintro e w1 ⟨rfl, rfl⟩)
        | (go_at_call 74; refine hunq.mono ?_; rintro e w2 ⟨he, hB⟩; simp only at he; subst he))
      ((try simp only [Exit.inBlock, Exit.then]); refine bodyPost_ret (results_tmp4 rfl _ _ _) rfl ?_)
      exact ⟨⟨_, _, _, rfl⟩, hB⟩
    | some p =>
      obtain ⟨t, n⟩ := p
      subst hr2
      go_enter Tryz.func42, Tryz.ntmps42
      go_wp2_with (first
        | (go_at_call 35; refine hpre.mono ?_; rintro e w1 ⟨rfl, rfl⟩)
        | (go_at_call 74; refine hunq.mono ?_; rintro e w2 ⟨he, hB⟩; simp only at he; subst he))
      ((try simp only [Exit.inBlock, Exit.then]); refine bodyPost_ret (results_tmp4 rfl _ _ _) rfl ?_)
      exact ⟨rfl, hB⟩
  · rw [decide_eq_false hq] at hpre
    have hr2 : Hid ((if bareL s.data.toList = 0 then none else some (s.data.toList.take (bareL s.data.toList), false, bareL s.data.toList)) = r) := Lib.hid (by rw [← hr, itemL, if_neg hq])
    replace hz := Lib.hid hz
    clear hr hq
    go_enter Tryz.func42, Tryz.ntmps42
    go_upto_region 5 with (go_at_call 35; refine hpre.mono ?_; rintro e w1 ⟨rfl, rfl⟩)
    go_loop [9] (fun x => ∃ n : Nat, x = .int .i64 n ∧ n ≤ s.size ∧ Hid (∀ j c, j < n → s.data.toList[j]? = some c → sgn c = true)) (fun x => s.size - (intOf x).toNat)
    case atStart => exact ⟨0, rfl, Nat.zero_le _, Lib.hid (fun j c h => absurd h (Nat.not_lt_zero _))⟩
    case round =>
      obtain ⟨n, rfl, hn, hok⟩ := hrel
      have hn0 : (0 : Int) ≤ (n : Int) := by omega
      have hn1 : (n : Int) ≤ (s.size : Int) := by omega
      have hend : Hid (bareL s.data.toList = n → ItemPost r w1 (.returned (.tuple #[.string (s.extract 0 n), .bool false, .int .i64 n, .bool (decide (0 < n))])) w1) := Lib.hid (fun h => by
        have h2 := hr2.out
        rw [h] at h2
        refine ⟨?_, Below.refl _ _⟩
        by_cases h0 : n = 0
        · rw [if_pos h0] at h2
          subst h2 h0
          exact ⟨_, _, _, rfl⟩
        · rw [if_neg h0] at h2
          subst h2
          have e1 : decide (0 < n) = true := decide_eq_true (by omega)
          have e2 : s.extract 0 n = tx (s.data.toList.take n) := tx_eq (by simp [ByteArray.extract, ByteArray.copySlice])
          show _ = _
          rw [e1, e2])
      have hfin : Hid (((∀ c, s.data.toList[n]? = some c → sgn c = false) → bareL s.data.toList = n)) := Lib.hid (fun h => bareL_stop hok.out (by rw [hz.out]; exact hn) h)
      by_cases hlt : n < s.size
      · have hsi := Lib.hid (str_at hlt)
        obtain ⟨c, hc⟩ : ∃ c : UInt8, s[n] = c := ⟨_, rfl⟩
        rw [hc] at hsi
        obtain ⟨k, hk⟩ : ∃ k : Int, (s[n].toNat : Int) = k := ⟨_, rfl⟩
        have hck : Hid (sgn c = (decide (32 < k) && decide (k ≤ 126) && !(k == 34))) := Lib.hid (by rw [sgn_iff, ← hc, hk])
        have hi1 : (n : Int) < (s.size : Int) := by omega
        clear hc
        by_cases hsg : 32 < k ∧ k ≤ 126 ∧ k ≠ 34
        · obtain ⟨h32, h126, h34⟩ := hsg
          have e34 : (k == 34) = false := by simpa using h34
          have n34 : (k != 34) = true := by simpa [bne] using h34
          have hok2 : Hid (∀ j c, j < n + 1 → s.data.toList[j]? = some c → sgn c = true) := Lib.hid (fun j d hj hd => by
            by_cases e : j = n
            · subst e
              rw [hsi.out] at hd
              cases hd
              rw [hck.out, decide_eq_true h32, decide_eq_true h126, e34]
              rfl
            · exact hok.out j d (by omega) hd)
          clear h34 hfin
          go_wp2
          exact ⟨⟨n + 1, by simp, by omega, hok2⟩, by simp [intOf]; omega⟩
        · have hb : Hid (bareL s.data.toList = n) := Lib.hid (hfin.out (fun d hd => by
            rw [hsi.out] at hd
            cases hd
            rw [hck.out]
            by_cases h1 : 32 < k
            · by_cases h2 : k ≤ 126
              · have : k = 34 := Classical.byContradiction (fun h => hsg ⟨h1, h2, h⟩)
                subst this
                rfl
              · rw [decide_eq_false h2]; simp
            · rw [decide_eq_false h1]; simp))
          have hpost := Lib.hid (hend.out hb.out)
          clear hfin hend hok
          by_cases h32 : 32 < k
          · by_cases h126 : k ≤ 126
            · have h34 : k = 34 := Classical.byContradiction (fun h => hsg ⟨h32, h126, h⟩)
              subst h34
              clear hsg
              go_wp2
              ((try simp only [Exit.inBlock, Exit.then]); refine bodyPost_ret (results_tmp4 rfl _ _ _) rfl ?_)
              exact hpost.out
            · clear hsg
              go_wp2
              ((try simp only [Exit.inBlock, Exit.then]); refine bodyPost_ret (results_tmp4 rfl _ _ _) rfl ?_)
              exact hpost.out
          · clear hsg
            go_wp2
            ((try simp only [Exit.inBlock, Exit.then]); refine bodyPost_ret (results_tmp4 rfl _ _ _) rfl ?_)
            exact hpost.out
      · have hpost := Lib.hid (hend.out (hfin.out (fun d hd => by
          have := (List.getElem?_eq_some_iff.1 hd).1
          rw [hz.out] at this
          omega)))
        clear hfin hend hok
        go_wp2
        ((try simp only [Exit.inBlock, Exit.then]); refine bodyPost_ret (results_tmp4 rfl _ _ _) rfl ?_)
        exact hpost.out
end Go.Proofs.YtghlodpbbghcoaaGreatDoor

/- A line's items: walked. -/
namespace Go.Proofs.YtghlodpbbghcoaaGreatDoor
open Go.RowKit
theorem own_apart {w : World} {B B' e e' size size' n n' : Nat} {v v' : Value} {xs xs' : List Value} (h : w.ownsRow B e size v n xs) (h' : w.ownsRow B' e' size' v' n' xs') (hne : e ≠ e') : v.ownBlock = none ∨ v.ownBlock ≠ v'.ownBlock := by
  rcases h'.2 with ⟨rfl, _⟩ | ⟨g, cap, cur, rfl, _, hg, _⟩
  · cases hv : v.ownBlock with
    | none => exact .inl rfl
    | some x => exact .inr (by simp [Value.ownBlock])
  · exact .inr (own_ne h hg hne)
theorem info9 : (Tryz.prog.info? 9).map (fun i => (i.zero, i.size, i.bytes)) = some (some (.string ⟨#[]⟩), 1, 16) := by kernel_rfl
theorem info4 : (Tryz.prog.info? 4).map (fun i => (i.zero, i.size, i.bytes)) = some (some (.bool false), 1, 1) := by kernel_rfl
def tCells (D : List (List UInt8 × Bool)) : List Value := D.map fun p => .string (tx p.1)
def qCells (D : List (List UInt8 × Bool)) : List Value := D.map fun p => .bool p.2
/-- Items that have been read: their texts, and whether they are quoted, in rows of the call's own. -/
structure ItemsIn (B : Nat) (wr : World) (vt vq : Value) (D : List (List UInt8 × Bool)) : Prop where
  t : wr.ownsRow B 9 1 vt D.length (tCells D)
  q : wr.ownsRow B 4 1 vq D.length (qCells D)
theorem ItemsIn.nil (B : Nat) (w : World) : ItemsIn B w (.slice none 0 0) (.slice none 0 0) [] := ⟨World.ownsRow_nil _ _ _ _, World.ownsRow_nil _ _ _ _⟩
theorem ItemsIn.below {B : Nat} {w w' : World} {vt vq : Value} {D : List (List UInt8 × Bool)} (h : ItemsIn B w vt vq D) (hb : Below w.heap.size w w') : ItemsIn B w' vt vq D := ⟨own_below h.t hb (Nat.le_refl _), own_below h.q hb (Nat.le_refl _)⟩
def strLen : Value → Nat | .string s => s.size | _ => 0
def ItemsPost (r : Option (List (List UInt8 × Bool))) (w : World) (e : Ending) (w' : World) : Prop :=
  (match r with
   | none => e = .returned (.tuple #[.slice none 0 0, .slice none 0 0, .bool false])
   | some D => ∃ vt vq, e = .returned (.tuple #[vt, vq, .bool true]) ∧ ItemsIn w.heap.size w' vt vq D) ∧ Below w.heap.size w w'

set_option maxRecDepth 100000 in
set_option maxHeartbeats 3200000 in
theorem items_any (s : ByteArray) (hs : s.size ≤ 2000000) (w : World) : Calls Tryz.prog 20 #[.string s] w (ItemsPost (itemsG s.data.toList) w) := by
  obtain ⟨r, hr⟩ : ∃ r, itemsG s.data.toList = r := ⟨_, rfl⟩
  rw [hr]
  replace hr := Lib.hid hr
  go_enter Tryz.func20, Tryz.ntmps20
  go_wp2
  go_loopw [0, 5, 6] (fun x0 vt vq wr => ∃ (rest : ByteArray) (D : List (List UInt8 × Bool)), x0 = .string rest ∧ D.length + rest.size ≤ s.size ∧ Hid ((itemsG rest.data.toList).map (fun m => D ++ m) = r) ∧ Hid (ItemsIn w.heap.size wr vt vq D) ∧ Hid (Below w.heap.size w wr)) (fun x0 _ _ _ => strLen x0)
  case atStart => exact ⟨s, [], rfl, by simp, Lib.hid (by rw [← hr.out]; simp), Lib.hid (ItemsIn.nil _ _), Lib.hid (Below.refl _ _)⟩
  case round =>
    obtain ⟨rest, D, rfl, hsz, hres, hin, hB⟩ := hrel
    have hz : rest.data.toList.length = rest.size := by simp
    have hitem := item_any rest (by omega) wr
    obtain ⟨vt, hvt⟩ : ∃ v, v = u5 := ⟨_, rfl⟩
    obtain ⟨vq, hvq⟩ : ∃ v, v = u6 := ⟨_, rfl⟩
    rw [← hvt, ← hvq] at hin ⊢
    clear hvt hvq
    cases hI : itemL rest.data.toList with
    | none =>
      have e : r = none := by rw [← hres.out, itemsG_none hI]; rfl
      rw [hI] at hitem
      subst e
      clear hI hz hres
      go_wp2_with (go_at_call 42; refine hitem.mono ?_; rintro e w5 ⟨he, hB5⟩; obtain ⟨t, q, n, rfl⟩ := he)
      go_ret3
      exact ⟨rfl, hB.out.trans (hB5.mono hB.out.size)⟩
    | some p =>
      obtain ⟨t, q, n⟩ := p
      rw [hI] at hitem
      have hle := itemL_le hI
      rw [hz] at hle
      obtain ⟨hn0, hnl, htl⟩ := hle
      replace hz := Lib.hid hz
      replace hI := Lib.hid hI
      replace htl := Lib.hid htl
      obtain ⟨m, hm⟩ : ∃ m, rest.size = m := ⟨_, rfl⟩
      have hm2 : Hid (rest.size = m) := Lib.hid hm
      have hDm : D.length + m ≤ s.size := by omega
      have hnm : n ≤ m := by omega
      have hi0 : (0 : Int) ≤ (n : Int) := by omega
      clear hsz
      have hwz := Lib.hid hB.out.size
      go_upto_region 7 with (first
        | (go_at_call 42; refine hitem.mono ?_; rintro e w5 ⟨he, hB5⟩; simp only at he; subst he; have hin5 := Lib.hid (hin.out.below hB5); have hB5w := Lib.hid (hB.out.trans (hB5.mono hB.out.size)); have hz5 := hB5w.out.size)
        | (at_builtin; refine wpList_append_new_at info9 Tryz.underlying22 rfl (by decide) (by decide) w.heap.size hin5.out.t 1 rfl _ _ rfl rfl rfl (by simp) rfl rfl (by omega) hz5 ?_; intro vt' w6 hown6 hbel6 hgt6 hgrow6 hnew6; have hq6 := Lib.hid (hin5.out.q.kept hgrow6 (own_apart hin5.out.q hin5.out.t (by decide))); have hz6 : w.heap.size ≤ w6.heap.size := (by omega); replace hown6 := Lib.hid hown6; clear hgrow6 hnew6)
        | (at_builtin; refine wpList_append_new_at info4 Tryz.underlying51 rfl (by decide) (by decide) w.heap.size hq6.out 1 rfl _ _ rfl rfl rfl (by simp) rfl rfl (by omega) hz6 ?_; intro vq' w7 hown7 hbel7 hgt7 hgrow7 hnew7))
      have hin7 : Hid (ItemsIn w.heap.size w7 vt' vq' (D ++ [(t, q)])) := Lib.hid (by
        refine ⟨?_, ?_⟩
        · have := hown6.out.kept hgrow7 (own_apart hown6.out hq6.out (by decide))
          rw [List.length_append]
          simpa [tCells] using this
        · rw [List.length_append]
          simpa [qCells] using hown7)
      have hB7 : Hid (Below w.heap.size w w7) := Lib.hid ((hB5w.out.trans hbel6).trans hbel7)
      clear hown7 hgrow7 hnew7 hbel6 hbel7 hitem
      by_cases hnme : n = m
      · subst hnme
        have e : r = some (D ++ [(t, q)]) := by rw [← hres.out, itemsG_end hI.out (by rw [hz.out, hm])]; rfl
        subst e
        clear hres
        go_wp2
        go_ret3
        exact ⟨⟨_, _, rfl, hin7.out⟩, hB7.out⟩
      · have hi1 : (n : Int) < (m : Int) := by omega
        have em : (n == m) = false := by simpa using hnme
        have em2 : ((n : Int) == (m : Int)) = false := by simp; omega
        have hlt : n < rest.size := by omega
        have hsi := Lib.hid (str_at hlt)
        obtain ⟨c, hc⟩ : ∃ c : UInt8, rest[n] = c := ⟨_, rfl⟩
        rw [hc] at hsi
        obtain ⟨k, hk⟩ : ∃ k : Int, (rest[n].toNat : Int) = k := ⟨_, rfl⟩
        have hck : Hid ((c.toNat : Int) = k) := Lib.hid (by rw [← hc]; exact hk)
        have hnl' : Hid (n ≠ rest.data.toList.length) := Lib.hid (by rw [hz.out]; omega)
        clear hc hnme
        by_cases h32 : k = 32
        · subst h32
          have hc32 : c = 32 := by
            have := hck.out
            exact UInt8.toNat_inj.1 (by show c.toNat = 32; omega)
          have hres2 : Hid ((itemsG (rest.data.toList.drop (n + 1))).map (fun z => (D ++ [(t, q)]) ++ z) = r) := Lib.hid (by
            rw [← hres.out, itemsG_go hI.out hnl'.out (by rw [hsi.out, hc32])]
            cases itemsG (rest.data.toList.drop (n + 1)) with
            | none => rfl
            | some z => simp)
          clear hres
          have hi2 : (n : Int) + 1 ≤ (m : Int) := by omega
          have hi3 : (0 : Int) ≤ (n : Int) + 1 := by omega
          go_wp2
          have hsz : (rest.extract (n + 1) m).size = m - (n + 1) := by rw [ByteArray.size_extract, hm]; omega
          have hda : (rest.extract (n + 1) m).data.toList = rest.data.toList.drop (n + 1) := by
            rw [ByteArray.data_extract, Array.toList_extract, List.extract_eq_take_drop, List.take_of_length_le (by rw [List.length_drop, hz.out]; omega)]
          refine ⟨⟨rest.extract (n + 1) m, D ++ [(t, q)], rfl, ?_, ?_, hin7, hB7⟩, ?_⟩
          · rw [hsz, List.length_append, List.length_singleton]
            omega
          · exact Lib.hid (by rw [hda]; exact hres2.out)
          · show (rest.extract (n + 1) m).size < rest.size
            omega
        · have hne : Hid (c ≠ 32) := Lib.hid (fun e => h32 (by rw [← hck.out, e]; rfl))
          have e : r = none := by
            rw [← hres.out, itemsG_bad hI.out hnl'.out (by rw [hsi.out]; exact fun h => hne.out (by simpa using h))]
            rfl
          have n32 : (k != 32) = true := by simpa [bne] using h32
          subst e
          clear hres h32
          go_wp2
          go_ret3
          exact ⟨rfl, hB7.out⟩
end Go.Proofs.YtghlodpbbghcoaaGreatDoor

/- A quoted item: walked, and the document's. -/
namespace Go.Proofs.YtghlodpbbghcoaaGreatDoor
open Go.RowKit
theorem escL_append (a b : List UInt8) : escL (a ++ b) = escL a ++ escL b := by simp [escL]
theorem escL_snoc {l : List UInt8} {i : Nat} {c : UInt8} (h : l[i]? = some c) : escL (l.take (i + 1)) = escL (l.take i) ++ if c = 34 ∨ c = 92 then [92, c] else [c] := by
  rw [List.take_add_one, h, escL_append]
  simp [escL]
theorem escL_length : ∀ l : List UInt8, (escL l).length ≤ 2 * l.length
  | [] => by simp [escL]
  | c :: l => by
    have := escL_length l
    rw [escL_cons, List.length_append, List.length_cons]
    have h : (if c = 34 ∨ c = 92 then [92, c] else [c]).length ≤ 2 := by split <;> simp
    omega
theorem OwnY.first {w : World} {B : Nat} (hB : B ≤ w.heap.size) (c : UInt8) {cs : Array Value} (hcs : cs = #[.int .u8 c.toNat]) : OwnY (w.alloc (.cells cs 5)) B (.slice (some ⟨w.heap.size, 0, none⟩) 1 1) [c] := by
  subst hcs
  exact ⟨_, _, rfl, rfl, .inr ⟨w.heap.size, 1, _, rfl, hB, blk_new w _, Nat.le_refl _, by decide, rfl, rfl⟩⟩
def TextPost (l : List UInt8) (w : World) (e : Ending) (w' : World) : Prop := e = .returned (.string (tx l)) ∧ Below w.heap.size w w'

set_option maxRecDepth 100000 in
set_option maxHeartbeats 3200000 in
theorem quote_any (s : ByteArray) (hs : s.size ≤ 200000) (w : World) : Calls Tryz.prog 22 #[.string s] w (TextPost (quoteL s.data.toList) w) := by
  have hz : Hid (s.data.toList.length = s.size) := Lib.hid (by simp)
  have hO0 := Lib.hid (OwnY.first (w := w) (Nat.le_refl _) 34 (cs := #[.int .u8 34]) rfl)
  have hB0 : Hid (Below w.heap.size w (w.alloc (.cells #[.int .u8 34] 5))) := Lib.hid ((Below.refl _ _).alloc (Nat.le_refl _) _)
  go_enter Tryz.func22, Tryz.ntmps22
  go_wp2
  go_loopw [3, 4] (fun v x4 wr => ∃ i : Nat, x4 = .int .i64 i ∧ i ≤ s.size ∧ Hid (OwnY wr w.heap.size v (34 :: escL (s.data.toList.take i))) ∧ Hid (Below w.heap.size w wr)) (fun _ x4 _ => s.size - (intOf x4).toNat)
  case atStart => exact ⟨0, rfl, Nat.zero_le _, hO0, hB0⟩
  case round =>
    clear hO0 hB0
    obtain ⟨i, rfl, hi, hO, hB⟩ := hrel
    have hbw := hB.out.size
    have hlen : Hid ((34 :: escL (s.data.toList.take i)).length ≤ 1 + 2 * i) := Lib.hid (by
      have := escL_length (s.data.toList.take i)
      have h2 : (s.data.toList.take i).length ≤ i := List.length_take_le _ _
      rw [List.length_cons]
      omega)
    have hL : (34 :: escL (s.data.toList.take i)).length ≤ 900000 := by have := hlen.out; omega
    obtain ⟨L, hLe⟩ : ∃ L, 34 :: escL (s.data.toList.take i) = L := ⟨_, rfl⟩
    rw [hLe] at hO hL
    replace hLe := Lib.hid hLe
    obtain ⟨v, hv⟩ : ∃ v, v = u3 := ⟨_, rfl⟩
    rw [← hv] at hO ⊢
    clear hv hlen
    by_cases hlt : i < s.size
    · have hsi := Lib.hid (str_at hlt)
      obtain ⟨c, hc⟩ : ∃ c : UInt8, s[i] = c := ⟨_, rfl⟩
      rw [hc] at hsi
      obtain ⟨k, hk⟩ : ∃ k : Int, (s[i].toNat : Int) = k := ⟨_, rfl⟩
      have hck : Hid ((c.toNat : Int) = k) := Lib.hid (by rw [← hc]; exact hk)
      have hi0 : (0 : Int) ≤ (i : Int) := by omega
      have hi1 : (i : Int) < (s.size : Int) := by omega
      have hnext : Hid (34 :: escL (s.data.toList.take (i + 1)) = L ++ if c = 34 ∨ c = 92 then [92, c] else [c]) := Lib.hid (by rw [escL_snoc hsi.out, ← hLe.out]; rfl)
      clear hc
      by_cases hq : k = 34 ∨ k = 92
      · have hcq : c = 34 ∨ c = 92 := by
          have := hck.out
          rcases hq with h | h
          · exact .inl (UInt8.toNat_inj.1 (by show c.toNat = 34; omega))
          · exact .inr (UInt8.toNat_inj.1 (by show c.toNat = 92; omega))
        have hn2 : Hid (34 :: escL (s.data.toList.take (i + 1)) = (L ++ [92]) ++ [c]) := Lib.hid (by rw [hnext.out, if_pos hcq]; simp)
        have hL2 : (L ++ [92]).length ≤ 2000000 := by simp; omega
        clear hnext hcq
        rcases hq with rfl | rfl
        all_goals
          go_upto_region 7 with (at_builtin; refine appendByte_any hO.out hbw (by omega) 92 rfl _ _ rfl rfl rfl rfl rfl ?_; intro v5 w5 ho5 hb5 hk5)
          have hB5 := Lib.hid (hB.out.trans hb5)
          have hbw5 := hB5.out.size
          replace ho5 := Lib.hid ho5
          clear hk5 hb5
          go_wp2_with (at_builtin; refine appendByte_any ho5.out hbw5 hL2 c rfl _ _ rfl rfl rfl rfl (by rw [hck.out]) ?_; intro v6 w6 ho6 hb6 hk6)
          exact ⟨⟨i + 1, by simp, by omega, Lib.hid (by rw [hn2.out]; exact ho6), Lib.hid (hB5.out.trans hb6)⟩, by simp [intOf]; omega⟩
      · have e34 : (k == 34) = false := by simp; exact fun h => hq (.inl h)
        have e92 : (k == 92) = false := by simp; exact fun h => hq (.inr h)
        have hn2 : Hid (34 :: escL (s.data.toList.take (i + 1)) = L ++ [c]) := Lib.hid (by
          rw [hnext.out, if_neg]
          rintro (rfl | rfl)
          · exact hq (.inl (by rw [← hck.out]; rfl))
          · exact hq (.inr (by rw [← hck.out]; rfl)))
        clear hnext hq
        go_wp2_with (at_builtin; refine appendByte_any hO.out hbw (by omega) c rfl _ _ rfl rfl rfl rfl (by rw [hck.out]) ?_; intro v6 w6 ho6 hb6 hk6)
        exact ⟨⟨i + 1, by simp, by omega, Lib.hid (by rw [hn2.out]; exact ho6), Lib.hid (hB.out.trans hb6)⟩, by simp [intOf]; omega⟩
    · have hin : i = s.size := by omega
      have hfin : Hid (L ++ [34] = quoteL s.data.toList) := Lib.hid (by
        rw [← hLe.out, hin, List.take_of_length_le (by rw [hz.out]; exact Nat.le_refl _)]
        rfl)
      clear hin
      go_wp2_with (at_builtin; refine appendByte_any hO.out hbw (by omega) 34 rfl _ _ rfl rfl rfl rfl rfl ?_; intro v6 w6 ho6 hb6 hk6; obtain ⟨t, ht, hcv⟩ := conv_Y ho6; have hcv2 := hcv w6 (Below.refl _ _); replace ht := Lib.hid ht; clear hcv ho6 hk6)
      go_ret
      exact ⟨by rw [← hfin.out, tx_eq ht.out]; rfl, hB.out.trans hb6⟩
end Go.Proofs.YtghlodpbbghcoaaGreatDoor

/- A quoted item, by the document: walked. -/
namespace Go.Proofs.YtghlodpbbghcoaaGreatDoor
open Go.RowKit
set_option maxRecDepth 100000 in
set_option maxHeartbeats 3200000 in
theorem refQuote_any (s : ByteArray) (hs : s.size ≤ 200000) (w : World) : Calls Tryz.prog 23 #[.string s] w (TextPost (quoteL s.data.toList) w) := by
  have hz : Hid (s.data.toList.length = s.size) := Lib.hid (by simp)
  have hON := Lib.hid (OwnY.nil w w.heap.size)
  go_enter Tryz.func23, Tryz.ntmps23
  go_upto_region 3 with (at_builtin; refine appendByte_any hON.out (Nat.le_refl _) (by simp) 34 rfl _ _ rfl rfl rfl rfl rfl ?_; intro v0 w0 hO0 hB0 hk0)
  replace hO0 := Lib.hid hO0
  replace hB0 := Lib.hid hB0
  clear hk0 hON
  go_wp2
  go_loopw [3, 4] (fun v x4 wr => ∃ i : Nat, x4 = .int .i64 i ∧ i ≤ s.size ∧ Hid (OwnY wr w.heap.size v (34 :: escL (s.data.toList.take i))) ∧ Hid (Below w.heap.size w wr)) (fun _ x4 _ => s.size - (intOf x4).toNat)
  case atStart => exact ⟨0, rfl, Nat.zero_le _, hO0, hB0⟩
  case round =>
    clear hO0 hB0
    obtain ⟨i, rfl, hi, hO, hB⟩ := hrel
    have hbw := hB.out.size
    have hlen : Hid ((34 :: escL (s.data.toList.take i)).length ≤ 1 + 2 * i) := Lib.hid (by
      have := escL_length (s.data.toList.take i)
      have h2 : (s.data.toList.take i).length ≤ i := List.length_take_le _ _
      rw [List.length_cons]
      omega)
    have hL : (34 :: escL (s.data.toList.take i)).length ≤ 900000 := by have := hlen.out; omega
    obtain ⟨L, hLe⟩ : ∃ L, 34 :: escL (s.data.toList.take i) = L := ⟨_, rfl⟩
    rw [hLe] at hO hL
    replace hLe := Lib.hid hLe
    obtain ⟨v, hv⟩ : ∃ v, v = u3 := ⟨_, rfl⟩
    rw [← hv] at hO ⊢
    clear hv hlen
    by_cases hlt : i < s.size
    · have hsi := Lib.hid (str_at hlt)
      obtain ⟨c, hc⟩ : ∃ c : UInt8, s[i] = c := ⟨_, rfl⟩
      rw [hc] at hsi
      obtain ⟨k, hk⟩ : ∃ k : Int, (s[i].toNat : Int) = k := ⟨_, rfl⟩
      have hck : Hid ((c.toNat : Int) = k) := Lib.hid (by rw [← hc]; exact hk)
      have hi0 : (0 : Int) ≤ (i : Int) := by omega
      have hi1 : (i : Int) < (s.size : Int) := by omega
      have hnext : Hid (34 :: escL (s.data.toList.take (i + 1)) = L ++ if c = 34 ∨ c = 92 then [92, c] else [c]) := Lib.hid (by rw [escL_snoc hsi.out, ← hLe.out]; rfl)
      clear hc
      by_cases hq : k = 34 ∨ k = 92
      · have hcq : c = 34 ∨ c = 92 := by
          have := hck.out
          rcases hq with h | h
          · exact .inl (UInt8.toNat_inj.1 (by show c.toNat = 34; omega))
          · exact .inr (UInt8.toNat_inj.1 (by show c.toNat = 92; omega))
        have hn2 : Hid (34 :: escL (s.data.toList.take (i + 1)) = (L ++ [92]) ++ [c]) := Lib.hid (by rw [hnext.out, if_pos hcq]; simp)
        have hL2 : (L ++ [92]).length ≤ 2000000 := by simp; omega
        clear hnext hcq
        rcases hq with rfl | rfl
        all_goals
          go_upto_region 8 with (at_builtin; refine appendByte_any hO.out hbw (by omega) 92 rfl _ _ rfl rfl rfl rfl rfl ?_; intro v5 w5 ho5 hb5 hk5)
          have hB5 := Lib.hid (hB.out.trans hb5)
          have hbw5 := hB5.out.size
          replace ho5 := Lib.hid ho5
          clear hk5 hb5
          go_wp2_with (at_builtin; refine appendByte_any ho5.out hbw5 hL2 c rfl _ _ rfl rfl rfl rfl (by rw [hck.out]) ?_; intro v6 w6 ho6 hb6 hk6)
          exact ⟨⟨i + 1, by simp, by omega, Lib.hid (by rw [hn2.out]; exact ho6), Lib.hid (hB5.out.trans hb6)⟩, by simp [intOf]; omega⟩
      · have e34 : (k == 34) = false := by simp; exact fun h => hq (.inl h)
        have e92 : (k == 92) = false := by simp; exact fun h => hq (.inr h)
        have hn2 : Hid (34 :: escL (s.data.toList.take (i + 1)) = L ++ [c]) := Lib.hid (by
          rw [hnext.out, if_neg]
          rintro (rfl | rfl)
          · exact hq (.inl (by rw [← hck.out]; rfl))
          · exact hq (.inr (by rw [← hck.out]; rfl)))
        clear hnext hq
        go_wp2_with (at_builtin; refine appendByte_any hO.out hbw (by omega) c rfl _ _ rfl rfl rfl rfl (by rw [hck.out]) ?_; intro v6 w6 ho6 hb6 hk6)
        exact ⟨⟨i + 1, by simp, by omega, Lib.hid (by rw [hn2.out]; exact ho6), Lib.hid (hB.out.trans hb6)⟩, by simp [intOf]; omega⟩
    · have hin : i = s.size := by omega
      have hfin : Hid (L ++ [34] = quoteL s.data.toList) := Lib.hid (by
        rw [← hLe.out, hin, List.take_of_length_le (by rw [hz.out]; exact Nat.le_refl _)]
        rfl)
      clear hin
      go_wp2_with (at_builtin; refine appendByte_any hO.out hbw (by omega) 34 rfl _ _ rfl rfl rfl rfl rfl ?_; intro v6 w6 ho6 hb6 hk6; obtain ⟨t, ht, hcv⟩ := conv_Y ho6; have hcv2 := hcv w6 (Below.refl _ _); replace ht := Lib.hid ht; clear hcv ho6 hk6)
      go_ret
      exact ⟨by rw [← hfin.out, tx_eq ht.out]; rfl, hB.out.trans hb6⟩
end Go.Proofs.YtghlodpbbghcoaaGreatDoor
