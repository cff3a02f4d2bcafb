/- Own rows of attributes and of nodes, as nodes in memory. No program in sight. -/
import Derived.Test.YtghlodpbbghcoaaDoorSD
import Derived.Test.YtghlodpbbghcoaaDoorD6
import Derived.Test.YtghlodpbbghcoaaDoorSE
namespace Go.Proofs.YtghlodpbbghcoaaDoor
open Go.Lib Go.RowKit
def attrCells (al : List (ByteArray × ByteArray)) : List Value := al.flatMap fun p => [.string p.1, .string p.2]
theorem attrCells_length : ∀ l : List (ByteArray × ByteArray), (attrCells l).length = l.length * 2
  | [] => rfl
  | p :: t => by
    have := attrCells_length t
    simp only [attrCells, List.flatMap_cons, List.length_append, List.length_cons, List.length_nil] at this ⊢
    omega
theorem attrCells_snoc (l : List (ByteArray × ByteArray)) (p : ByteArray × ByteArray) : attrCells (l ++ [p]) = attrCells l ++ [.string p.1, .string p.2] := by simp [attrCells]
theorem nCells_snoc (l : List NCells) (c : NCells) : nCells (l ++ [c]) = nCells l ++ [.int .i64 c.kind, .string c.name, c.va, .string c.text, c.vk] := by simp [nCells, NCells.list]
theorem attrCells_at : ∀ (l : List (ByteArray × ByteArray)) (i : Nat) (h : i < l.length) (j : Nat), j < 2 → (attrCells l)[i * 2 + j]? = [Value.string l[i].1, .string l[i].2][j]?
  | p :: r, 0, h, j, hj => by
    show ([Value.string p.1, .string p.2] ++ attrCells r)[0 * 2 + j]? = _
    rw [Nat.zero_mul, Nat.zero_add, List.getElem?_append_left (by simpa using hj)]
    rfl
  | p :: r, i + 1, h, j, hj => by
    show ([Value.string p.1, .string p.2] ++ attrCells r)[(i + 1) * 2 + j]? = _
    rw [List.getElem?_append_right (by simp; omega), show (i + 1) * 2 + j - [Value.string p.1, .string p.2].length = i * 2 + j by simp; omega, attrCells_at r i (by simpa using h) j hj]
    rfl
theorem own_attrs {w : World} {base : Nat} {v : Value} {al : List (ByteArray × ByteArray)} (h : w.ownsRow base 56 2 v al.length (attrCells al)) : ARow w (fun k => v.ownBlock = some k) v al := by
  rcases h.2 with ⟨rfl, h0⟩ | ⟨g, cap, cur, rfl, hb0, hb, h1, h2, h3, h4⟩
  · have : al = [] := List.eq_nil_of_length_eq_zero h0
    subst this
    exact ⟨none, 0, rfl, Nat.le_refl _, fun j hj => absurd hj (Nat.not_lt_zero _)⟩
  · refine ⟨_, cap, rfl, h1, fun i hi => ⟨g, 0, rfl, rfl, ?_⟩⟩
    have hl := attrCells_length al
    have e2 : ∀ j, j < 2 → w.cell? ⟨g, 0 + i * 2 + j, none⟩ = [Value.string al[i].1, .string al[i].2][j]? := by
      intro j hj
      have e3 : w.cell? ⟨g, 0 + i * 2 + j, none⟩ = cur[0 + i * 2 + j]? := by simp [World.cell?, hb]
      rw [e3, ← attrCells_at al i hi j hj, ← h4, List.getElem?_take, if_pos (by omega), Array.getElem?_toList, Nat.zero_add]
    exact ⟨e2 0 (by decide), e2 1 (by decide)⟩
theorem own_nodes {w : World} {base : Nat} {v : Value} {l : List NCells} {P Q : Nat → Prop} (h : w.ownsRow base 28 5 v l.length (nCells l)) (hf : ∀ c ∈ l, c.Fine w P) (hq : ∀ k, P k → Q k) (hv : ∀ k, v.ownBlock = some k → Q k) :
    ∃ A cap, v = .slice A l.length cap ∧ l.length ≤ cap ∧ (0 < l.length → ∃ b, A = some ⟨b, 0, none⟩ ∧ base ≤ b ∧ b < w.heap.size ∧ NRow w Q b 0 (nFo l)) := by
  rcases h.2 with ⟨rfl, h0⟩ | ⟨g, cap, cur, rfl, hb0, hb, h1, h2, h3, h4⟩
  · rw [h0]
    exact ⟨none, 0, rfl, Nat.le_refl _, fun hj => absurd hj (Nat.lt_irrefl _)⟩
  · refine ⟨_, cap, rfl, h1, fun hj => ⟨g, rfl, hb0, (Array.getElem?_eq_some_iff.1 hb).1, nRow_of (hv g rfl) hq l 0 hf (fun j hj => ?_)⟩⟩
    have e3 : w.cell? ⟨g, 0 + j, none⟩ = cur[0 + j]? := by simp [World.cell?, hb]
    have hl := nCells_length l
    rw [e3, ← h4, List.getElem?_take, if_pos (by omega), Array.getElem?_toList, Nat.zero_add]
theorem nFo_append : ∀ (a b : List NCells), (nFo (a ++ b)).size = (nFo a).size + (nFo b).size
  | [], b => by simp [nFo, Fo.size]
  | c :: a, b => by
    rw [List.cons_append, nFo, nFo, Fo.size, Fo.size, nFo_append a b]
    omega
theorem nFo_snoc (a : List NCells) (c : NCells) : (nFo (a ++ [c])).size = (nFo a).size + (1 + c.kids.size) := by
  rw [nFo_append]
  rfl
def NewB (w w' : World) (k : Nat) : Prop := w.heap.size ≤ k ∧ k < w'.heap.size
theorem Stays.below {P : Nat → Prop} {w w' : World} {n : Nat} (h : Below n w w') (hp : ∀ k, P k → k < n) : Stays P w w' := fun k hk => h.block k (hp k hk)
theorem Stays.set {P : Nat → Prop} {w : World} {p : Addr} (hp : ¬ P p.block) (u : Value) : Stays P w (w.setCell p u) := fun k hk => Below.heap_setCell w p u k (fun e => hp (e ▸ hk))
theorem Stays.alloc {P : Nat → Prop} {w : World} (hp : ∀ k, P k → k < w.heap.size) (o : Obj) : Stays P w (w.alloc o) := fun k hk => Below.heap_alloc w o k (hp k hk)
theorem Stays.grown {P : Nat → Prop} {w w' : World} {row : Option Nat} (hg : w.grownBy w' row) (hp : ∀ k, P k → k < w.heap.size ∧ row ≠ some k) : Stays P w w' := fun k hk => hg.block k (hp k hk).1 (Ne.symm (hp k hk).2)
theorem Stays.trans {P : Nat → Prop} {a b c : World} (h : Stays P a b) (k : Stays P b c) : Stays P a c := fun x hx => (k x hx).trans (h x hx)
/-- A row of nodes that is being made. -/
structure RowInv (w wr : World) (v : Value) (l : List NCells) : Prop where
  own : wr.ownsRow w.heap.size 28 5 v l.length (nCells l)
  kids : ∃ P : Nat → Prop, (∀ c ∈ l, c.Fine wr P) ∧ (∀ k, P k → NewB w wr k) ∧ (∀ k, P k → v.ownBlock ≠ some k)
  below : Below w.heap.size w wr
theorem RowInv.nil (w : World) : RowInv w w (.slice none 0 0) [] := ⟨World.ownsRow_nil _ _ _ _, ⟨fun _ => False, fun c hc => absurd hc (by simp), fun k h => h.elim, fun k h => h.elim⟩, Below.refl _ _⟩
theorem RowInv.fineKids {w wr : World} {v : Value} {l : List NCells} (h : RowInv w wr v l) :
    ∃ (A : Option Addr) (n cap : Nat), v = .slice A n cap ∧ n = (nFo l).len ∧ n ≤ cap ∧ (0 < n → ∃ b o, A = some ⟨b, o, none⟩ ∧ NRow wr (NewB w wr) b o (nFo l)) := by
  obtain ⟨h1, ⟨P, h2, h3, h4⟩, h5⟩ := h
  obtain ⟨A, cap, rfl, hc, hk⟩ := own_nodes (Q := NewB w wr) h1 h2 h3 (fun k hk => h1.lt k hk)
  exact ⟨A, _, cap, rfl, (nFo_len l).symm, hc, fun hp => by obtain ⟨b, e, _, _, hr⟩ := hk hp; exact ⟨b, 0, e, hr⟩⟩
theorem RowInv.carry {w wr w7 : World} {v : Value} {l : List NCells} (h : RowInv w wr v l) (hB : Below wr.heap.size wr w7) : RowInv w w7 v l := by
  obtain ⟨h1, ⟨P, h2, h3, h4⟩, h5⟩ := h
  exact ⟨own_below h1 hB, ⟨P, fun c hc => (h2 c hc).move (Stays.below hB (fun k hk => (h3 k hk).2)) (fun _ h => h), fun k hk => ⟨(h3 k hk).1, Nat.lt_of_lt_of_le (h3 k hk).2 hB.size⟩, h4⟩, h5.trans (hB.mono h5.size)⟩
theorem RowInv.push {w w7 w8 : World} {v v' : Value} {l : List NCells} {c : NCells} {o : Obj} {X : Nat} (h : RowInv w w7 v l) (hX : w.heap.size ≤ X) (hvX : ∀ k, v.ownBlock = some k → k < X)
    (hc : c.Fine w7 (fun k => X ≤ k ∧ k < w7.heap.size)) (hown : w8.ownsRow w.heap.size 28 5 v' (l.length + 1) (nCells l ++ c.list)) (hg : (w7.alloc o).grownBy w8 v.ownBlock)
    (hat : v'.ownBlock = v.ownBlock ∨ v'.ownBlock = some (w7.alloc o).heap.size) : RowInv w w8 v' (l ++ [c]) := by
  obtain ⟨h1, ⟨P, h2, h3, h4⟩, h5⟩ := h
  have hs : w7.heap.size ≤ w8.heap.size := Nat.le_trans (by simp) hg.size
  have hlt := h1.lt
  have key : ∀ {Q : Nat → Prop}, (∀ k, Q k → k < w7.heap.size ∧ v.ownBlock ≠ some k) → Stays Q w7 w8 := fun hQ => (Stays.alloc (fun k hk => (hQ k hk).1) o).trans (Stays.grown hg (fun k hk => ⟨Nat.lt_of_lt_of_le (hQ k hk).1 (by simp), (hQ k hk).2⟩))
  have hq : ∀ k, (X ≤ k ∧ k < w7.heap.size) → v.ownBlock ≠ some k := fun k hk e => by have := hvX k e; omega
  refine ⟨?_, ⟨fun k => P k ∨ (X ≤ k ∧ k < w7.heap.size), ?_, ?_, ?_⟩, ?_⟩
  · rw [nCells_snoc, List.length_append]
    exact hown
  · intro d hd
    rcases List.mem_append.1 hd with hd | hd
    · exact (h2 d hd).move (key (fun k hk => ⟨(h3 k hk).2, h4 k hk⟩)) (fun _ h => .inl h)
    · rw [List.mem_singleton.1 hd]
      exact hc.move (key (fun k hk => ⟨hk.2, hq k hk⟩)) (fun _ h => .inr h)
  · rintro k (hk | hk)
    · exact ⟨(h3 k hk).1, Nat.lt_of_lt_of_le (h3 k hk).2 hs⟩
    · exact ⟨Nat.le_trans hX hk.1, Nat.lt_of_lt_of_le hk.2 hs⟩
  · intro k hk e
    rcases hat with e2 | e2
    · rw [e2] at e
      rcases hk with hk | hk
      · exact h4 k hk e
      · exact hq k hk e
    · rw [e2] at e
      cases e
      rcases hk with hk | hk
      · have := (h3 _ hk).2; simp at this; omega
      · have := hk.2; simp at this; omega
  · exact (h5.alloc h5.size o).grown hg (by have := h5.size; simp; omega) (fun j hj => (hlt j hj).1)
end Go.Proofs.YtghlodpbbghcoaaDoor
