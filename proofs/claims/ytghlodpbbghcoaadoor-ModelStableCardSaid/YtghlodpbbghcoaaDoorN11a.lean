/- Rows of nodes merged: the plain part; words for rows that are made of old nodes. No program in sight. -/
import Derived.Test.YtghlodpbbghcoaaDoorN10a
namespace Go.Proofs.YtghlodpbbghcoaaDoor
open Go.Lib Go.RowKit
def okA (al : List (ByteArray × ByteArray)) : Prop := al.length ≤ 5 ∧ ∀ p ∈ al, p.1.size ≤ 200 ∧ p.2.size ≤ 200
/-- Nodes of a size: texts of M bytes at most. -/
def okF (M : Nat) : Fo → Prop
  | .nil => True
  | .node _ nm al tx kids rest => nm.size ≤ 100 ∧ okA al ∧ tx.size ≤ M ∧ okF M kids ∧ okF M rest
def okC (M : Nat) (c : NCells) : Prop := c.name.size ≤ 100 ∧ okA c.attrs ∧ okF M c.kids
theorem okF.mono {M N : Nat} (h : M ≤ N) : ∀ {f : Fo}, okF M f → okF N f
  | .nil, _ => trivial
  | .node _ _ _ _ _ _, ⟨h1, h2, h3, h4, h5⟩ => ⟨h1, h2, Nat.le_trans h3 h, okF.mono h h4, okF.mono h h5⟩
theorem okC.mono {M N : Nat} (h : M ≤ N) {c : NCells} (hc : okC M c) : okC N c := ⟨hc.1, hc.2.1, hc.2.2.mono h⟩
/-- No texts side by side (was there one ahead?). -/
def noTw : Bool → Fo → Prop
  | _, .nil => True
  | p, .node k _ _ _ _ rest => (p = true → k ≠ 2) ∧ noTw (decide (k = 2)) rest
def lastK : Bool → List NCells → Bool
  | p, [] => p
  | _, c :: r => lastK (decide (c.kind = 2)) r
theorem lastK_snoc : ∀ (p : Bool) (l : List NCells) (c : NCells), lastK p (l ++ [c]) = decide (c.kind = 2)
  | p, [], c => rfl
  | p, d :: l, c => lastK_snoc _ l c
theorem noTw_snoc : ∀ (p : Bool) (l : List NCells) (c : NCells), noTw p (nFo l) → (lastK p l = true → c.kind ≠ 2) → noTw p (nFo (l ++ [c]))
  | p, [], c, _, h => ⟨h, trivial⟩
  | p, d :: l, c, h, h2 => ⟨h.1, noTw_snoc _ l c h.2 h2⟩
theorem noTw_text (t : ByteArray) : ∀ (p : Bool) (l : List NCells) (c : NCells), noTw p (nFo (l ++ [c])) → noTw p (nFo (l ++ [{ c with text := t }]))
  | p, [], c, h => ⟨h.1, trivial⟩
  | p, d :: l, c, h => ⟨h.1, noTw_text t _ l c h.2⟩
theorem okF_of {M : Nat} : ∀ (l : List NCells), (∀ c ∈ l, okC M c ∧ c.text.size ≤ M) → okF M (nFo l)
  | [], _ => trivial
  | c :: l, h => ⟨(h c (by simp)).1.1, (h c (by simp)).1.2.1, (h c (by simp)).2, (h c (by simp)).1.2.2, okF_of l (fun d hd => h d (by simp [hd]))⟩
theorem own_set {w : World} {base : Nat} {e : TypeId} {size n : Nat} {v : Value} {xs : List Value} (h : w.ownsRow base e size v n xs) {g : Nat} (hg : v.ownBlock = some g) (j : Nat) (u : Value) : (w.setCell ⟨g, j, none⟩ u).ownsRow base e size v n (xs.set j u) := by
  obtain ⟨h1, h2⟩ := h
  refine ⟨by rw [List.length_set]; exact h1, ?_⟩
  rcases h2 with ⟨rfl, _⟩ | ⟨g', cap, cur, rfl, hb, hh, hn, hc, hs, ht⟩
  · cases hg
  · have : g' = g := by simpa [Value.ownBlock] using hg
    subst this
    refine Or.inr ⟨g', cap, cur.setIfInBounds j u, rfl, hb, blk_set_self hh j u, hn, hc, by simpa using hs, ?_⟩
    rw [Array.toList_setIfInBounds, List.take_set, ht]
theorem nCells_at : ∀ (l : List NCells) (i : Nat) (h : i < l.length) (j : Nat), j < 5 → (nCells l)[i * 5 + j]? = l[i].list[j]?
  | p :: r, 0, h, j, hj => by
    show (p.list ++ nCells r)[0 * 5 + j]? = _
    rw [Nat.zero_mul, Nat.zero_add, List.getElem?_append_left (by simpa [NCells.list] using hj)]
    rfl
  | p :: r, i + 1, h, j, hj => by
    show (p.list ++ nCells r)[(i + 1) * 5 + j]? = _
    rw [List.getElem?_append_right (by simp [NCells.list]; omega), show (i + 1) * 5 + j - p.list.length = i * 5 + j by simp [NCells.list]; omega, nCells_at r i (by simpa using h) j hj]
    rfl
/-- A row's value written out; its nodes' cells. -/
theorem own_node_at {w : World} {base : Nat} {v : Value} {l : List NCells} (h : w.ownsRow base 28 5 v l.length (nCells l)) :
    ∃ (A : Option Addr) (n cap : Nat), v = .slice A n cap ∧ n = l.length ∧ n ≤ cap ∧ ∀ i (h : i < l.length), ∃ g o, A = some ⟨g, o, none⟩ ∧ o = 0 ∧ v.ownBlock = some g ∧ base ≤ g ∧ g < w.heap.size ∧ ∀ j, j < 5 → w.cell? ⟨g, o + i * 5 + j, none⟩ = l[i].list[j]? ∧ w.frozen? ⟨g, o + i * 5 + j, none⟩ = false := by
  rcases h.2 with ⟨rfl, h0⟩ | ⟨g, cap, cur, rfl, hb0, hb, h1, h2, h3, h4⟩
  · exact ⟨none, 0, 0, rfl, h0.symm, Nat.le_refl _, fun i hi => by omega⟩
  · refine ⟨_, _, cap, rfl, rfl, h1, fun i hi => ⟨g, 0, rfl, rfl, rfl, hb0, (Array.getElem?_eq_some_iff.1 hb).1, fun j hj => ⟨?_, blk_frozen hb _⟩⟩⟩
    have e3 : w.cell? ⟨g, 0 + i * 5 + j, none⟩ = cur[0 + i * 5 + j]? := by simp [World.cell?, hb]
    rw [e3, ← nCells_at l i hi j hj, ← h4, List.getElem?_take, if_pos (by omega), Array.getElem?_toList, Nat.zero_add]
/-- A row that is being made of nodes that were there. -/
structure MrgInv (w wr : World) (P : Nat → Prop) (v : Value) (out : List NCells) : Prop where
  own : wr.ownsRow w.heap.size 28 5 v out.length (nCells out)
  kids : ∀ c ∈ out, c.Fine w P
  below : Below w.heap.size w wr
theorem MrgInv.push {w w7 w8 : World} {P : Nat → Prop} {v v' : Value} {l : List NCells} {c : NCells} {o : Obj} (h : MrgInv w w7 P v l) (hc : c.Fine w P)
    (hown : w8.ownsRow w.heap.size 28 5 v' (l.length + 1) (nCells l ++ c.list)) (hg : (w7.alloc o).grownBy w8 v.ownBlock) : MrgInv w w8 P v' (l ++ [c]) := by
  refine ⟨by rw [nCells_snoc, List.length_append]; exact hown, ?_, ?_⟩
  · intro d hd
    rcases List.mem_append.1 hd with hd | hd
    · exact h.kids d hd
    · rw [List.mem_singleton.1 hd]
      exact hc
  · exact (h.below.alloc h.below.size o).grown hg (by have := h.below.size; simp; omega) (fun j hj => (h.own.lt j hj).1)
theorem MrgInv.text {w wr : World} {P : Nat → Prop} {v : Value} {l : List NCells} {c : NCells} {g : Nat} (h : MrgInv w wr P v (l ++ [c])) (hg : v.ownBlock = some g) (t : ByteArray) :
    MrgInv w (wr.setCell ⟨g, l.length * 5 + 3, none⟩ (.string t)) P v (l ++ [{ c with text := t }]) := by
  have hlt := h.own.lt g hg
  refine ⟨?_, ?_, h.below.setCell (p := ⟨g, _, none⟩) hlt.1 _⟩
  · have e : nCells (l ++ [{ c with text := t }]) = (nCells (l ++ [c])).set (l.length * 5 + 3) (.string t) := by
      rw [nCells_snoc, nCells_snoc, List.set_append_right _ _ (by rw [nCells_length]; omega), nCells_length, Nat.add_sub_cancel_left]
      rfl
    have := own_set h.own hg (l.length * 5 + 3) (.string t)
    rw [e, List.length_append]
    rw [List.length_append] at this
    exact this
  · intro d hd
    rcases List.mem_append.1 hd with hd | hd
    · exact h.kids d (by simp [hd])
    · rw [List.mem_singleton.1 hd]
      exact h.kids c (by simp)
theorem MrgInv.drew {w wr : World} {P : Nat → Prop} {v : Value} {l : List NCells} (h : MrgInv w wr P v l) : MrgInv w wr.drew P v l := ⟨h.own.drew, h.kids, h.below.drew⟩
theorem MrgInv.nil {w : World} (P : Nat → Prop) : MrgInv w w P (.slice none 0 0) [] := ⟨World.ownsRow_nil _ _ _ _, fun c hc => absurd hc (by simp), Below.refl _ _⟩
/-- As a row that is being made since then. -/
theorem MrgInv.row {w0 w wr : World} {P : Nat → Prop} {v : Value} {l : List NCells} (h : MrgInv w wr P v l) (hP : ∀ k, P k → NewB w0 w k) (hB : Below w0.heap.size w0 w) : RowInv w0 wr v l := by
  obtain ⟨h1, h2, h3⟩ := h
  refine ⟨⟨h1.1, ?_⟩, ⟨P, fun c hc => (h2 c hc).move (Stays.below h3 (fun k hk => (hP k hk).2)) (fun _ h => h), fun k hk => ⟨(hP k hk).1, Nat.lt_of_lt_of_le (hP k hk).2 h3.size⟩, fun k hk e => ?_⟩, hB.trans (h3.mono hB.size)⟩
  · rcases h1.2 with h | ⟨g, cap, cur, a, b, c⟩
    · exact .inl h
    · exact .inr ⟨g, cap, cur, a, Nat.le_trans hB.size b, c⟩
  · have := (h1.lt k e).1
    have := (hP k hk).2
    omega
theorem nFo_take_snoc (l : List NCells) (i : Nat) (h : i < l.length) : (nFo (l.take (i + 1))).size = (nFo (l.take i)).size + (1 + l[i].kids.size) := by
  rw [List.take_add_one, List.getElem?_eq_getElem h]
  exact nFo_snoc _ _
end Go.Proofs.YtghlodpbbghcoaaDoor
