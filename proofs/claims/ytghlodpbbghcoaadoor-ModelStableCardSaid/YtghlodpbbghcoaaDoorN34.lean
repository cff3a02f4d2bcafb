/- Rows of nodes made of old and new nodes. No program in sight. -/
import Derived.Test.YtghlodpbbghcoaaDoorN11a
namespace Go.Proofs.YtghlodpbbghcoaaDoor
open Go.Lib Go.RowKit
/-- Nodes in a row, as a list of cells. -/
theorem NRow.cells {w : World} {P : Nat → Prop} : ∀ {f : Fo} {b o : Nat}, NRow w P b o f → ∃ l : List NCells, nFo l = f ∧ (∀ c ∈ l, c.Fine w P) ∧ ∀ i (h : i < l.length), P b ∧ ∀ j, j < 5 → w.cell? ⟨b, o + i * 5 + j, none⟩ = l[i].list[j]?
  | .nil, _, _, _ => ⟨[], rfl, fun c hc => absurd hc (by simp), fun i h => absurd h (Nat.not_lt_zero _)⟩
  | .node k nm al tx kids rest, b, o, ⟨hB, h0, h1, ⟨va, h2, h2'⟩, h3, ⟨A, cap, h4, hc, h4'⟩, h5⟩ => by
    obtain ⟨l, hl, hf, ha⟩ := NRow.cells h5
    refine ⟨⟨k, nm, al, tx, kids, va, .slice A kids.len cap⟩ :: l, by rw [nFo, hl], ?_, ?_⟩
    · intro c hcm
      rcases List.mem_cons.1 hcm with rfl | hcm
      · exact ⟨h2', A, cap, rfl, hc, h4'⟩
      · exact hf c hcm
    · intro i hi
      refine ⟨hB, fun j hj => ?_⟩
      cases i with
      | zero =>
        rw [Nat.zero_mul, Nat.add_zero]
        show _ = (NCells.list ⟨k, nm, al, tx, kids, va, .slice A kids.len cap⟩)[j]?
        have : j = 0 ∨ j = 1 ∨ j = 2 ∨ j = 3 ∨ j = 4 := by omega
        rcases this with rfl | rfl | rfl | rfl | rfl
        · exact h0
        · exact h1
        · exact h2
        · exact h3
        · exact h4
      | succ i =>
        have := (ha i (by simpa using hi)).2 j hj
        rw [show o + 5 + i * 5 + j = o + (i + 1) * 5 + j by omega] at this
        exact this
theorem okF_mem {M : Nat} : ∀ (l : List NCells), okF M (nFo l) → ∀ c ∈ l, okC M c ∧ c.text.size ≤ M
  | [], _, c, hc => absurd hc (by simp)
  | d :: l, ⟨h1, h2, h3, h4, h5⟩, c, hc => by
    rcases List.mem_cons.1 hc with rfl | hc
    · exact ⟨⟨h1, h2, h4⟩, h3⟩
    · exact okF_mem l h5 c hc
/-- A row of nodes that is being made of old nodes (blocks of P) and of new ones. -/
structure StInv (w : World) (P : Nat → Prop) (wr : World) (v : Value) (l : List NCells) : Prop where
  own : wr.ownsRow w.heap.size 28 5 v l.length (nCells l)
  kids : ∃ Q : Nat → Prop, (∀ c ∈ l, c.Fine wr Q) ∧ (∀ k, Q k → P k ∨ NewB w wr k) ∧ (∀ k, Q k → v.ownBlock ≠ some k)
  below : Below w.heap.size w wr
theorem StInv.nil (w : World) (P : Nat → Prop) : StInv w P w (.slice none 0 0) [] := ⟨World.ownsRow_nil _ _ _ _, ⟨fun _ => False, fun c hc => absurd hc (by simp), fun k h => h.elim, fun k h => h.elim⟩, Below.refl _ _⟩
theorem StInv.carry {w wr w7 : World} {P : Nat → Prop} {v : Value} {l : List NCells} (hP : ∀ k, P k → k < w.heap.size) (h : StInv w P wr v l) (hB : Below wr.heap.size wr w7) : StInv w P w7 v l := by
  obtain ⟨h1, ⟨Q, h2, h3, h4⟩, h5⟩ := h
  have hQ : ∀ k, Q k → k < wr.heap.size := fun k hk => by
    rcases h3 k hk with h | h
    · exact Nat.lt_of_lt_of_le (hP k h) h5.size
    · exact h.2
  refine ⟨own_below h1 hB, ⟨Q, fun c hc => (h2 c hc).move (Stays.below hB hQ) (fun _ h => h), fun k hk => ?_, h4⟩, h5.trans (hB.mono h5.size)⟩
  rcases h3 k hk with h | h
  · exact .inl h
  · exact .inr ⟨h.1, Nat.lt_of_lt_of_le h.2 hB.size⟩
/-- A node more. -/
theorem StInv.push {w w7 w8 : World} {P R : Nat → Prop} {v v' : Value} {l : List NCells} {c : NCells} {o : Obj} (hP : ∀ k, P k → k < w.heap.size) (h : StInv w P w7 v l)
    (hc : c.Fine w7 R) (hR : ∀ k, R k → (P k ∨ NewB w w7 k) ∧ v.ownBlock ≠ some k) (hown : w8.ownsRow w.heap.size 28 5 v' (l.length + 1) (nCells l ++ c.list)) (hg : (w7.alloc o).grownBy w8 v.ownBlock)
    (hat : v'.ownBlock = v.ownBlock ∨ v'.ownBlock = some (w7.alloc o).heap.size) : StInv w P w8 v' (l ++ [c]) := by
  obtain ⟨h1, ⟨Q, h2, h3, h4⟩, h5⟩ := h
  have hs : w7.heap.size ≤ w8.heap.size := Nat.le_trans (by simp) hg.size
  have lt7 : ∀ k, P k ∨ NewB w w7 k → k < w7.heap.size := fun k hk => by
    rcases hk with h | h
    · exact Nat.lt_of_lt_of_le (hP k h) h5.size
    · exact h.2
  have key : ∀ {Q : Nat → Prop}, (∀ k, Q k → k < w7.heap.size ∧ v.ownBlock ≠ some k) → Stays Q w7 w8 := fun hQ => (Stays.alloc (fun k hk => (hQ k hk).1) o).trans (Stays.grown hg (fun k hk => ⟨Nat.lt_of_lt_of_le (hQ k hk).1 (by simp), (hQ k hk).2⟩))
  have up : ∀ k, P k ∨ NewB w w7 k → P k ∨ NewB w w8 k := fun k hk => by
    rcases hk with h | h
    · exact .inl h
    · exact .inr ⟨h.1, Nat.lt_of_lt_of_le h.2 hs⟩
  refine ⟨?_, ⟨fun k => Q k ∨ R k, ?_, ?_, ?_⟩, ?_⟩
  · rw [nCells_snoc, List.length_append]
    exact hown
  · intro d hd
    rcases List.mem_append.1 hd with hd | hd
    · exact (h2 d hd).move (key (fun k hk => ⟨lt7 k (h3 k hk), h4 k hk⟩)) (fun _ h => .inl h)
    · rw [List.mem_singleton.1 hd]
      exact hc.move (key (fun k hk => ⟨lt7 k (hR k hk).1, (hR k hk).2⟩)) (fun _ h => .inr h)
  · rintro k (hk | hk)
    · exact up k (h3 k hk)
    · exact up k (hR k hk).1
  · intro k hk e
    have hboth : k < w7.heap.size ∧ v.ownBlock ≠ some k := by
      rcases hk with hk | hk
      · exact ⟨lt7 k (h3 k hk), h4 k hk⟩
      · exact ⟨lt7 k (hR k hk).1, (hR k hk).2⟩
    rcases hat with e2 | e2
    · rw [e2] at e
      exact hboth.2 e
    · rw [e2] at e
      cases e
      have := hboth.1
      simp at this
      omega
  · exact (h5.alloc h5.size o).grown hg (by have := h5.size; simp; omega) (fun j hj => (h1.lt j hj).1)
/-- The row of a made row's nodes, with its own block. -/
theorem StInv.nrow {w wr : World} {P : Nat → Prop} {v : Value} {l : List NCells} (h : StInv w P wr v l) :
    ∃ (A : Option Addr) (n cap : Nat), v = .slice A n cap ∧ n = (nFo l).len ∧ n ≤ cap ∧ (0 < n → ∃ b o, A = some ⟨b, o, none⟩ ∧ NRow wr (fun k => P k ∨ NewB w wr k) b o (nFo l)) := by
  obtain ⟨h1, ⟨Q, h2, h3, h4⟩, h5⟩ := h
  obtain ⟨A, cap, rfl, hc, hk⟩ := own_nodes (Q := fun k => P k ∨ NewB w wr k) h1 h2 h3 (fun k hk => .inr (h1.lt k hk))
  exact ⟨A, _, cap, rfl, (nFo_len l).symm, hc, fun hp => by obtain ⟨b, e, _, _, hr⟩ := hk hp; exact ⟨b, 0, e, hr⟩⟩
theorem MrgInv.st {w wr : World} {P : Nat → Prop} {v : Value} {l : List NCells} (hP : ∀ k, P k → k < w.heap.size) (h : MrgInv w wr P v l) : StInv w P wr v l :=
  ⟨h.own, ⟨P, fun c hc => (h.kids c hc).move (Stays.below h.below hP) (fun _ h => h), fun k hk => .inl hk, fun k hk e => by have := (h.own.lt k e).1; have := hP k hk; omega⟩, h.below⟩
/-- A row merged of a made row is a made row. -/
theorem StInv.merged {w wr w' : World} {P Q : Nat → Prop} {v' : Value} {out : List NCells} (hP : ∀ k, P k → k < w.heap.size) (hB : Below w.heap.size w wr) (hQ : ∀ k, Q k → P k ∨ NewB w wr k) (h : MrgInv wr w' Q v' out) : StInv w P w' v' out := by
  have hlt : ∀ k, Q k → k < wr.heap.size := fun k hk => by
    rcases hQ k hk with h | h
    · exact Nat.lt_of_lt_of_le (hP k h) hB.size
    · exact h.2
  obtain ⟨h1, ⟨R, h2, h3, h4⟩, h5⟩ := h.st hlt
  refine ⟨⟨h1.1, ?_⟩, ⟨fun k => R k, h2, fun k hk => ?_, h4⟩, hB.trans (h5.mono hB.size)⟩
  · rcases h1.2 with h | ⟨g, cap, cur, a, b, c⟩
    · exact .inl h
    · exact .inr ⟨g, cap, cur, a, Nat.le_trans hB.size b, c⟩
  · rcases h3 k hk with h | h
    · rcases hQ k h with h | h
      · exact .inl h
      · exact .inr ⟨h.1, Nat.lt_of_lt_of_le h.2 h5.size⟩
    · exact .inr ⟨Nat.le_trans hB.size h.1, h.2⟩
end Go.Proofs.YtghlodpbbghcoaaDoor
