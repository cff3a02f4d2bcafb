/- Texts side by side merged: the plain part; words for flat nodes. -/
import Derived.Test.YtghlodpbbghcoaaDoorG1
import Derived.Test.YtghlodpbbghcoaaDoorG2
namespace Go.Proofs.YtghlodpbbghcoaaDoor
open Go.Lib Go.RowKit

abbrev Fl := Int × ByteArray
def flatCells (l : List Fl) : List Value := l.flatMap fun p => [.int .i64 p.1, .string ⟨#[]⟩, .slice none 0 0, .string p.2, .slice none 0 0]
theorem flatCells_length : ∀ l : List Fl, (flatCells l).length = l.length * 5
  | [] => rfl
  | p :: t => by
    have := flatCells_length t
    simp only [flatCells, List.flatMap_cons, List.length_append, List.length_cons, List.length_nil] at this ⊢
    omega
/-- Flat nodes in memory: no name, no attributes, no kids. -/
def FlatAt (w : World) (b o : Nat) (ns : List Fl) : Prop :=
  ∀ i (h : i < ns.length), w.cell? ⟨b, o + i * 5, none⟩ = some (.int .i64 ns[i].1) ∧ w.cell? ⟨b, o + i * 5 + 1, none⟩ = some (.string ⟨#[]⟩) ∧ w.cell? ⟨b, o + i * 5 + 2, none⟩ = some (.slice none 0 0) ∧ w.cell? ⟨b, o + i * 5 + 3, none⟩ = some (.string ns[i].2) ∧ w.cell? ⟨b, o + i * 5 + 4, none⟩ = some (.slice none 0 0)
theorem FlatAt.below {w w' : World} {b o : Nat} {ns : List Fl} (h : FlatAt w b o ns) (hb : b < w.heap.size) (hB : Below w.heap.size w w') : FlatAt w' b o ns := fun i hi => by
  obtain ⟨h0, h1, h2, h3, h4⟩ := h i hi
  exact ⟨(hB.cell (p := ⟨b, _, none⟩) hb).trans h0, (hB.cell (p := ⟨b, _, none⟩) hb).trans h1, (hB.cell (p := ⟨b, _, none⟩) hb).trans h2, (hB.cell (p := ⟨b, _, none⟩) hb).trans h3, (hB.cell (p := ⟨b, _, none⟩) hb).trans h4⟩
/-- Is a node one that may come in? -/
def fineIn (p : Fl) : Prop := (p.1 = 2 ∨ p.1 = 3) ∧ isL p.2.data.toList = true ∧ p.2.size ≤ 1000
/-- Nodes that may be (was there a text ahead?). -/
def goodRow : Bool → List Fl → Prop
  | _, [] => True
  | p, x :: r => (x.1 = 2 ∨ x.1 = 3) ∧ isL x.2.data.toList = true ∧ x.2.size ≤ 100000 ∧ (x.1 = 2 → x.2.toList.isEmpty = false ∧ p = false) ∧ goodRow (decide (x.1 = 2)) r
def lastT : Bool → List Fl → Bool
  | p, [] => p
  | _, x :: r => lastT (decide (x.1 = 2)) r
theorem goodRow_snoc : ∀ (p : Bool) (l : List Fl) (x : Fl), goodRow p l → (x.1 = 2 ∨ x.1 = 3) → isL x.2.data.toList = true → x.2.size ≤ 100000 → (x.1 = 2 → x.2.toList.isEmpty = false ∧ lastT p l = false) → goodRow p (l ++ [x])
  | p, [], x, _, h1, h2, h3, h4 => ⟨h1, h2, h3, h4, trivial⟩
  | p, y :: r, x, h, h1, h2, h3, h4 => ⟨h.1, h.2.1, h.2.2.1, h.2.2.2.1, goodRow_snoc _ r x h.2.2.2.2 h1 h2 h3 h4⟩
theorem lastT_snoc : ∀ (p : Bool) (l : List Fl) (x : Fl), lastT p (l ++ [x]) = decide (x.1 = 2)
  | p, [], x => rfl
  | p, y :: r, x => lastT_snoc _ r x
theorem textL_append (a b : List Int) : textL (a ++ b) = textL a ++ textL b := by simp [textL]
theorem isL_append {a b : List UInt8} (ha : isL a = true) (hb : isL b = true) : isL (a ++ b) = true := by
  have h1 := right_same a ha
  have h2 := right_same b hb
  have e : a ++ b = textL (rightR false (runesL a) ++ rightR false (runesL b)) := by
    rw [textL_append]
    exact congr (congrArg _ h1.symm) h2.symm
  rw [e]
  refine isL_text _ (fun r hr => ?_)
  rcases List.mem_append.1 hr with h | h
  · exact rightR_fine _ _ r h
  · exact rightR_fine _ _ r h
theorem own_below {w w' : World} {base : Nat} {e : TypeId} {size n : Nat} {v : Value} {xs : List Value} (h : w.ownsRow base e size v n xs) (hb : Below w.heap.size w w') : w'.ownsRow base e size v n xs := by
  obtain ⟨h1, h2⟩ := h
  refine ⟨h1, ?_⟩
  rcases h2 with h2 | ⟨g, cap, cur, h3, h4, h5, h6⟩
  · exact Or.inl h2
  · exact Or.inr ⟨g, cap, cur, h3, h4, blk_below h5 hb (blk_lt h5), h6⟩
theorem info28 : (Tryd.prog.info? 28).map (fun i => (i.zero, i.size, i.bytes)) = some (some (.agg #[.int .i64 0, .string ⟨#[]⟩, .slice none 0 0, .string ⟨#[]⟩, .slice none 0 0]), 5, 88) := by kernel_rfl
end Go.Proofs.YtghlodpbbghcoaaDoor
