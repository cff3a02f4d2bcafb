/- Words for cells that are stored side by side; a struct that is handed back. -/
import Derived.Test.YtghlodpbbghcoaaGreatDoorMem
import Derived.Test.YtghlodpbbghcoaaGreatDoorProg
import Derived.Laws.Rows
import Derived.Laws.ResultCell
import Derived.Deep.MidRow
namespace Go.Proofs.YtghlodpbbghcoaaGreatDoor
open Go.RowKit
theorem blk_setCellsAll {g t : Nat} : ∀ (vs old pre : List Value) (w : World), old.length = vs.length → w.heap[g]? = some (.cells (pre ++ old).toArray t (0, 0)) →
    (w.setCells g pre.length vs).heap[g]? = some (.cells (pre ++ vs).toArray t (0, 0)) := by
  intro vs
  induction vs with
  | nil =>
    intro old pre w ho h
    obtain rfl : old = [] := List.eq_nil_of_length_eq_zero ho
    exact h
  | cons v vs ih =>
    intro old pre w ho h
    cases old with
    | nil => simp at ho
    | cons u old =>
      have h1 := blk_set_self h pre.length v
      have h2 : ((pre ++ u :: old).toArray).setIfInBounds pre.length v = ((pre ++ [v]) ++ old).toArray := by
        rw [List.setIfInBounds_toArray]
        simp
      rw [h2] at h1
      have h3 := ih old (pre ++ [v]) (w.setCell ⟨g, pre.length, none⟩ v) (by simpa using ho) h1
      have e1 : (pre ++ [v]) ++ vs = pre ++ v :: vs := by simp
      have e2 : (pre ++ [v]).length = pre.length + 1 := by simp
      rw [e1, e2] at h3
      exact h3
theorem heap_setCells_other {g x : Nat} (hx : x ≠ g) : ∀ (vs : List Value) (o : Nat) (w : World), (w.setCells g o vs).heap[x]? = w.heap[x]? := by
  intro vs
  induction vs with
  | nil => intro o w; rfl
  | cons v vs ih =>
    intro o w
    show ((w.setCell ⟨g, o, none⟩ v).setCells g (o + 1) vs).heap[x]? = _
    rw [ih]
    exact Below.heap_setCell w ⟨g, o, none⟩ v x hx
theorem setCells_size : ∀ (vs : List Value) (g o : Nat) (w : World), (w.setCells g o vs).heap.size = w.heap.size := by
  intro vs
  induction vs with
  | nil => intro g o w; rfl
  | cons v vs ih => intro g o w; show ((w.setCell ⟨g, o, none⟩ v).setCells g (o + 1) vs).heap.size = _; rw [ih]; simp
theorem below_setCells {B : Nat} {a : World} {b : Nat} (hb : B ≤ b) (vs : List Value) : ∀ (w : World) (o : Nat), Below B a w → Below B a (w.setCells b o vs) := by
  induction vs with
  | nil => intro w o h; exact h
  | cons v vs ih => intro w o h; exact ih _ _ (h.setCell (p := ⟨b, o, none⟩) hb v)
theorem there_of {w : World} {g : Nat} {cs : List Value} {t : TypeId} (h : w.heap[g]? = some (.cells cs.toArray t (0, 0))) : w.there g 0 cs.length := by
  intro j hj
  rw [Nat.zero_add]
  refine ⟨?_, blk_frozen h j⟩
  rw [blk_cell h j]
  simp [hj]
theorem blk_stored {w : World} {g : Nat} {old : List Value} {t : TypeId} (h : w.heap[g]? = some (.cells old.toArray t (0, 0))) (vs : List Value) (hl : old.length = vs.length) : (w.setCells g 0 vs).heap[g]? = some (.cells vs.toArray t (0, 0)) :=
  blk_setCellsAll vs old [] w hl h
theorem info30 : (Tryz.prog.info? 30).map (·.size) = some 3 := by kernel_rfl
theorem results_elt {fn : Func} {p u : Tmp} (h : fn.results = #[.cell p 30, .tmp u]) (tmps : Array Value) (w : World) {g : Nat} {a b c : Value}
    (hp : tmps.getD p undef = .pointer (some ⟨g, 0, none⟩)) (hb : w.heap[g]? = some (.cells #[a, b, c] 30 (0, 0))) : (results fn tmps).run Tryz.prog w = .ok (.tuple #[.agg #[a, b, c], tmps.getD u undef]) w := by
  have hp' : tmps[p]?.getD undef = .pointer (some ⟨g, 0, none⟩) := by simpa using hp
  rw [results_cell_tmp h]
  have hl := run_loadVar_row (P := Tryz.prog) w g 30 30 _ (0, 0) _ hb Tryz.underlying30 rfl info30
  simp [asAddr, hp', hl]
end Go.Proofs.YtghlodpbbghcoaaGreatDoor
