/- Nodes in memory, by a predicate on their blocks. No program in sight. -/
import Derived.Test.YtghlodpbbghcoaaDoorN2
import Derived.Test.YtghlodpbbghcoaaDoorBlk
namespace Go.Proofs.YtghlodpbbghcoaaDoor
open Go.Lib Go.RowKit
def ARow (w : World) (P : Nat → Prop) (v : Value) (al : List (ByteArray × ByteArray)) : Prop :=
  ∃ A cap, v = .slice A al.length cap ∧ al.length ≤ cap ∧ ∀ j (h : j < al.length), ∃ b o, A = some ⟨b, o, none⟩ ∧ P b ∧ w.cell? ⟨b, o + j * 2, none⟩ = some (.string al[j].1) ∧ w.cell? ⟨b, o + j * 2 + 1, none⟩ = some (.string al[j].2)
def NRow (w : World) (P : Nat → Prop) : Nat → Nat → Fo → Prop
  | _, _, .nil => True
  | b, o, .node k nm al tx kids rest => P b ∧ w.cell? ⟨b, o, none⟩ = some (.int .i64 k) ∧ w.cell? ⟨b, o + 1, none⟩ = some (.string nm) ∧ (∃ va, w.cell? ⟨b, o + 2, none⟩ = some va ∧ ARow w P va al) ∧
      w.cell? ⟨b, o + 3, none⟩ = some (.string tx) ∧ (∃ A cap, w.cell? ⟨b, o + 4, none⟩ = some (.slice A kids.len cap) ∧ kids.len ≤ cap ∧ (0 < kids.len → ∃ b' o', A = some ⟨b', o', none⟩ ∧ NRow w P b' o' kids)) ∧
      NRow w P b (o + 5) rest
/-- Blocks of a predicate stay as they are. -/
def Stays (P : Nat → Prop) (w w' : World) : Prop := ∀ k, P k → w'.heap[k]? = w.heap[k]?
theorem Stays.cell {P : Nat → Prop} {w w' : World} (h : Stays P w w') {a : Addr} (ha : P a.block) : w'.cell? a = w.cell? a := World.cell?_of_block (w := w) (h a.block ha)
theorem ARow.move {w w' : World} {P Q : Nat → Prop} {v : Value} {al : List (ByteArray × ByteArray)} (h : ARow w P v al) (hs : Stays P w w') (hq : ∀ k, P k → Q k) : ARow w' Q v al := by
  obtain ⟨A, cap, e, hc, h⟩ := h
  refine ⟨A, cap, e, hc, fun j hj => ?_⟩
  obtain ⟨b, o, e, hB, h1, h2⟩ := h j hj
  exact ⟨b, o, e, hq b hB, (hs.cell (a := ⟨b, o + j * 2, none⟩) hB).trans h1, (hs.cell (a := ⟨b, o + j * 2 + 1, none⟩) hB).trans h2⟩
theorem NRow.move {w w' : World} {P Q : Nat → Prop} (hs : Stays P w w') (hq : ∀ k, P k → Q k) : ∀ {f : Fo} {b o : Nat}, NRow w P b o f → NRow w' Q b o f
  | .nil, _, _, _ => trivial
  | .node k nm al tx kids rest, b, o, ⟨hB, h0, h1, ⟨va, h2, h2'⟩, h3, ⟨A, cap, h4, hc, h4'⟩, h5⟩ =>
    ⟨hq b hB, (hs.cell (a := ⟨b, o, none⟩) hB).trans h0, (hs.cell (a := ⟨b, o + 1, none⟩) hB).trans h1, ⟨va, (hs.cell (a := ⟨b, o + 2, none⟩) hB).trans h2, h2'.move hs hq⟩, (hs.cell (a := ⟨b, o + 3, none⟩) hB).trans h3,
      ⟨A, cap, (hs.cell (a := ⟨b, o + 4, none⟩) hB).trans h4, hc, fun hp => by obtain ⟨b', o', e, h⟩ := h4' hp; exact ⟨b', o', e, NRow.move hs hq h⟩⟩, NRow.move hs hq h5⟩
theorem ARow.at_ {w : World} {P : Nat → Prop} {B : Nat} (hP : ∀ k, P k → k < B) {v : Value} {al : List (ByteArray × ByteArray)} (h : ARow w P v al) : AttrsAt w B v al := by
  obtain ⟨A, cap, e, hc, h⟩ := h
  refine ⟨A, cap, e, hc, fun j hj => ?_⟩
  obtain ⟨b, o, e, hB, h1, h2⟩ := h j hj
  exact ⟨b, o, e, hP b hB, h1, h2⟩
theorem NRow.at_ {w : World} {P : Nat → Prop} {B : Nat} (hP : ∀ k, P k → k < B) : ∀ {f : Fo} {b o : Nat}, NRow w P b o f → RowAt w B b o f
  | .nil, _, _, _ => trivial
  | .node k nm al tx kids rest, b, o, ⟨hB, h0, h1, ⟨va, h2, h2'⟩, h3, ⟨A, cap, h4, hc, h4'⟩, h5⟩ =>
    ⟨hP b hB, h0, h1, ⟨va, h2, h2'.at_ hP⟩, h3, ⟨A, cap, h4, hc, fun hp => by obtain ⟨b', o', e, h⟩ := h4' hp; exact ⟨b', o', e, NRow.at_ hP h⟩⟩, NRow.at_ hP h5⟩
/-- What stands in a node's cells: the five, and what its slices point to. -/
structure NCells where
  kind : Int
  name : ByteArray
  attrs : List (ByteArray × ByteArray)
  text : ByteArray
  kids : Fo
  va : Value
  vk : Value
def NCells.list (c : NCells) : List Value := [.int .i64 c.kind, .string c.name, c.va, .string c.text, c.vk]
/-- What a node's slices point to, in memory. -/
def NCells.Fine (w : World) (P : Nat → Prop) (c : NCells) : Prop := ARow w P c.va c.attrs ∧ ∃ A cap, c.vk = .slice A c.kids.len cap ∧ c.kids.len ≤ cap ∧ (0 < c.kids.len → ∃ b o, A = some ⟨b, o, none⟩ ∧ NRow w P b o c.kids)
theorem NCells.Fine.move {w w' : World} {P Q : Nat → Prop} {c : NCells} (h : c.Fine w P) (hs : Stays P w w') (hq : ∀ k, P k → Q k) : c.Fine w' Q := by
  obtain ⟨h1, A, cap, e, hc, h2⟩ := h
  exact ⟨h1.move hs hq, A, cap, e, hc, fun hp => by obtain ⟨b, o, e, h⟩ := h2 hp; exact ⟨b, o, e, h.move hs hq⟩⟩
def nCells (l : List NCells) : List Value := l.flatMap NCells.list
def nFo : List NCells → Fo
  | [] => .nil
  | c :: r => .node c.kind c.name c.attrs c.text c.kids (nFo r)
theorem nFo_len : ∀ l : List NCells, (nFo l).len = l.length
  | [] => rfl
  | c :: r => by rw [nFo, Fo.len, nFo_len r, List.length_cons]
theorem nCells_length : ∀ l : List NCells, (nCells l).length = l.length * 5
  | [] => rfl
  | c :: r => by
    have := nCells_length r
    simp only [nCells, List.flatMap_cons, List.length_append, NCells.list, List.length_cons, List.length_nil] at this ⊢
    omega
theorem nRow_of {w : World} {P Q : Nat → Prop} {b : Nat} (hb : Q b) (hq : ∀ k, P k → Q k) : ∀ (l : List NCells) (o : Nat), (∀ c ∈ l, c.Fine w P) → (∀ j, j < l.length * 5 → w.cell? ⟨b, o + j, none⟩ = (nCells l)[j]?) → NRow w Q b o (nFo l)
  | [], _, _, _ => trivial
  | c :: r, o, hf, hc => by
    have e : nCells (c :: r) = c.list ++ nCells r := rfl
    have hl : c.list.length = 5 := rfl
    have g : ∀ j, j < 5 → w.cell? ⟨b, o + j, none⟩ = c.list[j]? := fun j hj => by
      rw [hc j (by rw [List.length_cons]; omega), e, List.getElem?_append_left (by omega)]
    obtain ⟨h1, A, cap, ek, hck, h2⟩ := (hf c (by simp)).move (w' := w) (fun _ _ => rfl) hq
    refine ⟨hb, g 0 (by decide), g 1 (by decide), ⟨_, g 2 (by decide), h1⟩, g 3 (by decide), ⟨A, cap, by rw [g 4 (by decide)]; simp [NCells.list, ek], hck, h2⟩, nRow_of hb hq r (o + 5) (fun d hd => hf d (by simp [hd])) (fun j hj => ?_)⟩
    have := hc (5 + j) (by rw [List.length_cons]; omega)
    rw [e, List.getElem?_append_right (by omega), hl, show o + (5 + j) = o + 5 + j by omega] at this
    rw [this]
    congr 1
    omega
end Go.Proofs.YtghlodpbbghcoaaDoor
