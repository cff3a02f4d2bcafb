/- Words for memory: cells that lie at an address; boxes; owned rows read as lists. No program in sight. -/
import Derived.Below
import Derived.Laws.Rows
import Derived.Laws.NewBlocks
import Derived.Laws.OwnMore
import Derived.Laws.MakeOwn
import Derived.OwnWalk
import Derived.Lib.Hide
import Derived.Deep.Draws
import Derived.Maps.AppendAt
namespace Go.Proofs.YtghlodpbbghcoaaGreatDoor
open Go.RowKit

/-- The cells xs lie, in world w, at the address A, in a block below B. -/
def CellsAt (w : World) (B : Nat) (A : Option Addr) (xs : List Value) : Prop :=
  ∀ j (h : j < xs.length), ∃ b o, A = some ⟨b, o, none⟩ ∧ b < B ∧ w.cell? ⟨b, o + j, none⟩ = some xs[j]

namespace CellsAt
variable {w w' : World} {B B' : Nat} {A : Option Addr} {xs : List Value}
theorem nil : CellsAt w B A [] := fun _ h => absurd h (by simp)
theorem below (h : CellsAt w B A xs) (hb : Below B w w') : CellsAt w' B A xs := fun j hj =>
  let ⟨b, o, h1, h2, h3⟩ := h j hj
  ⟨b, o, h1, h2, (hb.cell h2).trans h3⟩
theorem alloc (h : CellsAt w B A xs) (hB : B ≤ w.heap.size) (o : Obj) : CellsAt (w.alloc o) B A xs := h.below ((Below.refl _ _).alloc hB _)
theorem drew (h : CellsAt w B A xs) : CellsAt w.drew B A xs := h
theorem drewN (h : CellsAt w B A xs) (n : Nat) : CellsAt (w.drewN n) B A xs := h
theorem more (h : CellsAt w B A xs) (hB : B ≤ B') : CellsAt w B' A xs := fun j hj =>
  let ⟨b, o, h1, h2, h3⟩ := h j hj
  ⟨b, o, h1, by omega, h3⟩
theorem take (h : CellsAt w B A xs) (n : Nat) : CellsAt w B A (xs.take n) := fun j hj => by
  have hl : j < xs.length := by rw [List.length_take] at hj; omega
  obtain ⟨b, o, h1, h2, h3⟩ := h j hl
  exact ⟨b, o, h1, h2, by rw [h3, List.getElem_take]⟩
theorem at_ (h : CellsAt w B A xs) {j : Nat} {v : Value} (hj : xs[j]? = some v) : ∃ b o, A = some ⟨b, o, none⟩ ∧ b < B ∧ w.cell? ⟨b, o + j, none⟩ = some v := by
  obtain ⟨hl, he⟩ := List.getElem?_eq_some_iff.1 hj
  obtain ⟨b, o, h1, h2, h3⟩ := h j hl
  exact ⟨b, o, h1, h2, by rw [h3, he]⟩
theorem of_own {base : Nat} {e : TypeId} {size n c : Nat} (h : w.ownsRow base e size (.slice A n c) n xs) : CellsAt w w.heap.size A xs := by
  intro j hj
  obtain ⟨h1, h2⟩ := h
  rcases h2 with ⟨hv, hn⟩ | ⟨g, cap, cur, hv, hg, hh, hnc, hcm, hcs, ht⟩
  · subst hn; simp at h1; subst h1; simp at hj
  · injection hv with hA hn hc
    subst hA
    have hlt : g < w.heap.size := (Array.getElem?_eq_some_iff.1 hh).1
    refine ⟨g, 0, rfl, hlt, ?_⟩
    have : xs[j]? = some xs[j] := List.getElem?_eq_getElem hj
    rw [← this, ← ht, List.getElem?_take, if_pos (by rw [ht] at *; omega)]
    simp [World.cell?, hh]
end CellsAt

/-- Lists of things of m cells each. -/
def flat {α : Type} (enc : α → List Value) (l : List α) : List Value := l.flatMap enc
theorem flat_length {α : Type} {enc : α → List Value} {m : Nat} (hm : ∀ x, (enc x).length = m) (l : List α) : (flat enc l).length = l.length * m := by
  induction l with
  | nil => simp [flat]
  | cons x l ih =>
    show (enc x ++ flat enc l).length = _
    rw [List.length_append, ih, hm, List.length_cons, Nat.add_mul, Nat.one_mul, Nat.add_comm]
theorem flat_get {α : Type} {enc : α → List Value} {m : Nat} (hm : ∀ x, (enc x).length = m) {l : List α} {k j : Nat} {x : α} (hk : l[k]? = some x) (hj : j < m) : (flat enc l)[k * m + j]? = (enc x)[j]? := by
  induction l generalizing k with
  | nil => simp at hk
  | cons y l ih =>
    show (enc y ++ flat enc l)[k * m + j]? = _
    cases k with
    | zero =>
      simp at hk; subst hk
      rw [List.getElem?_append_left (by rw [hm]; omega)]; simp
    | succ k =>
      simp at hk
      rw [List.getElem?_append_right (by rw [hm, Nat.add_mul]; omega), hm]
      rw [show (k + 1) * m + j - m = k * m + j from by rw [Nat.add_mul]; omega]
      exact ih hk
theorem flat_append {α : Type} {enc : α → List Value} (l l' : List α) : flat enc (l ++ l') = flat enc l ++ flat enc l' := by simp [flat]
theorem flat_one {α : Type} {enc : α → List Value} (x : α) : flat enc [x] = enc x := by simp [flat]
theorem flat_take {α : Type} {enc : α → List Value} {m : Nat} (hm : ∀ x, (enc x).length = m) (l : List α) (n : Nat) : flat enc (l.take n) = (flat enc l).take (n * m) := by
  induction l generalizing n with
  | nil => simp [flat]
  | cons x l ih =>
    cases n with
    | zero => simp [flat]
    | succ n =>
      show enc x ++ flat enc (l.take n) = (enc x ++ flat enc l).take _
      have h : (n + 1) * m = (enc x).length + n * m := by rw [hm, Nat.add_mul]; omega
      rw [ih, h, List.take_length_add_append]

/-- What a new box holds, in every later world that leaves it alone. -/
theorem boxed {w wr : World} {cs : Array Value} {t : TypeId} (hb : Below (w.heap.size + 1) (w.alloc (.cells cs t)) wr) (i : Nat) : wr.cell? ⟨w.heap.size, i, none⟩ = cs[i]? :=
  (hb.cell (p := ⟨w.heap.size, i, none⟩) (by simp)).trans (by simp)
theorem boxed_lt {w wr : World} {o : Obj} (hb : Below (w.heap.size + 1) (w.alloc o) wr) : w.heap.size < wr.heap.size := by
  have := hb.size
  simp at this; omega
theorem unbox {w wr : World} {o : Obj} (hb : Below (w.heap.size + 1) (w.alloc o) wr) : Below w.heap.size w wr :=
  ((Below.refl _ _).alloc (Nat.le_refl _) _).trans (hb.mono (by omega))
theorem boxed4 {w wr : World} {a b c d : Value} {t : TypeId} (hb : Below (w.heap.size + 1) (w.alloc (.cells #[a, b, c, d] t)) wr) :
    wr.cell? ⟨w.heap.size, 0, none⟩ = some a ∧ wr.cell? ⟨w.heap.size, 1, none⟩ = some b ∧ wr.cell? ⟨w.heap.size, 2, none⟩ = some c ∧ wr.cell? ⟨w.heap.size, 3, none⟩ = some d ∧ w.heap.size < wr.heap.size :=
  ⟨boxed hb 0, boxed hb 1, boxed hb 2, boxed hb 3, boxed_lt hb⟩
theorem boxed3 {w wr : World} {a b c : Value} {t : TypeId} (hb : Below (w.heap.size + 1) (w.alloc (.cells #[a, b, c] t)) wr) :
    wr.cell? ⟨w.heap.size, 0, none⟩ = some a ∧ wr.cell? ⟨w.heap.size, 1, none⟩ = some b ∧ wr.cell? ⟨w.heap.size, 2, none⟩ = some c ∧ w.heap.size < wr.heap.size :=
  ⟨boxed hb 0, boxed hb 1, boxed hb 2, boxed_lt hb⟩
theorem ret_int {k : IntKind} {a b : Int} (h : a = b) : Ending.returned (.int k a) = .returned (.int k b) := by rw [h]
theorem ret_bool {a b : Bool} (h : a = b) : Ending.returned (.bool a) = .returned (.bool b) := by rw [h]

theorem _root_.Go.World.ownsRow.drewN {w : World} {base : Nat} {e : TypeId} {size : Nat} {v : Value} {n : Nat} {xs : List Value} (h : w.ownsRow base e size v n xs) (k : Nat) : (w.drewN k).ownsRow base e size v n xs := h
/-- 'out = append(out, x..)', the new elements in a block that has just been made: what is owned is owned, and longer; where it lies. -/
theorem wpList_append_new_at {P : Program} {ops : Array Oper} {rest : List Oper} {o : Oper} {a : Act} {Q : Exit → Act → World → Prop} {w0 : World} {cs : Array Value} {e t : TypeId} {z : Value} {size bytes : Nat}
    (hinfo : (P.info? e).map (fun i => (i.zero, i.size, i.bytes)) = some (some z, size, bytes)) (ht : P.underlying t = some (.slice e)) (hzs : z.cells.size = size) (hsz : 0 < size) (hby : bytes ≤ 100000)
    (base : Nat) {v : Value} {n : Nat} {xs : List Value} (hown : w0.ownsRow base e size v n xs) (m : Nat) (hgd : o.guard = none) (s x : Operand)
    (ho : o.op = .call { callee := .builtin .append, args := #[s, x], argTypes := #[t, t] }) (hs : a.eval s = v) {g : Nat} (hx : a.eval x = .slice (some ⟨g, 0, none⟩) m m) (hgs : g = w0.heap.size)
    (hl : cs.size = m * size) (h1 : cs.toList.all Value.oneCell' = true) (hsmall : n + m ≤ 1000000000) (hbase : base ≤ w0.heap.size)
    (h : ∀ v' w', w'.ownsRow base e size v' (n + m) (xs ++ cs.toList) → Below base w0 w' → w0.heap.size < w'.heap.size → w0.grownBy w' v.ownBlock → (∀ k, v'.ownBlock = some k → v.ownBlock = some k ∨ w0.heap.size < k) → wpList P ops Q rest (a.put o.dst v') w') :
    wpList P ops Q (o :: rest) a (w0.alloc (.cells cs e)) := by
  subst hgs
  obtain ⟨i, hi, hz0, hz1, hz2⟩ := info_parts hinfo
  have hbb : (n + m) * bytes ≤ 1000000000 * 100000 := Nat.mul_le_mul hsmall hby
  refine wpList_append_own_at _ hgd s x t ho base e i z size bytes ht hi hz0 hz1 hz2 hzs hsz v n xs hs (hown.alloc _) ⟨w0.heap.size, 0, none⟩ m m cs.toList hx (by simpa using hl) ?_ ?_ (by unfold maxLen; omega) (by omega) (by simp; omega) ?_
  · intro j u hj
    have hadd : (⟨w0.heap.size, 0, none⟩ : Addr).add j = ⟨w0.heap.size, j, none⟩ := by unfold Addr.add; split <;> simp_all
    rw [hadd, World.cell?_alloc_new]
    simpa using hj
  · intro u hu
    exact List.all_eq_true.1 h1 u hu
  · intro v' w' ho' hg _ hat
    have hg0 : w0.grownBy w' v.ownBlock := ⟨hg.os, hg.tape, hg.output, by have := hg.size; simp at this; omega, fun k hk hne => (hg.block k (by simp; omega) hne).trans (heap_alloc_old w0 _ k hk)⟩
    refine h v' w' ho' ?_ (by have := hg.size; simp at this; omega) hg0 ?_
    · exact ⟨hg0.os, hg0.tape, hg0.output, hg0.size, fun k hk => hg0.block k (by omega) (fun e => by have := hown.lt k e.symm; omega)⟩
    · intro k hk
      rcases hat with hat | hat
      · exact .inl (hat.symm.trans hk)
      · rw [hat] at hk
        simp at hk
        exact .inr (by omega)
theorem wpList_append_new {P : Program} {ops : Array Oper} {rest : List Oper} {o : Oper} {a : Act} {Q : Exit → Act → World → Prop} {w0 : World} {cs : Array Value} {e t : TypeId} {z : Value} {size bytes : Nat}
    (hinfo : (P.info? e).map (fun i => (i.zero, i.size, i.bytes)) = some (some z, size, bytes)) (ht : P.underlying t = some (.slice e)) (hzs : z.cells.size = size) (hsz : 0 < size) (hby : bytes ≤ 100000)
    (base : Nat) {v : Value} {n : Nat} {xs : List Value} (hown : w0.ownsRow base e size v n xs) (m : Nat) (hgd : o.guard = none) (s x : Operand)
    (ho : o.op = .call { callee := .builtin .append, args := #[s, x], argTypes := #[t, t] }) (hs : a.eval s = v) {g : Nat} (hx : a.eval x = .slice (some ⟨g, 0, none⟩) m m) (hgs : g = w0.heap.size)
    (hl : cs.size = m * size) (h1 : cs.toList.all Value.oneCell' = true) (hsmall : n + m ≤ 1000000000) (hbase : base ≤ w0.heap.size)
    (h : ∀ v' w', w'.ownsRow base e size v' (n + m) (xs ++ cs.toList) → Below base w0 w' → w0.heap.size < w'.heap.size → w0.grownBy w' v.ownBlock → wpList P ops Q rest (a.put o.dst v') w') :
    wpList P ops Q (o :: rest) a (w0.alloc (.cells cs e)) :=
  wpList_append_new_at hinfo ht hzs hsz hby base hown m hgd s x ho hs hx hgs hl h1 hsmall hbase (fun v' w' a b c d _ => h v' w' a b c d)

theorem blk_cell {w : World} {g : Nat} {cs : Array Value} {t : TypeId} (h : w.heap[g]? = some (.cells cs t (0, 0))) (i : Nat) : w.cell? ⟨g, i, none⟩ = cs[i]? := by simp [World.cell?, h]
theorem blk_lt {w : World} {g : Nat} {o : Obj} (h : w.heap[g]? = some o) : g < w.heap.size := (Array.getElem?_eq_some_iff.1 h).1
theorem blk_alloc {w : World} {g : Nat} {o : Obj} (h : w.heap[g]? = some o) (o' : Obj) : (w.alloc o').heap[g]? = some o := (Below.heap_alloc w o' g (blk_lt h)).trans h
theorem blk_new (w : World) (o : Obj) : (w.alloc o).heap[w.heap.size]? = some o := (heap_alloc_new w o)
theorem blk_below {B : Nat} {w w' : World} {g : Nat} {o : Obj} (h : w.heap[g]? = some o) (hb : Below B w w') (hg : g < B) : w'.heap[g]? = some o := (hb.block g hg).trans h
theorem blk_set {w : World} {g : Nat} {o : Obj} (h : w.heap[g]? = some o) {p : Addr} (hp : g ≠ p.block) (u : Value) : (w.setCell p u).heap[g]? = some o := (Below.heap_setCell w p u g hp).trans h
theorem blk_new' {w : World} {o : Obj} {g : Nat} (h : g = w.heap.size) : (w.alloc o).heap[g]? = some o := by subst h; exact blk_new w o
theorem blk_drew {w : World} {g : Nat} {o : Obj} (h : w.heap[g]? = some o) : w.drew.heap[g]? = some o := h
theorem blk_grown {w w' : World} {g : Nat} {o : Obj} {row : Option Nat} (h : w.heap[g]? = some o) (hg : w.grownBy w' row) (hne : row ≠ some g) : w'.heap[g]? = some o := (hg.block g (blk_lt h) (Ne.symm hne)).trans h
theorem blk_set_self {w : World} {g : Nat} {cs : Array Value} {t : TypeId} (h : w.heap[g]? = some (.cells cs t (0, 0))) (i : Nat) (u : Value) : (w.setCell ⟨g, i, none⟩ u).heap[g]? = some (.cells (cs.setIfInBounds i u) t (0, 0)) := by
  simp [World.setCell, Array.getElem?_modify, h]
theorem blk_frozen {w : World} {g : Nat} {cs : Array Value} {t : TypeId} (h : w.heap[g]? = some (.cells cs t (0, 0))) (i : Nat) : w.frozen? ⟨g, i, none⟩ = false := by simp [World.frozen?, h]
theorem own_form {w : World} {base : Nat} {e : TypeId} {size n : Nat} {v : Value} {xs : List Value} (h : w.ownsRow base e size v n xs) : ∃ A c, v = .slice A n c ∧ w.ownsRow base e size (.slice A n c) n xs := by
  obtain ⟨h1, h2⟩ := h
  rcases h2 with ⟨rfl, hn⟩ | ⟨g, cap, cur, rfl, r⟩
  · exact ⟨none, 0, by rw [hn], h1, .inl ⟨by rw [hn], hn⟩⟩
  · exact ⟨some ⟨g, 0, none⟩, cap, rfl, h1, .inr ⟨g, cap, cur, rfl, r⟩⟩
theorem own_ne {w : World} {base : Nat} {e t : TypeId} {size n g : Nat} {v : Value} {xs : List Value} {cs : Array Value} (h : w.ownsRow base e size v n xs) (hg : w.heap[g]? = some (.cells cs t (0, 0))) (hne : e ≠ t) : v.ownBlock ≠ some g := by
  rcases h.2 with ⟨rfl, _⟩ | ⟨g', cap, cur, rfl, _, hh, _⟩
  · simp [Value.ownBlock]
  · intro he
    have : g' = g := by simpa [Value.ownBlock] using he
    subst this
    rw [hg] at hh
    injection hh with hh
    injection hh with _ ht
    exact hne ht.symm
theorem own_ne_lt {w : World} {base : Nat} {e : TypeId} {size n g : Nat} {v : Value} {xs : List Value} (h : w.ownsRow base e size v n xs) (hg : g < base) : v.ownBlock ≠ some g := by
  intro he
  have := h.lt g he
  omega
theorem own_below {w w' : World} {base B : Nat} {e : TypeId} {size n : Nat} {v : Value} {xs : List Value} (h : w.ownsRow base e size v n xs) (hb : Below B w w') (hB : w.heap.size ≤ B) : w'.ownsRow base e size v n xs := by
  obtain ⟨h1, h2⟩ := h
  refine ⟨h1, ?_⟩
  rcases h2 with h2 | ⟨g, cap, cur, hv, hg, hh, r⟩
  · exact .inl h2
  · exact .inr ⟨g, cap, cur, hv, hg, blk_below hh hb (Nat.lt_of_lt_of_le (blk_lt hh) hB), r⟩
end Go.Proofs.YtghlodpbbghcoaaGreatDoor

/- Policies: plain, and as they lie in memory (by a predicate on blocks). No program in sight. -/
namespace Go.Proofs.YtghlodpbbghcoaaGreatDoor
open Go.RowKit
structure Rul where
  name : ByteArray
  kind : Int
  words : List ByteArray
  regex : ByteArray
  req : Bool
structure Elt where
  name : ByteArray
  kids : List ByteArray
  rules : List Rul
structure Pol where
  top : List ByteArray
  elts : List Elt
  unwrap : List ByteArray
/-- Blocks of a predicate stay as they are. -/
def Stays (P : Nat → Prop) (w w' : World) : Prop := ∀ k, P k → w'.heap[k]? = w.heap[k]?
theorem Stays.cell {P : Nat → Prop} {w w' : World} (h : Stays P w w') {a : Addr} (ha : P a.block) : w'.cell? a = w.cell? a := World.cell?_of_block (w := w) (h a.block ha)
theorem Stays.refl (P : Nat → Prop) (w : World) : Stays P w w := fun _ _ => rfl
theorem Stays.trans {P : Nat → Prop} {a b c : World} (h : Stays P a b) (k : Stays P b c) : Stays P a c := fun x hx => (k x hx).trans (h x hx)
theorem Stays.below {P : Nat → Prop} {w w' : World} {n : Nat} (h : Below n w w') (hp : ∀ k, P k → k < n) : Stays P w w' := fun k hk => h.block k (hp k hk)
theorem Stays.set {P : Nat → Prop} {w : World} {p : Addr} (hp : ¬ P p.block) (u : Value) : Stays P w (w.setCell p u) := fun k hk => Below.heap_setCell w p u k (fun e => hp (e ▸ hk))
theorem Stays.alloc {P : Nat → Prop} {w : World} (hp : ∀ k, P k → k < w.heap.size) (o : Obj) : Stays P w (w.alloc o) := fun k hk => Below.heap_alloc w o k (hp k hk)
theorem Stays.grown {P : Nat → Prop} {w w' : World} {row : Option Nat} (hg : w.grownBy w' row) (hp : ∀ k, P k → k < w.heap.size ∧ row ≠ some k) : Stays P w w' := fun k hk => hg.block k (hp k hk).1 (Ne.symm (hp k hk).2)
theorem Stays.mono {P Q : Nat → Prop} {w w' : World} (h : Stays P w w') (hq : ∀ k, Q k → P k) : Stays Q w w' := fun k hk => h k (hq k hk)
/-- A slice whose elements have so many cells each. -/
def CRow (w : World) (P : Nat → Prop) (size : Nat) (v : Value) (cs : List (List Value)) : Prop :=
  ∃ A cap, v = .slice A cs.length cap ∧ cs.length ≤ cap ∧ ∀ j (h : j < cs.length), ∃ b o, A = some ⟨b, o, none⟩ ∧ P b ∧ ∀ i, i < size → w.cell? ⟨b, o + j * size + i, none⟩ = cs[j][i]?
theorem CRow.move {w w' : World} {P Q : Nat → Prop} {size : Nat} {v : Value} {cs : List (List Value)} (h : CRow w P size v cs) (hs : Stays P w w') (hq : ∀ k, P k → Q k) : CRow w' Q size v cs := by
  obtain ⟨A, cap, e, hc, h⟩ := h
  refine ⟨A, cap, e, hc, fun j hj => ?_⟩
  obtain ⟨b, o, e, hB, h1⟩ := h j hj
  exact ⟨b, o, e, hq b hB, fun i hi => (hs.cell (a := ⟨b, o + j * size + i, none⟩) hB).trans (h1 i hi)⟩
theorem CRow.nil (w : World) (P : Nat → Prop) (size : Nat) : CRow w P size (.slice none 0 0) [] := ⟨none, 0, rfl, Nat.le_refl _, fun _ hj => absurd hj (Nat.not_lt_zero _)⟩
theorem CRow.some_nil (w : World) (P : Nat → Prop) (size : Nat) (A : Option Addr) (cap : Nat) : CRow w P size (.slice A 0 cap) [] := ⟨A, cap, rfl, Nat.zero_le _, fun _ hj => absurd hj (Nat.not_lt_zero _)⟩
def sCells (l : List ByteArray) : List (List Value) := l.map fun s => [.string s]
/-- A slice of texts. -/
def StrsAt (w : World) (P : Nat → Prop) (v : Value) (l : List ByteArray) : Prop := CRow w P 1 v (sCells l)
theorem StrsAt.move {w w' : World} {P Q : Nat → Prop} {v : Value} {l : List ByteArray} (h : StrsAt w P v l) (hs : Stays P w w') (hq : ∀ k, P k → Q k) : StrsAt w' Q v l := CRow.move h hs hq
theorem StrsAt.form {w : World} {P : Nat → Prop} {v : Value} {l : List ByteArray} (h : StrsAt w P v l) :
    ∃ (A : Option Addr) (n cap : Nat), v = .slice A n cap ∧ n = l.length ∧ n ≤ cap ∧ (0 < n → ∃ b o, A = some ⟨b, o, none⟩ ∧ P b ∧ ∀ j (hj : j < l.length), w.cell? ⟨b, o + j, none⟩ = some (.string l[j])) := by
  obtain ⟨A, cap, rfl, hc, h⟩ := h
  have hl : (sCells l).length = l.length := List.length_map _
  refine ⟨A, _, cap, rfl, hl, hc, fun hp => ?_⟩
  obtain ⟨b, o, rfl, hb, _⟩ := h 0 hp
  refine ⟨b, o, rfl, hb, fun j hj => ?_⟩
  obtain ⟨b', o', e, _, h1⟩ := h j (by rw [hl]; exact hj)
  simp only [Option.some.injEq, Addr.mk.injEq, and_true] at e
  obtain ⟨rfl, rfl⟩ := e
  have := h1 0 (by decide)
  rw [Nat.mul_one, Nat.add_zero] at this
  rw [this]
  simp [sCells]
structure RulC where
  name : ByteArray
  kind : Int
  vw : Value
  words : List ByteArray
  regex : ByteArray
  req : Bool
def RulC.rul (c : RulC) : Rul := ⟨c.name, c.kind, c.words, c.regex, c.req⟩
def RulC.list (c : RulC) : List Value := [.string c.name, .int .i64 c.kind, c.vw, .string c.regex, .bool c.req]
/-- A slice of rules. -/
def RulsAt (w : World) (P : Nat → Prop) (v : Value) (l : List Rul) : Prop := ∃ cs : List RulC, cs.map RulC.rul = l ∧ (∀ c ∈ cs, StrsAt w P c.vw c.words) ∧ CRow w P 5 v (cs.map RulC.list)
theorem RulsAt.move {w w' : World} {P Q : Nat → Prop} {v : Value} {l : List Rul} (h : RulsAt w P v l) (hs : Stays P w w') (hq : ∀ k, P k → Q k) : RulsAt w' Q v l := by
  obtain ⟨cs, e, h1, h2⟩ := h
  exact ⟨cs, e, fun c hc => (h1 c hc).move hs hq, h2.move hs hq⟩
theorem RulsAt.nil (w : World) (P : Nat → Prop) : RulsAt w P (.slice none 0 0) [] := ⟨[], rfl, fun c hc => absurd hc (by simp), CRow.nil _ _ _⟩
structure EltC where
  name : ByteArray
  vk : Value
  kids : List ByteArray
  vr : Value
  rules : List Rul
def EltC.elt (c : EltC) : Elt := ⟨c.name, c.kids, c.rules⟩
def EltC.list (c : EltC) : List Value := [.string c.name, c.vk, c.vr]
def EltC.Fine (w : World) (P : Nat → Prop) (c : EltC) : Prop := StrsAt w P c.vk c.kids ∧ RulsAt w P c.vr c.rules
theorem EltC.Fine.move {w w' : World} {P Q : Nat → Prop} {c : EltC} (h : c.Fine w P) (hs : Stays P w w') (hq : ∀ k, P k → Q k) : c.Fine w' Q := ⟨h.1.move hs hq, h.2.move hs hq⟩
/-- A slice of elements. -/
def EltsAt (w : World) (P : Nat → Prop) (v : Value) (l : List Elt) : Prop := ∃ cs : List EltC, cs.map EltC.elt = l ∧ (∀ c ∈ cs, c.Fine w P) ∧ CRow w P 3 v (cs.map EltC.list)
theorem EltsAt.move {w w' : World} {P Q : Nat → Prop} {v : Value} {l : List Elt} (h : EltsAt w P v l) (hs : Stays P w w') (hq : ∀ k, P k → Q k) : EltsAt w' Q v l := by
  obtain ⟨cs, e, h1, h2⟩ := h
  exact ⟨cs, e, fun c hc => (h1 c hc).move hs hq, h2.move hs hq⟩
/-- A policy's three cells. -/
structure PolAt (w : World) (P : Nat → Prop) (vt ve vu : Value) (p : Pol) : Prop where
  top : StrsAt w P vt p.top
  elts : EltsAt w P ve p.elts
  unwrap : StrsAt w P vu p.unwrap
theorem PolAt.move {w w' : World} {P Q : Nat → Prop} {vt ve vu : Value} {p : Pol} (h : PolAt w P vt ve vu p) (hs : Stays P w w') (hq : ∀ k, P k → Q k) : PolAt w' Q vt ve vu p := ⟨h.top.move hs hq, h.elts.move hs hq, h.unwrap.move hs hq⟩
theorem CRow.form {w : World} {P : Nat → Prop} {size : Nat} {v : Value} {cs : List (List Value)} (h : CRow w P size v cs) :
    ∃ (A : Option Addr) (n cap : Nat), v = .slice A n cap ∧ n = cs.length ∧ n ≤ cap ∧ (0 < n → ∃ b o, A = some ⟨b, o, none⟩ ∧ P b ∧ ∀ j (hj : j < cs.length), ∀ i, i < size → w.cell? ⟨b, o + j * size + i, none⟩ = cs[j][i]?) := by
  obtain ⟨A, cap, rfl, hc, h⟩ := h
  refine ⟨A, _, cap, rfl, rfl, hc, fun hp => ?_⟩
  obtain ⟨b, o, rfl, hb, _⟩ := h 0 hp
  refine ⟨b, o, rfl, hb, fun j hj => ?_⟩
  obtain ⟨b', o', e, _, h1⟩ := h j hj
  simp only [Option.some.injEq, Addr.mk.injEq, and_true] at e
  obtain ⟨rfl, rfl⟩ := e
  exact h1
/-- Elements in a slice, one by one. -/
theorem EltsAt.form {w : World} {P : Nat → Prop} {v : Value} {l : List Elt} (h : EltsAt w P v l) :
    ∃ (A : Option Addr) (n cap : Nat), v = .slice A n cap ∧ n = l.length ∧ n ≤ cap ∧ (0 < n → ∃ b o, A = some ⟨b, o, none⟩ ∧ P b ∧ ∀ j (hj : j < l.length), ∃ vk vr,
      w.cell? ⟨b, o + j * 3, none⟩ = some (.string l[j].name) ∧ w.cell? ⟨b, o + j * 3 + 1, none⟩ = some vk ∧ w.cell? ⟨b, o + j * 3 + 2, none⟩ = some vr ∧ StrsAt w P vk l[j].kids ∧ RulsAt w P vr l[j].rules) := by
  obtain ⟨cs, rfl, hf, h⟩ := h
  obtain ⟨A, n, cap, rfl, hn, hc, h⟩ := h.form
  rw [List.length_map] at hn
  refine ⟨A, n, cap, rfl, by rw [hn, List.length_map], hc, fun hp => ?_⟩
  obtain ⟨b, o, rfl, hb, h⟩ := h hp
  refine ⟨b, o, rfl, hb, fun j hj => ?_⟩
  rw [List.length_map] at hj
  have hm : cs[j] ∈ cs := List.getElem_mem hj
  have hc := h j (by rw [List.length_map]; exact hj)
  rw [List.getElem_map] at hc
  refine ⟨cs[j].vk, cs[j].vr, ?_, hc 1 (by decide), hc 2 (by decide), ?_, ?_⟩
  · have := hc 0 (by decide)
    rw [Nat.add_zero] at this
    rw [this, List.getElem_map]
    rfl
  · rw [List.getElem_map]
    exact (hf _ hm).1
  · rw [List.getElem_map]
    exact (hf _ hm).2
/-- Rules in a slice, one by one. -/
theorem RulsAt.form {w : World} {P : Nat → Prop} {v : Value} {l : List Rul} (h : RulsAt w P v l) :
    ∃ (A : Option Addr) (n cap : Nat), v = .slice A n cap ∧ n = l.length ∧ n ≤ cap ∧ (0 < n → ∃ b o, A = some ⟨b, o, none⟩ ∧ P b ∧ ∀ j (hj : j < l.length), ∃ vw,
      w.cell? ⟨b, o + j * 5, none⟩ = some (.string l[j].name) ∧ w.cell? ⟨b, o + j * 5 + 1, none⟩ = some (.int .i64 l[j].kind) ∧ w.cell? ⟨b, o + j * 5 + 2, none⟩ = some vw ∧ w.cell? ⟨b, o + j * 5 + 3, none⟩ = some (.string l[j].regex) ∧ w.cell? ⟨b, o + j * 5 + 4, none⟩ = some (.bool l[j].req) ∧ StrsAt w P vw l[j].words) := by
  obtain ⟨cs, rfl, hf, h⟩ := h
  obtain ⟨A, n, cap, rfl, hn, hc, h⟩ := h.form
  rw [List.length_map] at hn
  refine ⟨A, n, cap, rfl, by rw [hn, List.length_map], hc, fun hp => ?_⟩
  obtain ⟨b, o, rfl, hb, h⟩ := h hp
  refine ⟨b, o, rfl, hb, fun j hj => ?_⟩
  rw [List.length_map] at hj
  have hm : cs[j] ∈ cs := List.getElem_mem hj
  have hc := h j (by rw [List.length_map]; exact hj)
  rw [List.getElem_map] at hc
  refine ⟨cs[j].vw, ?_, ?_, hc 2 (by decide), ?_, ?_, ?_⟩
  · have := hc 0 (by decide)
    rw [Nat.add_zero] at this
    rw [this, List.getElem_map]
    rfl
  · rw [hc 1 (by decide), List.getElem_map]
    rfl
  · rw [hc 3 (by decide), List.getElem_map]
    rfl
  · rw [hc 4 (by decide), List.getElem_map]
    rfl
  · rw [List.getElem_map]
    exact hf _ hm
end Go.Proofs.YtghlodpbbghcoaaGreatDoor

/- Rows that the call owns, of things whose lists lie elsewhere: made, grown, turned. No program in sight. -/
namespace Go.Proofs.YtghlodpbbghcoaaGreatDoor
open Go.RowKit
theorem szSet (w : World) (a : Addr) (v : Value) : (w.setCell a v).heap.size = w.heap.size := by simp [World.setCell]
/-- Things of so many cells each, whose lists lie in blocks of a predicate. -/
structure Kind (α : Type) where
  enc : α → List Value
  fine : α → World → (Nat → Prop) → Prop
  m : Nat
  len : ∀ x, (enc x).length = m
  move : ∀ {x : α} {w w' : World} {P Q : Nat → Prop}, fine x w P → Stays P w w' → (∀ k, P k → Q k) → fine x w' Q
def rulK : Kind RulC := ⟨RulC.list, fun c w P => StrsAt w P c.vw c.words, 5, fun _ => rfl, fun h hs hq => h.move hs hq⟩
def eltK : Kind EltC := ⟨EltC.list, fun c w P => c.Fine w P, 3, fun _ => rfl, fun h hs hq => h.move hs hq⟩
/-- A row that the call owns, all of it in blocks that are allowed; no list of a thing lies in the row's own block. -/
structure RowI {α : Type} (K : Kind α) (e : TypeId) (A : Nat → Prop) (w : World) (v : Value) (l : List α) : Prop where
  own : w.ownsRow 0 e K.m v l.length (flat K.enc l)
  mine : ∀ k, v.ownBlock = some k → A k
  kids : ∃ P : Nat → Prop, (∀ c ∈ l, K.fine c w P) ∧ (∀ k, P k → A k ∧ k < w.heap.size) ∧ ∀ k, P k → v.ownBlock ≠ some k
namespace RowI
variable {α : Type} {K : Kind α} {e : TypeId} {A : Nat → Prop} {w : World} {v : Value} {l : List α}
theorem nil (w : World) : RowI K e A w (.slice none 0 0) [] := ⟨World.ownsRow_nil _ _ _ _, fun k hk => by simp [Value.ownBlock] at hk, fun _ => False, fun c hc => absurd hc (by simp), fun k h => h.elim, fun k h => h.elim⟩
/-- A world in which the allowed blocks stay. -/
theorem stays (h : RowI K e A w v l) {w' : World} (hs : Stays (fun k => A k ∧ k < w.heap.size) w w') (hz : w.heap.size ≤ w'.heap.size) : RowI K e A w' v l := by
  obtain ⟨h1, hm, P, h2, h3, h4⟩ := h
  have hlt := h1.lt
  refine ⟨⟨h1.1, h1.2.imp id (fun ⟨g, cap, cur, a, b, c, d⟩ => ⟨g, cap, cur, a, b, (hs g ⟨hm g (by rw [a]; rfl), (hlt g (by rw [a]; rfl)).2⟩).trans c, d⟩)⟩, hm, P, fun c hc => K.move (h2 c hc) (Stays.mono hs h3) (fun _ h => h), fun k hk => ⟨(h3 k hk).1, Nat.lt_of_lt_of_le (h3 k hk).2 hz⟩, h4⟩
theorem carry (h : RowI K e A w v l) {w' : World} (hB : Below w.heap.size w w') : RowI K e A w' v l := h.stays (Stays.below hB (fun _ hk => hk.2)) hB.size
/-- A store outside of what is allowed. -/
theorem other (h : RowI K e A w v l) {p : Addr} (hp : ¬ A p.block) (u : Value) : RowI K e A (w.setCell p u) v l := h.stays (Stays.set (fun hk => hp hk.1) u) (by rw [szSet]; exact Nat.le_refl _)
theorem grown (h : RowI K e A w v l) {w' : World} {row : Option Nat} (hg : w.grownBy w' row) (hr : ∀ k, A k → row ≠ some k) : RowI K e A w' v l := h.stays (Stays.grown hg (fun k hk => ⟨hk.2, hr k hk.1⟩)) hg.size
theorem allow {A' : Nat → Prop} (h : RowI K e A w v l) (ha : ∀ k, A k → k < w.heap.size → A' k) : RowI K e A' w v l := by
  obtain ⟨h1, hm, P, h2, h3, h4⟩ := h
  exact ⟨h1, fun k hk => ha k (hm k hk) (h1.lt k hk).2, P, h2, fun k hk => ⟨ha k (h3 k hk).1 (h3 k hk).2, (h3 k hk).2⟩, h4⟩
theorem form (h : RowI K e A w v l) : (l = [] ∧ v = .slice none 0 0) ∨ ∃ g cap, v = .slice (some ⟨g, 0, none⟩) l.length cap ∧ A g ∧ g < w.heap.size ∧ l.length ≤ cap := by
  rcases id h.own.2 with ⟨rfl, h0⟩ | ⟨g, cap, cur, rfl, hb0, hb, h1, h2, h3, h4⟩
  · exact .inl ⟨List.eq_nil_of_length_eq_zero h0, rfl⟩
  · exact .inr ⟨g, cap, rfl, h.mine g rfl, (h.own.lt g rfl).2, h1⟩
theorem cell (h : RowI K e A w v l) {g n cap : Nat} (hv : v = .slice (some ⟨g, 0, none⟩) n cap) {i : Nat} (hi : i < l.length) {j : Nat} (hj : j < K.m) : w.cell? ⟨g, i * K.m + j, none⟩ = (K.enc l[i])[j]? := by
  subst hv
  have hn : n = l.length := by
    rcases h.own.2 with ⟨h0, _⟩ | ⟨g', cap', cur, h0, _⟩
    · simp at h0
    · simp only [Value.slice.injEq] at h0
      exact h0.2.1
  subst hn
  have hle : i * K.m + j < l.length * K.m := by
    have : (i + 1) * K.m ≤ l.length * K.m := Nat.mul_le_mul_right _ hi
    rw [Nat.add_mul, Nat.one_mul] at this
    omega
  rw [h.own.cellAt _ hle, flat_get K.len (List.getElem?_eq_getElem hi) hj]
theorem crow (h : RowI K e A w v l) : CRow w (fun k => A k ∧ k < w.heap.size) K.m v (l.map K.enc) := by
  rcases h.form with ⟨rfl, rfl⟩ | ⟨g, cap, hv, hg0, hg1, hc⟩
  · exact CRow.nil _ _ _
  · refine ⟨_, cap, by rw [List.length_map]; exact hv, by rw [List.length_map]; exact hc, fun j hj => ⟨g, 0, rfl, ⟨hg0, hg1⟩, fun i hi => ?_⟩⟩
    rw [List.length_map] at hj
    rw [Nat.zero_add, h.cell hv hj hi, List.getElem_map]
theorem fineAll (h : RowI K e A w v l) : ∀ c ∈ l, K.fine c w (fun k => A k ∧ k < w.heap.size) := by
  obtain ⟨h1, hm, P, h2, h3, h4⟩ := h
  exact fun c hc => K.move (h2 c hc) (Stays.refl _ _) h3
/-- A thing more. -/
theorem push {w' : World} {v' : Value} {c : α} {R : Nat → Prop} (h : RowI K e A w v l) (hc : K.fine c w R) (hR : ∀ k, R k → A k ∧ k < w.heap.size ∧ v.ownBlock ≠ some k) (hA : ∀ k, w.heap.size ≤ k → A k)
    (hown : w'.ownsRow 0 e K.m v' (l.length + 1) (flat K.enc l ++ K.enc c)) (hg : w.grownBy w' v.ownBlock) (hat : ∀ k, v'.ownBlock = some k → v.ownBlock = some k ∨ w.heap.size ≤ k) : RowI K e A w' v' (l ++ [c]) := by
  obtain ⟨h1, hm, P, h2, h3, h4⟩ := h
  have key : ∀ {Q : Nat → Prop}, (∀ k, Q k → k < w.heap.size ∧ v.ownBlock ≠ some k) → Stays Q w w' := fun hQ => Stays.grown hg hQ
  refine ⟨?_, fun k hk => (hat k hk).elim (hm k) (hA k), fun k => P k ∨ R k, ?_, ?_, ?_⟩
  · rw [flat_append, flat_one, List.length_append]
    exact hown
  · intro d hd
    rcases List.mem_append.1 hd with hd | hd
    · exact K.move (h2 d hd) (key (fun k hk => ⟨(h3 k hk).2, h4 k hk⟩)) (fun _ h => .inl h)
    · rw [List.mem_singleton.1 hd]
      exact K.move hc (key (fun k hk => (hR k hk).2)) (fun _ h => .inr h)
  · rintro k (hk | hk)
    · exact ⟨(h3 k hk).1, Nat.lt_of_lt_of_le (h3 k hk).2 hg.size⟩
    · exact ⟨(hR k hk).1, Nat.lt_of_lt_of_le (hR k hk).2.1 hg.size⟩
  · rintro k hk e
    have hb : k < w.heap.size ∧ v.ownBlock ≠ some k := by
      rcases hk with hk | hk
      · exact ⟨(h3 k hk).2, h4 k hk⟩
      · exact (hR k hk).2
    rcases hat k e with e2 | e2
    · exact hb.2 e2
    · exact absurd hb.1 (Nat.not_lt.2 e2)
/-- A thing's list turned: a cell of it stored. -/
theorem turn {g n cap i j : Nat} {u : Value} {c : α} {R : Nat → Prop} (h : RowI K e A w v l) (hv : v = .slice (some ⟨g, 0, none⟩) n cap) (hi : i < l.length) (he : K.enc c = (K.enc l[i]).set j u) (hj : j < K.m)
    (hc : K.fine c w R) (hR : ∀ k, R k → A k ∧ k < w.heap.size ∧ v.ownBlock ≠ some k) : RowI K e A (w.setCell ⟨g, i * K.m + j, none⟩ u) v (l.set i c) := by
  obtain ⟨h1, hm, P, h2, h3, h4⟩ := h
  have hn : n = l.length := by
    rcases h1.2 with ⟨h0, _⟩ | ⟨g', cap', cur, h0, _⟩
    · rw [hv] at h0; simp at h0
    · rw [hv] at h0
      simp only [Value.slice.injEq] at h0
      exact h0.2.1
  subst hn
  have hg : v.ownBlock = some g := by rw [hv]; rfl
  have key : ∀ {Q : Nat → Prop}, (∀ k, Q k → v.ownBlock ≠ some k) → Stays Q w (w.setCell ⟨g, i * K.m + j, none⟩ u) := fun hQ => Stays.set (fun hk => hQ _ hk hg) u
  refine ⟨?_, hm, fun k => P k ∨ R k, ?_, ?_, ?_⟩
  · have hs := (World.ownsRow.stored (by rw [hv] at h1; exact h1) (i * K.m + j) u).1
    rw [List.length_set, hv]
    have hf : ∀ (l : List α) (i : Nat) (hi : i < l.length), K.enc c = (K.enc l[i]).set j u → flat K.enc (l.set i c) = (flat K.enc l).set (i * K.m + j) u := by
      intro l
      induction l with
      | nil => intro i hi; simp at hi
      | cons x l ih =>
        intro i hi he
        cases i with
        | zero =>
          show K.enc c ++ flat K.enc l = (K.enc x ++ flat K.enc l).set _ u
          rw [Nat.zero_mul, Nat.zero_add, List.set_append_left _ _ (by rw [K.len]; exact hj)]
          rw [he]
          rfl
        | succ i =>
          show K.enc x ++ flat K.enc (l.set i c) = (K.enc x ++ flat K.enc l).set _ u
          have e1 : (i + 1) * K.m + j = K.m + (i * K.m + j) := by rw [Nat.add_mul]; omega
          rw [List.set_append_right _ _ (by rw [K.len]; omega), K.len, e1, Nat.add_sub_cancel_left, ih i (by simpa using hi) (by simpa using he)]
    rw [hf l i hi he]
    exact hs
  · intro d hd
    rcases List.mem_or_eq_of_mem_set hd with hd | rfl
    · exact K.move (h2 d hd) (key h4) (fun _ h => .inl h)
    · exact K.move hc (key (fun k hk => (hR k hk).2.2)) (fun _ h => .inr h)
  · rintro k (hk | hk)
    · exact ⟨(h3 k hk).1, by rw [szSet]; exact (h3 k hk).2⟩
    · exact ⟨(hR k hk).1, by rw [szSet]; exact (hR k hk).2.1⟩
  · rintro k (hk | hk)
    · exact h4 k hk
    · exact (hR k hk).2.2
end RowI
theorem RowI.ruls {e : TypeId} {A : Nat → Prop} {w : World} {v : Value} {l : List RulC} (h : RowI rulK e A w v l) : RulsAt w (fun k => A k ∧ k < w.heap.size) v (l.map RulC.rul) := ⟨l, rfl, h.fineAll, h.crow⟩
theorem RowI.elts {e : TypeId} {A : Nat → Prop} {w : World} {v : Value} {l : List EltC} (h : RowI eltK e A w v l) : EltsAt w (fun k => A k ∧ k < w.heap.size) v (l.map EltC.elt) := ⟨l, rfl, h.fineAll, h.crow⟩
end Go.Proofs.YtghlodpbbghcoaaGreatDoor
