/- Words for memory: cells that lie at an address; boxes; owned rows read as lists. No program in sight. -/
import Derived.Below
import Derived.Laws.Rows
import Derived.Laws.NewBlocks
import Derived.Laws.OwnMore
import Derived.Laws.MakeOwn
import Derived.OwnWalk
import Derived.Lib.Hide
import Derived.Deep.Draws
import Derived.Maps.AppendAt
namespace Go.Proofs.YtghlodpbbghcoaaGreatDoor
open Go.RowKit

/-- The cells xs lie, in world w, at the address A, in a block below B. -/
def CellsAt (w : World) (B : Nat) (A : Option Addr) (xs : List Value) : Prop :=
  ∀ j (h : j < xs.length), ∃ b o, A = some ⟨b, o, none⟩ ∧ b < B ∧ w.cell? ⟨b, o + j, none⟩ = some xs[j]

namespace CellsAt
variable {w w' : World} {B B' : Nat} {A : Option Addr} {xs : List Value}
theorem nil : CellsAt w B A [] := fun _ h => absurd h (by simp)
theorem below (h : CellsAt w B A xs) (hb : Below B w w') : CellsAt w' B A xs := fun j hj =>
  let ⟨b, o, h1, h2, h3⟩ := h j hj
  ⟨b, o, h1, h2, (hb.cell h2).trans h3⟩
theorem alloc (h : CellsAt w B A xs) (hB : B ≤ w.heap.size) (o : Obj) : CellsAt (w.alloc o) B A xs := h.below ((Below.refl _ _).alloc hB _)
theorem drew (h : CellsAt w B A xs) : CellsAt w.drew B A xs := h
theorem drewN (h : CellsAt w B A xs) (n : Nat) : CellsAt (w.drewN n) B A xs := h
theorem more (h : CellsAt w B A xs) (hB : B ≤ B') : CellsAt w B' A xs := fun j hj =>
  let ⟨b, o, h1, h2, h3⟩ := h j hj
  ⟨b, o, h1, by omega, h3⟩
theorem take (h : CellsAt w B A xs) (n : Nat) : CellsAt w B A (xs.take n) := fun j hj => by
  have hl : j < xs.length := by rw [List.length_take] at hj; omega
  obtain ⟨b, o, h1, h2, h3⟩ := h j hl
  exact ⟨b, o, h1, h2, by rw [h3, List.getElem_take]⟩
theorem at_ (h : CellsAt w B A xs) {j : Nat} {v : Value} (hj : xs[j]? = some v) : ∃ b o, A = some ⟨b, o, none⟩ ∧ b < B ∧ w.cell? ⟨b, o + j, none⟩ = some v := by
  obtain ⟨hl, he⟩ := List.getElem?_eq_some_iff.1 hj
  obtain ⟨b, o, h1, h2, h3⟩ := h j hl
  exact ⟨b, o, h1, h2, by rw [h3, he]⟩
theorem of_own {base : Nat} {e : TypeId} {size n c : Nat} (h : w.ownsRow base e size (.slice A n c) n xs) : CellsAt w w.heap.size A xs := by
  intro j hj
  obtain ⟨h1, h2⟩ := h
  rcases h2 with ⟨hv, hn⟩ | ⟨g, cap, cur, hv, hg, hh, hnc, hcm, hcs, ht⟩
  · subst hn; simp at h1; subst h1; simp at hj
  · injection hv with hA hn hc
    subst hA
    have hlt : g < w.heap.size := (Array.getElem?_eq_some_iff.1 hh).1
    refine ⟨g, 0, rfl, hlt, ?_⟩
    have : xs[j]? = some xs[j] := List.getElem?_eq_getElem hj
    rw [← this, ← ht, List.getElem?_take, if_pos (by rw [ht] at *; omega)]
    simp [World.cell?, hh]
end CellsAt

/-- Lists of things of m cells each. -/
def flat {α : Type} (enc : α → List Value) (l : List α) : List Value := l.flatMap enc
theorem flat_length {α : Type} {enc : α → List Value} {m : Nat} (hm : ∀ x, (enc x).length = m) (l : List α) : (flat enc l).length = l.length * m := by
  induction l with
  | nil => simp [flat]
  | cons x l ih =>
    show (enc x ++ flat enc l).length = _
    rw [List.length_append, ih, hm, List.length_cons, Nat.add_mul, Nat.one_mul, Nat.add_comm]
theorem flat_get {α : Type} {enc : α → List Value} {m : Nat} (hm : ∀ x, (enc x).length = m) {l : List α} {k j : Nat} {x : α} (hk : l[k]? = some x) (hj : j < m) : (flat enc l)[k * m + j]? = (enc x)[j]? := by
  induction l generalizing k with
  | nil => simp at hk
  | cons y l ih =>
    show (enc y ++ flat enc l)[k * m + j]? = _
    cases k with
    | zero =>
      simp at hk; subst hk
      rw [List.getElem?_append_left (by rw [hm]; omega)]; simp
    | succ k =>
      simp at hk
      rw [List.getElem?_append_right (by rw [hm, Nat.add_mul]; omega), hm]
      rw [show (k + 1) * m + j - m = k * m + j from by rw [Nat.add_mul]; omega]
      exact ih hk
theorem flat_append {α : Type} {enc : α → List Value} (l l' : List α) : flat enc (l ++ l') = flat enc l ++ flat enc l' := by simp [flat]
theorem flat_one {α : Type} {enc : α → List Value} (x : α) : flat enc [x] = enc x := by simp [flat]
theorem flat_take {α : Type} {enc : α → List Value} {m : Nat} (hm : ∀ x, (enc x).length = m) (l : List α) (n : Nat) : flat enc (l.take n) = (flat enc l).take (n * m) := by
  induction l generalizing n with
  | nil => simp [flat]
  | cons x l ih =>
    cases n with
    | zero => simp [flat]
    | succ n =>
      show enc x ++ flat enc (l.take n) = (enc x ++ flat enc l).take _
      have h : (n + 1) * m = (enc x).length + n * m := by rw [hm, Nat.add_mul]; omega
      rw [ih, h, List.take_length_add_append]

/-- What a new box holds, in every later world that leaves it alone. -/
theorem boxed {w wr : World} {cs : Array Value} {t : TypeId} (hb : Below (w.heap.size + 1) (w.alloc (.cells cs t)) wr) (i : Nat) : wr.cell? ⟨w.heap.size, i, none⟩ = cs[i]? :=
  (hb.cell (p := ⟨w.heap.size, i, none⟩) (by simp)).trans (by simp)
theorem boxed_lt {w wr : World} {o : Obj} (hb : Below (w.heap.size + 1) (w.alloc o) wr) : w.heap.size < wr.heap.size := by
  have := hb.size
  simp at this; omega
theorem unbox {w wr : World} {o : Obj} (hb : Below (w.heap.size + 1) (w.alloc o) wr) : Below w.heap.size w wr :=
  ((Below.refl _ _).alloc (Nat.le_refl _) _).trans (hb.mono (by omega))
theorem boxed4 {w wr : World} {a b c d : Value} {t : TypeId} (hb : Below (w.heap.size + 1) (w.alloc (.cells #[a, b, c, d] t)) wr) :
    wr.cell? ⟨w.heap.size, 0, none⟩ = some a ∧ wr.cell? ⟨w.heap.size, 1, none⟩ = some b ∧ wr.cell? ⟨w.heap.size, 2, none⟩ = some c ∧ wr.cell? ⟨w.heap.size, 3, none⟩ = some d ∧ w.heap.size < wr.heap.size :=
  ⟨boxed hb 0, boxed hb 1, boxed hb 2, boxed hb 3, boxed_lt hb⟩
theorem boxed3 {w wr : World} {a b c : Value} {t : TypeId} (hb : Below (w.heap.size + 1) (w.alloc (.cells #[a, b, c] t)) wr) :
    wr.cell? ⟨w.heap.size, 0, none⟩ = some a ∧ wr.cell? ⟨w.heap.size, 1, none⟩ = some b ∧ wr.cell? ⟨w.heap.size, 2, none⟩ = some c ∧ w.heap.size < wr.heap.size :=
  ⟨boxed hb 0, boxed hb 1, boxed hb 2, boxed_lt hb⟩
theorem ret_int {k : IntKind} {a b : Int} (h : a = b) : Ending.returned (.int k a) = .returned (.int k b) := by rw [h]
theorem ret_bool {a b : Bool} (h : a = b) : Ending.returned (.bool a) = .returned (.bool b) := by rw [h]

theorem _root_.Go.World.ownsRow.drewN {w : World} {base : Nat} {e : TypeId} {size : Nat} {v : Value} {n : Nat} {xs : List Value} (h : w.ownsRow base e size v n xs) (k : Nat) : (w.drewN k).ownsRow base e size v n xs := h
/-- 'out = append(out, x..)', the new elements in a block that has just been made: what is owned is owned, and longer; where it lies. -/
theorem wpList_append_new_at {P : Program} {ops : Array Oper} {rest : List Oper} {o : Oper} {a : Act} {Q : Exit → Act → World → Prop} {w0 : World} {cs : Array Value} {e t : TypeId} {z : Value} {size bytes : Nat}
    (hinfo : (P.info? e).map (fun i => (i.zero, i.size, i.bytes)) = some (some z, size, bytes)) (ht : P.underlying t = some (.slice e)) (hzs : z.cells.size = size) (hsz : 0 < size) (hby : bytes ≤ 100000)
    (base : Nat) {v : Value} {n : Nat} {xs : List Value} (hown : w0.ownsRow base e size v n xs) (m : Nat) (hgd : o.guard = none) (s x : Operand)
    (ho : o.op = .call { callee := .builtin .append, args := #[s, x], argTypes := #[t, t] }) (hs : a.eval s = v) {g : Nat} (hx : a.eval x = .slice (some ⟨g, 0, none⟩) m m) (hgs : g = w0.heap.size)
    (hl : cs.size = m * size) (h1 : cs.toList.all Value.oneCell' = true) (hsmall : n + m ≤ 1000000000) (hbase : base ≤ w0.heap.size)
    (h : ∀ v' w', w'.ownsRow base e size v' (n + m) (xs ++ cs.toList) → Below base w0 w' → w0.heap.size < w'.heap.size → w0.grownBy w' v.ownBlock → (∀ k, v'.ownBlock = some k → v.ownBlock = some k ∨ w0.heap.size < k) → wpList P ops Q rest (a.put o.dst v') w') :
    wpList P ops Q (o :: rest) a (w0.alloc (.cells cs e)) := by
  subst hgs
  obtain ⟨i, hi, hz0, hz1, hz2⟩ := info_parts hinfo
  have hbb : (n + m) * bytes ≤ 1000000000 * 100000 := Nat.mul_le_mul hsmall hby
  refine wpList_append_own_at _ hgd s x t ho base e i z size bytes ht hi hz0 hz1 hz2 hzs hsz v n xs hs (hown.alloc _) ⟨w0.heap.size, 0, none⟩ m m cs.toList hx (by simpa using hl) ?_ ?_ (by unfold maxLen; omega) (by omega) (by simp; omega) ?_
  · intro j u hj
    have hadd : (⟨w0.heap.size, 0, none⟩ : Addr).add j = ⟨w0.heap.size, j, none⟩ := by unfold Addr.add; split <;> simp_all
    rw [hadd, World.cell?_alloc_new]
    simpa using hj
  · intro u hu
    exact List.all_eq_true.1 h1 u hu
  · intro v' w' ho' hg _ hat
    have hg0 : w0.grownBy w' v.ownBlock := ⟨hg.os, hg.tape, hg.output, by have := hg.size; simp at this; omega, fun k hk hne => (hg.block k (by simp; omega) hne).trans (heap_alloc_old w0 _ k hk)⟩
    refine h v' w' ho' ?_ (by have := hg.size; simp at this; omega) hg0 ?_
    · exact ⟨hg0.os, hg0.tape, hg0.output, hg0.size, fun k hk => hg0.block k (by omega) (fun e => by have := hown.lt k e.symm; omega)⟩
    · intro k hk
      rcases hat with hat | hat
      · exact .inl (hat.symm.trans hk)
      · rw [hat] at hk
        simp at hk
        exact .inr (by omega)
theorem wpList_append_new {P : Program} {ops : Array Oper} {rest : List Oper} {o : Oper} {a : Act} {Q : Exit → Act → World → Prop} {w0 : World} {cs : Array Value} {e t : TypeId} {z : Value} {size bytes : Nat}
    (hinfo : (P.info? e).map (fun i => (i.zero, i.size, i.bytes)) = some (some z, size, bytes)) (ht : P.underlying t = some (.slice e)) (hzs : z.cells.size = size) (hsz : 0 < size) (hby : bytes ≤ 100000)
    (base : Nat) {v : Value} {n : Nat} {xs : List Value} (hown : w0.ownsRow base e size v n xs) (m : Nat) (hgd : o.guard = none) (s x : Operand)
    (ho : o.op = .call { callee := .builtin .append, args := #[s, x], argTypes := #[t, t] }) (hs : a.eval s = v) {g : Nat} (hx : a.eval x = .slice (some ⟨g, 0, none⟩) m m) (hgs : g = w0.heap.size)
    (hl : cs.size = m * size) (h1 : cs.toList.all Value.oneCell' = true) (hsmall : n + m ≤ 1000000000) (hbase : base ≤ w0.heap.size)
    (h : ∀ v' w', w'.ownsRow base e size v' (n + m) (xs ++ cs.toList) → Below base w0 w' → w0.heap.size < w'.heap.size → w0.grownBy w' v.ownBlock → wpList P ops Q rest (a.put o.dst v') w') :
    wpList P ops Q (o :: rest) a (w0.alloc (.cells cs e)) :=
  wpList_append_new_at hinfo ht hzs hsz hby base hown m hgd s x ho hs hx hgs hl h1 hsmall hbase (fun v' w' a b c d _ => h v' w' a b c d)

theorem blk_cell {w : World} {g : Nat} {cs : Array Value} {t : TypeId} (h : w.heap[g]? = some (.cells cs t (0, 0))) (i : Nat) : w.cell? ⟨g, i, none⟩ = cs[i]? := by simp [World.cell?, h]
theorem blk_lt {w : World} {g : Nat} {o : Obj} (h : w.heap[g]? = some o) : g < w.heap.size := (Array.getElem?_eq_some_iff.1 h).1
theorem blk_alloc {w : World} {g : Nat} {o : Obj} (h : w.heap[g]? = some o) (o' : Obj) : (w.alloc o').heap[g]? = some o := (Below.heap_alloc w o' g (blk_lt h)).trans h
theorem blk_new (w : World) (o : Obj) : (w.alloc o).heap[w.heap.size]? = some o := (heap_alloc_new w o)
theorem blk_below {B : Nat} {w w' : World} {g : Nat} {o : Obj} (h : w.heap[g]? = some o) (hb : Below B w w') (hg : g < B) : w'.heap[g]? = some o := (hb.block g hg).trans h
theorem blk_set {w : World} {g : Nat} {o : Obj} (h : w.heap[g]? = some o) {p : Addr} (hp : g ≠ p.block) (u : Value) : (w.setCell p u).heap[g]? = some o := (Below.heap_setCell w p u g hp).trans h
theorem blk_new' {w : World} {o : Obj} {g : Nat} (h : g = w.heap.size) : (w.alloc o).heap[g]? = some o := by subst h; exact blk_new w o
theorem blk_drew {w : World} {g : Nat} {o : Obj} (h : w.heap[g]? = some o) : w.drew.heap[g]? = some o := h
theorem blk_grown {w w' : World} {g : Nat} {o : Obj} {row : Option Nat} (h : w.heap[g]? = some o) (hg : w.grownBy w' row) (hne : row ≠ some g) : w'.heap[g]? = some o := (hg.block g (blk_lt h) (Ne.symm hne)).trans h
theorem blk_set_self {w : World} {g : Nat} {cs : Array Value} {t : TypeId} (h : w.heap[g]? = some (.cells cs t (0, 0))) (i : Nat) (u : Value) : (w.setCell ⟨g, i, none⟩ u).heap[g]? = some (.cells (cs.setIfInBounds i u) t (0, 0)) := by
  simp [World.setCell, Array.getElem?_modify, h]
theorem blk_frozen {w : World} {g : Nat} {cs : Array Value} {t : TypeId} (h : w.heap[g]? = some (.cells cs t (0, 0))) (i : Nat) : w.frozen? ⟨g, i, none⟩ = false := by simp [World.frozen?, h]
theorem own_form {w : World} {base : Nat} {e : TypeId} {size n : Nat} {v : Value} {xs : List Value} (h : w.ownsRow base e size v n xs) : ∃ A c, v = .slice A n c ∧ w.ownsRow base e size (.slice A n c) n xs := by
  obtain ⟨h1, h2⟩ := h
  rcases h2 with ⟨rfl, hn⟩ | ⟨g, cap, cur, rfl, r⟩
  · exact ⟨none, 0, by rw [hn], h1, .inl ⟨by rw [hn], hn⟩⟩
  · exact ⟨some ⟨g, 0, none⟩, cap, rfl, h1, .inr ⟨g, cap, cur, rfl, r⟩⟩
theorem own_ne {w : World} {base : Nat} {e t : TypeId} {size n g : Nat} {v : Value} {xs : List Value} {cs : Array Value} (h : w.ownsRow base e size v n xs) (hg : w.heap[g]? = some (.cells cs t (0, 0))) (hne : e ≠ t) : v.ownBlock ≠ some g := by
  rcases h.2 with ⟨rfl, _⟩ | ⟨g', cap, cur, rfl, _, hh, _⟩
  · simp [Value.ownBlock]
  · intro he
    have : g' = g := by simpa [Value.ownBlock] using he
    subst this
    rw [hg] at hh
    injection hh with hh
    injection hh with _ ht
    exact hne ht.symm
theorem own_ne_lt {w : World} {base : Nat} {e : TypeId} {size n g : Nat} {v : Value} {xs : List Value} (h : w.ownsRow base e size v n xs) (hg : g < base) : v.ownBlock ≠ some g := by
  intro he
  have := h.lt g he
  omega
theorem own_below {w w' : World} {base B : Nat} {e : TypeId} {size n : Nat} {v : Value} {xs : List Value} (h : w.ownsRow base e size v n xs) (hb : Below B w w') (hB : w.heap.size ≤ B) : w'.ownsRow base e size v n xs := by
  obtain ⟨h1, h2⟩ := h
  refine ⟨h1, ?_⟩
  rcases h2 with h2 | ⟨g, cap, cur, hv, hg, hh, r⟩
  · exact .inl h2
  · exact .inr ⟨g, cap, cur, hv, hg, blk_below hh hb (Nat.lt_of_lt_of_le (blk_lt hh) hB), r⟩
end Go.Proofs.YtghlodpbbghcoaaGreatDoor
