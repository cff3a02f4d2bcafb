/- Policies: plain, and as they lie in memory (by a predicate on blocks). No program in sight. -/
import Derived.Test.YtghlodpbbghcoaaGreatDoorMem
namespace Go.Proofs.YtghlodpbbghcoaaGreatDoor
open Go.RowKit
structure Rul where
  name : ByteArray
  kind : Int
  words : List ByteArray
  regex : ByteArray
  req : Bool
structure Elt where
  name : ByteArray
  kids : List ByteArray
  rules : List Rul
structure Pol where
  top : List ByteArray
  elts : List Elt
  unwrap : List ByteArray
/-- Blocks of a predicate stay as they are. -/
def Stays (P : Nat → Prop) (w w' : World) : Prop := ∀ k, P k → w'.heap[k]? = w.heap[k]?
theorem Stays.cell {P : Nat → Prop} {w w' : World} (h : Stays P w w') {a : Addr} (ha : P a.block) : w'.cell? a = w.cell? a := World.cell?_of_block (w := w) (h a.block ha)
theorem Stays.refl (P : Nat → Prop) (w : World) : Stays P w w := fun _ _ => rfl
theorem Stays.trans {P : Nat → Prop} {a b c : World} (h : Stays P a b) (k : Stays P b c) : Stays P a c := fun x hx => (k x hx).trans (h x hx)
theorem Stays.below {P : Nat → Prop} {w w' : World} {n : Nat} (h : Below n w w') (hp : ∀ k, P k → k < n) : Stays P w w' := fun k hk => h.block k (hp k hk)
theorem Stays.set {P : Nat → Prop} {w : World} {p : Addr} (hp : ¬ P p.block) (u : Value) : Stays P w (w.setCell p u) := fun k hk => Below.heap_setCell w p u k (fun e => hp (e ▸ hk))
theorem Stays.alloc {P : Nat → Prop} {w : World} (hp : ∀ k, P k → k < w.heap.size) (o : Obj) : Stays P w (w.alloc o) := fun k hk => Below.heap_alloc w o k (hp k hk)
theorem Stays.grown {P : Nat → Prop} {w w' : World} {row : Option Nat} (hg : w.grownBy w' row) (hp : ∀ k, P k → k < w.heap.size ∧ row ≠ some k) : Stays P w w' := fun k hk => hg.block k (hp k hk).1 (Ne.symm (hp k hk).2)
theorem Stays.mono {P Q : Nat → Prop} {w w' : World} (h : Stays P w w') (hq : ∀ k, Q k → P k) : Stays Q w w' := fun k hk => h k (hq k hk)
/-- A slice whose elements have so many cells each. -/
def CRow (w : World) (P : Nat → Prop) (size : Nat) (v : Value) (cs : List (List Value)) : Prop :=
  ∃ A cap, v = .slice A cs.length cap ∧ cs.length ≤ cap ∧ ∀ j (h : j < cs.length), ∃ b o, A = some ⟨b, o, none⟩ ∧ P b ∧ ∀ i, i < size → w.cell? ⟨b, o + j * size + i, none⟩ = cs[j][i]?
theorem CRow.move {w w' : World} {P Q : Nat → Prop} {size : Nat} {v : Value} {cs : List (List Value)} (h : CRow w P size v cs) (hs : Stays P w w') (hq : ∀ k, P k → Q k) : CRow w' Q size v cs := by
  obtain ⟨A, cap, e, hc, h⟩ := h
  refine ⟨A, cap, e, hc, fun j hj => ?_⟩
  obtain ⟨b, o, e, hB, h1⟩ := h j hj
  exact ⟨b, o, e, hq b hB, fun i hi => (hs.cell (a := ⟨b, o + j * size + i, none⟩) hB).trans (h1 i hi)⟩
theorem CRow.nil (w : World) (P : Nat → Prop) (size : Nat) : CRow w P size (.slice none 0 0) [] := ⟨none, 0, rfl, Nat.le_refl _, fun _ hj => absurd hj (Nat.not_lt_zero _)⟩
theorem CRow.some_nil (w : World) (P : Nat → Prop) (size : Nat) (A : Option Addr) (cap : Nat) : CRow w P size (.slice A 0 cap) [] := ⟨A, cap, rfl, Nat.zero_le _, fun _ hj => absurd hj (Nat.not_lt_zero _)⟩
def sCells (l : List ByteArray) : List (List Value) := l.map fun s => [.string s]
/-- A slice of texts. -/
def StrsAt (w : World) (P : Nat → Prop) (v : Value) (l : List ByteArray) : Prop := CRow w P 1 v (sCells l)
theorem StrsAt.move {w w' : World} {P Q : Nat → Prop} {v : Value} {l : List ByteArray} (h : StrsAt w P v l) (hs : Stays P w w') (hq : ∀ k, P k → Q k) : StrsAt w' Q v l := CRow.move h hs hq
theorem StrsAt.form {w : World} {P : Nat → Prop} {v : Value} {l : List ByteArray} (h : StrsAt w P v l) :
    ∃ (A : Option Addr) (n cap : Nat), v = .slice A n cap ∧ n = l.length ∧ n ≤ cap ∧ (0 < n → ∃ b o, A = some ⟨b, o, none⟩ ∧ P b ∧ ∀ j (hj : j < l.length), w.cell? ⟨b, o + j, none⟩ = some (.string l[j])) := by
  obtain ⟨A, cap, rfl, hc, h⟩ := h
  have hl : (sCells l).length = l.length := List.length_map _
  refine ⟨A, _, cap, rfl, hl, hc, fun hp => ?_⟩
  obtain ⟨b, o, rfl, hb, _⟩ := h 0 hp
  refine ⟨b, o, rfl, hb, fun j hj => ?_⟩
  obtain ⟨b', o', e, _, h1⟩ := h j (by rw [hl]; exact hj)
  simp only [Option.some.injEq, Addr.mk.injEq, and_true] at e
  obtain ⟨rfl, rfl⟩ := e
  have := h1 0 (by decide)
  rw [Nat.mul_one, Nat.add_zero] at this
  rw [this]
  simp [sCells]
structure RulC where
  name : ByteArray
  kind : Int
  vw : Value
  words : List ByteArray
  regex : ByteArray
  req : Bool
def RulC.rul (c : RulC) : Rul := ⟨c.name, c.kind, c.words, c.regex, c.req⟩
def RulC.list (c : RulC) : List Value := [.string c.name, .int .i64 c.kind, c.vw, .string c.regex, .bool c.req]
/-- A slice of rules. -/
def RulsAt (w : World) (P : Nat → Prop) (v : Value) (l : List Rul) : Prop := ∃ cs : List RulC, cs.map RulC.rul = l ∧ (∀ c ∈ cs, StrsAt w P c.vw c.words) ∧ CRow w P 5 v (cs.map RulC.list)
theorem RulsAt.move {w w' : World} {P Q : Nat → Prop} {v : Value} {l : List Rul} (h : RulsAt w P v l) (hs : Stays P w w') (hq : ∀ k, P k → Q k) : RulsAt w' Q v l := by
  obtain ⟨cs, e, h1, h2⟩ := h
  exact ⟨cs, e, fun c hc => (h1 c hc).move hs hq, h2.move hs hq⟩
theorem RulsAt.nil (w : World) (P : Nat → Prop) : RulsAt w P (.slice none 0 0) [] := ⟨[], rfl, fun c hc => absurd hc (by simp), CRow.nil _ _ _⟩
structure EltC where
  name : ByteArray
  vk : Value
  kids : List ByteArray
  vr : Value
  rules : List Rul
def EltC.elt (c : EltC) : Elt := ⟨c.name, c.kids, c.rules⟩
def EltC.list (c : EltC) : List Value := [.string c.name, c.vk, c.vr]
def EltC.Fine (w : World) (P : Nat → Prop) (c : EltC) : Prop := StrsAt w P c.vk c.kids ∧ RulsAt w P c.vr c.rules
theorem EltC.Fine.move {w w' : World} {P Q : Nat → Prop} {c : EltC} (h : c.Fine w P) (hs : Stays P w w') (hq : ∀ k, P k → Q k) : c.Fine w' Q := ⟨h.1.move hs hq, h.2.move hs hq⟩
/-- A slice of elements. -/
def EltsAt (w : World) (P : Nat → Prop) (v : Value) (l : List Elt) : Prop := ∃ cs : List EltC, cs.map EltC.elt = l ∧ (∀ c ∈ cs, c.Fine w P) ∧ CRow w P 3 v (cs.map EltC.list)
theorem EltsAt.move {w w' : World} {P Q : Nat → Prop} {v : Value} {l : List Elt} (h : EltsAt w P v l) (hs : Stays P w w') (hq : ∀ k, P k → Q k) : EltsAt w' Q v l := by
  obtain ⟨cs, e, h1, h2⟩ := h
  exact ⟨cs, e, fun c hc => (h1 c hc).move hs hq, h2.move hs hq⟩
/-- A policy's three cells. -/
structure PolAt (w : World) (P : Nat → Prop) (vt ve vu : Value) (p : Pol) : Prop where
  top : StrsAt w P vt p.top
  elts : EltsAt w P ve p.elts
  unwrap : StrsAt w P vu p.unwrap
theorem PolAt.move {w w' : World} {P Q : Nat → Prop} {vt ve vu : Value} {p : Pol} (h : PolAt w P vt ve vu p) (hs : Stays P w w') (hq : ∀ k, P k → Q k) : PolAt w' Q vt ve vu p := ⟨h.top.move hs hq, h.elts.move hs hq, h.unwrap.move hs hq⟩
theorem CRow.form {w : World} {P : Nat → Prop} {size : Nat} {v : Value} {cs : List (List Value)} (h : CRow w P size v cs) :
    ∃ (A : Option Addr) (n cap : Nat), v = .slice A n cap ∧ n = cs.length ∧ n ≤ cap ∧ (0 < n → ∃ b o, A = some ⟨b, o, none⟩ ∧ P b ∧ ∀ j (hj : j < cs.length), ∀ i, i < size → w.cell? ⟨b, o + j * size + i, none⟩ = cs[j][i]?) := by
  obtain ⟨A, cap, rfl, hc, h⟩ := h
  refine ⟨A, _, cap, rfl, rfl, hc, fun hp => ?_⟩
  obtain ⟨b, o, rfl, hb, _⟩ := h 0 hp
  refine ⟨b, o, rfl, hb, fun j hj => ?_⟩
  obtain ⟨b', o', e, _, h1⟩ := h j hj
  simp only [Option.some.injEq, Addr.mk.injEq, and_true] at e
  obtain ⟨rfl, rfl⟩ := e
  exact h1
/-- Elements in a slice, one by one. -/
theorem EltsAt.form {w : World} {P : Nat → Prop} {v : Value} {l : List Elt} (h : EltsAt w P v l) :
    ∃ (A : Option Addr) (n cap : Nat), v = .slice A n cap ∧ n = l.length ∧ n ≤ cap ∧ (0 < n → ∃ b o, A = some ⟨b, o, none⟩ ∧ P b ∧ ∀ j (hj : j < l.length), ∃ vk vr,
      w.cell? ⟨b, o + j * 3, none⟩ = some (.string l[j].name) ∧ w.cell? ⟨b, o + j * 3 + 1, none⟩ = some vk ∧ w.cell? ⟨b, o + j * 3 + 2, none⟩ = some vr ∧ StrsAt w P vk l[j].kids ∧ RulsAt w P vr l[j].rules) := by
  obtain ⟨cs, rfl, hf, h⟩ := h
  obtain ⟨A, n, cap, rfl, hn, hc, h⟩ := h.form
  rw [List.length_map] at hn
  refine ⟨A, n, cap, rfl, by rw [hn, List.length_map], hc, fun hp => ?_⟩
  obtain ⟨b, o, rfl, hb, h⟩ := h hp
  refine ⟨b, o, rfl, hb, fun j hj => ?_⟩
  rw [List.length_map] at hj
  have hm : cs[j] ∈ cs := List.getElem_mem hj
  have hc := h j (by rw [List.length_map]; exact hj)
  rw [List.getElem_map] at hc
  refine ⟨cs[j].vk, cs[j].vr, ?_, hc 1 (by decide), hc 2 (by decide), ?_, ?_⟩
  · have := hc 0 (by decide)
    rw [Nat.add_zero] at this
    rw [this, List.getElem_map]
    rfl
  · rw [List.getElem_map]
    exact (hf _ hm).1
  · rw [List.getElem_map]
    exact (hf _ hm).2
/-- Rules in a slice, one by one. -/
theorem RulsAt.form {w : World} {P : Nat → Prop} {v : Value} {l : List Rul} (h : RulsAt w P v l) :
    ∃ (A : Option Addr) (n cap : Nat), v = .slice A n cap ∧ n = l.length ∧ n ≤ cap ∧ (0 < n → ∃ b o, A = some ⟨b, o, none⟩ ∧ P b ∧ ∀ j (hj : j < l.length), ∃ vw,
      w.cell? ⟨b, o + j * 5, none⟩ = some (.string l[j].name) ∧ w.cell? ⟨b, o + j * 5 + 1, none⟩ = some (.int .i64 l[j].kind) ∧ w.cell? ⟨b, o + j * 5 + 2, none⟩ = some vw ∧ w.cell? ⟨b, o + j * 5 + 3, none⟩ = some (.string l[j].regex) ∧ w.cell? ⟨b, o + j * 5 + 4, none⟩ = some (.bool l[j].req) ∧ StrsAt w P vw l[j].words) := by
  obtain ⟨cs, rfl, hf, h⟩ := h
  obtain ⟨A, n, cap, rfl, hn, hc, h⟩ := h.form
  rw [List.length_map] at hn
  refine ⟨A, n, cap, rfl, by rw [hn, List.length_map], hc, fun hp => ?_⟩
  obtain ⟨b, o, rfl, hb, h⟩ := h hp
  refine ⟨b, o, rfl, hb, fun j hj => ?_⟩
  rw [List.length_map] at hj
  have hm : cs[j] ∈ cs := List.getElem_mem hj
  have hc := h j (by rw [List.length_map]; exact hj)
  rw [List.getElem_map] at hc
  refine ⟨cs[j].vw, ?_, ?_, hc 2 (by decide), ?_, ?_, ?_⟩
  · have := hc 0 (by decide)
    rw [Nat.add_zero] at this
    rw [this, List.getElem_map]
    rfl
  · rw [hc 1 (by decide), List.getElem_map]
    rfl
  · rw [hc 3 (by decide), List.getElem_map]
    rfl
  · rw [hc 4 (by decide), List.getElem_map]
    rfl
  · rw [List.getElem_map]
    exact hf _ hm
end Go.Proofs.YtghlodpbbghcoaaGreatDoor
