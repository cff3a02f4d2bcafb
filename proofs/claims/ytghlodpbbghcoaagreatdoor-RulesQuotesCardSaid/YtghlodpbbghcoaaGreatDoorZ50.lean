/- What the reading of a line may turn: blocks of three types, from the reader's box on. No program in sight. -/
import Derived.Test.YtghlodpbbghcoaaGreatDoorZ49
import Derived.RangeFuncOwn
namespace Go.Proofs.YtghlodpbbghcoaaGreatDoor
open Go.RowKit
/-- A block of the reader: its box, rows of elements, rows of rules. -/
def rdType : Obj → Prop
  | .cells _ t _ => t = 78 ∨ t = 30 ∨ t = 34
  | _ => False
/-- Only blocks of the reader, from its box on, have been turned. -/
structure KeepR (X : Nat) (w w' : World) : Prop where
  os : w'.os = w.os
  tape : w'.tape = w.tape
  output : w'.output = w.output
  size : w.heap.size ≤ w'.heap.size
  block : ∀ (k : Nat) (o : Obj), w.heap[k]? = some o → (k < X ∨ ¬ rdType o) → w'.heap[k]? = some o
namespace KeepR
variable {X : Nat} {a b c : World}
theorem refl (X : Nat) (w : World) : KeepR X w w := ⟨rfl, rfl, rfl, Nat.le_refl _, fun _ _ h _ => h⟩
theorem trans (h : KeepR X a b) (k : KeepR X b c) : KeepR X a c :=
  ⟨k.os.trans h.os, k.tape.trans h.tape, k.output.trans h.output, Nat.le_trans h.size k.size, fun i o hi ho => k.block i o (h.block i o hi ho) ho⟩
theorem of_below (h : Below a.heap.size a b) : KeepR X a b := ⟨h.os, h.tape, h.output, h.size, fun k _ hk _ => (h.block k (Array.getElem?_eq_some_iff.1 hk).1).trans hk⟩
theorem of_grown {row : Option Nat} (hg : a.grownBy b row) (hr : ∀ r, row = some r → X ≤ r ∧ ∃ o, a.heap[r]? = some o ∧ rdType o) : KeepR X a b :=
  ⟨hg.os, hg.tape, hg.output, hg.size, fun k o hk ho => (hg.block k (Array.getElem?_eq_some_iff.1 hk).1 (fun e => by
    obtain ⟨h1, o', h2, h3⟩ := hr k e.symm
    rw [hk] at h2
    cases h2
    rcases ho with ho | ho
    · omega
    · exact ho h3)).trans hk⟩
theorem set {p : Addr} (hX : X ≤ p.block) (hr : ∃ o, a.heap[p.block]? = some o ∧ rdType o) (u : Value) : KeepR X a (a.setCell p u) :=
  ⟨rfl, rfl, rfl, by simp [World.setCell], fun k o hk ho => (Below.heap_setCell a p u k (fun e => by
    subst e
    obtain ⟨o', h2, h3⟩ := hr
    rw [hk] at h2
    cases h2
    rcases ho with ho | ho
    · omega
    · exact ho h3)).trans hk⟩
theorem below (h : KeepR X a b) (hX : X ≤ a.heap.size) : Below X a b := ⟨h.os, h.tape, h.output, h.size, fun k hk => by
  have hl : k < a.heap.size := by omega
  rw [Array.getElem?_eq_getElem hl]
  exact h.block k _ (Array.getElem?_eq_getElem hl) (.inl hk)⟩
theorem others (h : KeepR X a b) : KeepsOthers a b := ⟨h.size, fun k o hk ho => h.block k o hk (.inr (fun hr => by
  cases o with
  | cells cs t f => cases ho
  | _ => exact hr))⟩
theorem stay (h : KeepR X a b) {k : Nat} {cs : Array Value} {t : TypeId} {f : Nat × Nat} (hk : a.heap[k]? = some (.cells cs t f)) (ht : t ≠ 78 ∧ t ≠ 30 ∧ t ≠ 34) : b.heap[k]? = some (.cells cs t f) :=
  h.block k _ hk (.inr (fun hr => by
    rcases hr with e | e | e
    · exact ht.1 e
    · exact ht.2.1 e
    · exact ht.2.2 e))
end KeepR
theorem own_rd {w : World} {base : Nat} {e : TypeId} {size : Nat} {v : Value} {n : Nat} {xs : List Value} (h : w.ownsRow base e size v n xs) (he : e = 30 ∨ e = 34) {k : Nat} (hk : v.ownBlock = some k) : ∃ o, w.heap[k]? = some o ∧ rdType o := by
  rcases h.2 with ⟨rfl, _⟩ | ⟨g, cap, cur, rfl, _, hb, _⟩
  · simp [Value.ownBlock] at hk
  · have : g = k := by simpa [Value.ownBlock] using hk
    subst this
    exact ⟨_, hb, .inr he⟩
end Go.Proofs.YtghlodpbbghcoaaGreatDoor
