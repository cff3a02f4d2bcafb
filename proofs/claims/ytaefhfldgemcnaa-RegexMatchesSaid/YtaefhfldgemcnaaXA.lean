/- Walks over the document's parser: branches, their state. -/
import Derived.Test.YtaefhfldgemcnaaR33
namespace Go.Proofs.Ytaefhfldgemcnaa
open Go.RowKit

theorem jInts_append (a b : List Nat) : jInts (a ++ b) = jInts a ++ jInts b := by simp [jInts]
theorem jInts_length (a : List Nat) : (jInts a).length = a.length := by simp [jInts]
theorem own_samej {w w' : World} {base : Nat} {e : TypeId} {size n : Nat} {v : Value} {xs : List Value} (h : w.ownsRow base e size v n xs) (hs : ∀ g, v.ownBlock = some g → w'.heap[g]? = w.heap[g]?) : w'.ownsRow base e size v n xs := by
  obtain ⟨h1, h2⟩ := h
  refine ⟨h1, ?_⟩
  rcases h2 with h2 | ⟨g, cap, cur, hv, hg, hh, r⟩
  · exact .inl h2
  · exact .inr ⟨g, cap, cur, hv, hg, (hs g (by rw [hv]; rfl)).trans hh, r⟩
/-- A slice of places that is the call's own. -/
def OwnJ (w W : World) (v : Value) (l : List Nat) : Prop := W.ownsRow (w.heap.size + 2) 3 1 v l.length (jInts l)
theorem OwnJ.lt {w W : World} {v : Value} {l : List Nat} (h : OwnJ w W v l) {g : Nat} (hg : v.ownBlock = some g) : w.heap.size + 2 ≤ g ∧ g < W.heap.size := World.ownsRow.lt h g hg
theorem OwnJ.nil (w W : World) : OwnJ w W (.slice none 0 0) [] := World.ownsRow_nil _ _ _ _
theorem OwnJ.form {w W : World} {v : Value} {l : List Nat} (h : OwnJ w W v l) : ∃ A c, v = .slice A l.length c := by
  obtain ⟨A, c, rfl, _⟩ := own_form h
  exact ⟨A, c, rfl⟩
theorem OwnJ.cells {w W : World} {A : Option Addr} {c : Nat} {l : List Nat} (h : OwnJ w W (.slice A l.length c) l) {P : Nat → Prop} (hP : ∀ g, (Value.slice A l.length c).ownBlock = some g → P g) : CellsIn W P A (jInts l) := by
  intro j hj
  obtain ⟨b, o, h1, h2, h3⟩ := CellsAt.of_own h j hj
  refine ⟨b, o, h1, ?_, h3⟩
  obtain ⟨_, h5⟩ := h
  rcases h5 with ⟨hv, hn⟩ | ⟨g, cap, cur, hv, hg, _⟩
  · rw [jInts_length] at hj; omega
  · simp only [Value.slice.injEq] at hv
    have hA := hv.1
    rw [h1] at hA
    simp only [Option.some.injEq, Addr.mk.injEq, and_true] at hA
    refine hP b ?_
    rw [h1, hA.1, hA.2]
    rfl

structure BSt (P : Nat → Prop) (s : ByteArray) (w W : World) (A : Option Addr) (n c k : Nat) (bad : Bool) (ns : List RN) (ov lv : Value) (os ls : List Nat) : Prop where
  X : BoxP W w.heap.size A n c s k bad
  Y : RoomP W (w.heap.size + 1)
  B : Below w.heap.size w W
  N : NodesAt W (fun g => P g ∨ (Late w W g ∧ ov.ownBlock ≠ some g ∧ lv.ownBlock ≠ some g)) A ns
  z : w.heap.size + 2 ≤ W.heap.size
  n : ns.length = n
  o : OwnJ w W ov os
  l : OwnJ w W lv ls
  ne : ∀ g, ov.ownBlock = some g → lv.ownBlock ≠ some g
section
variable {P : Nat → Prop} {s : ByteArray} {w W : World} {A : Option Addr} {n c k : Nat} {bad : Bool} {ns : List RN} {ov lv : Value} {os ls : List Nat}
theorem BSt.start (h : PSt P s w W A n c k bad ns) (hW : ∀ g, Late w W g → False) : BSt P s w W A n c k bad ns (.slice none 0 0) (.slice none 0 0) [] [] :=
  ⟨h.X, h.Y, h.B, h.N.move (fun g hg => by
    rcases hg with hg | hg
    · exact ⟨.inl hg, rfl⟩
    · exact (hW g hg).elim), h.z, h.n, OwnJ.nil _ _, OwnJ.nil _ _, fun g hg => by cases hg⟩
/-- Nothing but block w.heap.size and new blocks has changed. -/
theorem BSt.change (h : BSt P s w W A n c k bad ns ov lv os ls) (hP : ∀ g, P g → g < w.heap.size) {W' : World} {A' : Option Addr} {n' c' k' : Nat} {bad' : Bool} {ns' : List RN} {ov' : Value} {os' : List Nat} (hX : BoxP W' w.heap.size A' n' c' s k' bad') (hs : W.heap.size ≤ W'.heap.size)
    (hh : ∀ g, g ≠ w.heap.size → g < W.heap.size → W'.heap[g]? = W.heap[g]?) (hB : Below w.heap.size w W') (hN : NodesAt W' (fun g => P g ∨ (Late w W' g ∧ ov'.ownBlock ≠ some g ∧ lv.ownBlock ≠ some g)) A' ns') (hn : ns'.length = n') (ho : (ov' = ov ∧ os' = os) ∨ (ov' = .slice none 0 0 ∧ os' = [])) :
    BSt P s w W' A' n' c' k' bad' ns' ov' lv os' ls := by
  have hz := h.z
  refine ⟨hX, ?_, hB, hN, by omega, hn, ?_, own_samej h.l (fun g hg => ?_), ?_⟩
  · obtain ⟨a, b, c, d, hy⟩ := h.Y
    exact ⟨a, b, c, d, (hh _ (by omega) (by omega)).trans hy⟩
  · rcases ho with ⟨rfl, rfl⟩ | ⟨rfl, rfl⟩
    · exact own_samej h.o (fun g hg => hh g (by have := (h.o.lt hg).1; omega) (h.o.lt hg).2)
    · exact OwnJ.nil _ _
  · exact hh g (by have := (h.l.lt hg).1; omega) (h.l.lt hg).2
  · rcases ho with ⟨rfl, rfl⟩ | ⟨rfl, rfl⟩
    · exact h.ne
    · intro g hg; cases hg
theorem BSt.below (h : BSt P s w W A n c k bad ns ov lv os ls) (hP : ∀ g, P g → g < w.heap.size) {W' : World} (hb : Below W.heap.size W W') : BSt P s w W' A n c k bad ns ov lv os ls := by
  have hz := h.z
  refine h.change hP (h.X.below hb (by omega)) hb.size (fun g _ hg => hb.block g hg) (h.B.trans (hb.mono h.B.size)) (h.N.move (fun g hg => ?_)) h.n (.inl ⟨rfl, rfl⟩)
  rcases hg with hg | ⟨hg, h2⟩
  · have := hP g hg
    exact ⟨.inl hg, hb.block g (by omega)⟩
  · exact ⟨.inr ⟨⟨hg.1, Nat.lt_of_lt_of_le hg.2 hb.size⟩, h2⟩, hb.block g hg.2⟩
theorem BSt.at_ (h : BSt P s w W A n c k bad ns ov lv os ls) (hP : ∀ g, P g → g < w.heap.size) : BSt P s w (W.setCell ⟨w.heap.size, 2, none⟩ (.int .i64 ((k : Int) + 1))) A n c (k + 1) bad ns ov lv os ls := by
  have hz := h.z
  refine h.change hP h.X.at_ (by simp) (fun g hg _ => Below.heap_setCell W ⟨w.heap.size, 2, none⟩ _ g hg) (h.B.setCell (p := ⟨w.heap.size, 2, none⟩) (Nat.le_refl _) _) (h.N.move (fun g hg => ?_)) h.n (.inl ⟨rfl, rfl⟩)
  rcases hg with hg | ⟨hg, h2⟩
  · have := hP g hg
    exact ⟨.inl hg, Below.heap_setCell W ⟨w.heap.size, 2, none⟩ _ g (by simp; omega)⟩
  · exact ⟨.inr ⟨⟨hg.1, by simpa using hg.2⟩, h2⟩, Below.heap_setCell W ⟨w.heap.size, 2, none⟩ _ g (by have := hg.1; simp; omega)⟩
/-- What a call hands back is stored. -/
theorem BSt.stored (h : BSt P s w W A n c k bad ns ov lv os ls) (hP : ∀ g, P g → g < w.heap.size) {W' : World} (hb : Below W.heap.size W W') {A' : Option Addr} {n' c' k' : Nat} {bad' : Bool} {ns' : List RN} {ov' : Value} {os' : List Nat} (hN : NodesAt W' (fun g => P g ∨ (Late w W' g ∧ ov'.ownBlock ≠ some g ∧ lv.ownBlock ≠ some g)) A' ns') (hn : ns'.length = n')
    (ho : (ov' = ov ∧ os' = os) ∨ (ov' = .slice none 0 0 ∧ os' = [])) :
    BSt P s w (W'.setCells w.heap.size 0 [.slice A' n' c', .string s, .int .i64 k', .bool bad']) A' n' c' k' bad' ns' ov' lv os' ls := by
  have h' := h.below hP hb
  have hz := h'.z
  have hsz := setCells_size [.slice A' n' c', .string s, .int .i64 k', .bool bad'] w.heap.size 0 W'
  refine h'.change hP (h'.X.room.stored A' n' c' s k' bad') (by omega) (fun g hg _ => heap_setCells_other hg _ _ _) (below_setCells (Nat.le_refl _) _ _ _ h'.B) (hN.move (fun g hg => ?_)) hn ho
  rcases hg with hg | ⟨hg, h2⟩
  · have := hP g hg
    exact ⟨.inl hg, heap_setCells_other (by omega) _ _ _⟩
  · exact ⟨.inr ⟨⟨hg.1, by have := hg.2; omega⟩, h2⟩, heap_setCells_other (by have := hg.1; omega) _ _ _⟩
theorem BSt.bound (h : BSt P s w W A n c k bad ns ov lv os ls) (hP : ∀ g, P g → g < w.heap.size) : ∀ g, (P g ∨ (Late w W g ∧ ov.ownBlock ≠ some g ∧ lv.ownBlock ≠ some g)) → g < W.heap.size := fun g hg => by
  have hz := h.z
  rcases hg with hg | hg
  · have := hP g hg; omega
  · exact hg.1.2
/-- What a piece hands back. -/
theorem BSt.of_call (h : BSt P s w W A n c k bad ns ov lv os ls) {W' : World} {A' : Option Addr} {ns' : List RN} (hb : Below W.heap.size W W') (hN : NodesAt W' (fun g => (P g ∨ (Late w W g ∧ ov.ownBlock ≠ some g ∧ lv.ownBlock ≠ some g)) ∨ Fresh W W' g) A' ns') :
    NodesAt W' (fun g => P g ∨ (Late w W' g ∧ ov.ownBlock ≠ some g ∧ lv.ownBlock ≠ some g)) A' ns' := by
  have hz := h.z
  have hs := hb.size
  refine hN.move (fun g hg => ⟨?_, rfl⟩)
  rcases hg with (hg | hg) | hg
  · exact .inl hg
  · exact .inr ⟨⟨hg.1.1, Nat.lt_of_lt_of_le hg.1.2 hs⟩, hg.2⟩
  · have h1 := hg.1
    exact .inr ⟨⟨by omega, hg.2⟩, fun h2 => by have := (h.o.lt h2).2; omega, fun h2 => by have := (h.l.lt h2).2; omega⟩
theorem box_grown {w W W' : World} {v : Value} {l : List Nat} (ho : OwnJ w W v l) (hg : W.grownBy W' v.ownBlock) {g : Nat} (hg1 : g < w.heap.size + 2) (hg2 : g < W.heap.size) : W'.heap[g]? = W.heap[g]? :=
  hg.block g hg2 (fun h => by have := (ho.lt h.symm).1; omega)
/-- One more place behind the branch's own. -/
theorem BSt.grow_o (h : BSt P s w W A n c k bad ns ov lv os ls) (hP : ∀ g, P g → g < w.heap.size) {W' : World} {ov' : Value} {j : Nat} (hown : W'.ownsRow (w.heap.size + 2) 3 1 ov' (os.length + 1) (jInts os ++ [.int .i64 j])) (hbel : Below (w.heap.size + 2) W W') (hg : W.grownBy W' ov.ownBlock) (hnew : ∀ g, ov'.ownBlock = some g → ov.ownBlock = some g ∨ W.heap.size < g) :
    BSt P s w W' A n c k bad ns ov' lv (os ++ [j]) ls := by
  have hz := h.z
  have hsz := hg.size
  refine ⟨(box_grown h.o hg (by omega) (by omega)).trans h.X, ?_, h.B.trans (hbel.mono (by omega)), h.N.move (fun g hq => ?_), by omega, h.n, ?_, own_samej h.l (fun g hl => ?_), ?_⟩
  · obtain ⟨a, b, c, d, hy⟩ := h.Y
    exact ⟨a, b, c, d, (box_grown h.o hg (by omega) (by omega)).trans hy⟩
  · rcases hq with hq | ⟨h1, h2, h3⟩
    · have := hP g hq
      exact ⟨.inl hq, box_grown h.o hg (by omega) (by omega)⟩
    · refine ⟨.inr ⟨⟨h1.1, by have := h1.2; omega⟩, fun h4 => ?_, h3⟩, hg.block g h1.2 (fun h4 => h2 h4.symm)⟩
      rcases hnew g h4 with h5 | h5
      · exact h2 h5
      · have := h1.2; omega
  · show World.ownsRow _ _ _ _ _ _ _
    rw [jInts_append, List.length_append]
    exact hown
  · exact hg.block g (h.l.lt hl).2 (fun h4 => h.ne g h4.symm hl)
  · intro g h4
    rcases hnew g h4 with h5 | h5
    · exact h.ne g h5
    · intro h6; have := (h.l.lt h6).2; omega
/-- One more place behind the branches' own. -/
theorem BSt.grow_l (h : BSt P s w W A n c k bad ns ov lv os ls) (hP : ∀ g, P g → g < w.heap.size) {W' : World} {lv' : Value} {j : Nat} (hown : W'.ownsRow (w.heap.size + 2) 3 1 lv' (ls.length + 1) (jInts ls ++ [.int .i64 j])) (hbel : Below (w.heap.size + 2) W W') (hg : W.grownBy W' lv.ownBlock) (hnew : ∀ g, lv'.ownBlock = some g → lv.ownBlock = some g ∨ W.heap.size < g) :
    BSt P s w W' A n c k bad ns ov lv' os (ls ++ [j]) := by
  have hz := h.z
  have hsz := hg.size
  refine ⟨(box_grown h.l hg (by omega) (by omega)).trans h.X, ?_, h.B.trans (hbel.mono (by omega)), h.N.move (fun g hq => ?_), by omega, h.n, own_samej h.o (fun g ho => ?_), ?_, ?_⟩
  · obtain ⟨a, b, c, d, hy⟩ := h.Y
    exact ⟨a, b, c, d, (box_grown h.l hg (by omega) (by omega)).trans hy⟩
  · rcases hq with hq | ⟨h1, h2, h3⟩
    · have := hP g hq
      exact ⟨.inl hq, box_grown h.l hg (by omega) (by omega)⟩
    · refine ⟨.inr ⟨⟨h1.1, by have := h1.2; omega⟩, h2, fun h4 => ?_⟩, hg.block g h1.2 (fun h4 => h3 h4.symm)⟩
      rcases hnew g h4 with h5 | h5
      · exact h3 h5
      · have := h1.2; omega
  · exact hg.block g (h.o.lt ho).2 (fun h4 => h.ne g ho h4.symm)
  · show World.ownsRow _ _ _ _ _ _ _
    rw [jInts_append, List.length_append]
    exact hown
  · intro g h4 h6
    rcases hnew g h6 with h5 | h5
    · exact h.ne g h4 h5
    · have := (h.o.lt h4).2; omega
/-- The branch's own becomes a part's list. -/
theorem BSt.add_o (h : BSt P s w W A n c k bad ns ov lv os ls) (hP : ∀ g, P g → g < w.heap.size) (hn : n ≤ 9000) (op : UInt8) :
    Calls Try.prog 69 #[pvOf A n c s k bad, .agg #[.int .u8 op.toNat, .slice none 0 0, ov]] W fun e w' =>
      ∃ A' c', e = .returned (.tuple #[pvOf A' (n + 1) c' s k bad, .int .i64 n]) ∧ Hid (NodesAt w' (fun g => P g ∨ (Late w w' g ∧ (Value.slice none 0 0).ownBlock ≠ some g ∧ lv.ownBlock ≠ some g)) A' (ns ++ [⟨op, [], os⟩])) ∧ Hid (Below W.heap.size W w') := by
  have hnn := h.n
  have hz := h.z
  obtain ⟨Ao, co, rfl⟩ := h.o.form
  have hc : CellsIn W (fun g => P g ∨ (Late w W g ∧ lv.ownBlock ≠ some g)) Ao (jInts os) := h.o.cells (fun g hg => .inr ⟨h.o.lt hg, h.ne g hg⟩)
  have := refAdd_any (fun g => P g ∨ (Late w W g ∧ lv.ownBlock ≠ some g)) A c s k bad ns ⟨op, [], os⟩ (.slice none 0 0, .slice Ao os.length co) W (by omega) (h.N.move (fun g hg => ⟨by
    rcases hg with hg | hg
    · exact .inl hg
    · exact .inr ⟨hg.1, hg.2.2⟩, rfl⟩)) ⟨⟨none, 0, rfl, nil_cells _ _ _⟩, Ao, co, rfl, hc⟩ (fun g hg => by
    rcases hg with hg | hg
    · have := hP g hg; omega
    · exact hg.1.2)
  rw [hnn] at this
  refine this.mono ?_
  rintro e w' ⟨A', c', rfl, hN, hb⟩
  have hs := hb.size
  refine ⟨A', c', by rw [hnn], hN.move (fun g hg => ⟨?_, rfl⟩), hb⟩
  rcases hg with (hg | hg) | hg
  · exact .inl hg
  · exact .inr ⟨⟨hg.1.1, Nat.lt_of_lt_of_le hg.1.2 hs⟩, by simp [Value.ownBlock], hg.2⟩
  · have h1 := hg.1
    exact .inr ⟨⟨by omega, hg.2⟩, by simp [Value.ownBlock], fun h2 => by have := (h.l.lt h2).2; omega⟩
/-- The branches' own becomes a part's list; what is handed back. -/
theorem BSt.add_l (h : BSt P s w W A n c k bad ns (.slice none 0 0) lv [] ls) (hP : ∀ g, P g → g < w.heap.size) (hn : n ≤ 9000) (op : UInt8) :
    Calls Try.prog 69 #[pvOf A n c s k bad, .agg #[.int .u8 op.toNat, .slice none 0 0, lv]] W fun e w' =>
      ∃ A' c', e = .returned (.tuple #[pvOf A' (n + 1) c' s k bad, .int .i64 n]) ∧ Hid (NodesAt w' (fun g => P g ∨ Fresh W w' g ∨ Late w W g) A' (ns ++ [⟨op, [], ls⟩])) ∧ Hid (Below W.heap.size W w') := by
  have hnn := h.n
  have hz := h.z
  obtain ⟨Ao, co, rfl⟩ := h.l.form
  have hc : CellsIn W (fun g => P g ∨ Late w W g) Ao (jInts ls) := h.l.cells (fun g hg => .inr (h.l.lt hg))
  have := refAdd_any (fun g => P g ∨ Late w W g) A c s k bad ns ⟨op, [], ls⟩ (.slice none 0 0, .slice Ao ls.length co) W (by omega) (h.N.move (fun g hg => ⟨by
    rcases hg with hg | hg
    · exact .inl hg
    · exact .inr hg.1, rfl⟩)) ⟨⟨none, 0, rfl, nil_cells _ _ _⟩, Ao, co, rfl, hc⟩ (fun g hg => by
    rcases hg with hg | hg
    · have := hP g hg; omega
    · exact hg.2)
  rw [hnn] at this
  refine this.mono ?_
  rintro e w' ⟨A', c', rfl, hN, hb⟩
  refine ⟨A', c', by rw [hnn], hN.move (fun g hg => ⟨?_, rfl⟩), hb⟩
  rcases hg with (hg | hg) | hg
  · exact .inl hg
  · exact .inr (.inr hg)
  · exact .inr (.inl hg)
end
end Go.Proofs.Ytaefhfldgemcnaa

/- Walks over the document's parser: branches. -/
namespace Go.Proofs.Ytaefhfldgemcnaa
open Go.RowKit

theorem piece_some {s : ByteArray} {f k : Nat} {t : T} {k' : Nat} (h : pieceF s f k = some (t, k')) (hk : k ≤ s.size) : ∃ p k1, atomF s f k = some (p, k1) ∧ reps s p k1 = (t, k') ∧ k < k' ∧ k' ≤ s.size := by
  unfold pieceF at h
  cases ha : atomF s f k with
  | none => rw [ha] at h; cases h
  | some q =>
    obtain ⟨p, k1⟩ := q
    rw [ha] at h
    have hr : reps s p k1 = (t, k') := by simpa using h
    have h1 := (pfacts s f).a k p k1 hk ha
    have h2 := repsF_le s (s.size - k1) p k1 h1.2.1
    have h3 : repsF s (s.size - k1) p k1 = (t, k') := hr
    rw [h3] at h2
    exact ⟨p, k1, rfl, hr, by omega, h2.2.1⟩
theorem piece_none {s : ByteArray} {f k : Nat} (h : pieceF s f k = none) : atomF s f k = none := by
  unfold pieceF at h
  cases ha : atomF s f k with
  | none => rfl
  | some q => rw [ha] at h; cases h
/-- What an expression is after a branch. -/
def afterB (s : ByteArray) (g : Nat) (ts : List T) : Option (T × Nat) → Option (T × Nat)
  | none => none
  | some (p, k') => if atL s k' [124] then exprF s g (ts ++ [p]) (k' + 1) else some (eitherT (ts ++ [p]), k')
theorem exprF_succ (s : ByteArray) (g : Nat) (ts : List T) (k : Nat) : exprF s (g + 1) ts k = afterB s g ts (branchF s g [] k) := by
  rw [exprF]
  unfold afterB
  cases branchF s g [] k <;> rfl
def afterA (s : ByteArray) (g : Nat) (ts : List T) : Option (T × Nat) → Option (T × Nat)
  | none => none
  | some (p, k') => branchF s g (ts ++ [p]) k'
theorem branchF_go {s : ByteArray} {g k : Nat} {ts : List T} (hk : k < s.size) (h : atL s k [124, 41] = false) : branchF s (g + 1) ts k = afterA s g ts (pieceF s g k) := by
  rw [branchF, h, decide_eq_true hk, if_pos (by decide)]
  unfold afterA pieceF
  cases atomF s g k <;> rfl
theorem branchF_end {s : ByteArray} {g k : Nat} {ts : List T} (h : ¬ (k < s.size ∧ atL s k [124, 41] = false)) : branchF s (g + 1) ts k = some (rowT ts, k) := by
  rw [branchF, if_neg]
  intro h2
  rw [Bool.and_eq_true, decide_eq_true_eq] at h2
  exact h ⟨h2.1, by simpa using h2.2⟩

set_option maxRecDepth 8192 in
set_option maxHeartbeats 12800000 in
theorem refExpr_any (s : ByteArray) (k0 : Nat) (hs : s.size ≤ 1000) (hk0 : k0 ≤ s.size) (IH : ∀ k, k0 ≤ k → k < s.size → RefPieceOk s k) : RefExprOk s k0 := by
  intro P A c ns f w hN hP hbud hf
  obtain ⟨res, hres⟩ : ∃ res, res = exprF s f [] k0 := ⟨_, rfl⟩
  show Calls _ _ _ _ (PPost P s ns (exprF s f [] k0) k0 2 _ _ w)
  rw [← hres]
  have HP := Lib.hid hP
  obtain ⟨n, hnn⟩ : ∃ n, ns.length = n := ⟨_, rfl⟩
  have HS0 : Hid (∀ (o : Obj), (∃ a b c d, o = .cells #[a, b, c, d] 82) → PSt P s w ((w.alloc (.cells #[.slice A n c, .string s, .int .i64 k0, .bool false] 82)).alloc o) A n c k0 false ns) := fun o ho => PSt.start hN hP hnn o ho
  rw [hnn] at hbud
  have Hnn := Lib.hid hnn
  have Hres := Lib.hid hres
  have HIS := Lib.hid (fun (A : Option Addr) (n c kx : Nat) (b : Bool) (ch : UInt8) (wx : World) => refIs_any A n c s kx b ch wx)
  have HIH := Lib.hid IH
  have HAM : Hid (∀ (cb : UInt8) (wx : World), Calls Try.prog 67 #[.int .u8 cb.toNat, .string (ByteArray.mk #[124, 41])] wx fun e w' => e = .returned (.bool (inL [124, 41] cb)) ∧ wx = w') := fun cb wx => refAmong_any cb (ByteArray.mk #[124, 41]) wx (by decide)
  rw [hnn]
  clear hres hN hP hnn IH
  go_enter Try.func54, Try.ntmps54
  go_upto_region 1 with fail
  have hS0 := HS0.out (.cells #[.slice none 0 0, .string (ByteArray.mk #[]), .int .i64 0, .bool false] 82) ⟨_, _, _, _, rfl⟩
  have hS := Lib.hid (BSt.start hS0 (fun g hg => by have h1 := hg.1; have h2 := hg.2; simp at h2; omega))
  generalize (w.alloc _).alloc _ = W at hS ⊢
  clear HS0 hS0
  go_wp2_with fail
  go_loopg [4] (s.size + 1 - k0) (fun q lv wr => ∃ (K nn c' f' : Nat) (A' : Option Addr) (ms : List RN) (ls : List Nat) (ts : List T), q = s.size + 1 - K ∧ K ≤ s.size ∧ k0 ≤ K ∧ ls.length ≤ K ∧ Hid (BSt P s w wr A' nn c' K false (ns ++ ms) (.slice none 0 0) lv [] ls) ∧
    Hid (res = exprF s f' ts K) ∧ 3 * (s.size - K) + 3 ≤ f' ∧ Hid (Dens (ns ++ ms) ls ts) ∧ Hid (NsOk ns → NsOk (ns ++ ms)) ∧ ms.length + 2 * k0 ≤ 2 * K)
  case atStart => exact ⟨k0, n, c, f, A, [], [], [], rfl, hk0, Nat.le_refl _, Nat.zero_le _, by rw [List.append_nil]; exact hS, Hres, hf, Dens.nil _, by rw [List.append_nil]; exact id, by simp⟩
  case round =>
    clear hS Hres
    obtain ⟨K, nn, c', f', A', ms, ls, ts, hq, hKs, hkK, hlsK, hS, hr, hf', hden, hok, hml⟩ := hrel
    obtain ⟨lv, rfl⟩ : ∃ lv, lv = u4 := ⟨_, rfl⟩
    obtain ⟨g, rfl⟩ : ∃ g, f' = g + 1 := ⟨f' - 1, by omega⟩
    obtain ⟨rb, hrb⟩ : ∃ rb, rb = branchF s g [] K := ⟨_, rfl⟩
    have hr2 : Hid (res = afterB s g ts rb) := by show _ = _; rw [hr.out, exprF_succ, hrb]
    have Hrb := Lib.hid hrb
    obtain ⟨wo, rfl⟩ : ∃ wo : World, wo = wr := ⟨_, rfl⟩
    clear hr hrb
    go_wp2_with fail
    go_loopg [5] (s.size + 1 - K) (fun q ov wr => ∃ (K2 nn2 c2 : Nat) (A2 : Option Addr) (ms2 : List RN) (os : List Nat) (bad : Bool), q = (if bad then 0 else s.size + 1 - K2) ∧ K2 ≤ 5000 ∧ os.length ≤ 5000 ∧ Hid (BSt P s w wr A2 nn2 c2 K2 bad (ns ++ ms2) ov lv os ls) ∧
      Hid ((bad = false ∧ ∃ g2 ts2, rb = branchF s g2 ts2 K2 ∧ 3 * (s.size - K2) + 2 ≤ g2 ∧ K ≤ K2 ∧ K2 ≤ s.size ∧ os.length ≤ K2 ∧ Dens (ns ++ ms2) os ts2 ∧ Dens (ns ++ ms2) ls ts ∧ (NsOk ns → NsOk (ns ++ ms2)) ∧ ms2.length + 2 * k0 ≤ 2 * K2) ∨
        (bad = true ∧ rb = none ∧ K2 ≤ 2 * s.size + 2 - k0 ∧ ms2.length ≤ 2 * (s.size - k0) + 1 ∧ os.length ≤ s.size + 1)))
    case atStart => exact ⟨K, nn, c', A', ms, [], false, by simp, by omega, by simp, hS, .inl ⟨rfl, g, [], Hrb.out, by omega, Nat.le_refl _, hKs, Nat.zero_le _, Dens.nil _, hden.out, hok.out, hml⟩⟩
    case round =>
      clear hS Hrb hden hok hml
      obtain ⟨K2, nn2, c2, A2, ms2, os, bad, hq2, hK25, hos5, hS, hin⟩ := hrel
      obtain ⟨ov, rfl⟩ : ∃ ov, ov = u5 := ⟨_, rfl⟩
      obtain ⟨cont, hcont⟩ : ∃ cont, (!bad && (decide (K2 < s.size) && !atL s K2 [124, 41])) = cont := ⟨_, rfl⟩
      have Hcont := Lib.hid hcont
      clear hcont
      obtain ⟨wi, rfl⟩ : ∃ wi : World, wi = wr := ⟨_, rfl⟩
      go_upto_region 3 with fail
      go_cut [28] (fun x wx => x = .bool cont ∧ wx = wi)
      case first =>
        have x1 : wi.cell? ⟨w.heap.size, 1, none⟩ = some (.string s) := blk_cell hS.out.X 1
        have x2 : wi.cell? ⟨w.heap.size, 2, none⟩ = some (.int .i64 K2) := blk_cell hS.out.X 2
        have x3 : wi.cell? ⟨w.heap.size, 3, none⟩ = some (.bool bad) := blk_cell hS.out.X 3
        have hco := Hcont.out
        cases bad with
        | true =>
          rw [Bool.not_true, Bool.false_and] at hco
          subst hco
          go_wp2_with fail
          go_meet
          exact ⟨rfl, rfl⟩
        | false =>
          rw [Bool.not_false, Bool.true_and] at hco
          by_cases hlt : K2 < s.size
          · obtain ⟨cb, hcb⟩ : ∃ cb : UInt8, s[K2] = cb := ⟨_, rfl⟩
            have hi0 : (0 : Int) ≤ (K2 : Int) := by omega
            have hi1 : (K2 : Int) < (s.size : Int) := by omega
            have hd : decide ((K2 : Int) < (s.size : Int)) = true := decide_eq_true hi1
            have hat : atL s K2 [124, 41] = inL [124, 41] cb := by unfold atL; rw [decide_eq_true hlt, Bool.true_and, ← byteAt_eq hlt, hcb]
            rw [decide_eq_true hlt, Bool.true_and, hat] at hco
            have Hco := Lib.hid hco
            have HAMc := Lib.hid (HAM.out cb)
            obtain ⟨am, ham⟩ : ∃ am, inL [124, 41] cb = am := ⟨_, rfl⟩
            rw [ham] at HAMc Hco
            clear hco hat ham
            go_wp2_with fail
            refine (HAMc.out _).mono ?_
            rintro e w0 ⟨rfl, rfl⟩
            go_wp2_with fail
            go_meet
            exact ⟨by rw [Hco.out], rfl⟩
          · have hd : decide ((K2 : Int) < (s.size : Int)) = false := decide_eq_false (by omega)
            have hd2 : ¬ ((K2 : Int) < (s.size : Int)) := by omega
            rw [decide_eq_false hlt, Bool.false_and] at hco
            subst hco
            go_wp2_with fail
            go_meet
            exact ⟨rfl, rfl⟩
      case rest =>
      obtain ⟨rfl, rfl⟩ := hcut
      cases cont with
      | true =>
        have hgo : Hid (bad = false ∧ K2 < s.size ∧ atL s K2 [124, 41] = false) := by
          have := Hcont.out
          simp only [Bool.and_eq_true, Bool.not_eq_true', decide_eq_true_eq] at this
          exact ⟨this.1, this.2.1, this.2.2⟩
        obtain ⟨hbad, hlt, hat⟩ := hgo.out
        subst hbad
        have hin2 : ∃ g2 ts2, rb = branchF s (g2 + 1) ts2 K2 ∧ 3 * (s.size - K2) + 1 ≤ g2 ∧ K ≤ K2 ∧ K2 ≤ s.size ∧ os.length ≤ K2 ∧ Dens (ns ++ ms2) os ts2 ∧ Dens (ns ++ ms2) ls ts ∧ (NsOk ns → NsOk (ns ++ ms2)) ∧ ms2.length + 2 * k0 ≤ 2 * K2 := by
          rcases hin.out with ⟨_, g2, ts2, h1, h2, h3⟩ | ⟨h1, _⟩
          · obtain ⟨g3, rfl⟩ : ∃ g3, g2 = g3 + 1 := ⟨g2 - 1, by omega⟩
            exact ⟨g3, ts2, h1, by omega, h3⟩
          · cases h1
        obtain ⟨g2, ts2, hrb, hg2, hKK, hK2s, hosK, hd1, hd2, hok2, hml2⟩ := hin2
        have hrb2 : Hid (rb = afterA s g2 ts2 (pieceF s g2 K2)) := by show _ = _; rw [hrb, branchF_go hlt hat]
        have Hd1 := Lib.hid hd1
        have Hd2 := Lib.hid hd2
        have Hok2 := Lib.hid hok2
        rw [if_neg (by decide)] at hq2
        have hnl := hS.out.n
        rw [List.length_append, Hnn.out] at hnl
        have HPC := HIH.out K2 (by omega) hlt (fun g => P g ∨ (Late w wc g ∧ ov.ownBlock ≠ some g ∧ lv.ownBlock ≠ some g)) A2 c2 (ns ++ ms2) g2 wc hS.out.N (hS.out.bound HP.out) (by rw [hS.out.n]; omega) hg2
        rw [hS.out.n] at HPC
        have HPC2 : Hid (Calls Try.prog 68 #[pvOf A2 nn2 c2 s K2 false] wc (PPost (fun g => P g ∨ (Late w wc g ∧ ov.ownBlock ≠ some g ∧ lv.ownBlock ≠ some g)) s (ns ++ ms2) (pieceF s g2 K2) K2 0 (2 * s.size + 2 - K2) (2 * (s.size - K2) + 1) wc)) := HPC
        clear HPC hgo hin Hcont hrb hd1 hd2 hok2 hat
        go_wp2_with ((with_reducible show wpList _ _ _ (⟨some 30, _, _, _, _, _⟩ :: _) _ _); refine wpList_load_row rfl 82 _ rfl w.heap.size rfl 82 _ (0, 0) _ hS.out.X Try.underlying82 rfl info82 ?_)
        refine HPC2.out.mono ?_
        rintro e w1 ⟨A3, c3, ms3, idx, K3, bad3, rfl, hN3, hb3, hpp⟩
        obtain ⟨n3, hn3⟩ : ∃ n3, (ns ++ ms2 ++ ms3).length = n3 := ⟨_, rfl⟩
        rw [hn3]
        have hX1 := Lib.hid ((hS.out.below HP.out hb3.out).X)
        have hS1 := Lib.hid (hS.out.stored HP.out hb3.out (c' := c3) (k' := K3) (bad' := bad3) (hS.out.of_call hb3.out hN3.out) hn3 (.inl ⟨rfl, rfl⟩))
        clear hS hN3 hb3 hn3 HPC2
        go_upto_region 6 with ((with_reducible show wpList _ _ _ (⟨none, _, _, _, _, _⟩ :: _) _ _); refine wpList_store_mid rfl 82 _ _ rfl w.heap.size 0 _ rfl rfl hX1.out.room.there info82 (one82 _ _ _ _ _ _) ?_)
        generalize w1.setCells _ _ _ = W1 at hS1 ⊢
        clear hX1
        obtain ⟨Ao, co, rfl⟩ := hS1.out.o.form
        have hz1 := hS1.out.z
        obtain ⟨ol, hol⟩ : ∃ ol, os.length = ol := ⟨_, rfl⟩
        have hown := hS1.out.o
        unfold OwnJ at hown
        rw [hol] at hown hos5 hosK ⊢
        have Hol := Lib.hid hol
        clear hol
        go_wp2_with (at_builtin; refine wpList_append_new_at info3 Try.underlying36 rfl (by decide) (by decide) (w.heap.size + 2) hown 1 rfl _ _ rfl rfl rfl (by simp) rfl rfl (by omega) hz1 ?_; intro ov' w' hown2 hbel hgt hgrow hnew)
        have hS2 : Hid (BSt P s w w' A3 n3 c3 K3 bad3 (ns ++ ms2 ++ ms3) ov' lv (os ++ [idx]) ls) := hS1.out.grow_o HP.out (by rw [Hol.out]; exact hown2) hbel (by rw [Hol.out]; exact hgrow) (by rw [Hol.out]; exact hnew)
        have hfin : Hid ((bad3 = false ∧ ∃ g4 ts4, rb = branchF s g4 ts4 K3 ∧ 3 * (s.size - K3) + 2 ≤ g4 ∧ K ≤ K3 ∧ K3 ≤ s.size ∧ (os ++ [idx]).length ≤ K3 ∧ Dens (ns ++ (ms2 ++ ms3)) (os ++ [idx]) ts4 ∧ Dens (ns ++ (ms2 ++ ms3)) ls ts ∧ (NsOk ns → NsOk (ns ++ (ms2 ++ ms3))) ∧ (ms2 ++ ms3).length + 2 * k0 ≤ 2 * K3 ∧ K2 < K3) ∨
            (bad3 = true ∧ rb = none ∧ K3 ≤ 2 * s.size + 2 - k0 ∧ (ms2 ++ ms3).length ≤ 2 * (s.size - k0) + 1 ∧ (os ++ [idx]).length ≤ s.size + 1)) := by
          rw [← List.append_assoc, List.length_append, List.length_append, Hol.out]
          rcases hpp.out with ⟨t, h1, h2, h3, h4, h5⟩ | ⟨h1, h2, h3, h4⟩
          · obtain ⟨p, k1, h6, h7, h8, h9⟩ := piece_some h1 hK2s
            refine .inl ⟨h2, g2, ts2 ++ [t], ?_, by omega, by omega, h9, by simp only [List.length_cons, List.length_nil]; omega, (Hd1.out.more ms3).snoc h3, Hd2.out.more ms3, fun h => h4 (Hok2.out h), by omega, h8⟩
            rw [hrb2.out, h1]
            rfl
          · refine .inr ⟨h2, ?_, by omega, by omega, by simp only [List.length_cons, List.length_nil]; omega⟩
            rw [hrb2.out, h1]
            rfl
        rw [List.append_assoc] at hS2
        clear hown2 hbel hgrow hnew hown hS1 hpp Hd1 Hd2 Hok2 hrb2 hnl
        have hK35 : K3 ≤ 5000 := by
          rcases hfin.out with ⟨_, _, _, _, _, _, h, _⟩ | ⟨_, _, h, _⟩ <;> omega
        have ho35 : (os ++ [idx]).length ≤ 5000 := by rw [List.length_append, Hol.out]; simp only [List.length_cons, List.length_nil]; omega
        have hms : (if bad3 then 0 else s.size + 1 - K3) < s.size + 1 - K2 := by
          rcases hfin.out with ⟨h, _, _, _, _, _, _, _, _, _, _, _, h2⟩ | ⟨h, _⟩
          · rw [h, if_neg (by decide)]; omega
          · rw [h, if_pos rfl]; omega
        have hfin2 : Hid ((bad3 = false ∧ ∃ g4 ts4, rb = branchF s g4 ts4 K3 ∧ 3 * (s.size - K3) + 2 ≤ g4 ∧ K ≤ K3 ∧ K3 ≤ s.size ∧ (os ++ [idx]).length ≤ K3 ∧ Dens (ns ++ (ms2 ++ ms3)) (os ++ [idx]) ts4 ∧ Dens (ns ++ (ms2 ++ ms3)) ls ts ∧ (NsOk ns → NsOk (ns ++ (ms2 ++ ms3))) ∧ (ms2 ++ ms3).length + 2 * k0 ≤ 2 * K3) ∨
            (bad3 = true ∧ rb = none ∧ K3 ≤ 2 * s.size + 2 - k0 ∧ (ms2 ++ ms3).length ≤ 2 * (s.size - k0) + 1 ∧ (os ++ [idx]).length ≤ s.size + 1)) := by
          rcases hfin.out with ⟨h1, g4, ts4, h2, h3, h4, h5, h6, h7, h8, h9, h10, _⟩ | h
          · exact .inl ⟨h1, g4, ts4, h2, h3, h4, h5, h6, h7, h8, h9, h10⟩
          · exact .inr h
        clear hfin
        go_roundg (if bad3 then 0 else s.size + 1 - K3)
        case rel => exact ⟨K3, n3, c3, A3, ms2 ++ ms3, os ++ [idx], bad3, rfl, hK35, ho35, hS2, hfin2⟩
        case measure => exact hms
      | false =>
        have hend : Hid ((bad = false ∧ ∃ ts2, rb = some (rowT ts2, K2) ∧ K ≤ K2 ∧ (K2 ≤ s.size ∧ os.length ≤ K2) ∧ Dens (ns ++ ms2) os ts2 ∧ Dens (ns ++ ms2) ls ts ∧ (NsOk ns → NsOk (ns ++ ms2)) ∧ ms2.length + 2 * k0 ≤ 2 * K2) ∨
            (bad = true ∧ rb = none ∧ K2 ≤ 2 * s.size + 2 - k0 ∧ ms2.length ≤ 2 * (s.size - k0) + 1)) := by
          rcases hin.out with ⟨h1, g2, ts2, h2, h3, h4, h5, h6, h7, h8, h9, h10⟩ | ⟨h1, h2, h3, h4, _⟩
          · obtain ⟨g3, rfl⟩ : ∃ g3, g2 = g3 + 1 := ⟨g2 - 1, by omega⟩
            have hco := Hcont.out
            rw [h1, Bool.not_false, Bool.true_and] at hco
            rw [branchF_end (by
              rintro ⟨h11, h12⟩
              rw [decide_eq_true h11, h12] at hco
              cases hco)] at h2
            exact .inl ⟨h1, ts2, h2, h4, ⟨h5, h6⟩, h7, h8, h9, h10⟩
          · exact .inr ⟨h1, h2, h3, h4⟩
        have hnl := hS.out.n
        rw [List.length_append, Hnn.out] at hnl
        have hnn9 : nn2 ≤ 8000 := by
          rcases hend.out with ⟨_, _, _, _, _, _, _, _, h⟩ | ⟨_, _, _, h⟩ <;> omega
        have Hnl := Lib.hid hnl
        clear hin Hcont hq2 hos5 hnl
        obtain ⟨Ao, co, rfl⟩ := hS.out.o.form
        go_wp2_with ((with_reducible show wpList _ _ _ (⟨some 39, _, _, _, _, _⟩ :: _) _ _); refine wpList_load_row rfl 82 _ rfl w.heap.size rfl 82 _ (0, 0) _ hS.out.X Try.underlying82 rfl info82 ?_)
        refine (hS.out.add_o HP.out (by omega) 116).mono ?_
        rintro e w1 ⟨A3, c3, rfl, hN3, hb3⟩
        have hX1 := Lib.hid ((hS.out.below HP.out hb3.out).X)
        have hS1 := Lib.hid (hS.out.stored HP.out hb3.out (c' := c3) (k' := K2) (bad' := bad) hN3.out (n' := nn2 + 1) (by rw [List.length_append, hS.out.n]; rfl) (.inr ⟨rfl, rfl⟩))
        have hlS := Lib.hid hS.out.n
        clear hS hN3 hb3
        go_upto_region 9 with ((with_reducible show wpList _ _ _ (⟨none, _, _, _, _, _⟩ :: _) _ _); refine wpList_store_mid rfl 82 _ _ rfl w.heap.size 0 _ rfl rfl hX1.out.room.there info82 (one82 _ _ _ _ _ _) ?_)
        generalize w1.setCells _ _ _ = W1 at hS1 ⊢
        clear hX1
        obtain ⟨Al, cl, rfl⟩ := hS1.out.l.form
        have hz1 := hS1.out.z
        obtain ⟨ll, hll⟩ : ∃ ll, ls.length = ll := ⟨_, rfl⟩
        have hown := hS1.out.l
        unfold OwnJ at hown
        rw [hll] at hown hlsK ⊢
        have Hll := Lib.hid hll
        clear hll
        go_upto_region 10 with (at_builtin; refine wpList_append_new_at info3 Try.underlying36 rfl (by decide) (by decide) (w.heap.size + 2) hown 1 rfl _ _ rfl rfl rfl (by simp) rfl rfl (by omega) hz1 ?_; intro lv' W2 hown2 hbel hgt hgrow hnew)
        have hS2 : Hid (BSt P s w W2 A3 (nn2 + 1) c3 K2 bad (ns ++ ms2 ++ [⟨116, [], os⟩]) (.slice none 0 0) lv' [] (ls ++ [nn2])) := hS1.out.grow_l HP.out (by rw [Hll.out]; exact hown2) hbel (by rw [Hll.out]; exact hgrow) (by rw [Hll.out]; exact hnew)
        clear hown2 hbel hgrow hnew hown hS1
        obtain ⟨more, hmore⟩ : ∃ more, (!bad && atL s K2 [124]) = more := ⟨_, rfl⟩
        have Hmore := Lib.hid hmore
        clear hmore
        go_cut [8] (fun x wx => x = .bool more ∧ Hid (Below W2.heap.size W2 wx))
        case first =>
          have x0 : W2.cell? ⟨w.heap.size, 0, none⟩ = some (.slice A3 (nn2 + 1) c3) := blk_cell hS2.out.X 0
          have x1 : W2.cell? ⟨w.heap.size, 1, none⟩ = some (.string s) := blk_cell hS2.out.X 1
          have x2 : W2.cell? ⟨w.heap.size, 2, none⟩ = some (.int .i64 K2) := blk_cell hS2.out.X 2
          have x3 : W2.cell? ⟨w.heap.size, 3, none⟩ = some (.bool bad) := blk_cell hS2.out.X 3
          have hmo := Hmore.out
          cases bad with
          | true =>
            rw [Bool.not_true, Bool.false_and] at hmo
            subst hmo
            go_wp2_with fail
            go_meet
            exact ⟨rfl, Below.refl _ _⟩
          | false =>
            rw [Bool.not_false, Bool.true_and] at hmo
            have Hmo := Lib.hid hmo
            clear hmo
            go_wp2_with fail
            refine (HIS.out A3 (nn2 + 1) c3 K2 false 124 _).mono ?_
            rintro e w3 ⟨rfl, hb3⟩
            go_wp2_with fail
            go_meet
            exact ⟨by rw [Hmo.out], hb3⟩
        case rest =>
        obtain ⟨rfl, hb3⟩ := hcut
        have hS3 := Lib.hid (hS2.out.below HP.out hb3.out)
        clear hS2 hb3
        cases more with
        | true =>
          have hmo := Hmore.out
          rw [Bool.and_eq_true] at hmo
          obtain ⟨hb0, hat⟩ := hmo
          have hbad : bad = false := by simpa using hb0
          subst hbad
          have hlt := atL_lt hat
          have hend2 : ∃ ts2, rb = some (rowT ts2, K2) ∧ K ≤ K2 ∧ (K2 ≤ s.size ∧ os.length ≤ K2) ∧ Dens (ns ++ ms2) os ts2 ∧ Dens (ns ++ ms2) ls ts ∧ (NsOk ns → NsOk (ns ++ ms2)) ∧ ms2.length + 2 * k0 ≤ 2 * K2 := by
            rcases hend.out with ⟨_, h⟩ | ⟨h, _⟩
            · exact h
            · cases h
          obtain ⟨ts2, h1, h2, h3, h4, h5, h6, h7⟩ := hend2
          have hr3 : Hid (res = exprF s g (ts ++ [rowT ts2]) (K2 + 1)) := by
            show _ = _
            rw [hr2.out, h1]
            show (if atL s K2 [124] = true then _ else _) = _
            rw [hat, if_pos rfl]
          have hdb := den_branch h4
          rw [hlS.out] at hdb
          have hds : Hid (Dens (ns ++ (ms2 ++ [⟨116, [], os⟩])) (ls ++ [nn2]) (ts ++ [rowT ts2])) := by
            show Dens _ _ _
            rw [← List.append_assoc]
            exact (h5.more _).snoc hdb
          have hok3 : Hid (NsOk ns → NsOk (ns ++ (ms2 ++ [⟨116, [], os⟩]))) := fun h => by
            rw [← List.append_assoc]
            exact (h6 h).snoc (.inr (.inr (.inl ⟨rfl, by show os.length ≤ 2000; omega, h4.lt⟩)))
          have hms3 : (ms2 ++ [(⟨116, [], os⟩ : RN)]).length + 2 * k0 ≤ 2 * (K2 + 1) := by rw [List.length_append]; simp only [List.length_cons, List.length_nil]; omega
          have hll3 : (ls ++ [nn2]).length ≤ K2 + 1 := by rw [List.length_append, Hll.out]; simp only [List.length_cons, List.length_nil]; omega
          have hS4 := Lib.hid (hS3.out.at_ HP.out)
          rw [List.append_assoc] at hS4
          have c2' : wc.cell? ⟨w.heap.size, 2, none⟩ = some (.int .i64 K2) := blk_cell hS3.out.X 2
          have f2' : wc.frozen? ⟨w.heap.size, 2, none⟩ = false := blk_frozen hS3.out.X 2
          clear hend h1 h4 h5 h6 hdb hb0 hat Hmore hS3
          go_wp2_with fail
          go_roundg (s.size + 1 - (K2 + 1))
          case rel => exact ⟨K2 + 1, nn2 + 1, c3, g, A3, ms2 ++ [⟨116, [], os⟩], ls ++ [nn2], ts ++ [rowT ts2], rfl, hlt, by omega, hll3, hS4, hr3, by omega, hds, hok3, hms3⟩
          case measure => omega
        | false =>
          have hlsb : (ls ++ [nn2]).length ≤ 2000 := by rw [List.length_append, Hll.out]; simp only [List.length_cons, List.length_nil]; omega
          clear hlsK Hll hz1
          have hz3 := hS3.out.z
          obtain ⟨Al2, cl2, hlv⟩ := hS3.out.l.form
          have HAL := Lib.hid (hS3.out.add_l HP.out (by omega) 111)
          have hcw := hlv
          obtain ⟨l2, hl2⟩ : ∃ l2, (ls ++ [nn2]).length = l2 := ⟨_, rfl⟩
          rw [hl2] at hcw
          have hfinal : Hid ((∃ t, res = some (t, K2) ∧ bad = false ∧ Den (ns ++ (ms2 ++ [⟨116, [], os⟩, ⟨111, [], ls ++ [nn2]⟩])) (nn2 + 1) (Lang t) ∧ (NsOk ns → NsOk (ns ++ (ms2 ++ [⟨116, [], os⟩, ⟨111, [], ls ++ [nn2]⟩]))) ∧ (ms2 ++ [(⟨116, [], os⟩ : RN), ⟨111, [], ls ++ [nn2]⟩]).length + 2 * k0 ≤ 2 * K2 + 2) ∨
              (res = none ∧ bad = true ∧ K2 ≤ 2 * s.size + 2 - k0 ∧ (ms2 ++ [(⟨116, [], os⟩ : RN), ⟨111, [], ls ++ [nn2]⟩]).length ≤ 2 * (s.size - k0) + 3)) := by
            have e1 : ns ++ (ms2 ++ [⟨116, [], os⟩, ⟨111, [], ls ++ [nn2]⟩]) = ((ns ++ ms2) ++ [⟨116, [], os⟩]) ++ [⟨111, [], ls ++ [nn2]⟩] := by simp
            have e2 : (ms2 ++ [(⟨116, [], os⟩ : RN), ⟨111, [], ls ++ [nn2]⟩]).length = ms2.length + 2 := by simp
            have e3 : ((ns ++ ms2) ++ [(⟨116, [], os⟩ : RN)]).length = nn2 + 1 := by rw [List.length_append, hlS.out]; rfl
            rw [e1, e2]
            rcases hend.out with ⟨h0, ts2, h1, h2, h3, h4, h5, h6, h7⟩ | ⟨h0, h1, h2, h3⟩
            · have hmo := Hmore.out
              rw [h0, Bool.not_false, Bool.true_and] at hmo
              have hdb := den_branch h4
              rw [hlS.out] at hdb
              have hds : Dens ((ns ++ ms2) ++ [⟨116, [], os⟩]) (ls ++ [nn2]) (ts ++ [rowT ts2]) := (h5.more _).snoc hdb
              have hde := den_expr hds
              rw [e3] at hde
              refine .inl ⟨_, ?_, h0, hde, fun h => ((h6 h).snoc (.inr (.inr (.inl ⟨rfl, by show os.length ≤ 2000; omega, h4.lt⟩)))).snoc (.inr (.inl ⟨rfl, hlsb, hds.lt⟩)), by omega⟩
              rw [hr2.out, h1]
              show (if atL s K2 [124] = true then _ else _) = _
              rw [hmo, if_neg (by decide)]
            · exact .inr ⟨by rw [hr2.out, h1]; rfl, h0, h2, by omega⟩
          clear hend hlv hl2 Hmore
          subst hcw
          go_wp2_with ((with_reducible show wpList _ _ _ (⟨some 58, _, _, _, _, _⟩ :: _) _ _); refine wpList_load_row rfl 82 _ rfl w.heap.size rfl 82 _ (0, 0) _ hS3.out.X Try.underlying82 rfl info82 ?_)
          refine HAL.out.mono ?_
          rintro e w5 ⟨A5, c5, rfl, hN5, hb5⟩
          have hS5 := Lib.hid (hS3.out.below HP.out hb5.out)
          have hsz5 := hb5.out.size
          clear HAL
          go_wp2_with ((with_reducible show wpList _ _ _ (⟨none, _, _, _, _, _⟩ :: _) _ _); refine wpList_store_mid rfl 82 _ _ rfl (w.heap.size + 1) 0 _ rfl rfl hS5.out.Y.there info82 (one82 _ _ _ _ _ _) ?_)
          refine bodyPost_ret (results_pv (p := 2) (u := 3) rfl _ _ rfl (hS5.out.Y.stored A5 (nn2 + 1 + 1) c5 s K2 bad)) rfl ⟨A5, c5, ms2 ++ [⟨116, [], os⟩, ⟨111, [], ls ++ [nn2]⟩], nn2 + 1, K2, bad, ?_, ?_, below_setCells (by omega) _ _ _ hS5.out.B, hfinal⟩
          · have e4 : (ns ++ (ms2 ++ [(⟨116, [], os⟩ : RN), ⟨111, [], ls ++ [nn2]⟩])).length = nn2 + 1 + 1 := by rw [← List.append_assoc, List.length_append, hlS.out]; rfl
            rw [e4]
            rfl
          · show NodesAt _ _ _ _
            have e1 : ns ++ (ms2 ++ [⟨116, [], os⟩, ⟨111, [], ls ++ [nn2]⟩]) = ((ns ++ ms2) ++ [⟨116, [], os⟩]) ++ [⟨111, [], ls ++ [nn2]⟩] := by simp
            rw [e1]
            have hsz := setCells_size [.slice A5 (nn2 + 1 + 1) c5, .string s, .int .i64 K2, .bool bad] (w.heap.size + 1) 0 w5
            refine hN5.out.move (fun g hg => ?_)
            rcases hg with hg | hg | hg
            · have := HP.out g hg
              exact ⟨.inl hg, heap_setCells_other (by omega) _ _ _⟩
            · have h1 := hg.1
              have h2 := hg.2
              exact ⟨.inr ⟨by omega, Nat.lt_of_lt_of_eq h2 hsz.symm⟩, heap_setCells_other (by omega) _ _ _⟩
            · have h1 := hg.1
              have h2 := hg.2
              exact ⟨.inr ⟨by omega, Nat.lt_of_lt_of_eq (by omega) hsz.symm⟩, heap_setCells_other (by omega) _ _ _⟩
end Go.Proofs.Ytaefhfldgemcnaa

/- Walks over the document's parser: the whole. -/
namespace Go.Proofs.Ytaefhfldgemcnaa
open Go.RowKit

theorem refExpr_ok (s : ByteArray) (hs : s.size ≤ 1000) : ∀ (n k : Nat), s.size ≤ n + k → k ≤ s.size → RefExprOk s k := by
  intro n
  induction n with
  | zero => intro k h1 h2; exact refExpr_any s k hs h2 (fun j h3 h4 => absurd h4 (by omega))
  | succ n ih => intro k h1 h2; exact refExpr_any s k hs h2 (fun j h3 h4 => refPiece_any s j hs h4 (refAtom_any s j hs h4 (fun h5 => ih (j + 1) (by omega) h5)))

def RefParsePost (s : ByteArray) (w : World) (e : Ending) (w' : World) : Prop :=
  ((∃ t A c ns K, parseR s = some t ∧ e = .returned (.tuple #[.slice A (ns : List RN).length c, .int .i64 (K : Nat), .int .i64 0]) ∧ NodesAt w' (Fresh w w') A ns ∧ Den ns K (Lang t) ∧ NsOk ns ∧ ns.length ≤ 5000) ∨
    (parseR s = none ∧ e = .returned (.tuple #[.slice none 0 0, .int .i64 0, .int .i64 (if 60 < s.size then 3 else 2)]))) ∧ Below w.heap.size w w'

set_option maxHeartbeats 3200000 in
theorem refParse_any (s : ByteArray) (w : World) (hs : s.size ≤ 1000) : Calls Try.prog 30 #[.string s] w (RefParsePost s w) := by
  by_cases hlong : 60 < s.size
  · have hl : (60 : Int) < (s.size : Int) := by omega
    have hp : Hid (parseR s = none) := by show _ = _; unfold parseR; rw [if_pos hlong]
    have h3 : Hid ((if 60 < s.size then 3 else 2 : Int) = 3) := by show _ = _; rw [if_pos hlong]
    clear hlong
    go_enter Try.func30, Try.ntmps30
    go_wp2_with fail
    go_ret3
    exact ⟨.inr ⟨hp.out, by rw [h3.out]; rfl⟩, Below.refl _ _⟩
  · have hl : ¬ (60 : Int) < (s.size : Int) := by omega
    have h2 : Hid ((if 60 < s.size then 3 else 2 : Int) = 2) := by show _ = _; rw [if_neg hlong]
    have hp : Hid (parseR s = match exprF s (3 * s.size + 3) [] 0 with | none => none | some (t, k) => if k < s.size then none else some t) := by show _ = _; unfold parseR; rw [if_neg hlong]; rfl
    have HE : Hid (Calls Try.prog 54 #[.agg #[.slice none 0 0, .string s, .int .i64 0, .bool false]] w (PPost (fun _ => False) s [] (exprF s (3 * s.size + 3) [] 0) 0 2 (2 * s.size + 2 - 0) (2 * (s.size - 0) + 3) w)) := by
      have := refExpr_ok s hs s.size 0 (by omega) (Nat.zero_le _) (fun _ => False) none 0 [] (3 * s.size + 3) w (NodesAt.nil _ _ _) (fun g hg => hg.elim) (by simp; omega) (by omega)
      exact this
    clear hlong
    go_enter Try.func30, Try.ntmps30
    go_wp2_with fail
    refine HE.out.mono ?_
    rintro e w1 ⟨A1, c1, ms, K, k', bad, rfl, hN, hb, hpp⟩
    rw [List.nil_append] at hN hpp
    rw [List.nil_append]
    obtain ⟨n1, hn1⟩ : ∃ n1, ms.length = n1 := ⟨_, rfl⟩
    rw [hn1]
    have Hn1 := Lib.hid hn1
    have hN1 : Hid (NodesAt w1 (Fresh w w1) A1 ms) := hN.out.move (fun g hg => ⟨hg.elim False.elim id, rfl⟩)
    have hb2 := Lib.hid (hb.out.trans ((Below.refl _ _).alloc hb.out.size (.cells #[.slice A1 n1 c1, .string s, .int .i64 k', .bool bad] 82)))
    have hN2 : Hid (NodesAt (w1.alloc (.cells #[.slice A1 n1 c1, .string s, .int .i64 k', .bool bad] 82)) (Fresh w (w1.alloc (.cells #[.slice A1 n1 c1, .string s, .int .i64 k', .bool bad] 82))) A1 ms) := hN1.out.move (fun g hg => ⟨⟨hg.1, by have := hg.2; simp; omega⟩, heap_alloc_old w1 _ hg.2⟩)
    clear hN hb hN1 HE hn1
    cases bad with
    | true =>
      have hnone : Hid (parseR s = none) := by
        rcases hpp.out with ⟨_, _, h, _⟩ | ⟨h, _⟩
        · cases h
        · show _ = _; rw [hp.out, h]
      clear hpp hp
      go_wp2_with fail
      go_ret3
      exact ⟨.inr ⟨hnone.out, by rw [h2.out]; rfl⟩, hb2.out⟩
    | false =>
      have hgood : ∃ t, exprF s (3 * s.size + 3) [] 0 = some (t, k') ∧ Den ms K (Lang t) ∧ (NsOk [] → NsOk ms) ∧ ms.length + 2 * 0 ≤ 2 * k' + 2 := by
        rcases hpp.out with ⟨t, h1, _, h3⟩ | ⟨_, h, _⟩
        · exact ⟨t, h1, h3⟩
        · cases h
      obtain ⟨t, h1, h3, h4, h5⟩ := hgood
      have hk' := ((pfacts s _).e _ _ _ _ (Nat.zero_le _) h1).2.1
      have Hd := Lib.hid h3
      have Hok := Lib.hid h4
      by_cases hend : k' = s.size
      · have hne : ((k' : Int) != (s.size : Int)) = false := by rw [hend]; simp
        have hsome : Hid (parseR s = some t) := by show _ = _; rw [hp.out, h1]; show (if k' < s.size then none else some t) = _; rw [if_neg (by omega)]
        have hl5 : n1 ≤ 5000 := by rw [← Hn1.out]; omega
        clear hpp hp h1 h3 h4 h5 hend
        go_wp2_with fail
        go_ret3
        refine ⟨.inl ⟨t, A1, c1, ms, K, hsome.out, by rw [Hn1.out]; rfl, hN2.out, Hd.out, Hok.out (fun i r h => by simp at h), by rw [Hn1.out]; exact hl5⟩, hb2.out⟩
      · have hne : ((k' : Int) != (s.size : Int)) = true := by simp; omega
        have hnone : Hid (parseR s = none) := by show _ = _; rw [hp.out, h1]; show (if k' < s.size then none else some t) = _; rw [if_pos (by omega)]
        clear hpp hp h1 h3 h4 h5 hend
        go_wp2_with fail
        go_ret3
        exact ⟨.inr ⟨hnone.out, by rw [h2.out]; rfl⟩, hb2.out⟩
end Go.Proofs.Ytaefhfldgemcnaa
