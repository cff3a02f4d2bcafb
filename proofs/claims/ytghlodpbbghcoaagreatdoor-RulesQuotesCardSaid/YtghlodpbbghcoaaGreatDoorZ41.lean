/- Rows that the call owns, of things whose lists lie elsewhere: made, grown, turned. No program in sight. -/
import Derived.Test.YtghlodpbbghcoaaGreatDoorZ12
namespace Go.Proofs.YtghlodpbbghcoaaGreatDoor
open Go.RowKit
theorem szSet (w : World) (a : Addr) (v : Value) : (w.setCell a v).heap.size = w.heap.size := by simp [World.setCell]
/-- Things of so many cells each, whose lists lie in blocks of a predicate. -/
structure Kind (α : Type) where
  enc : α → List Value
  fine : α → World → (Nat → Prop) → Prop
  m : Nat
  len : ∀ x, (enc x).length = m
  move : ∀ {x : α} {w w' : World} {P Q : Nat → Prop}, fine x w P → Stays P w w' → (∀ k, P k → Q k) → fine x w' Q
def rulK : Kind RulC := ⟨RulC.list, fun c w P => StrsAt w P c.vw c.words, 5, fun _ => rfl, fun h hs hq => h.move hs hq⟩
def eltK : Kind EltC := ⟨EltC.list, fun c w P => c.Fine w P, 3, fun _ => rfl, fun h hs hq => h.move hs hq⟩
/-- A row that the call owns, all of it in blocks that are allowed; no list of a thing lies in the row's own block. -/
structure RowI {α : Type} (K : Kind α) (e : TypeId) (A : Nat → Prop) (w : World) (v : Value) (l : List α) : Prop where
  own : w.ownsRow 0 e K.m v l.length (flat K.enc l)
  mine : ∀ k, v.ownBlock = some k → A k
  kids : ∃ P : Nat → Prop, (∀ c ∈ l, K.fine c w P) ∧ (∀ k, P k → A k ∧ k < w.heap.size) ∧ ∀ k, P k → v.ownBlock ≠ some k
namespace RowI
variable {α : Type} {K : Kind α} {e : TypeId} {A : Nat → Prop} {w : World} {v : Value} {l : List α}
theorem nil (w : World) : RowI K e A w (.slice none 0 0) [] := ⟨World.ownsRow_nil _ _ _ _, fun k hk => by simp [Value.ownBlock] at hk, fun _ => False, fun c hc => absurd hc (by simp), fun k h => h.elim, fun k h => h.elim⟩
/-- A world in which the allowed blocks stay. -/
theorem stays (h : RowI K e A w v l) {w' : World} (hs : Stays (fun k => A k ∧ k < w.heap.size) w w') (hz : w.heap.size ≤ w'.heap.size) : RowI K e A w' v l := by
  obtain ⟨h1, hm, P, h2, h3, h4⟩ := h
  have hlt := h1.lt
  refine ⟨⟨h1.1, h1.2.imp id (fun ⟨g, cap, cur, a, b, c, d⟩ => ⟨g, cap, cur, a, b, (hs g ⟨hm g (by rw [a]; rfl), (hlt g (by rw [a]; rfl)).2⟩).trans c, d⟩)⟩, hm, P, fun c hc => K.move (h2 c hc) (Stays.mono hs h3) (fun _ h => h), fun k hk => ⟨(h3 k hk).1, Nat.lt_of_lt_of_le (h3 k hk).2 hz⟩, h4⟩
theorem carry (h : RowI K e A w v l) {w' : World} (hB : Below w.heap.size w w') : RowI K e A w' v l := h.stays (Stays.below hB (fun _ hk => hk.2)) hB.size
/-- A store outside of what is allowed. -/
theorem other (h : RowI K e A w v l) {p : Addr} (hp : ¬ A p.block) (u : Value) : RowI K e A (w.setCell p u) v l := h.stays (Stays.set (fun hk => hp hk.1) u) (by rw [szSet]; exact Nat.le_refl _)
theorem grown (h : RowI K e A w v l) {w' : World} {row : Option Nat} (hg : w.grownBy w' row) (hr : ∀ k, A k → row ≠ some k) : RowI K e A w' v l := h.stays (Stays.grown hg (fun k hk => ⟨hk.2, hr k hk.1⟩)) hg.size
theorem allow {A' : Nat → Prop} (h : RowI K e A w v l) (ha : ∀ k, A k → k < w.heap.size → A' k) : RowI K e A' w v l := by
  obtain ⟨h1, hm, P, h2, h3, h4⟩ := h
  exact ⟨h1, fun k hk => ha k (hm k hk) (h1.lt k hk).2, P, h2, fun k hk => ⟨ha k (h3 k hk).1 (h3 k hk).2, (h3 k hk).2⟩, h4⟩
theorem form (h : RowI K e A w v l) : (l = [] ∧ v = .slice none 0 0) ∨ ∃ g cap, v = .slice (some ⟨g, 0, none⟩) l.length cap ∧ A g ∧ g < w.heap.size ∧ l.length ≤ cap := by
  rcases id h.own.2 with ⟨rfl, h0⟩ | ⟨g, cap, cur, rfl, hb0, hb, h1, h2, h3, h4⟩
  · exact .inl ⟨List.eq_nil_of_length_eq_zero h0, rfl⟩
  · exact .inr ⟨g, cap, rfl, h.mine g rfl, (h.own.lt g rfl).2, h1⟩
theorem cell (h : RowI K e A w v l) {g n cap : Nat} (hv : v = .slice (some ⟨g, 0, none⟩) n cap) {i : Nat} (hi : i < l.length) {j : Nat} (hj : j < K.m) : w.cell? ⟨g, i * K.m + j, none⟩ = (K.enc l[i])[j]? := by
  subst hv
  have hn : n = l.length := by
    rcases h.own.2 with ⟨h0, _⟩ | ⟨g', cap', cur, h0, _⟩
    · simp at h0
    · simp only [Value.slice.injEq] at h0
      exact h0.2.1
  subst hn
  have hle : i * K.m + j < l.length * K.m := by
    have : (i + 1) * K.m ≤ l.length * K.m := Nat.mul_le_mul_right _ hi
    rw [Nat.add_mul, Nat.one_mul] at this
    omega
  rw [h.own.cellAt _ hle, flat_get K.len (List.getElem?_eq_getElem hi) hj]
theorem crow (h : RowI K e A w v l) : CRow w (fun k => A k ∧ k < w.heap.size) K.m v (l.map K.enc) := by
  rcases h.form with ⟨rfl, rfl⟩ | ⟨g, cap, hv, hg0, hg1, hc⟩
  · exact CRow.nil _ _ _
  · refine ⟨_, cap, by rw [List.length_map]; exact hv, by rw [List.length_map]; exact hc, fun j hj => ⟨g, 0, rfl, ⟨hg0, hg1⟩, fun i hi => ?_⟩⟩
    rw [List.length_map] at hj
    rw [Nat.zero_add, h.cell hv hj hi, List.getElem_map]
theorem fineAll (h : RowI K e A w v l) : ∀ c ∈ l, K.fine c w (fun k => A k ∧ k < w.heap.size) := by
  obtain ⟨h1, hm, P, h2, h3, h4⟩ := h
  exact fun c hc => K.move (h2 c hc) (Stays.refl _ _) h3
/-- A thing more. -/
theorem push {w' : World} {v' : Value} {c : α} {R : Nat → Prop} (h : RowI K e A w v l) (hc : K.fine c w R) (hR : ∀ k, R k → A k ∧ k < w.heap.size ∧ v.ownBlock ≠ some k) (hA : ∀ k, w.heap.size ≤ k → A k)
    (hown : w'.ownsRow 0 e K.m v' (l.length + 1) (flat K.enc l ++ K.enc c)) (hg : w.grownBy w' v.ownBlock) (hat : ∀ k, v'.ownBlock = some k → v.ownBlock = some k ∨ w.heap.size ≤ k) : RowI K e A w' v' (l ++ [c]) := by
  obtain ⟨h1, hm, P, h2, h3, h4⟩ := h
  have key : ∀ {Q : Nat → Prop}, (∀ k, Q k → k < w.heap.size ∧ v.ownBlock ≠ some k) → Stays Q w w' := fun hQ => Stays.grown hg hQ
  refine ⟨?_, fun k hk => (hat k hk).elim (hm k) (hA k), fun k => P k ∨ R k, ?_, ?_, ?_⟩
  · rw [flat_append, flat_one, List.length_append]
    exact hown
  · intro d hd
    rcases List.mem_append.1 hd with hd | hd
    · exact K.move (h2 d hd) (key (fun k hk => ⟨(h3 k hk).2, h4 k hk⟩)) (fun _ h => .inl h)
    · rw [List.mem_singleton.1 hd]
      exact K.move hc (key (fun k hk => (hR k hk).2)) (fun _ h => .inr h)
  · rintro k (hk | hk)
    · exact ⟨(h3 k hk).1, Nat.lt_of_lt_of_le (h3 k hk).2 hg.size⟩
    · exact ⟨(hR k hk).1, Nat.lt_of_lt_of_le (hR k hk).2.1 hg.size⟩
  · rintro k hk e
    have hb : k < w.heap.size ∧ v.ownBlock ≠ some k := by
      rcases hk with hk | hk
      · exact ⟨(h3 k hk).2, h4 k hk⟩
      · exact (hR k hk).2
    rcases hat k e with e2 | e2
    · exact hb.2 e2
    · exact absurd hb.1 (Nat.not_lt.2 e2)
/-- A thing's list turned: a cell of it stored. -/
theorem turn {g n cap i j : Nat} {u : Value} {c : α} {R : Nat → Prop} (h : RowI K e A w v l) (hv : v = .slice (some ⟨g, 0, none⟩) n cap) (hi : i < l.length) (he : K.enc c = (K.enc l[i]).set j u) (hj : j < K.m)
    (hc : K.fine c w R) (hR : ∀ k, R k → A k ∧ k < w.heap.size ∧ v.ownBlock ≠ some k) : RowI K e A (w.setCell ⟨g, i * K.m + j, none⟩ u) v (l.set i c) := by
  obtain ⟨h1, hm, P, h2, h3, h4⟩ := h
  have hn : n = l.length := by
    rcases h1.2 with ⟨h0, _⟩ | ⟨g', cap', cur, h0, _⟩
    · rw [hv] at h0; simp at h0
    · rw [hv] at h0
      simp only [Value.slice.injEq] at h0
      exact h0.2.1
  subst hn
  have hg : v.ownBlock = some g := by rw [hv]; rfl
  have key : ∀ {Q : Nat → Prop}, (∀ k, Q k → v.ownBlock ≠ some k) → Stays Q w (w.setCell ⟨g, i * K.m + j, none⟩ u) := fun hQ => Stays.set (fun hk => hQ _ hk hg) u
  refine ⟨?_, hm, fun k => P k ∨ R k, ?_, ?_, ?_⟩
  · have hs := (World.ownsRow.stored (by rw [hv] at h1; exact h1) (i * K.m + j) u).1
    rw [List.length_set, hv]
    have hf : ∀ (l : List α) (i : Nat) (hi : i < l.length), K.enc c = (K.enc l[i]).set j u → flat K.enc (l.set i c) = (flat K.enc l).set (i * K.m + j) u := by
      intro l
      induction l with
      | nil => intro i hi; simp at hi
      | cons x l ih =>
        intro i hi he
        cases i with
        | zero =>
          show K.enc c ++ flat K.enc l = (K.enc x ++ flat K.enc l).set _ u
          rw [Nat.zero_mul, Nat.zero_add, List.set_append_left _ _ (by rw [K.len]; exact hj)]
          rw [he]
          rfl
        | succ i =>
          show K.enc x ++ flat K.enc (l.set i c) = (K.enc x ++ flat K.enc l).set _ u
          have e1 : (i + 1) * K.m + j = K.m + (i * K.m + j) := by rw [Nat.add_mul]; omega
          rw [List.set_append_right _ _ (by rw [K.len]; omega), K.len, e1, Nat.add_sub_cancel_left, ih i (by simpa using hi) (by simpa using he)]
    rw [hf l i hi he]
    exact hs
  · intro d hd
    rcases List.mem_or_eq_of_mem_set hd with hd | rfl
    · exact K.move (h2 d hd) (key h4) (fun _ h => .inl h)
    · exact K.move hc (key (fun k hk => (hR k hk).2.2)) (fun _ h => .inr h)
  · rintro k (hk | hk)
    · exact ⟨(h3 k hk).1, by rw [szSet]; exact (h3 k hk).2⟩
    · exact ⟨(hR k hk).1, by rw [szSet]; exact (hR k hk).2.1⟩
  · rintro k (hk | hk)
    · exact h4 k hk
    · exact (hR k hk).2.2
end RowI
theorem RowI.ruls {e : TypeId} {A : Nat → Prop} {w : World} {v : Value} {l : List RulC} (h : RowI rulK e A w v l) : RulsAt w (fun k => A k ∧ k < w.heap.size) v (l.map RulC.rul) := ⟨l, rfl, h.fineAll, h.crow⟩
theorem RowI.elts {e : TypeId} {A : Nat → Prop} {w : World} {v : Value} {l : List EltC} (h : RowI eltK e A w v l) : EltsAt w (fun k => A k ∧ k < w.heap.size) v (l.map EltC.elt) := ⟨l, rfl, h.fineAll, h.crow⟩
end Go.Proofs.YtghlodpbbghcoaaGreatDoor
