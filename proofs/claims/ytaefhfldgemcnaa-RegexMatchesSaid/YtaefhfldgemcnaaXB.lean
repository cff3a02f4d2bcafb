/- Matching by splits: one part by its parts. No program in sight. -/
import Derived.Test.YtaefhfldgemcnaaP11
import Derived.Test.YtaefhfldgemcnaaXA
import Derived.BigRegion
import Derived.StillTailTactics
import Derived.Test.YtaefhfldgemcnaaMay
namespace Go.Proofs.Ytaefhfldgemcnaa

theorem denNode_s {acc : List LL} {r : RN} (h : r.op = 115) : denNode acc r = SetL r.set := by unfold denNode; rw [if_pos h]
theorem denNode_o {acc : List LL} {r : RN} (h : r.op = 111) : denNode acc r = fun s => ∃ j ∈ r.l, acc.getD j noL s := by unfold denNode; rw [if_neg (by rw [h]; decide), if_pos h]
theorem denNode_t {acc : List LL} {r : RN} (h : r.op = 116) : denNode acc r = CatL (r.l.map fun j => acc.getD j noL) := by unfold denNode; rw [if_neg (by rw [h]; decide), if_neg (by rw [h]; decide), if_pos h]
theorem denNode_m {acc : List LL} {r : RN} (h : r.op = 109) : denNode acc r = Star (acc.getD (r.l.headD 0) noL) := by unfold denNode; rw [if_neg (by rw [h]; decide), if_neg (by rw [h]; decide), if_neg (by rw [h]; decide)]
theorem den_congr {acc acc' : List LL} {i : Nat} {r : RN} (hr : RNOk i r) (h : ∀ j, j < i → acc.getD j noL = acc'.getD j noL) : denNode acc r = denNode acc' r := by
  rcases hr with ⟨h1, _, h2⟩ | ⟨h1, _, h2⟩ | ⟨h1, _, h2⟩ | ⟨h1, j, h2, h3⟩
  · rw [denNode_s h1, denNode_s h1]
  · rw [denNode_o h1, denNode_o h1]
    funext s
    apply propext
    constructor
    · rintro ⟨j, hj, hs⟩; exact ⟨j, hj, by rw [← h j (h2 j hj)]; exact hs⟩
    · rintro ⟨j, hj, hs⟩; exact ⟨j, hj, by rw [h j (h2 j hj)]; exact hs⟩
  · rw [denNode_t h1, denNode_t h1]
    congr 1
    exact List.map_congr_left fun j hj => h j (h2 j hj)
  · rw [denNode_m h1, denNode_m h1, h3]
    show Star (acc.getD j noL) = Star (acc'.getD j noL)
    rw [h j h2]
theorem den_at {ns : List RN} {i : Nat} {r : RN} (h : ns[i]? = some r) (hr : RNOk i r) : (denAll ns).getD i noL = denNode (denAll ns) r := by
  obtain ⟨hi, he⟩ := List.getElem?_eq_some_iff.1 h
  have hl : (ns.take i).length = i := by rw [List.length_take]; omega
  have hsplit : ns = (ns.take i ++ [r]) ++ ns.drop (i + 1) := by
    have h1 := List.take_append_drop i ns
    rw [List.drop_eq_getElem_cons hi, he] at h1
    rw [List.append_assoc]
    exact h1.symm
  have h1 := den_last (ns.take i) r
  rw [hl] at h1
  have h2 := Den.more (ns.drop (i + 1)) h1
  rw [← hsplit] at h2
  rw [h2.getD]
  refine den_congr hr fun j hj => ?_
  have h3 : j < (denAll (ns.take i)).length := by rw [denAll_length, hl]; exact hj
  have h4 : Den (ns.take i) j ((denAll (ns.take i)).getD j noL) := by
    unfold Den
    rw [List.getD_eq_getElem?_getD, List.getElem?_eq_getElem h3]
    rfl
  have h5 := Den.more ([r] ++ ns.drop (i + 1)) h4
  rw [← List.append_assoc, ← hsplit] at h5
  rw [h5.getD]

def unionF (F : Nat → Nat → Nat → Bool) (f : Nat → Nat → Bool) (l : List Nat) : Nat → Nat → Bool := l.foldl (fun acc j => bothF acc (F j)) f
def seqF (n : Nat) (F : Nat → Nat → Nat → Bool) (f : Nat → Nat → Bool) (l : List Nat) : Nat → Nat → Bool := l.foldl (fun acc j => joinF n acc (F j)) f
theorem unionF_snoc (F : Nat → Nat → Nat → Bool) (f : Nat → Nat → Bool) (l : List Nat) (j : Nat) : unionF F f (l ++ [j]) = bothF (unionF F f l) (F j) := by unfold unionF; rw [List.foldl_append]; rfl
theorem seqF_snoc (n : Nat) (F : Nat → Nat → Nat → Bool) (f : Nat → Nat → Bool) (l : List Nat) (j : Nat) : seqF n F f (l ++ [j]) = joinF n (seqF n F f l) (F j) := by unfold seqF; rw [List.foldl_append]; rfl
theorem tells_union {t : List UInt8} {F : Nat → Nat → Nat → Bool} {acc : List LL} : ∀ (l : List Nat) {f : Nat → Nat → Bool} {L0 : LL}, Tells t f L0 → (∀ j ∈ l, Tells t (F j) (acc.getD j noL)) → Tells t (unionF F f l) (fun s => L0 s ∨ ∃ j ∈ l, acc.getD j noL s) := by
  intro l
  induction l with
  | nil =>
    intro f L0 h _
    have : (fun s => L0 s ∨ ∃ j ∈ ([] : List Nat), acc.getD j noL s) = L0 := by funext s; simp
    rw [this]
    exact h
  | cons j l ih =>
    intro f L0 h hl
    have h1 := ih (tells_both h (hl j (by simp))) (fun x hx => hl x (List.mem_cons_of_mem _ hx))
    have : (fun s => L0 s ∨ ∃ x ∈ j :: l, acc.getD x noL s) = (fun s => (L0 s ∨ acc.getD j noL s) ∨ ∃ x ∈ l, acc.getD x noL s) := by
      funext s
      apply propext
      constructor
      · rintro (h | ⟨x, hx, hs⟩)
        · exact .inl (.inl h)
        · rcases List.mem_cons.1 hx with rfl | hx
          · exact .inl (.inr hs)
          · exact .inr ⟨x, hx, hs⟩
      · rintro ((h | h) | ⟨x, hx, hs⟩)
        · exact .inl h
        · exact .inr ⟨j, List.mem_cons_self, h⟩
        · exact .inr ⟨x, List.mem_cons_of_mem _ hx, hs⟩
    rw [this]
    exact h1
theorem cat_assoc2 {A B C : LL} : Cat (Cat A B) C = Cat A (Cat B C) := by
  funext s
  refine propext ⟨?_, ?_⟩
  · rintro ⟨u, v, rfl, ⟨x, y, rfl, h1, h2⟩, h3⟩
    exact ⟨x, y ++ v, List.append_assoc _ _ _, h1, y, v, rfl, h2, h3⟩
  · rintro ⟨u, v, rfl, h1, x, y, rfl, h2, h3⟩
    exact ⟨u ++ x, y, (List.append_assoc _ _ _).symm, ⟨u, x, rfl, h1, h2⟩, h3⟩
theorem tells_seq {t : List UInt8} {n : Nat} (hn : n = t.length + 1) {F : Nat → Nat → Nat → Bool} {acc : List LL} : ∀ (l : List Nat) {f : Nat → Nat → Bool} {L0 : LL}, Tells t f L0 → (∀ j ∈ l, Tells t (F j) (acc.getD j noL)) → Tells t (seqF n F f l) (Cat L0 (CatL (l.map fun j => acc.getD j noL))) := by
  intro l
  induction l with
  | nil =>
    intro f L0 h _
    have : Cat L0 (CatL (([] : List Nat).map fun j => acc.getD j noL)) = L0 := funext fun s => propext cat_nil
    rw [this]
    exact h
  | cons j l ih =>
    intro f L0 h hl
    have h1 := ih (tells_join hn h (hl j (by simp))) (fun x hx => hl x (List.mem_cons_of_mem _ hx))
    rw [List.map_cons, CatL, ← cat_assoc2]
    exact h1
theorem cat_unit (A : LL) : Cat (fun s => s = []) A = A := by
  funext s
  refine propext ⟨?_, fun h => ⟨[], s, rfl, rfl, h⟩⟩
  rintro ⟨u, v, rfl, rfl, h⟩
  exact h
/-- One part by its parts' tables. -/
def stepF (n : Nat) (t : List UInt8) (F : Nat → Nat → Nat → Bool) (r : RN) : Nat → Nat → Bool :=
  if r.op = 115 then setF t r.set else if r.op = 111 then unionF F offF r.l else if r.op = 116 then seqF n F idF r.l else starF n (F (r.l.headD 0)) n
theorem stepF_s {n : Nat} {t : List UInt8} {F : Nat → Nat → Nat → Bool} {r : RN} (h : r.op = 115) : stepF n t F r = setF t r.set := by unfold stepF; rw [if_pos h]
theorem stepF_o {n : Nat} {t : List UInt8} {F : Nat → Nat → Nat → Bool} {r : RN} (h : r.op = 111) : stepF n t F r = unionF F offF r.l := by unfold stepF; rw [if_neg (by rw [h]; decide), if_pos h]
theorem stepF_t {n : Nat} {t : List UInt8} {F : Nat → Nat → Nat → Bool} {r : RN} (h : r.op = 116) : stepF n t F r = seqF n F idF r.l := by unfold stepF; rw [if_neg (by rw [h]; decide), if_neg (by rw [h]; decide), if_pos h]
theorem stepF_m {n : Nat} {t : List UInt8} {F : Nat → Nat → Nat → Bool} {r : RN} (h : r.op = 109) : stepF n t F r = starF n (F (r.l.headD 0)) n := by unfold stepF; rw [if_neg (by rw [h]; decide), if_neg (by rw [h]; decide), if_neg (by rw [h]; decide)]
theorem tells_step {t : List UInt8} {n i : Nat} (hn : n = t.length + 1) {F : Nat → Nat → Nat → Bool} {acc : List LL} {r : RN} (hr : RNOk i r) (hF : ∀ j, j < i → Tells t (F j) (acc.getD j noL)) : Tells t (stepF n t F r) (denNode acc r) := by
  rcases hr with ⟨h1, _, h2⟩ | ⟨h1, _, h2⟩ | ⟨h1, _, h2⟩ | ⟨h1, j, h2, h3⟩
  · rw [stepF_s h1, denNode_s h1]
    exact tells_set t r.set
  · rw [stepF_o h1, denNode_o h1]
    have := tells_union r.l (tells_off t) (fun j hj => hF j (h2 j hj))
    have e : (fun s => noL s ∨ ∃ j ∈ r.l, acc.getD j noL s) = (fun s => ∃ j ∈ r.l, acc.getD j noL s) := by funext s; simp [noL]
    rw [e] at this
    exact this
  · rw [stepF_t h1, denNode_t h1]
    have := tells_seq hn r.l (tells_id t) (fun j hj => hF j (h2 j hj))
    rw [cat_unit] at this
    exact this
  · rw [stepF_m h1, denNode_m h1, h3]
    exact tells_many hn (hF j h2)
end Go.Proofs.Ytaefhfldgemcnaa

/- Walks over the document's matching: tables of splits. -/
namespace Go.Proofs.Ytaefhfldgemcnaa
open Go.RowKit

def RowB (w : World) (P : Nat → Prop) (v : Value) (n : Nat) (g : Nat → Bool) : Prop := ∃ A c, v = .slice A n c ∧ CellsIn w P A ((List.range n).map fun k => Value.bool (g k))
def MatAt (w : World) (P : Nat → Prop) (v : Value) (n : Nat) (f : Nat → Nat → Bool) : Prop :=
  ∃ (A : Option Addr) (c : Nat) (rows : List Value), v = .slice A n c ∧ rows.length = n ∧ CellsIn w P A rows ∧ ∀ i u, rows[i]? = some u → RowB w P u n (f i)
theorem RowB.move {w w' : World} {P Q : Nat → Prop} {v : Value} {n : Nat} {g : Nat → Bool} (h : RowB w P v n g) (hb : Moves P Q w w') : RowB w' Q v n g := by
  obtain ⟨A, c, h1, h2⟩ := h
  exact ⟨A, c, h1, h2.move hb⟩
theorem MatAt.move {w w' : World} {P Q : Nat → Prop} {v : Value} {n : Nat} {f : Nat → Nat → Bool} (h : MatAt w P v n f) (hb : Moves P Q w w') : MatAt w' Q v n f := by
  obtain ⟨A, c, rows, h1, h2, h3, h4⟩ := h
  exact ⟨A, c, rows, h1, h2, h3.move hb, fun i u hu => (h4 i u hu).move hb⟩
theorem MatAt.congr {w : World} {P : Nat → Prop} {v : Value} {n : Nat} {f g : Nat → Nat → Bool} (h : MatAt w P v n f) (hfg : ∀ i k, i < n → k < n → f i k = g i k) : MatAt w P v n g := by
  obtain ⟨A, c, rows, h1, h2, h3, h4⟩ := h
  refine ⟨A, c, rows, h1, h2, h3, fun i u hu => ?_⟩
  obtain ⟨A2, c2, h5, h6⟩ := h4 i u hu
  have hi : i < n := by have := (List.getElem?_eq_some_iff.1 hu).1; omega
  refine ⟨A2, c2, h5, ?_⟩
  have e : (List.range n).map (fun k => Value.bool (g i k)) = (List.range n).map (fun k => Value.bool (f i k)) := List.map_congr_left fun k hk => by rw [hfg i k hi (List.mem_range.1 hk)]
  rw [e]
  exact h6
/-- A cell of a table. -/
theorem MatAt.get {w : World} {P : Nat → Prop} {v : Value} {n : Nat} {f : Nat → Nat → Bool} (h : MatAt w P v n f) {i k : Nat} (hi : i < n) (hk : k < n) :
    ∃ b o c b2 o2 c2, v = .slice (some ⟨b, o, none⟩) n c ∧ P b ∧ w.cell? ⟨b, o + i, none⟩ = some (.slice (some ⟨b2, o2, none⟩) n c2) ∧ P b2 ∧ w.cell? ⟨b2, o2 + k, none⟩ = some (.bool (f i k)) := by
  obtain ⟨A, c, rows, h1, h2, h3, h4⟩ := h
  have hr : rows[i]? = some rows[i] := List.getElem?_eq_getElem (by omega)
  obtain ⟨b, o, rfl, h5, h6⟩ := h3.at_ hr
  obtain ⟨A2, c2, h7, h8⟩ := h4 i _ hr
  have hg : ((List.range n).map fun k => Value.bool (f i k))[k]? = some (.bool (f i k)) := by
    rw [List.getElem?_map, List.getElem?_range hk]
    rfl
  obtain ⟨b2, o2, rfl, h9, h10⟩ := h8.at_ hg
  rw [h7] at h6
  exact ⟨b, o, c, b2, o2, c2, h1, h5, h6, h9, h10⟩
theorem MatAt.get' {w : World} {P : Nat → Prop} {n : Nat} {f : Nat → Nat → Bool} {b o c : Nat} (h : MatAt w P (.slice (some ⟨b, o, none⟩) n c) n f) {i k : Nat} (hi : i < n) (hk : k < n) :
    ∃ b2 o2 c2, P b ∧ w.cell? ⟨b, o + i, none⟩ = some (.slice (some ⟨b2, o2, none⟩) n c2) ∧ P b2 ∧ w.cell? ⟨b2, o2 + k, none⟩ = some (.bool (f i k)) := by
  obtain ⟨b', o', c', b2, o2, c2, h1, h2, h3, h4, h5⟩ := h.get hi hk
  simp only [Value.slice.injEq, Option.some.injEq, Addr.mk.injEq, and_true, true_and] at h1
  obtain ⟨⟨rfl, rfl⟩, rfl⟩ := h1
  exact ⟨b2, o2, c2, h2, h3, h4, h5⟩
theorem MatAt.form {w : World} {P : Nat → Prop} {v : Value} {n : Nat} {f : Nat → Nat → Bool} (h : MatAt w P v n f) (hn : 0 < n) : ∃ b o c, v = .slice (some ⟨b, o, none⟩) n c := by
  obtain ⟨b, o, c, _, _, _, h1, _⟩ := h.get hn hn
  exact ⟨b, o, c, h1⟩

theorem rowIs_other {w : World} {g n : Nat} {t : TypeId} {f : Nat → Value} (h : w.rowIs g t n f) {p : Addr} (hp : g ≠ p.block) (v : Value) : (w.setCell p v).rowIs g t n f := h.of_block (Below.heap_setCell w p v g hp)
/-- A table that is being filled: its first i rows are f's; they lie below L. -/
structure MFill (w wr : World) (O n i L : Nat) (R : Nat → Value) (f : Nat → Nat → Bool) : Prop where
  out : wr.rowIs O 51 n R
  done : ∀ j, j < i → ∃ g, R j = .slice (some ⟨g, 0, none⟩) n n ∧ O < g ∧ g < L ∧ wr.rowIs g 4 n (fun k => .bool (f j k))
  below : Below w.heap.size w wr
  le : w.heap.size ≤ O
  lt : O < L
  lim : L ≤ wr.heap.size
theorem MFill.start {w W : World} {n : Nat} (h : Below w.heap.size w W) (f : Nat → Nat → Bool) : MFill w (W.alloc (.cells (madeCells #[.slice none 0 0] n) 51)) W.heap.size n 0 (W.heap.size + 1) (fun _ => .slice none 0 0) f :=
  ⟨World.rowIs_made W (.slice none 0 0) n 51, fun j h => absurd h (by omega), h.alloc h.size _, h.size, by omega, by simp⟩
theorem MFill.row {w wr : World} {O n i L : Nat} {R : Nat → Value} {f : Nat → Nat → Bool} (h : MFill w wr O n i L R f) :
    MFill w ((wr.setCell ⟨O, i, none⟩ (.slice (some ⟨wr.heap.size, 0, none⟩) n n)).alloc (.cells (madeCells #[.bool false] n) 4)) O n i wr.heap.size (fun j => if j = i then .slice (some ⟨wr.heap.size, 0, none⟩) n n else R j) f ∧
      ((wr.setCell ⟨O, i, none⟩ (.slice (some ⟨wr.heap.size, 0, none⟩) n n)).alloc (.cells (madeCells #[.bool false] n) 4)).rowIs wr.heap.size 4 n (fun _ => .bool false) := by
  have hl := h.lt
  have hlm := h.lim
  have hs : (wr.setCell ⟨O, i, none⟩ (.slice (some ⟨wr.heap.size, 0, none⟩) n n)).heap.size = wr.heap.size := by simp
  refine ⟨⟨rowIs_alloc (h.out.set i _) _, fun j hj => ?_, (h.below.setCell (p := ⟨O, i, none⟩) h.le _).alloc (by rw [hs]; exact h.below.size) _, h.le, by omega, by simp⟩, ?_⟩
  · obtain ⟨g, h1, h2, h3, h4⟩ := h.done j hj
    refine ⟨g, by rw [if_neg (by omega)]; exact h1, h2, by omega, rowIs_alloc (rowIs_other h4 (by simp; omega) _) _⟩
  · have := World.rowIs_made (wr.setCell ⟨O, i, none⟩ (.slice (some ⟨wr.heap.size, 0, none⟩) n n)) (.bool false) n 4
    rwa [hs] at this
theorem MFill.set {w wr : World} {O n i L : Nat} {R : Nat → Value} {f : Nat → Nat → Bool} (h : MFill w wr O n i L R f) {G k : Nat} (hG : L ≤ G) (v : Value) : MFill w (wr.setCell ⟨G, k, none⟩ v) O n i L R f := by
  have hl := h.lt
  have hle := h.le
  refine ⟨rowIs_other h.out (by simp; omega) _, fun j hj => ?_, h.below.setCell (p := ⟨G, k, none⟩) (by simp; omega) _, h.le, h.lt, by simpa using h.lim⟩
  obtain ⟨g, h1, h2, h3, h4⟩ := h.done j hj
  exact ⟨g, h1, h2, h3, rowIs_other h4 (by simp; omega) _⟩
theorem MFill.drew {w wr : World} {O n i L : Nat} {R : Nat → Value} {f : Nat → Nat → Bool} (h : MFill w wr O n i L R f) : MFill w wr.drew O n i L R f :=
  ⟨h.out, h.done, h.below.drew, h.le, h.lt, h.lim⟩
theorem MFill.next {w wr : World} {O n i G : Nat} {R : Nat → Value} {f : Nat → Nat → Bool} (h : MFill w wr O n i G R f) (hR : R i = .slice (some ⟨G, 0, none⟩) n n) (hr : wr.rowIs G 4 n (fun k => .bool (f i k))) : MFill w wr O n (i + 1) wr.heap.size R f := by
  have hl := h.lt
  have hgl := hr.lt
  refine ⟨h.out, fun j hj => ?_, h.below, h.le, by omega, Nat.le_refl _⟩
  by_cases hji : j = i
  · subst hji
    exact ⟨G, hR, hl, hgl, hr⟩
  · obtain ⟨g, h1, h2, h3, h4⟩ := h.done j (by omega)
    exact ⟨g, h1, h2, by omega, h4⟩
theorem row_b {w : World} {g n : Nat} {f : Nat → Bool} {P : Nat → Prop} (h : w.rowIs g 4 n (fun k => .bool (f k))) (hP : P g) : RowB w P (.slice (some ⟨g, 0, none⟩) n n) n f := by
  refine ⟨_, n, rfl, fun j hj => ⟨g, 0, rfl, hP, ?_⟩⟩
  have hj2 : j < n := by simpa using hj
  rw [Nat.zero_add, h.cell hj2]
  simp
theorem MFill.mat {w wr : World} {O n L : Nat} {R : Nat → Value} {f : Nat → Nat → Bool} (h : MFill w wr O n n L R f) : MatAt wr (Fresh w wr) (.slice (some ⟨O, 0, none⟩) n n) n f := by
  have hl := h.lt
  have hle := h.le
  have hlm := h.lim
  refine ⟨_, n, (List.range n).map R, rfl, by simp, fun j hj => ⟨O, 0, rfl, ⟨h.le, h.out.lt⟩, ?_⟩, fun i u hu => ?_⟩
  · have hj2 : j < n := by simpa using hj
    rw [Nat.zero_add, h.out.cell hj2]
    simp
  · have hi : i < n := by have := (List.getElem?_eq_some_iff.1 hu).1; simpa using this
    rw [List.getElem?_map, List.getElem?_range hi] at hu
    have hu2 : R i = u := by simpa using hu
    obtain ⟨g, h1, h2, h3, h4⟩ := h.done i hi
    rw [← hu2, h1]
    exact row_b h4 ⟨by omega, h4.lt⟩
theorem info51r : (Try.prog.info? 51).map (fun i => (i.zero, i.size, i.bytes)) = some (some (.slice none 0 0), 1, 24) := by kernel_rfl
def MatPost (n : Nat) (f : Nat → Nat → Bool) (w : World) (e : Ending) (w' : World) : Prop := ∃ v, e = .returned v ∧ Hid (MatAt w' (Fresh w w') v n f) ∧ Hid (Below w.heap.size w w')

set_option maxRecDepth 8192 in
set_option maxHeartbeats 6400000 in
theorem both_any (P : Nat → Prop) (va vb : Value) (n : Nat) (a b : Nat → Nat → Bool) (w : World) (hn : n ≤ 1000) (hn0 : 0 < n) (ha : MatAt w P va n a) (hb : MatAt w P vb n b) (hP : ∀ g, P g → g < w.heap.size) :
    Calls Try.prog 72 #[va, vb] w (MatPost n (bothF a b) w) := by
  obtain ⟨ba, oa, ca, rfl⟩ := ha.form hn0
  obtain ⟨bb, ob, cb, rfl⟩ := hb.form hn0
  have Ha := Lib.hid ha
  have Hb := Lib.hid hb
  have HP := Lib.hid hP
  clear ha hb hP
  have hmk := run_make_row' (P := Try.prog) 88 51 (.slice none 0 0) 24 Try.underlying88 info51r rfl .i64 .i64 n (by omega) (by omega)
  have hmk2 := run_make_row' (P := Try.prog) 51 4 (.bool false) 1 Try.underlying51 info4 rfl .i64 .i64 n (by omega) (by omega)
  go_enter Try.func72, Try.ntmps72
  go_upto_region 2 with fail
  have hM := Lib.hid (MFill.start (n := n) (Below.refl w.heap.size w) (bothF a b))
  generalize w.alloc _ = W at hM ⊢
  go_wp2_with fail
  go_loopw [6] (fun x wr => ∃ (i L : Nat) (R : Nat → Value), x = .int .i64 i ∧ i ≤ n ∧ Hid (MFill w wr w.heap.size n i L R (bothF a b))) (fun x _ => n - (intOf x).toNat)
  case atStart => exact ⟨0, _, _, rfl, Nat.zero_le _, hM⟩
  case round =>
    clear hM
    obtain ⟨i, L, R, rfl, hi, hM⟩ := hrel
    by_cases hlt : i < n
    · have hlti : (i : Int) < (n : Int) := by omega
      have hi0 : (0 : Int) ≤ (i : Int) := by omega
      have hOl := hM.out.out.lt
      have q0 : ∀ o : Obj, (wr.alloc o).cell? ⟨w.heap.size, i, none⟩ = some (R i) := fun o => (rowIs_alloc hM.out.out o).cell hlt
      have qf : ∀ o : Obj, (wr.alloc o).frozen? ⟨w.heap.size, i, none⟩ = false := fun o => (rowIs_alloc hM.out.out o).frozen i
      go_upto_region 6 with fail
      obtain ⟨h1, h2⟩ := hM.out.row (i := i)
      have hM1 := Lib.hid h1
      have hR1 : Hid (((wr.setCell ⟨w.heap.size, i, none⟩ (.slice (some ⟨wr.heap.size, 0, none⟩) n n)).alloc (.cells (madeCells #[.bool false] n) 4)).rowIs wr.heap.size 4 n (fun j => .bool (decide (j < 0) && bothF a b i j))) := by
        show World.rowIs _ _ _ _ _
        refine World.rowIs.congr h2 ?_
        intro j hj
        simp
      obtain ⟨G, hG⟩ : ∃ G, wr.heap.size = G := ⟨_, rfl⟩
      rw [hG] at hM1 hR1 ⊢
      have hRi : (fun j => if j = i then Value.slice (some ⟨G, 0, none⟩) n n else R j) i = .slice (some ⟨G, 0, none⟩) n n := by simp
      generalize (fun j => if j = i then Value.slice (some ⟨G, 0, none⟩) n n else R j) = R1 at hM1 hRi
      generalize World.alloc _ _ = W1 at hM1 hR1 ⊢
      clear h1 h2 hM q0 qf hG hOl
      have HRi := Lib.hid hRi
      clear hRi
      obtain ⟨wo, rfl⟩ : ∃ wo : World, wo = wr := ⟨_, rfl⟩
      go_wp2_with fail
      go_loopw [7] (fun x wr => ∃ k : Nat, x = .int .i64 k ∧ k ≤ n ∧ Hid (MFill w wr w.heap.size n i G R1 (bothF a b)) ∧ Hid (wr.rowIs G 4 n (fun j => .bool (decide (j < k) && bothF a b i j)))) (fun x _ => n - (intOf x).toNat)
      case atStart => exact ⟨0, rfl, Nat.zero_le _, hM1, hR1⟩
      case round =>
        clear hM1 hR1
        obtain ⟨k, rfl, hk, hM, hR⟩ := hrel
        by_cases hltk : k < n
        · have hltki : (k : Int) < (n : Int) := by omega
          have hk0 : (0 : Int) ≤ (k : Int) := by omega
          have q0 : wr.cell? ⟨w.heap.size, i, none⟩ = some (.slice (some ⟨G, 0, none⟩) n n) := (hM.out.out.cell hlt).trans (by rw [HRi.out])
          have q1 := hR.out.cell hltk
          have q2 := hR.out.frozen k
          obtain ⟨a2, p2, d2, h1, h2, h3, h4⟩ := Ha.out.get' hlt hltk
          obtain ⟨b2, r2, e2, h5, h6, h7, h8⟩ := Hb.out.get' hlt hltk
          have x1 := (hM.out.below.cell (p := ⟨ba, oa + i, none⟩) (HP.out _ h1)).trans h2
          have x2 := (hM.out.below.cell (p := ⟨a2, p2 + k, none⟩) (HP.out _ h3)).trans h4
          have x3 := (hM.out.below.cell (p := ⟨bb, ob + i, none⟩) (HP.out _ h5)).trans h6
          have x4 := (hM.out.below.cell (p := ⟨b2, r2 + k, none⟩) (HP.out _ h7)).trans h8
          have HF : Hid (∀ val, val = bothF a b i k → Hid (MFill w (wr.setCell ⟨G, k, none⟩ (.bool val)).drew w.heap.size n i G R1 (bothF a b)) ∧ Hid ((wr.setCell ⟨G, k, none⟩ (.bool val)).drew.rowIs G 4 n (fun j => .bool (decide (j < k + 1) && bothF a b i j)))) := by
            rintro val rfl
            refine ⟨(hM.out.set (Nat.le_refl _) _).drew, ?_⟩
            show World.rowIs (wr.setCell ⟨G, k, none⟩ (.bool (bothF a b i k))) _ _ _ _
            refine World.rowIs.congr (hR.out.set k (.bool (bothF a b i k))) ?_
            intro j hj
            by_cases hjk : j = k
            · subst hjk; simp
            · simp only [hjk, if_false]
              congr 2
              rw [decide_eq_decide]
              omega
          have hv : Hid ((a i k || b i k) = bothF a b i k) := rfl
          clear h1 h2 h3 h4 h5 h6 h7 h8
          cases hak : a i k with
          | true =>
            rw [hak] at x2 hv
            clear hak
            go_upto_region 9 with fail
            go_region
            all_goals
              go_wp2_with fail
              obtain ⟨f1, f2⟩ := HF.out true (by rw [← hv.out]; rfl)
              go_roundw
              case rel => exact ⟨k + 1, by go_num, by omega, f1, f2⟩
              case measure => simp [intOf]; omega
          | false =>
            rw [hak] at x2 hv
            clear hak
            go_upto_region 9 with fail
            go_region
            all_goals
              go_wp2_with fail
              obtain ⟨f1, f2⟩ := HF.out (b i k) (by rw [← hv.out]; rfl)
              go_roundw
              case rel => exact ⟨k + 1, by go_num, by omega, f1, f2⟩
              case measure => simp [intOf]; omega
        · obtain rfl : k = n := by omega
          have hfin : Hid (MFill w wr w.heap.size k (i + 1) wr.heap.size R1 (bothF a b)) := by
            refine hM.out.next HRi.out (World.rowIs.congr hR.out ?_)
            intro j hj
            simp [hj]
          go_wp2_with fail
          go_roundw
          case rel => exact ⟨i + 1, _, R1, by go_num, by omega, hfin⟩
          case measure => simp [intOf]; omega
    · obtain rfl : i = n := by omega
      go_wp2_with fail
      go_ret
      exact ⟨_, rfl, hM.out.mat, hM.out.below⟩
end Go.Proofs.Ytaefhfldgemcnaa

/- Walks over the document's matching: tables joined. -/
namespace Go.Proofs.Ytaefhfldgemcnaa
open Go.RowKit

def jF (m : Nat) (a b : Nat → Nat → Bool) (i k : Nat) : Bool := (List.range m).any fun x => decide (x ≤ k) && a i x && b x k
theorem jF_zero (a b : Nat → Nat → Bool) (i k : Nat) : jF 0 a b i k = false := rfl
theorem jF_succ (m : Nat) (a b : Nat → Nat → Bool) (i k : Nat) : jF (m + 1) a b i k = (jF m a b i k || (decide (m ≤ k) && a i m && b m k)) := by
  unfold jF
  rw [List.range_succ, List.any_append]
  simp
theorem jF_no {m : Nat} {a b : Nat → Nat → Bool} {i : Nat} (h : a i m = false) (k : Nat) : jF (m + 1) a b i k = jF m a b i k := by
  rw [jF_succ, h]
  simp

set_option maxRecDepth 8192 in
set_option maxHeartbeats 6400000 in
theorem joined_any (P : Nat → Prop) (va vb : Value) (n : Nat) (a b : Nat → Nat → Bool) (w : World) (hn : n ≤ 1000) (hn0 : 0 < n) (ha : MatAt w P va n a) (hb : MatAt w P vb n b) (hP : ∀ g, P g → g < w.heap.size) :
    Calls Try.prog 73 #[va, vb] w (MatPost n (joinF n a b) w) := by
  obtain ⟨ba, oa, ca, rfl⟩ := ha.form hn0
  obtain ⟨bb, ob, cb, rfl⟩ := hb.form hn0
  have Ha := Lib.hid ha
  have Hb := Lib.hid hb
  have HP := Lib.hid hP
  clear ha hb hP
  have hmk := run_make_row' (P := Try.prog) 88 51 (.slice none 0 0) 24 Try.underlying88 info51r rfl .i64 .i64 n (by omega) (by omega)
  have hmk2 := run_make_row' (P := Try.prog) 51 4 (.bool false) 1 Try.underlying51 info4 rfl .i64 .i64 n (by omega) (by omega)
  go_enter Try.func73, Try.ntmps73
  go_upto_region 2 with fail
  have hM := Lib.hid (MFill.start (n := n) (Below.refl w.heap.size w) (joinF n a b))
  generalize w.alloc _ = W at hM ⊢
  go_wp2_with fail
  go_loopw [6] (fun x wr => ∃ (i L : Nat) (R : Nat → Value), x = .int .i64 i ∧ i ≤ n ∧ Hid (MFill w wr w.heap.size n i L R (joinF n a b))) (fun x _ => n - (intOf x).toNat)
  case atStart => exact ⟨0, _, _, rfl, Nat.zero_le _, hM⟩
  case round =>
    clear hM
    obtain ⟨i, L, R, rfl, hi, hM⟩ := hrel
    by_cases hlt : i < n
    · have hlti : (i : Int) < (n : Int) := by omega
      have hi0 : (0 : Int) ≤ (i : Int) := by omega
      have hOl := hM.out.out.lt
      have q0 : ∀ o : Obj, (wr.alloc o).cell? ⟨w.heap.size, i, none⟩ = some (R i) := fun o => (rowIs_alloc hM.out.out o).cell hlt
      have qf : ∀ o : Obj, (wr.alloc o).frozen? ⟨w.heap.size, i, none⟩ = false := fun o => (rowIs_alloc hM.out.out o).frozen i
      go_upto_region 6 with fail
      obtain ⟨h1, h2⟩ := hM.out.row (i := i)
      have hM1 := Lib.hid h1
      have hR1 : Hid (((wr.setCell ⟨w.heap.size, i, none⟩ (.slice (some ⟨wr.heap.size, 0, none⟩) n n)).alloc (.cells (madeCells #[.bool false] n) 4)).rowIs wr.heap.size 4 n (fun j => .bool (jF 0 a b i j))) := h2
      obtain ⟨G, hG⟩ : ∃ G, wr.heap.size = G := ⟨_, rfl⟩
      rw [hG] at hM1 hR1 ⊢
      have hRi : (fun j => if j = i then Value.slice (some ⟨G, 0, none⟩) n n else R j) i = .slice (some ⟨G, 0, none⟩) n n := by simp
      generalize (fun j => if j = i then Value.slice (some ⟨G, 0, none⟩) n n else R j) = R1 at hM1 hRi
      generalize World.alloc _ _ = W1 at hM1 hR1 ⊢
      clear h1 h2 hM q0 qf hG hOl
      have HRi := Lib.hid hRi
      clear hRi
      obtain ⟨wo, rfl⟩ : ∃ wo : World, wo = wr := ⟨_, rfl⟩
      go_wp2_with fail
      go_loopw [7] (fun x wr => ∃ m : Nat, x = .int .i64 m ∧ m ≤ n ∧ Hid (MFill w wr w.heap.size n i G R1 (joinF n a b)) ∧ Hid (wr.rowIs G 4 n (fun j => .bool (jF m a b i j)))) (fun x _ => n - (intOf x).toNat)
      case atStart => exact ⟨0, rfl, Nat.zero_le _, hM1, hR1⟩
      case round =>
        clear hM1 hR1
        obtain ⟨m, rfl, hm, hM, hR⟩ := hrel
        by_cases hltm : m < n
        · have hltmi : (m : Int) < (n : Int) := by omega
          have hm0 : (0 : Int) ≤ (m : Int) := by omega
          obtain ⟨a2, p2, d2, h1, h2, h3, h4⟩ := Ha.out.get' hlt hltm
          have ha2 := HP.out _ h3
          have hba := HP.out _ h1
          cases ham : a i m with
          | false =>
            have x1 := (hM.out.below.cell (p := ⟨ba, oa + i, none⟩) hba).trans h2
            have x2 := (hM.out.below.cell (p := ⟨a2, p2 + m, none⟩) ha2).trans h4
            rw [ham] at x2
            have hR2 : Hid (wr.rowIs G 4 n (fun j => .bool (jF (m + 1) a b i j))) := World.rowIs.congr hR.out (fun j _ => by show Value.bool _ = Value.bool _; rw [jF_no ham j])
            have hdm : decide ((m : Int) < (n : Int)) = true := decide_eq_true hltmi
            clear h1 h2 h3 h4 ham hR ha2 hba
            go_wp2_with fail
            obtain ⟨wm, rfl⟩ : ∃ wm : World, wm = wr := ⟨_, rfl⟩
            go_loopw [8] (fun x wr => x = .int .i64 m ∧ wr = wm) (fun _ _ => 0)
            case atStart => exact ⟨rfl, rfl⟩
            case round =>
              obtain ⟨rfl, rfl⟩ := hrel
              go_wp2_with fail
              go_roundw
              case rel => exact ⟨m + 1, by go_num, by omega, hM, hR2⟩
              case measure => simp [intOf]; omega
          | true =>
            have Hh2 := Lib.hid h2
            have Hh4 : Hid (w.cell? ⟨a2, p2 + m, none⟩ = some (.bool true)) := by show _ = _; rw [h4, ham]
            have Ham := Lib.hid ham
            clear h1 h2 h3 h4 ham
            obtain ⟨wm, rfl⟩ : ∃ wm : World, wm = wr := ⟨_, rfl⟩
            go_wp2_with fail
            go_loopw [8] (fun x wr => ∃ k : Nat, x = .int .i64 k ∧ m ≤ k ∧ k ≤ n ∧ Hid (MFill w wr w.heap.size n i G R1 (joinF n a b)) ∧ Hid (wr.rowIs G 4 n (fun j => .bool (if m ≤ j ∧ j < k then jF (m + 1) a b i j else jF m a b i j)))) (fun x _ => n - (intOf x).toNat)
            case atStart =>
              refine ⟨m, rfl, Nat.le_refl _, hm, hM, World.rowIs.congr hR.out (fun j _ => ?_)⟩
              rw [if_neg (by omega)]
            case round =>
              clear hM hR
              obtain ⟨k, rfl, hmk', hk, hM, hR⟩ := hrel
              by_cases hltk : k < n
              · have hltki : (k : Int) < (n : Int) := by omega
                have hdk : decide ((k : Int) < (n : Int)) = true := decide_eq_true hltki
                have hk0 : (0 : Int) ≤ (k : Int) := by omega
                have q0 : wr.cell? ⟨w.heap.size, i, none⟩ = some (.slice (some ⟨G, 0, none⟩) n n) := (hM.out.out.cell hlt).trans (by rw [HRi.out])
                have q1 : wr.cell? ⟨G, k, none⟩ = some (.bool (jF m a b i k)) := (hR.out.cell hltk).trans (by rw [if_neg (by omega)])
                have q2 := hR.out.frozen k
                obtain ⟨b2, r2, e2, h5, h6, h7, h8⟩ := Hb.out.get' hltm hltk
                have x1 := (hM.out.below.cell (p := ⟨ba, oa + i, none⟩) hba).trans Hh2.out
                have x2 := (hM.out.below.cell (p := ⟨a2, p2 + m, none⟩) ha2).trans Hh4.out
                have x3 := (hM.out.below.cell (p := ⟨bb, ob + m, none⟩) (HP.out _ h5)).trans h6
                have x4 := (hM.out.below.cell (p := ⟨b2, r2 + k, none⟩) (HP.out _ h7)).trans h8
                have HF : Hid (∀ val, val = jF (m + 1) a b i k → Hid (MFill w (wr.setCell ⟨G, k, none⟩ (.bool val)).drew w.heap.size n i G R1 (joinF n a b)) ∧ Hid ((wr.setCell ⟨G, k, none⟩ (.bool val)).drew.rowIs G 4 n (fun j => .bool (if m ≤ j ∧ j < k + 1 then jF (m + 1) a b i j else jF m a b i j)))) := by
                  rintro val rfl
                  refine ⟨(hM.out.set (Nat.le_refl _) _).drew, ?_⟩
                  show World.rowIs (wr.setCell ⟨G, k, none⟩ (.bool (jF (m + 1) a b i k))) _ _ _ _
                  refine World.rowIs.congr (hR.out.set k (.bool (jF (m + 1) a b i k))) ?_
                  intro j hj
                  by_cases hjk : j = k
                  · subst hjk
                    simp only [if_true]
                    rw [if_pos (by omega)]
                  · simp only [hjk, if_false]
                    congr 1
                    by_cases hc : m ≤ j ∧ j < k
                    · rw [if_pos hc, if_pos (by omega)]
                    · rw [if_neg hc, if_neg (by omega)]
                have hv : Hid (jF (m + 1) a b i k = (jF m a b i k || b m k)) := by show _ = _; rw [jF_succ, Ham.out, decide_eq_true hmk']; simp
                obtain ⟨cur, hcur⟩ : ∃ cur, jF m a b i k = cur := ⟨_, rfl⟩
                rw [hcur] at q1 hv
                clear h5 h6 h7 h8 hcur
                cases cur with
                | true =>
                  go_upto_region 12 with fail
                  go_region
                  all_goals
                    go_wp2_with fail
                    obtain ⟨f1, f2⟩ := HF.out true (by rw [hv.out]; rfl)
                    go_roundw
                    case rel => exact ⟨k + 1, by go_num, by omega, by omega, f1, f2⟩
                    case measure => simp [intOf]; omega
                | false =>
                  go_upto_region 12 with fail
                  go_region
                  all_goals
                    go_wp2_with fail
                    obtain ⟨f1, f2⟩ := HF.out (b m k) (by rw [hv.out]; rfl)
                    go_roundw
                    case rel => exact ⟨k + 1, by go_num, by omega, by omega, f1, f2⟩
                    case measure => simp [intOf]; omega
              · obtain rfl : k = n := by omega
                have hdk : decide ((k : Int) < (k : Int)) = false := decide_eq_false (by omega)
                have hR2 : Hid (wr.rowIs G 4 k (fun j => .bool (jF (m + 1) a b i j))) := World.rowIs.congr hR.out (fun j hj => by
                  by_cases hc : m ≤ j
                  · rw [if_pos ⟨hc, hj⟩]
                  · rw [if_neg (by omega), jF_succ, decide_eq_false hc]
                    simp)
                go_wp2_with fail
                go_roundw
                case rel => exact ⟨m + 1, by go_num, by omega, hM, hR2⟩
                case measure => simp [intOf]; omega
        · obtain rfl : m = n := by omega
          have hfin : Hid (MFill w wr w.heap.size m (i + 1) wr.heap.size R1 (joinF m a b)) := hM.out.next HRi.out hR.out
          go_wp2_with fail
          go_roundw
          case rel => exact ⟨i + 1, _, R1, by go_num, by omega, hfin⟩
          case measure => simp [intOf]; omega
    · obtain rfl : i = n := by omega
      go_wp2_with fail
      go_ret
      exact ⟨_, rfl, hM.out.mat, hM.out.below⟩
end Go.Proofs.Ytaefhfldgemcnaa

/- Walks over the document's matching: one part's table. -/
namespace Go.Proofs.Ytaefhfldgemcnaa
open Go.RowKit

/-- Tables side by side. -/
def AllAt (w : World) (P : Nat → Prop) (v : Value) (k n : Nat) (F : Nat → Nat → Nat → Bool) : Prop :=
  ∃ (A : Option Addr) (c : Nat) (rows : List Value), v = .slice A k c ∧ rows.length = k ∧ CellsIn w P A rows ∧ ∀ j u, rows[j]? = some u → MatAt w P u n (F j)
theorem AllAt.move {w w' : World} {P Q : Nat → Prop} {v : Value} {k n : Nat} {F : Nat → Nat → Nat → Bool} (h : AllAt w P v k n F) (hb : Moves P Q w w') : AllAt w' Q v k n F := by
  obtain ⟨A, c, rows, h1, h2, h3, h4⟩ := h
  exact ⟨A, c, rows, h1, h2, h3.move hb, fun j u hu => (h4 j u hu).move hb⟩
theorem AllAt.get {w : World} {P : Nat → Prop} {v : Value} {k n : Nat} {F : Nat → Nat → Nat → Bool} (h : AllAt w P v k n F) {j : Nat} (hj : j < k) :
    ∃ b o c u, v = .slice (some ⟨b, o, none⟩) k c ∧ P b ∧ w.cell? ⟨b, o + j, none⟩ = some u ∧ MatAt w P u n (F j) := by
  obtain ⟨A, c, rows, h1, h2, h3, h4⟩ := h
  have hr : rows[j]? = some rows[j] := List.getElem?_eq_getElem (by omega)
  obtain ⟨b, o, rfl, h5, h6⟩ := h3.at_ hr
  exact ⟨b, o, c, _, h1, h5, h6, h4 j _ hr⟩
/-- A part of the list, in memory. -/
theorem NodesAt.get {w : World} {P : Nat → Prop} {A : Option Addr} {ns : List RN} (h : NodesAt w P A ns) {k : Nat} {r : RN} (hr : ns[k]? = some r) :
    ∃ b o As cs Al cl, A = some ⟨b, o, none⟩ ∧ P b ∧ w.cell? ⟨b, o + 3 * k, none⟩ = some (.int .u8 r.op.toNat) ∧ w.cell? ⟨b, o + 3 * k + 1, none⟩ = some (.slice As r.set.length cs) ∧ w.cell? ⟨b, o + 3 * k + 2, none⟩ = some (.slice Al r.l.length cl) ∧
      CellsIn w P As (r.set.map Value.bool) ∧ CellsIn w P Al (jInts r.l) := by
  obtain ⟨ps, h1, h2, h3⟩ := h
  have hk := (List.getElem?_eq_some_iff.1 hr).1
  have hp : ps[k]? = some ps[k] := List.getElem?_eq_getElem (by omega)
  obtain ⟨g1, g2, g3⟩ := nodesCells_get hr hp
  obtain ⟨b, o, rfl, h4, c1⟩ := h2.at_ g1
  obtain ⟨b', o', e', _, c2⟩ := h2.at_ g2
  simp only [Option.some.injEq, Addr.mk.injEq, and_true] at e'
  obtain ⟨rfl, rfl⟩ := e'
  obtain ⟨b', o', e', _, c3⟩ := h2.at_ g3
  simp only [Option.some.injEq, Addr.mk.injEq, and_true] at e'
  obtain ⟨rfl, rfl⟩ := e'
  obtain ⟨⟨As, cs, hs1, hs2⟩, Al, cl, hl1, hl2⟩ := h3 k r _ hr hp
  rw [hs1] at c2
  rw [hl1] at c3
  exact ⟨b, o, As, cs, Al, cl, rfl, h4, c1, by rw [Nat.add_assoc]; exact c2, by rw [Nat.add_assoc]; exact c3, hs2, hl2⟩
def initF (t : List UInt8) (r : RN) (i k : Nat) : Bool := if k = i then (decide (r.op = 116) || decide (r.op = 109)) else (decide (r.op = 115) && setF t r.set i k)

/-- The table behind so many of a part's own parts. -/
def partF (n : Nat) (t : List UInt8) (F : Nat → Nat → Nat → Bool) (r : RN) (j : Nat) : Nat → Nat → Bool :=
  if r.op = 115 then setF t r.set else if r.op = 111 then unionF F offF (r.l.take j) else if r.op = 116 then seqF n F idF (r.l.take j) else if j = 0 then idF else starF n (F (r.l.headD 0)) n
theorem partF_s {n : Nat} {t : List UInt8} {F : Nat → Nat → Nat → Bool} {r : RN} {j : Nat} (h : r.op = 115) : partF n t F r j = setF t r.set := by unfold partF; rw [if_pos h]
theorem partF_o {n : Nat} {t : List UInt8} {F : Nat → Nat → Nat → Bool} {r : RN} {j : Nat} (h : r.op = 111) : partF n t F r j = unionF F offF (r.l.take j) := by unfold partF; rw [if_neg (by rw [h]; decide), if_pos h]
theorem partF_t {n : Nat} {t : List UInt8} {F : Nat → Nat → Nat → Bool} {r : RN} {j : Nat} (h : r.op = 116) : partF n t F r j = seqF n F idF (r.l.take j) := by unfold partF; rw [if_neg (by rw [h]; decide), if_neg (by rw [h]; decide), if_pos h]
theorem partF_m {n : Nat} {t : List UInt8} {F : Nat → Nat → Nat → Bool} {r : RN} {j : Nat} (h : r.op = 109) : partF n t F r j = if j = 0 then idF else starF n (F (r.l.headD 0)) n := by unfold partF; rw [if_neg (by rw [h]; decide), if_neg (by rw [h]; decide), if_neg (by rw [h]; decide)]
theorem part_init {i0 n : Nat} {t : List UInt8} {F : Nat → Nat → Nat → Bool} {r : RN} (hr : RNOk i0 r) (i k : Nat) : initF t r i k = partF n t F r 0 i k := by
  unfold initF
  rcases hr with ⟨h, _⟩ | ⟨h, _⟩ | ⟨h, _⟩ | ⟨h, _⟩
  · rw [partF_s h, h]
    by_cases hk : k = i
    · subst hk
      unfold setF
      simp
    · rw [if_neg hk]; simp
  · rw [partF_o h, h]
    show _ = unionF F offF [] i k
    unfold unionF offF
    split <;> simp
  · rw [partF_t h, h]
    show _ = seqF n F idF [] i k
    unfold seqF idF
    by_cases hk : k = i
    · subst hk; simp
    · rw [if_neg hk]; simp; omega
  · rw [partF_m h, h, if_pos rfl]
    unfold idF
    by_cases hk : k = i
    · subst hk; simp
    · rw [if_neg hk]; simp; omega
theorem part_end {i0 n : Nat} {t : List UInt8} {F : Nat → Nat → Nat → Bool} {r : RN} (hr : RNOk i0 r) : partF n t F r r.l.length = stepF n t F r := by
  rcases hr with ⟨h, _⟩ | ⟨h, _⟩ | ⟨h, _⟩ | ⟨h, j, _, hl⟩
  · rw [partF_s h, stepF_s h]
  · rw [partF_o h, stepF_o h, List.take_length]
  · rw [partF_t h, stepF_t h, List.take_length]
  · rw [partF_m h, stepF_m h, hl]
    rfl

set_option maxRecDepth 16384 in
set_option maxHeartbeats 12800000 in
theorem step_any (P : Nat → Prop) (A : Option Addr) (c : Nat) (ns : List RN) (k : Nat) (r : RN) (s : ByteArray) (va : Value) (F : Nat → Nat → Nat → Bool) (w : World) (hs : s.size ≤ 900) (hk : ns[k]? = some r) (hrk : RNOk k r) (hnl : ns.length ≤ 10000) (hN : NodesAt w P A ns) (hall : AllAt w P va k (s.size + 1) F) (hP : ∀ g, P g → g < w.heap.size) :
    Calls Try.prog 56 #[.slice A ns.length c, .int .i64 k, .string s, va] w (MatPost (s.size + 1) (stepF (s.size + 1) s.data.toList F r) w) := by
  obtain ⟨b, o, As, cs, Al, cl, rfl, hb, n0, n1, n2, hset, hl⟩ := hN.get hk
  have hkn := (List.getElem?_eq_some_iff.1 hk).1
  obtain ⟨nn, hnn⟩ : ∃ nn, ns.length = nn := ⟨_, rfl⟩
  rw [hnn] at hkn hnl ⊢
  have hbw := hP b hb
  have Hset := Lib.hid hset
  have Hl := Lib.hid hl
  have HP := Lib.hid hP
  have Hrk := Lib.hid hrk
  obtain ⟨vA, vc, rfl⟩ : ∃ vA vc, va = .slice vA k vc := by
    obtain ⟨A, c, rows, h1, _⟩ := hall
    exact ⟨A, c, h1⟩
  obtain ⟨n, hn⟩ : ∃ n, s.size + 1 = n := ⟨_, rfl⟩
  have hcast : (s.size : Int) + 1 = (n : Int) := by omega
  obtain ⟨sl, hsl⟩ : ∃ sl, r.set.length = sl := ⟨_, rfl⟩
  obtain ⟨ll, hll⟩ : ∃ ll, r.l.length = ll := ⟨_, rfl⟩
  rw [hn] at hall
  have Hall := Lib.hid hall
  rw [hsl] at n1
  rw [hll] at n2
  have N0 := Lib.hid n0
  have N1 := Lib.hid n1
  have N2 := Lib.hid n2
  have Hn := Lib.hid hn
  have Hsl := Lib.hid hsl
  have Hll := Lib.hid hll
  rw [hn]
  have hmk := run_make_row' (P := Try.prog) 88 51 (.slice none 0 0) 24 Try.underlying88 info51r rfl .i64 .i64 n (by omega) (by omega)
  have hmk2 := run_make_row' (P := Try.prog) 51 4 (.bool false) 1 Try.underlying51 info4 rfl .i64 .i64 n (by omega) (by omega)
  have hn1000 : n ≤ 1000 := by omega
  have hsn : s.size < n := by omega
  clear hset hl hall hP hrk hN hk n0 n1 n2 hsl hll hnn hn
  go_enter Try.func56, Try.ntmps56
  go_upto_region 3 with fail
  have hM := Lib.hid (MFill.start (n := n) (Below.refl w.heap.size w) (initF s.data.toList r))
  generalize w.alloc _ = W at hM ⊢
  go_wp2_with fail
  go_loopw [11] (fun x wr => ∃ (i L : Nat) (R : Nat → Value), x = .int .i64 i ∧ i ≤ n ∧ Hid (MFill w wr w.heap.size n i L R (initF s.data.toList r))) (fun x _ => n - (intOf x).toNat)
  case atStart => exact ⟨0, _, _, rfl, Nat.zero_le _, hM⟩
  case round =>
    clear hM
    obtain ⟨i, L, R, rfl, hi, hM⟩ := hrel
    by_cases hlt : i < n
    · have hlti : (i : Int) < (n : Int) := by omega
      have hi0 : (0 : Int) ≤ (i : Int) := by omega
      have hOl := hM.out.out.lt
      have q0 : ∀ o : Obj, (wr.alloc o).cell? ⟨w.heap.size, i, none⟩ = some (R i) := fun o => (rowIs_alloc hM.out.out o).cell hlt
      have qf : ∀ o : Obj, (wr.alloc o).frozen? ⟨w.heap.size, i, none⟩ = false := fun o => (rowIs_alloc hM.out.out o).frozen i
      go_upto_region 7 with fail
      obtain ⟨h1, h2⟩ := hM.out.row (i := i)
      have hM1 := Lib.hid h1
      have hR1 := Lib.hid h2
      obtain ⟨G, hG⟩ : ∃ G, wr.heap.size = G := ⟨_, rfl⟩
      rw [hG] at hM1 hR1 ⊢
      have hRi : (fun j => if j = i then Value.slice (some ⟨G, 0, none⟩) n n else R j) i = .slice (some ⟨G, 0, none⟩) n n := by simp
      generalize (fun j => if j = i then Value.slice (some ⟨G, 0, none⟩) n n else R j) = R1 at hM1 hRi
      generalize World.alloc _ _ = W1 at hM1 hR1 ⊢
      clear h1 h2 hM q0 qf hG hOl
      have HRi := Lib.hid hRi
      clear hRi
      have q0 : W1.cell? ⟨w.heap.size, i, none⟩ = some (.slice (some ⟨G, 0, none⟩) n n) := (hM1.out.out.cell hlt).trans (by rw [HRi.out])
      have q1 := hR1.out.cell hlt
      have q2 := hR1.out.frozen i
      have x0 : W1.cell? ⟨b, o + 3 * k, none⟩ = some (.int .u8 r.op.toNat) := (hM1.out.below.cell (p := ⟨b, o + 3 * k, none⟩) hbw).trans N0.out
      have x0' : W1.cell? ⟨b, o + k * 3, none⟩ = some (.int .u8 r.op.toNat) := by rw [Nat.mul_comm]; exact x0
      have hk0 : (0 : Int) ≤ (k : Int) := by omega
      have hkk : (k : Int) < (nn : Int) := by omega
      obtain ⟨d, hd⟩ : ∃ d, (decide (r.op = 116) || decide (r.op = 109)) = d := ⟨_, rfl⟩
      have Hd := Lib.hid hd
      clear hd
      go_cut [] (fun wx => Hid (MFill w wx w.heap.size n i G R1 (initF s.data.toList r)) ∧ Hid (wx.rowIs G 4 n (fun j => .bool (if j = i then d else false))))
      case first =>
        have HF : Hid (∀ val, val = d → Hid (MFill w (W1.setCell ⟨G, i, none⟩ (.bool val)).drew w.heap.size n i G R1 (initF s.data.toList r)) ∧ Hid ((W1.setCell ⟨G, i, none⟩ (.bool val)).drew.rowIs G 4 n (fun j => .bool (if j = i then d else false)))) := by
          rintro val rfl
          refine ⟨(hM1.out.set (Nat.le_refl _) _).drew, ?_⟩
          show World.rowIs (W1.setCell ⟨G, i, none⟩ (.bool val)) _ _ _ _
          refine World.rowIs.congr (hR1.out.set i (.bool val)) ?_
          intro j hj
          by_cases hji : j = i <;> simp [hji]
        by_cases h116 : r.op = 116
        · have he : ((r.op.toNat : Int) == 116) = true := by rw [h116]; rfl
          have hv : d = true := by rw [← Hd.out, h116]; rfl
          clear h116
          go_region
          all_goals
            go_wp2_with fail
            go_meet
            exact HF.out _ hv.symm
        · have he : ((r.op.toNat : Int) == 116) = false := beq_eq_false_iff_ne.2 (fun h => h116 (UInt8.toNat_inj.1 (by show r.op.toNat = 116; omega)))
          have hv : Hid (((r.op.toNat : Int) == 109) = d) := by
            show _ = _
            rw [← Hd.out, decide_eq_false h116, Bool.false_or, Bool.eq_iff_iff, beq_iff_eq, decide_eq_true_eq]
            constructor
            · intro h; exact UInt8.toNat_inj.1 (by show r.op.toNat = 109; omega)
            · intro h; rw [h]; rfl
          clear h116
          go_region
          all_goals
            go_wp2_with fail
            go_meet
            exact HF.out _ hv.out
      case rest =>
      clear hM1 hR1 q0 q1 q2 x0 x0'
      obtain ⟨hM1, hR1⟩ := hcut
      obtain ⟨wo, rfl⟩ : ∃ wo : World, wo = wr := ⟨_, rfl⟩
      obtain ⟨wr, rfl⟩ : ∃ wr : World, wr = wc := ⟨_, rfl⟩
      have x0 : wr.cell? ⟨b, o + 3 * k, none⟩ = some (.int .u8 r.op.toNat) := (hM1.out.below.cell (p := ⟨b, o + 3 * k, none⟩) hbw).trans N0.out
      have x0' : wr.cell? ⟨b, o + k * 3, none⟩ = some (.int .u8 r.op.toNat) := by rw [Nat.mul_comm]; exact x0
      have HNO : Hid (¬ (r.op = 115 ∧ i < s.size ∧ isS (s.data.toList.getD i 0) = true) → Hid (MFill w wr w.heap.size n (i + 1) wr.heap.size R1 (initF s.data.toList r))) := fun hno => by
        refine hM1.out.next HRi.out (World.rowIs.congr hR1.out (fun j hj => ?_))
        unfold initF
        by_cases hji : j = i
        · rw [if_pos hji, if_pos hji, Hd.out]
        · rw [if_neg hji, if_neg hji]
          congr 1
          rw [eq_comm, Bool.eq_false_iff]
          intro h
          unfold setF at h
          simp only [Bool.and_eq_true, decide_eq_true_eq] at h
          exact hno ⟨h.1, by have := h.2.1.1.2; simpa using this, h.2.1.2⟩
      by_cases h115 : r.op = 115
      · have he : ((r.op.toNat : Int) == 115) = true := by rw [h115]; rfl
        by_cases hil : i < s.size
        · have hili : (i : Int) < (s.size : Int) := by omega
          have hdl : decide ((i : Int) < (s.size : Int)) = true := decide_eq_true hili
          obtain ⟨cb, hcb⟩ : ∃ cb : UInt8, s[i] = cb := ⟨_, rfl⟩
          have hgd : Hid (s.data.toList.getD i 0 = cb) := by
            show _ = _
            rw [List.getD_eq_getElem?_getD, Lib.data_getElem? s i hil, hcb]
            rfl
          have HSG : Hid (∀ wx : World, Calls Try.prog 71 #[.int .u8 cb.toNat] wx fun e w' => e = .returned (.bool (isS cb)) ∧ wx = w') := refSign_any cb
          cases hsb : isS cb with
          | false =>
            rw [hsb] at HSG
            have hfin := Lib.hid (HNO.out (by rintro ⟨_, _, h⟩; rw [hgd.out, hsb] at h; cases h)).out
            clear HNO hsb h115
            go_wp2_with fail
            refine (HSG.out _).mono ?_
            rintro e w0 ⟨rfl, rfl⟩
            go_wp2_with fail
            go_roundw
            case rel => exact ⟨i + 1, _, R1, by go_num, by omega, hfin⟩
            case measure => simp [intOf]; omega
          | true =>
            rw [hsb] at HSG
            have hcr : 32 ≤ cb.toNat ∧ cb.toNat ≤ 126 := by unfold isS at hsb; simpa using hsb
            obtain ⟨q, hq⟩ : ∃ q, cb.toNat = q := ⟨_, rfl⟩
            have hsl95 : sl = 95 := by
              rw [← Hsl.out]
              rcases Hrk.out with ⟨_, h, _⟩ | ⟨h, _⟩ | ⟨h, _⟩ | ⟨h, _⟩
              · exact h
              · rw [h115] at h; exact absurd h (by decide)
              · rw [h115] at h; exact absurd h (by decide)
              · rw [h115] at h; exact absurd h (by decide)
            rw [hq] at HSG
            have hq1 : 32 ≤ q := by omega
            have hq2 : q ≤ 126 := by omega
            obtain ⟨sb, so, hsA, hsP, hscell⟩ := Hset.out.at_ (j := q - 32) (v := .bool (r.set.getD (q - 32) false)) (by
              rw [List.getElem?_map, List.getElem?_eq_getElem (by rw [Hsl.out]; omega), List.getD_eq_getElem?_getD, List.getElem?_eq_getElem (by rw [Hsl.out]; omega)]
              rfl)
            subst hsA
            have y1 : wr.cell? ⟨sb, so + (q - 32), none⟩ = some (.bool (r.set.getD (q - 32) false)) := (hM1.out.below.cell (p := ⟨sb, so + (q - 32), none⟩) (HP.out _ hsP)).trans hscell
            have x1 : wr.cell? ⟨b, o + 3 * k + 1, none⟩ = some (.slice (some ⟨sb, so, none⟩) sl cs) := (hM1.out.below.cell (p := ⟨b, o + 3 * k + 1, none⟩) hbw).trans N1.out
            have x1' : wr.cell? ⟨b, o + k * 3 + 1, none⟩ = some (.slice (some ⟨sb, so, none⟩) sl cs) := by rw [Nat.mul_comm k 3]; exact x1
            have q0 : wr.cell? ⟨w.heap.size, i, none⟩ = some (.slice (some ⟨G, 0, none⟩) n n) := (hM1.out.out.cell hlt).trans (by rw [HRi.out])
            have hi1n : i + 1 < n := by omega
            have q1 : wr.cell? ⟨G, i + 1, none⟩ = some (.bool false) := (hR1.out.cell hi1n).trans (by simp)
            have q2 := hR1.out.frozen (i + 1)
            obtain ⟨bit, hbit⟩ : ∃ bit, r.set.getD (q - 32) false = bit := ⟨_, rfl⟩
            rw [hbit] at y1
            have HF : Hid (Hid (MFill w (wr.setCell ⟨G, i + 1, none⟩ (.bool bit)).drew w.heap.size n (i + 1) (wr.setCell ⟨G, i + 1, none⟩ (.bool bit)).drew.heap.size R1 (initF s.data.toList r))) := by
              refine MFill.next (G := G) (hM1.out.set (Nat.le_refl _) _).drew HRi.out ?_
              show World.rowIs (wr.setCell ⟨G, i + 1, none⟩ (.bool bit)) _ _ _ _
              refine World.rowIs.congr (hR1.out.set (i + 1) (.bool bit)) (fun j hj => ?_)
              unfold initF
              by_cases hji : j = i
              · subst hji
                simp only [if_true]
                rw [if_neg (by omega), Hd.out]
              · rw [if_neg hji]
                by_cases hj1 : j = i + 1
                · subst hj1
                  simp only [if_true]
                  unfold setF
                  rw [hgd.out, hsb, hq, hbit, h115]
                  simp
                  intro _
                  simpa using hil
                · rw [if_neg hj1, if_neg hji]
                  unfold setF
                  rw [decide_eq_false hj1]
                  simp
            have hw1 : IntKind.i64.wrap ((i : Int) + 1) = (i : Int) + 1 := IntWalk.i64_in _ (by omega)
            have hw2 : IntKind.i64.wrap ((q : Int) - 32) = (q : Int) - 32 := IntWalk.i64_in _ (by omega)
            have hn1 : ((i : Int) + 1).toNat = i + 1 := by omega
            have hn2 : ((q : Int) - 32).toNat = q - 32 := by omega
            have hb1 : (0 : Int) ≤ (i : Int) + 1 := by omega
            have hb2 : (i : Int) + 1 < (n : Int) := by omega
            have hb3 : (0 : Int) ≤ (q : Int) - 32 := by omega
            have hb4 : (q : Int) - 32 < (sl : Int) := by omega
            clear HNO hsb h115 hbit hcr hsl95 hscell hR1 hM1
            go_wp2_with fail
            refine (HSG.out _).mono ?_
            rintro e w0 ⟨rfl, rfl⟩
            go_upto_region 9 with fail
            go_region
            all_goals clear hw1 hw2 hn1 hn2 hb1 hb2 hb3 hb4
            all_goals
              go_wp2_with fail
              go_roundw
              case rel => exact ⟨i + 1, _, R1, by go_num, by omega, HF.out⟩
              case measure => simp [intOf]; omega
        · have hdl : decide ((i : Int) < (s.size : Int)) = false := decide_eq_false (by omega)
          have hili : ¬ (i : Int) < (s.size : Int) := by omega
          have hfin := Lib.hid (HNO.out (by rintro ⟨_, h, _⟩; exact hil h)).out
          clear HNO h115 hil
          go_wp2_with fail
          go_roundw
          case rel => exact ⟨i + 1, _, R1, by go_num, by omega, hfin⟩
          case measure => simp [intOf]; omega
      · have he : ((r.op.toNat : Int) == 115) = false := beq_eq_false_iff_ne.2 (fun h => h115 (UInt8.toNat_inj.1 (by show r.op.toNat = 115; omega)))
        have hfin := Lib.hid (HNO.out (by rintro ⟨h, _⟩; exact h115 h)).out
        clear HNO h115
        go_wp2_with fail
        go_roundw
        case rel => exact ⟨i + 1, _, R1, by go_num, by omega, hfin⟩
        case measure => simp [intOf]; omega
    · obtain rfl : i = n := by omega
      have hmat : Hid (MatAt wr (Fresh w wr) (.slice (some ⟨w.heap.size, 0, none⟩) i i) i (partF i s.data.toList F r 0)) := hM.out.mat.congr (fun a d _ _ => part_init Hrk.out a d)
      have hbel : Hid (Below w.heap.size w wr) := hM.out.below
      have hn0 : 0 < i := by omega
      have hllb : ll ≤ 2000 := by
        rw [← Hll.out]
        rcases Hrk.out with ⟨_, _, h⟩ | ⟨_, h, _⟩ | ⟨_, h, _⟩ | ⟨_, q, _, h⟩
        · rw [h]; simp
        · exact h
        · exact h
        · rw [h]; simp
      have hkk : (k : Int) < (nn : Int) := by omega
      have hk0 : (0 : Int) ≤ (k : Int) := by omega
      clear hM hmk hmk2 hlt hi
      obtain ⟨wo, rfl⟩ : ∃ wo : World, wo = wr := ⟨_, rfl⟩
      go_wp2_with fail
      go_loopw [10, 12] (fun ov x wr => ∃ j : Nat, x = .int .i64 j ∧ j ≤ ll ∧ Hid (MatAt wr (Fresh w wr) ov i (partF i s.data.toList F r j)) ∧ Hid (Below w.heap.size w wr)) (fun _ x _ => ll - (intOf x).toNat)
      case atStart => exact ⟨0, rfl, Nat.zero_le _, hmat, hbel⟩
      case round =>
        clear hmat hbel
        obtain ⟨ov, rfl⟩ : ∃ ov, ov = u10 := ⟨_, rfl⟩
        obtain ⟨j, rfl, hj, hmat, hbel⟩ := hrel
        have x2 : wr.cell? ⟨b, o + 3 * k + 2, none⟩ = some (.slice Al ll cl) := (hbel.out.cell (p := ⟨b, o + 3 * k + 2, none⟩) hbw).trans N2.out
        have x2' : wr.cell? ⟨b, o + k * 3 + 2, none⟩ = some (.slice Al ll cl) := by rw [Nat.mul_comm k 3]; exact x2
        by_cases hltj : j < ll
        · have hltji : (j : Int) < (ll : Int) := by omega
          have hj0 : (0 : Int) ≤ (j : Int) := by omega
          have hjl : j < r.l.length := by rw [Hll.out]; exact hltj
          obtain ⟨lj, hlj⟩ : ∃ lj, r.l[j] = lj := ⟨_, rfl⟩
          have hmem : lj ∈ r.l := by rw [← hlj]; exact List.getElem_mem hjl
          have hljk : lj < k := by
            rcases Hrk.out with ⟨_, _, h⟩ | ⟨_, h⟩ | ⟨_, h⟩ | ⟨_, q, h1, h2⟩
            · rw [h] at hmem; simp at hmem
            · exact h.2 lj hmem
            · exact h.2 lj hmem
            · rw [h2] at hmem; simp at hmem; omega
          obtain ⟨lb, lo, hlA, hlP, hlcell⟩ := Hl.out.at_ (j := j) (v := .int .i64 (lj : Int)) (by
            unfold jInts
            rw [List.getElem?_map, List.getElem?_eq_getElem hjl, hlj]
            rfl)
          subst hlA
          obtain ⟨ab, ao, ac, u, hav, haP, hacell, hum⟩ := Hall.out.get hljk
          simp only [Value.slice.injEq, true_and] at hav
          obtain ⟨rfl, rfl⟩ := hav
          have y1 : wr.cell? ⟨lb, lo + j, none⟩ = some (.int .i64 (lj : Int)) := (hbel.out.cell (p := ⟨lb, lo + j, none⟩) (HP.out _ hlP)).trans hlcell
          have y2 : wr.cell? ⟨ab, ao + lj, none⟩ = some u := (hbel.out.cell (p := ⟨ab, ao + lj, none⟩) (HP.out _ haP)).trans hacell
          have hl0 : (0 : Int) ≤ (lj : Int) := by omega
          have hlk : (lj : Int) < (k : Int) := by omega
          have x0 : wr.cell? ⟨b, o + 3 * k, none⟩ = some (.int .u8 r.op.toNat) := (hbel.out.cell (p := ⟨b, o + 3 * k, none⟩) hbw).trans N0.out
          have x0' : wr.cell? ⟨b, o + k * 3, none⟩ = some (.int .u8 r.op.toNat) := by rw [Nat.mul_comm]; exact x0
          have hum2 : Hid (MatAt wr (· < wr.heap.size) u i (F lj)) := hum.move (fun g hg => ⟨by have := HP.out g hg; have := hbel.out.size; omega, hbel.out.block g (HP.out g hg)⟩)
          have hov2 : Hid (MatAt wr (· < wr.heap.size) ov i (partF i s.data.toList F r j)) := hmat.out.move (fun g hg => ⟨hg.2, rfl⟩)
          have hum0 := Lib.hid hum
          obtain ⟨ub, uo, uc, rfl⟩ := hum2.out.form hn0
          have hts : Hid (r.l.take (j + 1) = r.l.take j ++ [lj]) := by show _ = _; rw [List.take_add_one, List.getElem?_eq_getElem hjl, hlj]; rfl
          clear hlcell hacell hum hlP haP
          rcases Hrk.out with ⟨h, _, h9⟩ | ⟨h, _⟩ | ⟨h, _⟩ | ⟨h, q, hq1, hq2⟩
          · rw [h9] at hmem; simp at hmem
          · have e1 : ((r.op.toNat : Int) == 111) = true := by rw [h]; rfl
            have HB := Lib.hid (both_any (· < wr.heap.size) ov _ i _ _ wr hn1000 hn0 hov2.out hum2.out (fun g hg => hg))
            have hp : Hid (bothF (partF i s.data.toList F r j) (F lj) = partF i s.data.toList F r (j + 1)) := by show _ = _; rw [partF_o h, partF_o h, hts.out, unionF_snoc]
            clear h hmem hlj
            go_wp2_with fail
            refine HB.out.mono ?_
            rintro e w2 ⟨v2, rfl, hm2, hb2⟩
            have hm3 : Hid (MatAt w2 (Fresh w w2) v2 i (partF i s.data.toList F r (j + 1))) := by
              show MatAt _ _ _ _ _
              rw [← hp.out]
              exact hm2.out.move (fun g hg => ⟨⟨Nat.le_trans hbel.out.size hg.1, hg.2⟩, rfl⟩)
            have hb3 := Lib.hid (hbel.out.trans (hb2.out.mono hbel.out.size))
            clear hm2 hb2 HB hmat hbel hum2 hov2
            go_wp2_with fail
            go_roundw
            case rel => exact ⟨j + 1, by go_num, by omega, hm3, hb3⟩
            case measure => simp [intOf]; omega
          · have e1 : ((r.op.toNat : Int) == 111) = false := by rw [h]; rfl
            have e2 : ((r.op.toNat : Int) == 116) = true := by rw [h]; rfl
            have HB := Lib.hid (joined_any (· < wr.heap.size) ov _ i _ _ wr hn1000 hn0 hov2.out hum2.out (fun g hg => hg))
            have hp : Hid (joinF i (partF i s.data.toList F r j) (F lj) = partF i s.data.toList F r (j + 1)) := by show _ = _; rw [partF_t h, partF_t h, hts.out, seqF_snoc]
            clear h hmem hlj
            go_wp2_with fail
            refine HB.out.mono ?_
            rintro e w2 ⟨v2, rfl, hm2, hb2⟩
            have hm3 : Hid (MatAt w2 (Fresh w w2) v2 i (partF i s.data.toList F r (j + 1))) := by
              show MatAt _ _ _ _ _
              rw [← hp.out]
              exact hm2.out.move (fun g hg => ⟨⟨Nat.le_trans hbel.out.size hg.1, hg.2⟩, rfl⟩)
            have hb3 := Lib.hid (hbel.out.trans (hb2.out.mono hbel.out.size))
            clear hm2 hb2 HB hmat hbel hum2 hov2
            go_wp2_with fail
            go_roundw
            case rel => exact ⟨j + 1, by go_num, by omega, hm3, hb3⟩
            case measure => simp [intOf]; omega
          · have e1 : ((r.op.toNat : Int) == 111) = false := by rw [h]; rfl
            have e2 : ((r.op.toNat : Int) == 116) = false := by rw [h]; rfl
            have e3 : ((r.op.toNat : Int) == 109) = true := by rw [h]; rfl
            have hll1 : ll = 1 := by rw [← Hll.out, hq2]; rfl
            have hjz : j = 0 := by omega
            have hlq : lj = q := by rw [hq2] at hmem; simpa using hmem
            have hst : Hid (MatAt wr (Fresh w wr) ov i (starF i (F lj) 0)) := by
              have := hmat.out
              rw [partF_m h, if_pos hjz] at this
              exact this
            have hp : Hid (starF i (F lj) i = partF i s.data.toList F r (j + 1)) := by show _ = _; rw [partF_m h, if_neg (by omega), hq2, hlq]; rfl
            have hj1 : j + 1 ≤ ll := by omega
            clear h hmem hlj hmat hum2 hov2 hjz hlq hll1 hq1 hq2
            obtain ⟨wj, rfl⟩ : ∃ wj : World, wj = wr := ⟨_, rfl⟩
            go_wp2_with fail
            go_loopw [10, 14] (fun ov x wr => ∃ tt : Nat, x = .int .i64 tt ∧ tt ≤ i ∧ Hid (MatAt wr (Fresh w wr) ov i (starF i (F lj) tt)) ∧ Hid (Below w.heap.size w wr)) (fun _ x _ => i - (intOf x).toNat)
            case atStart => exact ⟨0, rfl, Nat.zero_le _, hst, hbel⟩
            case round =>
              clear hst hbel
              obtain ⟨ov2, rfl⟩ : ∃ ov2, ov2 = u10 := ⟨_, rfl⟩
              obtain ⟨tt, rfl, htt, hmat, hbel⟩ := hrel
              by_cases hltt : tt < i
              · have hltti : (tt : Int) < (i : Int) := by omega
                have hum2 : Hid (MatAt wr (· < wr.heap.size) (.slice (some ⟨ub, uo, none⟩) i uc) i (F lj)) := hum0.out.move (fun g hg => ⟨by have := HP.out g hg; have := hbel.out.size; omega, hbel.out.block g (HP.out g hg)⟩)
                have hov2 : Hid (MatAt wr (· < wr.heap.size) ov2 i (starF i (F lj) tt)) := hmat.out.move (fun g hg => ⟨hg.2, rfl⟩)
                have HJ := Lib.hid (joined_any (· < wr.heap.size) ov2 _ i _ _ wr hn1000 hn0 hov2.out hum2.out (fun g hg => hg))
                go_wp2_with fail
                refine HJ.out.mono ?_
                rintro e w2 ⟨v2, rfl, hm2, hb2⟩
                have hov3 : Hid (MatAt w2 (· < w2.heap.size) ov2 i (starF i (F lj) tt)) := hov2.out.move (fun g hg => ⟨Nat.lt_of_lt_of_le hg hb2.out.size, hb2.out.block g hg⟩)
                have hm3 : Hid (MatAt w2 (· < w2.heap.size) v2 i (joinF i (starF i (F lj) tt) (F lj))) := hm2.out.move (fun g hg => ⟨hg.2, rfl⟩)
                have HB := Lib.hid (both_any (· < w2.heap.size) ov2 v2 i _ _ w2 hn1000 hn0 hov3.out hm3.out (fun g hg => hg))
                have hb3 := Lib.hid (hbel.out.trans (hb2.out.mono hbel.out.size))
                clear hm2 hb2 HJ hmat hbel hum2 hov2
                go_wp2_with fail
                refine HB.out.mono ?_
                rintro e w4 ⟨v4, rfl, hm4, hb4⟩
                have hm5 : Hid (MatAt w4 (Fresh w w4) v4 i (starF i (F lj) (tt + 1))) := hm4.out.move (fun g hg => ⟨⟨Nat.le_trans hb3.out.size hg.1, hg.2⟩, rfl⟩)
                have hb5 := Lib.hid (hb3.out.trans (hb4.out.mono hb3.out.size))
                clear hm4 hb4 HB hov3 hm3 hb3
                go_wp2_with fail
                go_roundw
                case rel => exact ⟨tt + 1, by go_num, by omega, hm5, hb5⟩
                case measure => simp [intOf]; omega
              · obtain rfl : tt = i := by omega
                have hm5 : Hid (MatAt wr (Fresh w wr) ov2 tt (partF tt s.data.toList F r (j + 1))) := by
                  show MatAt _ _ _ _ _
                  rw [← hp.out]
                  exact hmat.out
                go_wp2_with fail
                go_roundw
                case rel => exact ⟨j + 1, by go_num, hj1, hm5, hbel⟩
                case measure => simp [intOf]; omega
        · obtain rfl : j = ll := by omega
          have hltji : ¬ (j : Int) < (j : Int) := by omega
          have hfin : Hid (MatAt wr (Fresh w wr) ov i (stepF i s.data.toList F r)) := by
            show MatAt _ _ _ _ _
            rw [← part_end Hrk.out, Hll.out]
            exact hmat.out
          go_wp2_with fail
          go_ret
          exact ⟨_, rfl, hfin, hbel⟩
end Go.Proofs.Ytaefhfldgemcnaa

/- Walks over the document's matching: the whole; the law RegexMatches. -/
namespace Go.Proofs.Ytaefhfldgemcnaa
open Go.RowKit

theorem info88 : (Try.prog.info? 88).map (fun i => (i.zero, i.size, i.bytes)) = some (some (.slice none 0 0), 1, 24) := by kernel_rfl
theorem cells_any {w : World} {base : Nat} {e : TypeId} {n c : Nat} {A : Option Addr} {xs : List Value} (h : w.ownsRow base e 1 (.slice A n c) n xs) : CellsIn w (· < w.heap.size) A xs := by
  intro j hj
  obtain ⟨b, o, h1, h2, h3⟩ := CellsAt.of_own h j hj
  exact ⟨b, o, h1, h2, h3⟩
def RefMatchPost (L : LL) (t : List UInt8) (w : World) (e : Ending) (w' : World) : Prop := ∃ b, e = .returned (.bool b) ∧ Hid (b = true ↔ L t) ∧ Hid (Below w.heap.size w w')

set_option maxRecDepth 8192 in
set_option maxHeartbeats 6400000 in
theorem refMatch_any (A : Option Addr) (c : Nat) (ns : List RN) (k : Nat) (s : ByteArray) (w : World) (hs : s.size ≤ 900) (hk : k < ns.length) (hok : NsOk ns) (hnl : ns.length ≤ 10000) (hN : NodesAt w (· < w.heap.size) A ns) :
    Calls Try.prog 33 #[.slice A ns.length c, .int .i64 k, .string s] w (RefMatchPost ((denAll ns).getD k noL) s.data.toList w) := by
  obtain ⟨nn, hnn⟩ : ∃ nn, ns.length = nn := ⟨_, rfl⟩
  have hkn : k < nn := by omega
  have hnn2 : nn ≤ 10000 := by omega
  have HN := Lib.hid hN
  have Hok := Lib.hid hok
  have Hnn := Lib.hid hnn
  rw [hnn]
  have hsl : Hid (s.data.toList.length = s.size) := by show _ = _; simp
  clear hN hok hnn hnl hk
  go_enter Try.func33, Try.ntmps33
  go_wp2_with fail
  go_loopw [7, 8] (fun av x wr => ∃ (i : Nat) (rows : List Value) (F : Nat → Nat → Nat → Bool), x = .int .i64 i ∧ i ≤ k + 1 ∧ rows.length = i ∧ Hid (wr.ownsRow w.heap.size 88 1 av i rows) ∧ Hid (∀ j u, rows[j]? = some u → MatAt wr (Beside w wr av) u (s.size + 1) (F j)) ∧
    Hid (∀ j, j < i → Tells s.data.toList (F j) ((denAll ns).getD j noL)) ∧ Hid (Below w.heap.size w wr)) (fun _ x _ => k + 1 - (intOf x).toNat)
  case atStart => exact ⟨0, [], fun _ => offF, rfl, Nat.zero_le _, rfl, World.ownsRow_nil _ _ _ _, fun j u h => by simp at h, fun j h => absurd h (by omega), Below.refl _ _⟩
  case round =>
    obtain ⟨av, rfl⟩ : ∃ av, av = u7 := ⟨_, rfl⟩
    obtain ⟨i, rows, F, rfl, hi, hrl, hown, hmat, htl, hbel⟩ := hrel
    obtain ⟨Av, cv, rfl, hown'⟩ := own_form hown.out
    have Hown := Lib.hid hown'
    have hbz := hbel.out.size
    have Hrl := Lib.hid hrl
    clear hown hown' hrl
    by_cases hlt : i ≤ k
    · have hlti : (i : Int) ≤ (k : Int) := by omega
      have hin : i < ns.length := by rw [Hnn.out]; omega
      obtain ⟨r, hr⟩ : ∃ r, ns[i]? = some r := ⟨_, List.getElem?_eq_getElem hin⟩
      have hrk := Hok.out i r hr
      have hall : AllAt wr (· < wr.heap.size) (.slice Av i cv) i (s.size + 1) F := ⟨Av, cv, rows, rfl, Hrl.out, cells_any Hown.out, fun j u hu => (hmat.out j u hu).move (fun g hg => ⟨hg.2.1, rfl⟩)⟩
      have HST0 := step_any (· < wr.heap.size) A c ns i r s (.slice Av i cv) F wr hs hr hrk (by rw [Hnn.out]; exact hnn2) (HN.out.move (fun g hg => ⟨Nat.lt_of_lt_of_le hg hbz, hbel.out.block g hg⟩)) hall (fun g hg => hg)
      rw [Hnn.out] at HST0
      have HST := Lib.hid HST0
      have hnew : Hid (Tells s.data.toList (stepF (s.size + 1) s.data.toList F r) ((denAll ns).getD i noL)) := by
        show Tells _ _ _
        rw [den_at hr hrk]
        exact tells_step (by rw [hsl.out]) hrk htl.out
      clear hall HST0 hr hrk hin
      go_wp2_with fail
      refine HST.out.mono ?_
      rintro e w2 ⟨v2, rfl, hm2, hb2⟩
      obtain ⟨gb, go, gc, rfl⟩ := hm2.out.form (by omega)
      have hsz2 := hb2.out.size
      have hlive : ∀ g, (Value.slice Av i cv).ownBlock = some g → g < wr.heap.size := fun g hg => (World.ownsRow.lt Hown.out g hg).2
      have hown2 : w2.ownsRow w.heap.size 88 1 (.slice Av i cv) i rows := own_samej Hown.out (fun g hg => hb2.out.block g (hlive g hg))
      have hmat2 : Hid (∀ j u, rows[j]? = some u → MatAt w2 (Beside w w2 (.slice Av i cv)) u (s.size + 1) (F j)) := fun j u hu => (hmat.out j u hu).move (fun g hg => ⟨⟨hg.1, by have := hg.2.1; omega, hg.2.2⟩, hb2.out.block g hg.2.1⟩)
      have hmn : Hid (MatAt w2 (Beside w w2 (.slice Av i cv)) (.slice (some ⟨gb, go, none⟩) (s.size + 1) gc) (s.size + 1) (stepF (s.size + 1) s.data.toList F r)) := hm2.out.move (fun g hg => ⟨⟨by have := hg.1; omega, hg.2, fun h => by have := hlive g h; have := hg.1; omega⟩, rfl⟩)
      have hbel2 := Lib.hid (hbel.out.trans (hb2.out.mono hbz))
      have hbz2 : w.heap.size ≤ w2.heap.size := by omega
      clear hm2 hb2 hmat hbel HST hlive Hown
      go_wp2_with (at_builtin; refine wpList_append_new_at info88 Try.underlying87 rfl (by decide) (by decide) w.heap.size hown2 1 rfl _ _ rfl rfl rfl (by simp) rfl rfl (by omega) hbz2 ?_; intro v3 w3 hown3 hbel3 hgt hgrow hnw)
      have hfin : Hid (∀ j u, (rows ++ [Value.slice (some ⟨gb, go, none⟩) (s.size + 1) gc])[j]? = some u → MatAt w3 (Beside w w3 v3) u (s.size + 1) ((fun j => if j = i then stepF (s.size + 1) s.data.toList F r else F j) j)) := fun j u hu => by
        have hmv := Beside.grown (a := w) hgrow (by omega) hnw
        by_cases hj : j < rows.length
        · rw [List.getElem?_append_left hj] at hu
          have hji : j ≠ i := by have := Hrl.out; omega
          simp only [hji, if_false]
          exact (hmat2.out j u hu).move hmv
        · rw [List.getElem?_append_right (by omega)] at hu
          have hz : j - rows.length = 0 := by
            rcases Nat.eq_zero_or_pos (j - rows.length) with h0 | h0
            · exact h0
            · rw [List.getElem?_eq_none (by simp; omega)] at hu; cases hu
          rw [hz] at hu
          simp at hu
          subst hu
          have hji : j = i := by have := Hrl.out; omega
          simp only [hji, if_true]
          exact hmn.out.move hmv
      have htl2 : Hid (∀ j, j < i + 1 → Tells s.data.toList ((fun j => if j = i then stepF (s.size + 1) s.data.toList F r else F j) j) ((denAll ns).getD j noL)) := fun j hj => by
        by_cases hji : j = i
        · simp only [hji, if_true]
          exact hnew.out
        · simp only [hji, if_false]
          exact htl.out j (by omega)
      have Hown3 := Lib.hid hown3
      have hbel4 := Lib.hid (hbel2.out.trans hbel3)
      have hrl3 : (rows ++ [Value.slice (some ⟨gb, go, none⟩) (s.size + 1) gc]).length = i + 1 := by rw [List.length_append, Hrl.out]; rfl
      clear hown3 hbel3 hgt hgrow hnw hmat2 hmn hown2 hnew htl hbel2
      go_roundw
      case rel => exact ⟨i + 1, _, _, by go_num, by omega, hrl3, Hown3, hfin, htl2, hbel4⟩
      case measure => simp [intOf]; omega
    · obtain rfl : i = k + 1 := by omega
      have hlti : ¬ ((k + 1 : Nat) : Int) ≤ (k : Int) := by omega
      have hkr : k < rows.length := by rw [Hrl.out]; omega
      have hru : rows[k]? = some rows[k] := List.getElem?_eq_getElem hkr
      obtain ⟨b, o, hA, hbb, hcell⟩ := (cells_any Hown.out).at_ hru
      have hmk := hmat.out k _ hru
      generalize rows[k] = u at hcell hmk
      obtain ⟨ub, uo, uc, rfl⟩ := hmk.form (by omega)
      obtain ⟨b2, o2, c2, h1, h2, h3, h4⟩ := hmk.get' (i := 0) (k := s.size) (by omega) (by omega)
      subst hA
      have htell := htl.out k (by omega) 0 s.size (Nat.zero_le _) (by rw [hsl.out]; exact Nat.le_refl _)
      have hcw := cut_whole s.data.toList
      rw [hsl.out] at hcw
      rw [hcw] at htell
      rw [Nat.add_zero] at h2
      obtain ⟨bb, hbbv⟩ : ∃ bb, F k 0 s.size = bb := ⟨_, rfl⟩
      rw [hbbv] at h4 htell
      have Htell := Lib.hid htell
      have hk0 : (0 : Int) ≤ (k : Int) := by omega
      have hs0 : (0 : Int) ≤ (s.size : Int) := by omega
      have hkk : (k : Int) < (k : Int) + 1 := by omega
      have hss : (s.size : Int) < (s.size : Int) + 1 := by omega
      have h01 : (0 : Int) < (s.size : Int) + 1 := by omega
      clear hcw htell hbbv hmk hru hkr h1 h3
      go_wp2_with fail
      go_ret
      refine ⟨bb, rfl, ?_, hbel⟩
      show _ ↔ _
      rw [Htell.out]
      simp
end Go.Proofs.Ytaefhfldgemcnaa

/- The law RegexMatches, walked. -/
namespace Go.Proofs.Ytaefhfldgemcnaa
open Go.RowKit

theorem match_on2 {w wx : World} {g M : Nat} {t : T} {s : ByteArray} {b : Bool} (h : RxAt w g M t) (hM : M ≤ w.heap.size) (hx : Below M w wx) (hts : t.size ≤ 1000) (hs : s.size ≤ 1000) (hb : accB (netN t) s.data.toList = b) :
    Calls Try.prog 32 #[.pointer (some ⟨g, 0, none⟩), .string s] wx (BoolPost b wx) :=
  match_rx g M t s b wx (h.below hx (Nat.le_refl _)) (Nat.le_trans hM hx.size) hts hs hb
theorem ref_some {s : ByteArray} {t : T} (h : parseR s = some t) (w : World) (hs : s.size ≤ 1000) :
    Calls Try.prog 30 #[.string s] w fun e w' => ∃ (A : Option Addr) (c : Nat) (ns : List RN) (K nn : Nat), e = .returned (.tuple #[.slice A nn c, .int .i64 K, .int .i64 0]) ∧ ns.length = nn ∧ Hid (NodesAt w' (Fresh w w') A ns ∧ Den ns K (Lang t) ∧ NsOk ns ∧ ns.length ≤ 5000) ∧ Hid (Below w.heap.size w w') := by
  refine (refParse_any s w hs).mono ?_
  rintro e w' ⟨h1, hb⟩
  rcases h1 with ⟨t', A, c, ns, K, h2, rfl, h3, h4, h5, h6⟩ | ⟨h2, _⟩
  · rw [h] at h2
    simp only [Option.some.injEq] at h2
    subst h2
    exact ⟨A, c, ns, K, ns.length, rfl, rfl, ⟨h3, h4, h5, h6⟩, hb⟩
  · rw [h] at h2; cases h2
theorem ref_none {s : ByteArray} (h : parseR s = none) (w : World) (hs : s.size ≤ 1000) :
    Calls Try.prog 30 #[.string s] w fun e w' => e = .returned (.tuple #[.slice none 0 0, .int .i64 0, .int .i64 (if 60 < s.size then 3 else 2)]) ∧ Hid (Below w.heap.size w w') := by
  refine (refParse_any s w hs).mono ?_
  rintro e w' ⟨h1, hb⟩
  rcases h1 with ⟨t', A, c, ns, K, h2, _⟩ | ⟨_, rfl⟩
  · rw [h] at h2; cases h2
  · exact ⟨rfl, hb⟩

set_option maxRecDepth 8192 in
set_option maxHeartbeats 6400000 in
theorem regexMatches_any (s t : ByteArray) (w : World) (_hs : s.size ≤ 9223372036854775807) (_ht : t.size ≤ 9223372036854775807) :
    Calls Try.prog 8 #[.string s, .string t] w (BoolPost true w) := by
  have HF1 := Lib.hid (fun (wx : World) => few2_is s 70 wx (by omega))
  have HF2 := Lib.hid (fun (wx : World) => few2_is t 20 wx (by omega))
  have hs1 := few2B_size s 70
  have ht1 := few2B_size t 20
  generalize few2B s 70 = s' at HF1 hs1
  generalize few2B t 20 = t' at HF2 ht1
  have Hlv : Hid (∀ wx, Calls Try.prog 31 #[] wx (BoolPost true wx)) := rxLives_any
  go_enter Try.func8, Try.ntmps8
  go_wp2_with fail
  refine (HF1.out _).mono ?_
  rintro e w0 ⟨rfl, rfl⟩
  go_wp2_with fail
  refine (HF2.out _).mono ?_
  rintro e w0 ⟨rfl, rfl⟩
  go_wp2_with fail
  cases hp : parseR s' with
  | none =>
    obtain ⟨er, her⟩ : ∃ er : Int, (if 60 < s'.size then 3 else 2) = er := ⟨_, rfl⟩
    have her2 : er = 3 ∨ er = 2 := by rw [← her]; split <;> simp
    have HR := Lib.hid (fun wx => ref_none hp wx (by omega))
    rw [her] at HR
    have HPn := Lib.hid (parse_none hp w (by omega))
    rw [her] at HPn
    clear hp her
    refine HPn.out.mono ?_
    rintro e w1 ⟨rfl, hB1⟩
    clear HPn
    go_wp2_with fail
    refine (HR.out w1).mono ?_
    rintro e w2 ⟨rfl, hb2⟩
    have hX2 := Lib.hid (hB1.out.trans (hb2.out.mono hB1.out.size))
    clear hb2 HR
    rcases her2 with rfl | rfl
    · go_wp2_with fail
      refine (Hlv.out w2).mono ?_
      rintro e w3 ⟨rfl, hb3⟩
      have hX := Lib.hid (hX2.out.trans (hb3.mono hX2.out.size))
      clear hb3
      go_wp2_with fail
      go_ret
      exact ⟨rfl, hX.out⟩
    · go_wp2_with fail
      refine (Hlv.out w2).mono ?_
      rintro e w3 ⟨rfl, hb3⟩
      have hX := Lib.hid (hX2.out.trans (hb3.mono hX2.out.size))
      clear hb3
      go_wp2_with fail
      go_ret
      exact ⟨rfl, hX.out⟩
  | some tr =>
    have hsz := parseR_size hp
    have HR := Lib.hid (fun wx => ref_some hp wx (by omega))
    refine (parse_some hp w (by omega)).mono ?_
    rintro e w1 ⟨g, rfl, hR1, hB1⟩
    clear hp
    go_wp2_with fail
    refine (HR.out w1).mono ?_
    rintro e w2 ⟨A, c, ns, K, nn, rfl, hnn, hns, hb2⟩
    have hX2 := Lib.hid (hB1.out.trans (hb2.out.mono hB1.out.size))
    clear HR
    go_wp2_with fail
    refine (match_on2 hR1.out (Nat.le_refl _) hb2.out (by omega) (by omega) rfl).mono ?_
    rintro e w3 ⟨rfl, hb3⟩
    have hX3 := Lib.hid (hX2.out.trans (hb3.mono hX2.out.size))
    have HM : Hid (Calls Try.prog 33 #[.slice A nn c, .int .i64 K, .string t'] w3 (RefMatchPost (Lang tr) t'.data.toList w3)) := by
      have h1 := hns.out
      have := refMatch_any A c ns K t' w3 (by omega) h1.2.1.lt h1.2.2.1 (by have := h1.2.2.2; omega) (h1.1.move (fun x hx => ⟨by have := hx.2; have := hb3.size; omega, hb3.block x hx.2⟩))
      rw [h1.2.1.getD, hnn] at this
      exact this
    have Hb3 := Lib.hid hb3
    clear hb3 hns hnn hb2 hR1
    go_wp2_with fail
    refine HM.out.mono ?_
    rintro e w4 ⟨bb, rfl, hbb, hb4⟩
    have hX4 := Lib.hid (hX3.out.trans (hb4.out.mono hX3.out.size))
    have hacc : accB (netN tr) t'.data.toList = bb := by rw [Bool.eq_iff_iff, acc_true, hbb.out]
    rw [hacc]
    clear hb4 hbb hacc HM
    go_wp2_with fail
    refine (Hlv.out w4).mono ?_
    rintro e w5 ⟨rfl, hb5⟩
    have hX5 := Lib.hid (hX4.out.trans (hb5.mono hX4.out.size))
    clear hb5
    go_wp2_with fail
    go_ret
    exact ⟨by simp, hX5.out⟩
end Go.Proofs.Ytaefhfldgemcnaa

/- The statement RegexMatchesSaid. -/
namespace Go.Proofs.Ytaefhfldgemcnaa
open Go.ChangeShapes Go.WideShapes Go.ChangeAt Go.RowKit
open Go.ChangeMaps (open_string)

set_option maxRecDepth 100000 in
theorem regexMatches_lifted (os : Os) (started : os.Started) (H : Type) (enc : TypeId × Value → H) :
    ReturnsInHanded {} Try.checked os 8 .any (Rows.regexMatchesSpec.pre6 enc Try.prog Try.f8 Rows.regexMatchesRow.domain false) (Rows.regexMatchesSpec.post enc Try.prog Try.f8 false true false false) := by
  refine returnsInHanded_of_change (C := Try.checked) Try.own started (by kernel_rfl) Try.func8
    (ChangeSpec.witness6 (enc := enc) (C := Try.checked) false ⟨#[], #[.string ByteArray.empty, .string ByteArray.empty], []⟩ 8 (by kernel_rfl) (by kernel_rfl) (by kernel_rfl) (by kernel_rfl)) ?_
  intro W base args ds gs before hval0 hW hcnd _
  have hval : ∀ (j : Nat) t v, Try.f8.params[j]? = some t → args[j]? = some v → Value.okWide Try.prog W .any base t v := hval0
  have hW' := hW
  obtain ⟨p, q, hA0, hV, rfl, hfz, hnd⟩ := hW
  have hA : DataW.TrodAll enc Try.prog W 0 (fun _ => true) true Try.f8.params.toList args.toList ds p := hA0
  rw [Try.params8] at hA hval
  obtain ⟨v0, v1, d0, d1, p0, p1, rfl, rfl, rfl, h0, h1⟩ := trodAll_two hA
  obtain ⟨rfl, rfl⟩ := trodVars_none hV
  obtain ⟨s, rfl, _, _, hsz⟩ := open_string Try.underlying9 (hval 0 9 v0 rfl rfl) h0
  obtain ⟨t, rfl, _, _, htz⟩ := open_string Try.underlying9 (hval 1 9 v1 rfl rfl) h1
  clear hA0 hval0
  simp only [List.append_nil] at hW'
  refine (regexMatches_any s t W (Nat.le_trans hsz (by decide)) (Nat.le_trans htz (by decide))).mono fun e W' ⟨he, hb⟩ => ?_
  subst he
  have hlt : ∀ x ∈ p0 ++ p1, x.block < W.heap.size := fun x hx => by simpa using hW'.lt x hx
  exact ⟨_, rfl, post_of_below (pa := p0 ++ p1) (pv := []) hW' (fun _ _ _ => trodAll_mk1 (shut_bool Try.underlying4 _))
    (fun sp hsp => trodAll_mk2
      (WideElems.Trod_stays Try.laidOut (by kernel_rfl) (of_decide_eq_true (by kernel_rfl)) h0 (fun x hx => hb.same (hlt x (List.mem_append_left _ hx))) (fun x hx => hsp x (by simp [hx])))
      (WideElems.Trod_stays Try.laidOut (by kernel_rfl) (of_decide_eq_true (by kernel_rfl)) h1 (fun x hx => hb.same (hlt x (List.mem_append_right _ hx))) (fun x hx => hsp x (by simp [hx])))) (fun _ _ => rfl) (by simp) hb
    (ok_one (by kernel_rfl) rfl (okWide_bool_mk Try.underlying4 _))⟩

theorem regexMatches_holds : Rows.RegexMatchesSaid :=
  OpenClaim.holds_of_wide 8 Try.f8 rfl rfl rfl rfl rfl rfl rfl ⟨rfl, rfl, rfl, rfl, rfl⟩ rfl rfl rfl rfl rfl (by kernel_rfl) Try.func8 (by kernel_rfl)
    (of_decide_eq_true (by kernel_rfl)) (by unfold Func.isWrapper; first | (rw [if_pos (by decide +kernel)]; kernel_rfl) | (rw [if_neg (by decide +kernel)]; exact ⟨rfl, rfl⟩))
    (fun os started H enc _ => regexMatches_lifted os started H enc)
#print axioms regexMatches_holds
end Go.Proofs.Ytaefhfldgemcnaa
