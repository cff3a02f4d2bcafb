/- Nets plain and as an argument; small walks. -/
import Derived.Test.YtghlodpbbghcoaaGreatDoorAM
import Derived.Test.YtghlodpbbghcoaaGreatDoorProg
import Derived.Below
import Derived.Laws.OwnMore
import Derived.Laws.MakeOwn
import Derived.OwnWalk
import Derived.Lib.Hide
import Derived.Deep.Draws
import Derived.Maps.AppendAt
import Derived.WalkKit
import Derived.WalkSpells
import Derived.WalkLawsBesides
import Derived.Deep.QuietTactic
import Derived.BigQuiet
namespace Go.Proofs.YtghlodpbbghcoaaGreatDoor.Rx
section
structure Edge where
  frm : Int
  to : Int
  low : Int
  high : Int
  deriving DecidableEq
structure Net where
  st : Int
  start : Int
  fin : Int
  edges : List Edge
def Edge.none_ (e : Edge) : Bool := decide (e.high < e.low)
def Edge.takes (e : Edge) (c : Int) : Bool := decide (32 ≤ c) && decide (c ≤ 126) && decide (e.low ≤ c) && decide (c ≤ e.high)
def isSt (st q : Int) : Bool := decide (0 ≤ q) && decide (q < st)
def Edge.ok (st : Int) (e : Edge) : Bool := isSt st e.frm && isSt st e.to
def Net.may (n : Net) : Bool := decide (1 ≤ n.st) && decide (n.st ≤ 500) && isSt n.st n.start && isSt n.st n.fin && n.edges.all (Edge.ok n.st)
def Edge.swap (e : Edge) : Edge := ⟨e.to, e.frm, e.low, e.high⟩
def Net.back (n : Net) : Net := ⟨n.st, n.fin, n.start, n.edges.map Edge.swap⟩
theorem isSt_iff {st q : Int} : isSt st q = true ↔ 0 ≤ q ∧ q < st := by simp [isSt]
theorem ok_iff {st : Int} {e : Edge} : e.ok st = true ↔ (0 ≤ e.frm ∧ e.frm < st) ∧ 0 ≤ e.to ∧ e.to < st := by simp [Edge.ok, isSt_iff]
theorem may_iff {n : Net} : n.may = true ↔ 1 ≤ n.st ∧ n.st ≤ 500 ∧ (0 ≤ n.start ∧ n.start < n.st) ∧ (0 ≤ n.fin ∧ n.fin < n.st) ∧ ∀ e ∈ n.edges, e.ok n.st = true := by
  simp [Net.may, isSt_iff, and_assoc]
inductive Eps (by_ : Edge → Bool) (es : List Edge) (S : Int → Prop) : Int → Prop
  | base {q : Int} : S q → Eps by_ es S q
  | step {e : Edge} : e ∈ es → by_ e = true → Eps by_ es S e.frm → Eps by_ es S e.to
/-- A rising list of states. -/
noncomputable def rising (st : Int) (P : Int → Prop) : List Int := ((List.range st.toNat).map Int.ofNat).filter (fun q => @decide (P q) (Classical.propDecidable _))
theorem rising_yes {k : Nat} {P : Int → Prop} (h : P k) : rising ((k : Int) + 1) P = rising k P ++ [(k : Int)] := by
  unfold rising
  rw [show ((k : Int) + 1).toNat = k + 1 from by omega, List.range_succ, List.map_append, List.filter_append]
  simp [h]
theorem rising_no {k : Nat} {P : Int → Prop} (h : ¬ P k) : rising ((k : Int) + 1) P = rising k P := by
  unfold rising
  rw [show ((k : Int) + 1).toNat = k + 1 from by omega, List.range_succ, List.map_append, List.filter_append]
  simp [h]
theorem rising_length (k : Nat) (P : Int → Prop) : (rising k P).length ≤ k := by
  unfold rising
  refine Nat.le_trans (List.length_filter_le _ _) ?_
  simp
/-- A set that holds S and is closed under the edges holds the closure. -/
theorem Eps_least {by_ : Edge → Bool} {es : List Edge} {S T : Int → Prop} (hb : ∀ q, S q → T q) (hc : ∀ e ∈ es, by_ e = true → T e.frm → T e.to) {q : Int} (hq : Eps by_ es S q) : T q := by
  induction hq with
  | base h1 => exact hb _ h1
  | step h1 h2 _ ih => exact hc _ h1 h2 ih
theorem nodup_range {l : List Int} (n : Nat) : l.Nodup → (∀ q ∈ l, 0 ≤ q ∧ q < n) → l.length ≤ n := by
  induction n generalizing l with
  | zero =>
    intro _ h
    cases l with
    | nil => simp
    | cons x l => have := h x (by simp); omega
  | succ n ih =>
    intro hn h
    by_cases hin : (n : Int) ∈ l
    · have h1 := ih (l := l.erase n) (hn.erase _) (by
        intro q hq
        have h2 := (hn.mem_erase_iff).1 hq
        have := h q h2.2
        have h3 := h2.1
        omega)
      rw [List.length_erase_of_mem hin] at h1
      omega
    · have h1 := ih hn (by
        intro q hq
        have := h q hq
        by_cases e : q = n
        · subst e; exact absurd hq hin
        · omega)
      omega
structure CInv (by_ : Edge → Bool) (es : List Edge) (st : Int) (S0 : Int → Prop) (out : List Int) (i : Nat) : Prop where
  nodup : out.Nodup
  rng : ∀ q ∈ out, 0 ≤ q ∧ q < st
  sub : ∀ q ∈ out, Eps by_ es S0 q
  base : ∀ q, S0 q → q ∈ out
  cl : ∀ j, j < i → ∀ q, out[j]? = some q → ∀ e ∈ es, by_ e = true → e.frm = q → e.to ∈ out
theorem CInv.length {by_ : Edge → Bool} {es : List Edge} {st : Int} {S0 : Int → Prop} {out : List Int} {i : Nat} (h : CInv by_ es st S0 out i) (hst : 0 ≤ st) : (out.length : Int) ≤ st := by
  obtain ⟨n, rfl⟩ := Int.eq_ofNat_of_zero_le hst
  have := nodup_range n h.nodup h.rng
  omega
theorem CInv.done {by_ : Edge → Bool} {es : List Edge} {st : Int} {S0 : Int → Prop} {out : List Int} {i : Nat} (h : CInv by_ es st S0 out i) (hi : out.length ≤ i) (q : Int) : q ∈ out ↔ Eps by_ es S0 q := by
  refine ⟨h.sub q, fun hq => Eps_least (T := (· ∈ out)) h.base ?_ hq⟩
  intro e he hb hf
  obtain ⟨j, hj⟩ := List.getElem?_of_mem hf
  have hlt := (List.getElem?_eq_some_iff.1 hj).1
  exact h.cl j (by omega) _ hj e he hb rfl
theorem CInv.push {by_ : Edge → Bool} {es : List Edge} {st : Int} {S0 : Int → Prop} {out : List Int} {i : Nat} (h : CInv by_ es st S0 out i) (hes : ∀ e ∈ es, e.ok st = true) {e : Edge} (he : e ∈ es) (hb : by_ e = true) (hf : e.frm ∈ out) (hn : ¬ e.to ∈ out) (hi : i ≤ out.length) : CInv by_ es st S0 (out ++ [e.to]) i := by
  refine ⟨?_, ?_, ?_, ?_, ?_⟩
  · rw [List.nodup_append]
    refine ⟨h.nodup, by simp, ?_⟩
    intro a ha b hb'
    simp only [List.mem_singleton] at hb'
    subst hb'
    rintro rfl
    exact hn ha
  · intro q hq
    rcases List.mem_append.1 hq with hq | hq
    · exact h.rng q hq
    · simp only [List.mem_singleton] at hq; subst hq; exact (ok_iff.1 (hes e he)).2
  · intro q hq
    rcases List.mem_append.1 hq with hq | hq
    · exact h.sub q hq
    · simp only [List.mem_singleton] at hq; subst hq; exact .step he hb (h.sub _ hf)
  · intro q hq; exact List.mem_append_left _ (h.base q hq)
  · intro j hj q hq e' he' hb' hf'
    rw [List.getElem?_append_left (by omega)] at hq
    exact List.mem_append_left _ (h.cl j hj q hq e' he' hb' hf')
/-- While the edges of one state are gone through. -/
structure CIn (by_ : Edge → Bool) (es : List Edge) (st : Int) (S0 : Int → Prop) (out : List Int) (i : Nat) (q : Int) (k : Nat) : Prop where
  inv : CInv by_ es st S0 out i
  at_ : out[i]? = some q
  cl : ∀ e ∈ es.take k, by_ e = true → e.frm = q → e.to ∈ out
theorem CIn.next {by_ : Edge → Bool} {es : List Edge} {st : Int} {S0 : Int → Prop} {out : List Int} {i : Nat} {q : Int} {k : Nat} (h : CIn by_ es st S0 out i q k) {e : Edge} (he : es[k]? = some e) (hc : by_ e = true → e.frm = q → e.to ∈ out) : CIn by_ es st S0 out i q (k + 1) := by
  refine ⟨h.inv, h.at_, ?_⟩
  intro e' he' hb hf
  rw [List.take_add_one, he] at he'
  simp only [Option.toList_some, List.mem_append, List.mem_singleton] at he'
  rcases he' with he' | rfl
  · exact h.cl e' he' hb hf
  · exact hc hb hf
theorem CIn.push {by_ : Edge → Bool} {es : List Edge} {st : Int} {S0 : Int → Prop} {out : List Int} {i : Nat} {q : Int} {k : Nat} (h : CIn by_ es st S0 out i q k) (hes : ∀ e ∈ es, e.ok st = true) {e : Edge} (he : es[k]? = some e) (hb : by_ e = true) (hf : e.frm = q) (hn : ¬ e.to ∈ out) : CIn by_ es st S0 (out ++ [e.to]) i q (k + 1) := by
  have hil := (List.getElem?_eq_some_iff.1 h.at_).1
  have h1 : CIn by_ es st S0 (out ++ [e.to]) i q k := by
    refine ⟨h.inv.push hes (List.mem_of_getElem? he) hb (by rw [hf]; exact List.mem_of_getElem? h.at_) hn (by omega), ?_, ?_⟩
    · rw [List.getElem?_append_left hil]; exact h.at_
    · intro e' he' hb' hf'; exact List.mem_append_left _ (h.cl e' he' hb' hf')
  exact h1.next he (fun _ _ => by simp)
theorem CIn.end_ {by_ : Edge → Bool} {es : List Edge} {st : Int} {S0 : Int → Prop} {out : List Int} {i : Nat} {q : Int} {k : Nat} (h : CIn by_ es st S0 out i q k) (hk : es.length ≤ k) : CInv by_ es st S0 out (i + 1) := by
  refine ⟨h.inv.nodup, h.inv.rng, h.inv.sub, h.inv.base, ?_⟩
  intro j hj p hp e he hb hf
  by_cases hji : j = i
  · subst hji
    rw [h.at_] at hp
    injection hp with hp
    subst hp
    exact h.cl e (by rw [List.take_of_length_le hk]; exact he) hb hf
  · exact h.inv.cl j (by omega) p hp e he hb hf
theorem CInv.start {by_ : Edge → Bool} {es : List Edge} {st : Int} {S0 : Int → Prop} {out : List Int} (hn : out.Nodup) (hr : ∀ q ∈ out, 0 ≤ q ∧ q < st) (hs : ∀ q, q ∈ out ↔ S0 q) : CInv by_ es st S0 out 0 :=
  ⟨hn, hr, fun q hq => .base ((hs q).1 hq), fun q hq => (hs q).2 hq, fun j hj => absurd hj (by omega)⟩
def prevIdx (by_ : Edge → Bool) (es : List Edge) (q : Int) : Nat → Nat
  | 0 => 0
  | k + 1 => match es[k]? with
    | some e => if by_ e && e.frm == q then k + 1 else prevIdx by_ es q k
    | none => prevIdx by_ es q k
def linkF (by_ : Edge → Bool) (es : List Edge) (k j : Nat) : Nat :=
  if j < k then (match es[j]? with
    | some e => if by_ e then prevIdx by_ es e.frm j else 0
    | none => 0) else 0
theorem prevIdx_le (by_ : Edge → Bool) (es : List Edge) (q : Int) (k : Nat) : prevIdx by_ es q k ≤ k := by
  induction k with
  | zero => simp [prevIdx]
  | succ k ih =>
    unfold prevIdx
    split
    · split <;> omega
    · omega
theorem prevIdx_yes {by_ : Edge → Bool} {es : List Edge} {q : Int} {k : Nat} {e : Edge} (he : es[k]? = some e) (hb : by_ e = true) (hf : e.frm = q) : prevIdx by_ es q (k + 1) = k + 1 := by
  simp [prevIdx, he, hb, hf]
theorem prevIdx_no {by_ : Edge → Bool} {es : List Edge} {q : Int} {k : Nat} {e : Edge} (he : es[k]? = some e) (h : by_ e = false ∨ e.frm ≠ q) : prevIdx by_ es q (k + 1) = prevIdx by_ es q k := by
  rw [prevIdx, he]
  rcases h with h | h <;> simp [h]
theorem linkF_at {by_ : Edge → Bool} {es : List Edge} {k : Nat} {e : Edge} (he : es[k]? = some e) (hb : by_ e = true) : linkF by_ es (k + 1) k = prevIdx by_ es e.frm k := by
  simp [linkF, he, hb]
theorem linkF_not {by_ : Edge → Bool} {es : List Edge} {k : Nat} {e : Edge} (he : es[k]? = some e) (hb : by_ e = false) : linkF by_ es (k + 1) k = 0 := by
  simp [linkF, he, hb]
theorem linkF_ge {by_ : Edge → Bool} {es : List Edge} {k j : Nat} (h : k ≤ j) : linkF by_ es k j = 0 := by
  simp [linkF]; omega
theorem linkF_ne {by_ : Edge → Bool} {es : List Edge} {k j : Nat} (h : j ≠ k) : linkF by_ es (k + 1) j = linkF by_ es k j := by
  unfold linkF
  by_cases h1 : j < k
  · rw [if_pos (by omega), if_pos h1]
  · rw [if_neg (by omega), if_neg h1]
theorem prevIdx_some {by_ : Edge → Bool} {es : List Edge} {q : Int} {k a : Nat} (h : prevIdx by_ es q k = a + 1) : ∃ e, es[a]? = some e ∧ by_ e = true ∧ e.frm = q ∧ a < k ∧ ∀ j, a < j → j < k → ∀ e', es[j]? = some e' → by_ e' = true → e'.frm ≠ q := by
  induction k with
  | zero => simp [prevIdx] at h
  | succ k ih =>
    unfold prevIdx at h
    split at h
    · rename_i e he
      split at h
      · rename_i hc
        simp only [Bool.and_eq_true, beq_iff_eq] at hc
        obtain rfl : k = a := by omega
        exact ⟨e, he, hc.1, hc.2, by omega, fun j h1 h2 => absurd h2 (by omega)⟩
      · rename_i hc
        obtain ⟨e', h1, h2, h3, h4, h5⟩ := ih h
        refine ⟨e', h1, h2, h3, by omega, fun j hj1 hj2 e'' he'' hb'' => ?_⟩
        by_cases hjk : j = k
        · subst hjk
          rw [he] at he''
          injection he'' with he''
          subst he''
          simpa [hb''] using hc
        · exact h5 j hj1 (by omega) e'' he'' hb''
    · rename_i he
      obtain ⟨e', h1, h2, h3, h4, h5⟩ := ih h
      refine ⟨e', h1, h2, h3, by omega, fun j hj1 hj2 e'' he'' hb'' => ?_⟩
      by_cases hjk : j = k
      · subst hjk; rw [he] at he''; cases he''
      · exact h5 j hj1 (by omega) e'' he'' hb''
theorem prevIdx_none {by_ : Edge → Bool} {es : List Edge} {q : Int} {k : Nat} (h : prevIdx by_ es q k = 0) : ∀ j, j < k → ∀ e', es[j]? = some e' → by_ e' = true → e'.frm ≠ q := by
  induction k with
  | zero => intro j hj; omega
  | succ k ih =>
    unfold prevIdx at h
    intro j hj e' he' hb'
    split at h
    · rename_i e he
      split at h
      · omega
      · rename_i hc
        by_cases hjk : j = k
        · subst hjk
          rw [he] at he'
          injection he' with he'
          subst he'
          simpa [hb'] using hc
        · exact ih h j (by omega) e' he' hb'
    · rename_i he
      by_cases hjk : j = k
      · subst hjk; rw [he] at he'; cases he'
      · exact ih h j (by omega) e' he' hb'
/-- While the edges of one state are gone through from the last one on. -/
structure CIr (by_ : Edge → Bool) (es : List Edge) (st : Int) (S0 : Int → Prop) (out : List Int) (i : Nat) (q : Int) (k : Nat) : Prop where
  inv : CInv by_ es st S0 out i
  at_ : out[i]? = some q
  cl : ∀ j, k ≤ j → ∀ e, es[j]? = some e → by_ e = true → e.frm = q → e.to ∈ out
theorem CIr.start {by_ : Edge → Bool} {es : List Edge} {st : Int} {S0 : Int → Prop} {out : List Int} {i : Nat} {q : Int} (h : CInv by_ es st S0 out i) (hq : out[i]? = some q) : CIr by_ es st S0 out i q es.length :=
  ⟨h, hq, fun j hj e he => by rw [List.getElem?_eq_none hj] at he; cases he⟩
theorem CIr.next {by_ : Edge → Bool} {es : List Edge} {st : Int} {S0 : Int → Prop} {out : List Int} {i : Nat} {q : Int} {k a : Nat} (h : CIr by_ es st S0 out i q k) (ha : prevIdx by_ es q k = a + 1) (hin : ∀ e, es[a]? = some e → e.to ∈ out) : CIr by_ es st S0 out i q a := by
  obtain ⟨e, he, hb, hf, hlt, hbt⟩ := prevIdx_some ha
  refine ⟨h.inv, h.at_, fun j hj e' he' hb' hf' => ?_⟩
  by_cases h1 : j = a
  · subst h1; exact hin e' he'
  · by_cases h2 : j < k
    · exact absurd hf' (hbt j (by omega) h2 e' he' hb')
    · exact h.cl j (by omega) e' he' hb' hf'
theorem CIr.push {by_ : Edge → Bool} {es : List Edge} {st : Int} {S0 : Int → Prop} {out : List Int} {i : Nat} {q : Int} {k a : Nat} (h : CIr by_ es st S0 out i q k) (hes : ∀ e ∈ es, e.ok st = true) (ha : prevIdx by_ es q k = a + 1) {e : Edge} (he : es[a]? = some e) (hn : ¬ e.to ∈ out) : CIr by_ es st S0 (out ++ [e.to]) i q a := by
  obtain ⟨e', he', hb, hf, hlt, hbt⟩ := prevIdx_some ha
  rw [he] at he'
  injection he' with he'
  subst he'
  have hil := (List.getElem?_eq_some_iff.1 h.at_).1
  have h1 : CIr by_ es st S0 (out ++ [e.to]) i q k := by
    refine ⟨h.inv.push hes (List.mem_of_getElem? he) hb (by rw [hf]; exact List.mem_of_getElem? h.at_) hn (by omega), ?_, ?_⟩
    · rw [List.getElem?_append_left hil]; exact h.at_
    · intro j hj e' he' hb' hf'; exact List.mem_append_left _ (h.cl j hj e' he' hb' hf')
  exact h1.next ha (fun e'' he'' => by rw [he] at he''; injection he'' with he''; subst he''; simp)
theorem CIr.end_ {by_ : Edge → Bool} {es : List Edge} {st : Int} {S0 : Int → Prop} {out : List Int} {i : Nat} {q : Int} {k : Nat} (h : CIr by_ es st S0 out i q k) (ha : prevIdx by_ es q k = 0) : CInv by_ es st S0 out (i + 1) := by
  refine ⟨h.inv.nodup, h.inv.rng, h.inv.sub, h.inv.base, ?_⟩
  intro j hj p hp e he hb hf
  by_cases hji : j = i
  · subst hji
    rw [h.at_] at hp
    injection hp with hp
    subst hp
    obtain ⟨x, hx⟩ := List.getElem?_of_mem he
    by_cases hxk : x < k
    · exact absurd hf (prevIdx_none ha x hxk e hx hb)
    · exact h.cl x (by omega) e hx hb hf
  · exact h.inv.cl j (by omega) p hp e he hb hf
inductive Way (es : List Edge) : Int → List UInt8 → Int → Prop
  | nil {q : Int} : Way es q [] q
  | eps {e : Edge} {s : List UInt8} {q : Int} : e ∈ es → e.none_ = true → Way es e.to s q → Way es e.frm s q
  | sign {e : Edge} {c : UInt8} {s : List UInt8} {q : Int} : e ∈ es → e.takes c.toNat = true → Way es e.to s q → Way es e.frm (c :: s) q
theorem Way.trans {es : List Edge} {p q r : Int} {s t : List UInt8} (h : Way es p s q) (k : Way es q t r) : Way es p (s ++ t) r := by
  induction h with
  | nil => exact k
  | eps h1 h2 _ ih => exact .eps h1 h2 (ih k)
  | sign h1 h2 _ ih => exact .sign h1 h2 (ih k)
end
section
open Go.RowKit
/-- The cells xs lie, in world w, at the address A, in a block below B. -/
def CellsAt (w : World) (B : Nat) (A : Option Addr) (xs : List Value) : Prop :=
  ∀ j (h : j < xs.length), ∃ b o, A = some ⟨b, o, none⟩ ∧ b < B ∧ w.cell? ⟨b, o + j, none⟩ = some xs[j]
namespace CellsAt
variable {w w' : World} {B B' : Nat} {A : Option Addr} {xs : List Value}
theorem nil : CellsAt w B A [] := fun _ h => absurd h (by simp)
theorem below (h : CellsAt w B A xs) (hb : Below B w w') : CellsAt w' B A xs := fun j hj =>
  let ⟨b, o, h1, h2, h3⟩ := h j hj
  ⟨b, o, h1, h2, (hb.cell h2).trans h3⟩
theorem alloc (h : CellsAt w B A xs) (hB : B ≤ w.heap.size) (o : Obj) : CellsAt (w.alloc o) B A xs := h.below ((Below.refl _ _).alloc hB _)
theorem drew (h : CellsAt w B A xs) : CellsAt w.drew B A xs := h
theorem drewN (h : CellsAt w B A xs) (n : Nat) : CellsAt (w.drewN n) B A xs := h
theorem more (h : CellsAt w B A xs) (hB : B ≤ B') : CellsAt w B' A xs := fun j hj =>
  let ⟨b, o, h1, h2, h3⟩ := h j hj
  ⟨b, o, h1, by omega, h3⟩
theorem take (h : CellsAt w B A xs) (n : Nat) : CellsAt w B A (xs.take n) := fun j hj => by
  have hl : j < xs.length := by rw [List.length_take] at hj; omega
  obtain ⟨b, o, h1, h2, h3⟩ := h j hl
  exact ⟨b, o, h1, h2, by rw [h3, List.getElem_take]⟩
theorem at_ (h : CellsAt w B A xs) {j : Nat} {v : Value} (hj : xs[j]? = some v) : ∃ b o, A = some ⟨b, o, none⟩ ∧ b < B ∧ w.cell? ⟨b, o + j, none⟩ = some v := by
  obtain ⟨hl, he⟩ := List.getElem?_eq_some_iff.1 hj
  obtain ⟨b, o, h1, h2, h3⟩ := h j hl
  exact ⟨b, o, h1, h2, by rw [h3, he]⟩
theorem of_own {base : Nat} {e : TypeId} {size n c : Nat} (h : w.ownsRow base e size (.slice A n c) n xs) : CellsAt w w.heap.size A xs := by
  intro j hj
  obtain ⟨h1, h2⟩ := h
  rcases h2 with ⟨hv, hn⟩ | ⟨g, cap, cur, hv, hg, hh, hnc, hcm, hcs, ht⟩
  · subst hn; simp at h1; subst h1; simp at hj
  · injection hv with hA hn hc
    subst hA
    have hlt : g < w.heap.size := (Array.getElem?_eq_some_iff.1 hh).1
    refine ⟨g, 0, rfl, hlt, ?_⟩
    have : xs[j]? = some xs[j] := List.getElem?_eq_getElem hj
    rw [← this, ← ht, List.getElem?_take, if_pos (by rw [ht] at *; omega)]
    simp [World.cell?, hh]
end CellsAt
/-- Lists of things of m cells each. -/
def flat {α : Type} (enc : α → List Value) (l : List α) : List Value := l.flatMap enc
theorem flat_get {α : Type} {enc : α → List Value} {m : Nat} (hm : ∀ x, (enc x).length = m) {l : List α} {k j : Nat} {x : α} (hk : l[k]? = some x) (hj : j < m) : (flat enc l)[k * m + j]? = (enc x)[j]? := by
  induction l generalizing k with
  | nil => simp at hk
  | cons y l ih =>
    show (enc y ++ flat enc l)[k * m + j]? = _
    cases k with
    | zero =>
      simp at hk; subst hk
      rw [List.getElem?_append_left (by rw [hm]; omega)]; simp
    | succ k =>
      simp at hk
      rw [List.getElem?_append_right (by rw [hm, Nat.add_mul]; omega), hm]
      rw [show (k + 1) * m + j - m = k * m + j from by rw [Nat.add_mul]; omega]
      exact ih hk
theorem flat_append {α : Type} {enc : α → List Value} (l l' : List α) : flat enc (l ++ l') = flat enc l ++ flat enc l' := by simp [flat]
theorem flat_one {α : Type} {enc : α → List Value} (x : α) : flat enc [x] = enc x := by simp [flat]
theorem flat_take {α : Type} {enc : α → List Value} {m : Nat} (hm : ∀ x, (enc x).length = m) (l : List α) (n : Nat) : flat enc (l.take n) = (flat enc l).take (n * m) := by
  induction l generalizing n with
  | nil => simp [flat]
  | cons x l ih =>
    cases n with
    | zero => simp [flat]
    | succ n =>
      show enc x ++ flat enc (l.take n) = (enc x ++ flat enc l).take _
      have h : (n + 1) * m = (enc x).length + n * m := by rw [hm, Nat.add_mul]; omega
      rw [ih, h, List.take_length_add_append]
/-- What a new box holds, in every later world that leaves it alone. -/
theorem boxed {w wr : World} {cs : Array Value} {t : TypeId} (hb : Below (w.heap.size + 1) (w.alloc (.cells cs t)) wr) (i : Nat) : wr.cell? ⟨w.heap.size, i, none⟩ = cs[i]? :=
  (hb.cell (p := ⟨w.heap.size, i, none⟩) (by simp)).trans (by simp)
theorem boxed_lt {w wr : World} {o : Obj} (hb : Below (w.heap.size + 1) (w.alloc o) wr) : w.heap.size < wr.heap.size := by
  have := hb.size
  simp at this; omega
theorem unbox {w wr : World} {o : Obj} (hb : Below (w.heap.size + 1) (w.alloc o) wr) : Below w.heap.size w wr :=
  ((Below.refl _ _).alloc (Nat.le_refl _) _).trans (hb.mono (by omega))
theorem boxed4 {w wr : World} {a b c d : Value} {t : TypeId} (hb : Below (w.heap.size + 1) (w.alloc (.cells #[a, b, c, d] t)) wr) :
    wr.cell? ⟨w.heap.size, 0, none⟩ = some a ∧ wr.cell? ⟨w.heap.size, 1, none⟩ = some b ∧ wr.cell? ⟨w.heap.size, 2, none⟩ = some c ∧ wr.cell? ⟨w.heap.size, 3, none⟩ = some d ∧ w.heap.size < wr.heap.size :=
  ⟨boxed hb 0, boxed hb 1, boxed hb 2, boxed hb 3, boxed_lt hb⟩
theorem ret_int {k : IntKind} {a b : Int} (h : a = b) : Ending.returned (.int k a) = .returned (.int k b) := by rw [h]
/-- 'out = append(out, x..)', the new elements in a block that has just been made: what is owned is owned, and longer; where it lies. -/
theorem wpList_append_new_at {P : Program} {ops : Array Oper} {rest : List Oper} {o : Oper} {a : Act} {Q : Exit → Act → World → Prop} {w0 : World} {cs : Array Value} {e t : TypeId} {z : Value} {size bytes : Nat}
    (hinfo : (P.info? e).map (fun i => (i.zero, i.size, i.bytes)) = some (some z, size, bytes)) (ht : P.underlying t = some (.slice e)) (hzs : z.cells.size = size) (hsz : 0 < size) (hby : bytes ≤ 100000)
    (base : Nat) {v : Value} {n : Nat} {xs : List Value} (hown : w0.ownsRow base e size v n xs) (m : Nat) (hgd : o.guard = none) (s x : Operand)
    (ho : o.op = .call { callee := .builtin .append, args := #[s, x], argTypes := #[t, t] }) (hs : a.eval s = v) {g : Nat} (hx : a.eval x = .slice (some ⟨g, 0, none⟩) m m) (hgs : g = w0.heap.size)
    (hl : cs.size = m * size) (h1 : cs.toList.all Value.oneCell' = true) (hsmall : n + m ≤ 1000000000) (hbase : base ≤ w0.heap.size)
    (h : ∀ v' w', w'.ownsRow base e size v' (n + m) (xs ++ cs.toList) → Below base w0 w' → w0.heap.size < w'.heap.size → w0.grownBy w' v.ownBlock → (∀ k, v'.ownBlock = some k → v.ownBlock = some k ∨ w0.heap.size < k) → wpList P ops Q rest (a.put o.dst v') w') :
    wpList P ops Q (o :: rest) a (w0.alloc (.cells cs e)) := by
  subst hgs
  obtain ⟨i, hi, hz0, hz1, hz2⟩ := info_parts hinfo
  have hbb : (n + m) * bytes ≤ 1000000000 * 100000 := Nat.mul_le_mul hsmall hby
  refine wpList_append_own_at _ hgd s x t ho base e i z size bytes ht hi hz0 hz1 hz2 hzs hsz v n xs hs (hown.alloc _) ⟨w0.heap.size, 0, none⟩ m m cs.toList hx (by simpa using hl) ?_ ?_ (by unfold maxLen; omega) (by omega) (by simp; omega) ?_
  · intro j u hj
    have hadd : (⟨w0.heap.size, 0, none⟩ : Addr).add j = ⟨w0.heap.size, j, none⟩ := by unfold Addr.add; split <;> simp_all
    rw [hadd, World.cell?_alloc_new]
    simpa using hj
  · intro u hu
    exact List.all_eq_true.1 h1 u hu
  · intro v' w' ho' hg _ hat
    have hg0 : w0.grownBy w' v.ownBlock := ⟨hg.os, hg.tape, hg.output, by have := hg.size; simp at this; omega, fun k hk hne => (hg.block k (by simp; omega) hne).trans (by first | exact heap_alloc_old w0 _ hk | exact heap_alloc_old w0 _ k hk)⟩
    refine h v' w' ho' ?_ (by have := hg.size; simp at this; omega) hg0 ?_
    · exact ⟨hg0.os, hg0.tape, hg0.output, hg0.size, fun k hk => hg0.block k (by omega) (fun e => by have := hown.lt k e.symm; omega)⟩
    · intro k hk
      rcases hat with hat | hat
      · exact .inl (hat.symm.trans hk)
      · rw [hat] at hk
        simp at hk
        exact .inr (by omega)
theorem wpList_append_new {P : Program} {ops : Array Oper} {rest : List Oper} {o : Oper} {a : Act} {Q : Exit → Act → World → Prop} {w0 : World} {cs : Array Value} {e t : TypeId} {z : Value} {size bytes : Nat}
    (hinfo : (P.info? e).map (fun i => (i.zero, i.size, i.bytes)) = some (some z, size, bytes)) (ht : P.underlying t = some (.slice e)) (hzs : z.cells.size = size) (hsz : 0 < size) (hby : bytes ≤ 100000)
    (base : Nat) {v : Value} {n : Nat} {xs : List Value} (hown : w0.ownsRow base e size v n xs) (m : Nat) (hgd : o.guard = none) (s x : Operand)
    (ho : o.op = .call { callee := .builtin .append, args := #[s, x], argTypes := #[t, t] }) (hs : a.eval s = v) {g : Nat} (hx : a.eval x = .slice (some ⟨g, 0, none⟩) m m) (hgs : g = w0.heap.size)
    (hl : cs.size = m * size) (h1 : cs.toList.all Value.oneCell' = true) (hsmall : n + m ≤ 1000000000) (hbase : base ≤ w0.heap.size)
    (h : ∀ v' w', w'.ownsRow base e size v' (n + m) (xs ++ cs.toList) → Below base w0 w' → w0.heap.size < w'.heap.size → w0.grownBy w' v.ownBlock → wpList P ops Q rest (a.put o.dst v') w') :
    wpList P ops Q (o :: rest) a (w0.alloc (.cells cs e)) :=
  wpList_append_new_at hinfo ht hzs hsz hby base hown m hgd s x ho hs hx hgs hl h1 hsmall hbase (fun v' w' a b c d _ => h v' w' a b c d)
end
section
open Go.RowKit
def edgeCells (e : Edge) : List Value := [.int .i64 e.frm, .int .i64 e.to, .int .u8 e.low, .int .u8 e.high]
theorem edgeCells_length (e : Edge) : (edgeCells e).length = 4 := rfl
abbrev EdgesAt (w : World) (B : Nat) (A : Option Addr) (es : List Edge) : Prop := CellsAt w B A (flat edgeCells es)
theorem edge_at {w wr : World} {B : Nat} {A : Option Addr} {es : List Edge} (h : EdgesAt w B A es) (hb : Below B w wr) {k : Nat} (hk : k < es.length) :
    ∃ b o e, A = some ⟨b, o, none⟩ ∧ b < B ∧ Hid (es[k]? = some e) ∧ wr.cell? ⟨b, o + k * 4, none⟩ = some (.int .i64 e.frm) ∧ wr.cell? ⟨b, o + k * 4 + 1, none⟩ = some (.int .i64 e.to) ∧ wr.cell? ⟨b, o + k * 4 + 2, none⟩ = some (.int .u8 e.low) ∧ wr.cell? ⟨b, o + k * 4 + 3, none⟩ = some (.int .u8 e.high) := by
  have he : es[k]? = some es[k] := List.getElem?_eq_getElem hk
  have g := fun j (hj : j < 4) => flat_get edgeCells_length he hj
  obtain ⟨b, o, rfl, hB, c0⟩ := (h.below hb).at_ (g 0 (by omega))
  obtain ⟨b1, o1, e1, _, c1⟩ := (h.below hb).at_ (g 1 (by omega))
  obtain ⟨b2, o2, e2, _, c2⟩ := (h.below hb).at_ (g 2 (by omega))
  obtain ⟨b3, o3, e3, _, c3⟩ := (h.below hb).at_ (g 3 (by omega))
  simp only [Option.some.injEq, Addr.mk.injEq] at e1 e2 e3
  obtain ⟨rfl, rfl, _⟩ := e1
  obtain ⟨rfl, rfl, _⟩ := e2
  obtain ⟨rfl, rfl, _⟩ := e3
  exact ⟨b, o, es[k], rfl, hB, he, c0, c1, c2, c3⟩
set_option maxHeartbeats 400000 in
theorem isState_any (s a b q : Int) (v : Value) (w : World) :
    Calls Tryz.prog 135 #[.agg #[.int .i64 s, .int .i64 a, .int .i64 b, v], .int .i64 q] w fun e w' => e = .returned (.bool (isSt s q)) ∧ w.alloc (.cells #[.int .i64 s, .int .i64 a, .int .i64 b, v] 143) = w' := by
  unfold isSt
  go_enter Tryz.func135, Tryz.ntmps135
  go_wp2
  · rename_i h; go_ret; exact ⟨by simp [h], rfl⟩
  · rename_i h; go_ret; exact ⟨by simp [Int.not_le.2 h], rfl⟩
def mayV (n : Net) : Int := if n.may then 0 else 1
theorem mayV_no {n : Net} (h : n.may = false) : mayV n = 1 := by simp [mayV, h]
theorem mayV_yes {n : Net} (h : n.may = true) : mayV n = 0 := by simp [mayV, h]
set_option maxHeartbeats 400000 in
theorem may_head (n : Net) (A : Option Addr) (c : Nat) (w : World) (h : n.st < 1 ∨ 500 < n.st ∨ isSt n.st n.start = false ∨ isSt n.st n.fin = false) :
    Calls Tryz.prog 120 #[.agg #[.int .i64 n.st, .int .i64 n.start, .int .i64 n.fin, .slice A n.edges.length c]] w fun e w' => e = .returned (.int .i64 1) ∧ Below w.heap.size w w' := by
  by_cases h1 : n.st < 1
  · go_enter Tryz.func120, Tryz.ntmps120
    go_wp2_with fail
    go_ret
    exact ⟨rfl, ((Below.refl _ _).alloc (by simp) _)⟩
  by_cases h2 : 500 < n.st
  · go_enter Tryz.func120, Tryz.ntmps120
    go_wp2_with fail
    go_ret
    exact ⟨rfl, ((Below.refl _ _).alloc (by simp) _)⟩
  have d1 : decide (n.st < 1) = false := by simpa using h1
  have d2 : decide (500 < n.st) = false := by simpa using h2
  cases h3 : isSt n.st n.start with
  | false =>
    go_enter Tryz.func120, Tryz.ntmps120
    go_wp2_with (go_at_call 135; refine (isState_any _ _ _ _ _ _).mono ?_; rintro e w' ⟨rfl, rfl⟩)
    go_ret
    exact ⟨rfl, ((Below.refl _ _).alloc (by simp) _).alloc (by simp) _⟩
  | true =>
    have h4 : isSt n.st n.fin = false := by
      rcases h with h | h | h | h
      · omega
      · omega
      · rw [h3] at h; cases h
      · exact h
    go_enter Tryz.func120, Tryz.ntmps120
    go_wp2_with (go_at_call 135; refine (isState_any _ _ _ _ _ _).mono ?_; rintro e w' ⟨rfl, rfl⟩)
    go_ret
    exact ⟨rfl, (((Below.refl _ _).alloc (by simp) _).alloc (by simp) _).alloc (by simp; omega) _⟩
set_option maxHeartbeats 800000 in
theorem may_tail (n : Net) (A : Option Addr) (c : Nat) (w : World) (hn : n.edges.length ≤ 1000000000) (h1 : 1 ≤ n.st) (h2 : n.st ≤ 500) (h3 : isSt n.st n.start = true) (h4 : isSt n.st n.fin = true)
   (hc : EdgesAt w w.heap.size A n.edges) :
    Calls Tryz.prog 120 #[.agg #[.int .i64 n.st, .int .i64 n.start, .int .i64 n.fin, .slice A n.edges.length c]] w fun e w' => e = .returned (.int .i64 (mayV n)) ∧ Below w.heap.size w w' := by
  have d1 : decide (n.st < 1) = false := by simpa using h1
  have d2 : decide (500 < n.st) = false := by simpa using h2
  have no : ∀ (k : Nat) (e : Edge), n.edges[k]? = some e → e.ok n.st = false → mayV n = 1 := by
    intro k e he hk
    refine mayV_no (Bool.eq_false_iff.2 fun hm => ?_)
    have := (may_iff.1 hm).2.2.2.2 e (List.mem_of_getElem? he)
    rw [hk] at this; cases this
  have yes : (∀ e ∈ n.edges, e.ok n.st = true) → mayV n = 0 := fun h => mayV_yes (may_iff.2 ⟨h1, h2, isSt_iff.1 h3, isSt_iff.1 h4, h⟩)
  have No := Lib.hid no
  have Yes := Lib.hid yes
  clear no yes
  go_enter Tryz.func120, Tryz.ntmps120
  go_wp2_with (go_at_call 135; refine (isState_any _ _ _ _ _ _).mono ?_; rintro e w' ⟨rfl, rfl⟩)
  go_loopw [30] (fun i wr => ∃ k : Nat, k ≤ n.edges.length ∧ i = .int .i64 k ∧ Below (w.heap.size + 1) (w.alloc (.cells #[.int .i64 n.st, .int .i64 n.start, .int .i64 n.fin, .slice A n.edges.length c] 143)) wr ∧ Hid (∀ e ∈ n.edges.take k, e.ok n.st = true)) (fun i _ => n.edges.length - (intOf i).toNat)
  case atStart =>
    exact ⟨0, Nat.zero_le _, rfl, ((Below.refl _ _).alloc (by simp) _).alloc (by simp) _, by intro e he; simp at he⟩
  case round =>
    obtain ⟨k, hk, rfl, hb, hall⟩ := hrel
    by_cases hlt : k < n.edges.length
    · obtain ⟨bb, o, e, rfl, hbb, he, c0, c1, c2, c3⟩ := edge_at hc (unbox hb) hlt
      obtain ⟨b0, b1, b2, b3, hsz⟩ := boxed4 hb
      cases h5 : isSt n.st e.frm with
      | false =>
        go_wp2_with (go_at_call 135; refine (isState_any _ _ _ _ _ _).mono ?_; rintro e w' ⟨rfl, rfl⟩)
        go_ret
        exact ⟨ret_int (No.out k e he.out (by simp [Edge.ok, h5])).symm, ((unbox hb).alloc (by omega) _).alloc (by simp; omega) _⟩
      | true =>
        cases h6 : isSt n.st e.to with
        | false =>
          go_wp2_with (go_at_call 135; refine (isState_any _ _ _ _ _ _).mono ?_; rintro e w' ⟨rfl, rfl⟩)
          go_ret
          exact ⟨ret_int (No.out k e he.out (by simp [Edge.ok, h6])).symm, (((unbox hb).alloc (by omega) _).alloc (by simp; omega) _).alloc (by simp; omega) _⟩
        | true =>
          go_wp2_with (go_at_call 135; refine (isState_any _ _ _ _ _ _).mono ?_; rintro e w' ⟨rfl, rfl⟩)
          go_roundw
          case rel =>
            refine ⟨k + 1, by omega, by go_num, ((hb.alloc (by omega) _).alloc (by simp; omega) _).alloc (by simp; omega) _, ?_⟩
            intro x hx
            rw [List.take_add_one, he.out] at hx
            simp only [Option.toList_some, List.mem_append, List.mem_singleton] at hx
            rcases hx with hx | rfl
            · exact hall.out x hx
            · simp [Edge.ok, h5, h6]
          case measure => simp [intOf]; omega
    · obtain rfl : k = n.edges.length := by omega
      go_wp2_with fail
      go_ret
      exact ⟨ret_int (Yes.out (by have := hall.out; rwa [List.take_length] at this)).symm, unbox hb⟩
theorem may_any (n : Net) (A : Option Addr) (c : Nat) (w : World) (hn : n.edges.length ≤ 1000000000) (hc : EdgesAt w w.heap.size A n.edges) :
    Calls Tryz.prog 120 #[.agg #[.int .i64 n.st, .int .i64 n.start, .int .i64 n.fin, .slice A n.edges.length c]] w fun e w' => e = .returned (.int .i64 (mayV n)) ∧ Below w.heap.size w w' := by
  by_cases h : n.st < 1 ∨ 500 < n.st ∨ isSt n.st n.start = false ∨ isSt n.st n.fin = false
  · have : mayV n = 1 := mayV_no (Bool.eq_false_iff.2 fun hm => by
      obtain ⟨h1, h2, h3, h4, _⟩ := may_iff.1 hm
      rcases h with h | h | h | h
      · omega
      · omega
      · rw [isSt_iff.2 h3] at h; cases h
      · rw [isSt_iff.2 h4] at h; cases h)
    rw [this]
    exact may_head n A c w h
  · simp only [not_or, Bool.not_eq_false] at h
    exact may_tail n A c w hn (by omega) (by omega) h.2.2.1 h.2.2.2 hc
end
section
open Go.RowKit
abbrev IntsAt (w : World) (B : Nat) (A : Option Addr) (l : List Int) : Prop := CellsAt w B A (l.map (Value.int .i64))
theorem int_at {w wr : World} {B : Nat} {A : Option Addr} {l : List Int} (h : IntsAt w B A l) (hb : Below B w wr) {k : Nat} (hk : k < l.length) :
    ∃ b o q, A = some ⟨b, o, none⟩ ∧ b < B ∧ Hid (l[k]? = some q) ∧ wr.cell? ⟨b, o + k, none⟩ = some (.int .i64 q) := by
  have he : (l.map (Value.int .i64))[k]? = some (.int .i64 l[k]) := by rw [List.getElem?_map, List.getElem?_eq_getElem hk]; rfl
  obtain ⟨b, o, rfl, hB, c0⟩ := (h.below hb).at_ he
  exact ⟨b, o, l[k], rfl, hB, List.getElem?_eq_getElem hk, c0⟩
set_option maxHeartbeats 400000 in
theorem none_any (f t l h : Int) (w : World) :
    Calls Tryz.prog 142 #[.agg #[.int .i64 f, .int .i64 t, .int .u8 l, .int .u8 h]] w fun e w' => e = .returned (.bool (Edge.none_ ⟨f, t, l, h⟩)) ∧ w.alloc (.cells #[.int .i64 f, .int .i64 t, .int .u8 l, .int .u8 h] 185) = w' := by
  go_enter Tryz.func142, Tryz.ntmps142
  go_wp2
  go_ret
  exact ⟨rfl, rfl⟩
def hasB (l : List Int) (q : Int) : Bool := l.contains q
theorem hasB_iff {l : List Int} {q : Int} : hasB l q = true ↔ q ∈ l := by simp [hasB]
theorem hasB_yes {l : List Int} {q : Int} (h : q ∈ l) : hasB l q = true := hasB_iff.2 h
theorem info3 : (Tryz.prog.info? 3).map (fun i => (i.zero, i.size, i.bytes)) = some (some (.int .i64 0), 1, 8) := by kernel_rfl
theorem info4 : (Tryz.prog.info? 4).map (fun i => (i.zero, i.size, i.bytes)) = some (some (.bool false), 1, 1) := by kernel_rfl
theorem info35 : (Tryz.prog.info? 185).map (fun i => (i.zero, i.size, i.bytes)) = some (some (.agg #[.int .i64 0, .int .i64 0, .int .u8 0, .int .u8 0]), 4, 24) := by kernel_rfl
/-- What a call has made of ints, and hands back. -/
def OwnInts (w w' : World) (xs : List Int) (v : Value) : Prop :=
  ∃ A c, v = .slice A xs.length c ∧ w'.ownsRow w.heap.size 3 1 (.slice A xs.length c) xs.length (xs.map (Value.int .i64))
theorem ownInts_of {w w' : World} {base : Nat} {xs : List Int} {v : Value} (h : w'.ownsRow base 3 1 v xs.length (xs.map (Value.int .i64))) (hb : w.heap.size ≤ base) : OwnInts w w' xs v := by
  obtain ⟨h1, h2⟩ := h
  rcases h2 with ⟨rfl, hn⟩ | ⟨g, cap, cur, rfl, hg, r⟩
  · refine ⟨none, 0, by rw [hn], h1, .inl ⟨by rw [hn], hn⟩⟩
  · exact ⟨some ⟨g, 0, none⟩, cap, rfl, h1, .inr ⟨g, cap, cur, rfl, by omega, r⟩⟩
end
section
open Go.RowKit
theorem below_drewN {B : Nat} {a w : World} (h : Below B a w) (n : Nat) : Below B a (w.drewN n) := ⟨h.os, h.tape, h.output, h.size, h.block⟩
abbrev BoolsAt (w : World) (B : Nat) (A : Option Addr) (l : List Bool) : Prop := CellsAt w B A (l.map Value.bool)
theorem bool_at {w wr : World} {B : Nat} {A : Option Addr} {l : List Bool} (h : BoolsAt w B A l) (hb : Below B w wr) {k : Nat} (hk : k < l.length) :
    ∃ b o q, A = some ⟨b, o, none⟩ ∧ b < B ∧ Hid (l[k]? = some q) ∧ wr.cell? ⟨b, o + k, none⟩ = some (.bool q) := by
  have he : (l.map Value.bool)[k]? = some (.bool l[k]) := by rw [List.getElem?_map, List.getElem?_eq_getElem hk]; rfl
  obtain ⟨b, o, rfl, hB, c0⟩ := (h.below hb).at_ he
  exact ⟨b, o, l[k], rfl, hB, List.getElem?_eq_getElem hk, c0⟩
def Marks (bs : List Bool) (S : Int → Prop) : Prop := ∀ k : Nat, k < bs.length → (bs[k]? = some true ↔ S k)
set_option maxHeartbeats 800000 in
theorem states_any (bs : List Bool) (S : Int → Prop) (A : Option Addr) (c : Nat) (w : World) (hn : bs.length ≤ 1000000000) (hm : Marks bs S) (hl : BoolsAt w w.heap.size A bs) :
    Calls Tryz.prog 140 #[.slice A bs.length c] w fun e w' => (∃ v, e = .returned v ∧ OwnInts w w' (rising bs.length S) v) ∧ Below w.heap.size w w' := by
  have HM := Lib.hid hm
  clear hm
  go_enter Tryz.func140, Tryz.ntmps140
  go_wp2
  go_loopw [3, 8] (fun out i wr => ∃ k : Nat, k ≤ bs.length ∧ i = .int .i64 k ∧ wr.ownsRow w.heap.size 3 1 out (rising k S).length ((rising k S).map (Value.int .i64)) ∧ Below w.heap.size w wr) (fun _ i _ => bs.length - (intOf i).toNat)
  case atStart => exact ⟨0, Nat.zero_le _, rfl, World.ownsRow_nil _ _ _ _, Below.refl _ _⟩
  case round =>
    obtain ⟨k, hk, rfl, hown, hb⟩ := hrel
    by_cases hlt : k < bs.length
    · obtain ⟨b, o, x, rfl, _, hx, hcell⟩ := bool_at hl hb hlt
      have hsz := hb.size
      have hlen := rising_length k S
      cases x with
      | true =>
        have hR := Lib.hid (rising_yes (P := S) ((HM.out k hlt).1 hx.out))
        go_wp2_with (at_builtin; refine wpList_append_new info3 Tryz.underlying168 rfl (by decide) (by decide) _ hown 1 rfl _ _ rfl rfl rfl (by simp) rfl rfl (by omega) (by omega) ?_; intro v' w' hown' hbel hgt _)
        go_roundw
        case rel =>
          refine ⟨k + 1, by omega, by go_num, ?_, hb.trans hbel⟩
          rw [show ((k + 1 : Nat) : Int) = (k : Int) + 1 from by omega, hR.out, List.map_append, List.length_append]
          exact hown'
        case measure => simp [intOf]; omega
      | false =>
        have hR := Lib.hid (rising_no (P := S) (fun h => by have := (HM.out k hlt).2 h; rw [hx.out] at this; cases this))
        go_wp2
        go_roundw
        case rel =>
          refine ⟨k + 1, by omega, by go_num, ?_, hb⟩
          rw [show ((k + 1 : Nat) : Int) = (k : Int) + 1 from by omega, hR.out]
          exact hown
        case measure => simp [intOf]; omega
    · obtain rfl : k = bs.length := by omega
      go_wp2
      go_ret
      exact ⟨⟨_, rfl, ownInts_of hown (Nat.le_refl _)⟩, hb⟩
theorem take_snoc {α : Type} {l : List α} {k : Nat} {x : α} (h : l[k]? = some x) : l.take (k + 1) = l.take k ++ [x] := by
  rw [List.take_add_one, h]; rfl
end
end Go.Proofs.YtghlodpbbghcoaaGreatDoor.Rx
