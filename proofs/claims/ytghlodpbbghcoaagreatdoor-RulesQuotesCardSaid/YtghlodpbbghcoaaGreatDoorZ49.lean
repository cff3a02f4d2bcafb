/- A text's lines; a policy read line by line; slices.Clone and slices.Equal by lists of texts. -/
import Derived.Test.YtghlodpbbghcoaaGreatDoorRA
import Derived.Test.YtghlodpbbghcoaaGreatDoorZ1
import Derived.Test.YtghlodpbbghcoaaGreatDoorZ30
import Derived.Test.YtghlodpbbghcoaaGreatDoorShelf
namespace Go.Proofs.YtghlodpbbghcoaaGreatDoor
open Go.RowKit
/-- The lines of a text, with their ends. -/
def linesL : List UInt8 → List (List UInt8)
  | [] => []
  | c :: l => if c = 10 then [c] :: linesL l else match linesL l with | [] => [[c]] | x :: r => (c :: x) :: r
/-- How many bytes the first line takes. -/
def lineN : List UInt8 → Nat
  | [] => 0
  | c :: l => if c = 10 then 1 else 1 + lineN l
theorem lineN_le : ∀ l : List UInt8, lineN l ≤ l.length
  | [] => Nat.le_refl _
  | c :: l => by
    unfold lineN
    have := lineN_le l
    split
    · simp
    · simp; omega
theorem lineN_pos : ∀ l : List UInt8, l ≠ [] → 0 < lineN l
  | [], h => absurd rfl h
  | c :: l, _ => by
    unfold lineN
    split <;> omega
theorem linesL_step : ∀ l : List UInt8, l ≠ [] → linesL l = l.take (lineN l) :: linesL (l.drop (lineN l))
  | [], h => absurd rfl h
  | c :: l, _ => by
    rw [linesL, lineN]
    by_cases hc : c = 10
    · rw [if_pos hc, if_pos hc]
      rfl
    · rw [if_neg hc, if_neg hc, Nat.add_comm, List.take_succ_cons, List.drop_succ_cons]
      cases l with
      | nil => rfl
      | cons d l =>
        rw [linesL_step (d :: l) (by simp)]
theorem linesL_length : ∀ l : List UInt8, (linesL l).length ≤ l.length
  | [] => Nat.le_refl _
  | c :: l => by
    have := linesL_length l
    rw [linesL]
    split
    · simp; omega
    · cases h : linesL l with
      | nil => simp
      | cons x r => rw [h] at this; simp at this ⊢; omega
/-- By the place of the first end of a line. -/
theorem lineN_index (l : List UInt8) : (lineN l : Int) = if Lib.indexByte l 10 + 1 = 0 then (l.length : Int) else Lib.indexByte l 10 + 1 := by
  induction l with
  | nil => rfl
  | cons c l ih =>
    have hge := Lib.indexByte_ge l 10
    rw [lineN, Lib.indexByte]
    by_cases hc : c = 10
    · subst hc
      rfl
    · have hb : (c == 10) = false := beq_eq_false_iff_ne.2 hc
      rw [if_neg hc, hb]
      simp only [Bool.false_eq_true, if_false, List.length_cons]
      by_cases h1 : Lib.indexByte l 10 = -1
      · rw [h1] at ih ⊢
        simp at ih ⊢
        omega
      · have hb2 : (Lib.indexByte l 10 == -1) = false := beq_eq_false_iff_ne.2 h1
        rw [hb2]
        simp only [Bool.false_eq_true, if_false]
        rw [if_neg (by omega)] at ih
        rw [if_neg (by omega)]
        omega
theorem suffix_nl (l : List UInt8) : Lib.hasSuffix l (⟨#[10]⟩ : ByteArray).data.toList = decide (l.getLast? = some 10) := by
  unfold Lib.hasSuffix
  rw [Bool.eq_iff_iff, List.isSuffixOf_iff_suffix, decide_eq_true_eq]
  constructor
  · rintro ⟨t, rfl⟩
    exact List.getLast?_concat ..
  · intro h
    obtain ⟨t, rfl⟩ := List.getLast?_eq_some_iff.1 h
    exact ⟨t, rfl⟩
theorem trim_nl {l : List UInt8} (h : l.getLast? = some 10) : Lib.trimSuffix l (⟨#[10]⟩ : ByteArray).data.toList = l.dropLast := by
  unfold Lib.trimSuffix
  rw [suffix_nl, decide_eq_true h, if_pos rfl]
  rw [List.dropLast_eq_take]
  rfl
/-- One line read. -/
def stepP (st : Rd) (line : List UInt8) : Option Rd :=
  if line.getLast? = some 10 then
    match itemsG line.dropLast with
    | some D => match lineP st (D.map fun p => tx p.1) (D.map Prod.snd) with
      | (st', true) => some st'
      | _ => none
    | none => none
  else none
def linesP : Rd → List (List UInt8) → Option Rd
  | st, [] => some st
  | st, l :: r => match stepP st l with | some st' => linesP st' r | none => none
theorem linesP_cons (st : Rd) (l : List UInt8) (r : List (List UInt8)) {st' : Rd} (h : linesP st (l :: r) = some st') : ∃ s1, stepP st l = some s1 ∧ linesP s1 r = some st' := by
  rw [linesP] at h
  cases hs : stepP st l with
  | none => rw [hs] at h; cases h
  | some s1 => rw [hs] at h; exact ⟨s1, rfl, h⟩
theorem getD_eq (l : List ByteArray) (j : Nat) (hj : j < l.length) : l.getD j ByteArray.empty = l[j] := by simp [List.getD, hj]
/-- slices.Clone: the same texts in a row of the call's own. -/
def ClonePost (l : List ByteArray) (w : World) (e : Ending) (w' : World) : Prop := ∃ v, e = .returned v ∧ OwnS w' w.heap.size v l ∧ Below w.heap.size w w'
theorem OwnS.zero {w : World} {base : Nat} {v : Value} (h : w.ownsRow base 9 1 v 0 []) : OwnS w base v [] := h
theorem clone_any (v : Value) (l : List ByteArray) (P : Nat → Prop) (w : World) (h : StrsAt w P v l) (hl : l.length ≤ 2000000) : Calls Tryz.prog 78 #[v] w (ClonePost l w) := by
  obtain ⟨A, n, cap, rfl, hn, hc, hat⟩ := h.form
  rcases Nat.eq_zero_or_pos n with h0 | h0
  · subst h0
    have : l = [] := List.eq_nil_of_length_eq_zero hn.symm
    subst this
    cases A with
    | none => exact (Tryz.slices_Clone_string_nil 0 cap w).mono (by rintro e w' ⟨rfl, rfl⟩; exact ⟨_, rfl, OwnS.nil _ _, Below.refl _ _⟩)
    | some a => exact (Tryz.slices_Clone_string_zero a cap w).mono (by rintro e w' ⟨v', rfl, ho, _, hB⟩; exact ⟨_, rfl, ho, hB⟩)
  · obtain ⟨b, o, rfl, _, hcell⟩ := hat h0
    refine (Tryz.slices_Clone_string b o n cap l w (by omega) (by omega) (fun j hj => by rw [getD_eq l j hj]; exact hcell j hj)).mono ?_
    rintro e w' ⟨v', rfl, ho, _, hB⟩
    refine ⟨v', rfl, ?_, hB⟩
    subst hn
    rw [List.take_of_length_le (Nat.le_refl _)] at ho
    exact ho
end Go.Proofs.YtghlodpbbghcoaaGreatDoor
