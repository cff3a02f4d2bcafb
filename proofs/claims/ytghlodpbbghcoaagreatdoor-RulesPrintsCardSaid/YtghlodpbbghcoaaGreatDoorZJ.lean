/- A text's lines; a policy read line by line; slices.Clone and slices.Equal by lists of texts. -/
import Derived.Test.YtghlodpbbghcoaaGreatDoorRA
import Derived.Test.YtghlodpbbghcoaaGreatDoorZB
import Derived.Test.YtghlodpbbghcoaaGreatDoorZE
import Derived.Test.YtghlodpbbghcoaaGreatDoorShelf
import Derived.RangeFuncOwn
import Derived.RangeFuncNested
import Derived.RangeFuncBound
import Derived.RangeFuncCalls
import Derived.RangeFuncLeaves
import Derived.RangeFuncKeeps
import Derived.Shelf.Abstract
import Derived.Shelf.RegionOpen
import Derived.OwnWalkIn
import Derived.TacticsInMore
import Derived.LoopNIn
import Derived.LoopIn
namespace Go.Proofs.YtghlodpbbghcoaaGreatDoor
open Go.RowKit
/-- The lines of a text, with their ends. -/
def linesL : List UInt8 → List (List UInt8)
  | [] => []
  | c :: l => if c = 10 then [c] :: linesL l else match linesL l with | [] => [[c]] | x :: r => (c :: x) :: r
/-- How many bytes the first line takes. -/
def lineN : List UInt8 → Nat
  | [] => 0
  | c :: l => if c = 10 then 1 else 1 + lineN l
theorem lineN_le : ∀ l : List UInt8, lineN l ≤ l.length
  | [] => Nat.le_refl _
  | c :: l => by
    unfold lineN
    have := lineN_le l
    split
    · simp
    · simp; omega
theorem lineN_pos : ∀ l : List UInt8, l ≠ [] → 0 < lineN l
  | [], h => absurd rfl h
  | c :: l, _ => by
    unfold lineN
    split <;> omega
theorem linesL_step : ∀ l : List UInt8, l ≠ [] → linesL l = l.take (lineN l) :: linesL (l.drop (lineN l))
  | [], h => absurd rfl h
  | c :: l, _ => by
    rw [linesL, lineN]
    by_cases hc : c = 10
    · rw [if_pos hc, if_pos hc]
      rfl
    · rw [if_neg hc, if_neg hc, Nat.add_comm, List.take_succ_cons, List.drop_succ_cons]
      cases l with
      | nil => rfl
      | cons d l =>
        rw [linesL_step (d :: l) (by simp)]
theorem linesL_length : ∀ l : List UInt8, (linesL l).length ≤ l.length
  | [] => Nat.le_refl _
  | c :: l => by
    have := linesL_length l
    rw [linesL]
    split
    · simp; omega
    · cases h : linesL l with
      | nil => simp
      | cons x r => rw [h] at this; simp at this ⊢; omega
/-- By the place of the first end of a line. -/
theorem lineN_index (l : List UInt8) : (lineN l : Int) = if Lib.indexByte l 10 + 1 = 0 then (l.length : Int) else Lib.indexByte l 10 + 1 := by
  induction l with
  | nil => rfl
  | cons c l ih =>
    have hge := Lib.indexByte_ge l 10
    rw [lineN, Lib.indexByte]
    by_cases hc : c = 10
    · subst hc
      rfl
    · have hb : (c == 10) = false := beq_eq_false_iff_ne.2 hc
      rw [if_neg hc, hb]
      simp only [Bool.false_eq_true, if_false, List.length_cons]
      by_cases h1 : Lib.indexByte l 10 = -1
      · rw [h1] at ih ⊢
        simp at ih ⊢
        omega
      · have hb2 : (Lib.indexByte l 10 == -1) = false := beq_eq_false_iff_ne.2 h1
        rw [hb2]
        simp only [Bool.false_eq_true, if_false]
        rw [if_neg (by omega)] at ih
        rw [if_neg (by omega)]
        omega
theorem suffix_nl (l : List UInt8) : Lib.hasSuffix l (⟨#[10]⟩ : ByteArray).data.toList = decide (l.getLast? = some 10) := by
  unfold Lib.hasSuffix
  rw [Bool.eq_iff_iff, List.isSuffixOf_iff_suffix, decide_eq_true_eq]
  constructor
  · rintro ⟨t, rfl⟩
    exact List.getLast?_concat ..
  · intro h
    obtain ⟨t, rfl⟩ := List.getLast?_eq_some_iff.1 h
    exact ⟨t, rfl⟩
theorem trim_nl {l : List UInt8} (h : l.getLast? = some 10) : Lib.trimSuffix l (⟨#[10]⟩ : ByteArray).data.toList = l.dropLast := by
  unfold Lib.trimSuffix
  rw [suffix_nl, decide_eq_true h, if_pos rfl]
  rw [List.dropLast_eq_take]
  rfl
/-- One line read. -/
def stepP (st : Rd) (line : List UInt8) : Option Rd :=
  if line.getLast? = some 10 then
    match itemsG line.dropLast with
    | some D => match lineP st (D.map fun p => tx p.1) (D.map Prod.snd) with
      | (st', true) => some st'
      | _ => none
    | none => none
  else none
def linesP : Rd → List (List UInt8) → Option Rd
  | st, [] => some st
  | st, l :: r => match stepP st l with | some st' => linesP st' r | none => none
theorem linesP_cons (st : Rd) (l : List UInt8) (r : List (List UInt8)) {st' : Rd} (h : linesP st (l :: r) = some st') : ∃ s1, stepP st l = some s1 ∧ linesP s1 r = some st' := by
  rw [linesP] at h
  cases hs : stepP st l with
  | none => rw [hs] at h; cases h
  | some s1 => rw [hs] at h; exact ⟨s1, rfl, h⟩
theorem getD_eq (l : List ByteArray) (j : Nat) (hj : j < l.length) : l.getD j ByteArray.empty = l[j] := by simp [List.getD, hj]
/-- slices.Clone: the same texts in a row of the call's own. -/
def ClonePost (l : List ByteArray) (w : World) (e : Ending) (w' : World) : Prop := ∃ v, e = .returned v ∧ OwnS w' w.heap.size v l ∧ Below w.heap.size w w'
theorem OwnS.zero {w : World} {base : Nat} {v : Value} (h : w.ownsRow base 9 1 v 0 []) : OwnS w base v [] := h
theorem clone_any (v : Value) (l : List ByteArray) (P : Nat → Prop) (w : World) (h : StrsAt w P v l) (hl : l.length ≤ 2000000) : Calls Tryz.prog 78 #[v] w (ClonePost l w) := by
  obtain ⟨A, n, cap, rfl, hn, hc, hat⟩ := h.form
  rcases Nat.eq_zero_or_pos n with h0 | h0
  · subst h0
    have : l = [] := List.eq_nil_of_length_eq_zero hn.symm
    subst this
    cases A with
    | none => exact (Tryz.slices_Clone_string_nil 0 cap w).mono (by rintro e w' ⟨rfl, rfl⟩; exact ⟨_, rfl, OwnS.nil _ _, Below.refl _ _⟩)
    | some a => exact (Tryz.slices_Clone_string_zero a cap w).mono (by rintro e w' ⟨v', rfl, ho, _, hB⟩; exact ⟨_, rfl, ho, hB⟩)
  · obtain ⟨b, o, rfl, _, hcell⟩ := hat h0
    refine (Tryz.slices_Clone_string b o n cap l w (by omega) (by omega) (fun j hj => by rw [getD_eq l j hj]; exact hcell j hj)).mono ?_
    rintro e w' ⟨v', rfl, ho, _, hB⟩
    refine ⟨v', rfl, ?_, hB⟩
    subst hn
    rw [List.take_of_length_le (Nat.le_refl _)] at ho
    exact ho
end Go.Proofs.YtghlodpbbghcoaaGreatDoor

/- What the reading of a line may turn: blocks of three types, from the reader's box on. No program in sight. -/
namespace Go.Proofs.YtghlodpbbghcoaaGreatDoor
open Go.RowKit
/-- A block of the reader: its box, rows of elements, rows of rules. -/
def rdType : Obj → Prop
  | .cells _ t _ => t = 78 ∨ t = 30 ∨ t = 34
  | _ => False
/-- Only blocks of the reader, from its box on, have been turned. -/
structure KeepR (X : Nat) (w w' : World) : Prop where
  os : w'.os = w.os
  tape : w'.tape = w.tape
  output : w'.output = w.output
  size : w.heap.size ≤ w'.heap.size
  block : ∀ (k : Nat) (o : Obj), w.heap[k]? = some o → (k < X ∨ ¬ rdType o) → w'.heap[k]? = some o
namespace KeepR
variable {X : Nat} {a b c : World}
theorem refl (X : Nat) (w : World) : KeepR X w w := ⟨rfl, rfl, rfl, Nat.le_refl _, fun _ _ h _ => h⟩
theorem trans (h : KeepR X a b) (k : KeepR X b c) : KeepR X a c :=
  ⟨k.os.trans h.os, k.tape.trans h.tape, k.output.trans h.output, Nat.le_trans h.size k.size, fun i o hi ho => k.block i o (h.block i o hi ho) ho⟩
theorem of_below (h : Below a.heap.size a b) : KeepR X a b := ⟨h.os, h.tape, h.output, h.size, fun k _ hk _ => (h.block k (Array.getElem?_eq_some_iff.1 hk).1).trans hk⟩
theorem of_grown {row : Option Nat} (hg : a.grownBy b row) (hr : ∀ r, row = some r → X ≤ r ∧ ∃ o, a.heap[r]? = some o ∧ rdType o) : KeepR X a b :=
  ⟨hg.os, hg.tape, hg.output, hg.size, fun k o hk ho => (hg.block k (Array.getElem?_eq_some_iff.1 hk).1 (fun e => by
    obtain ⟨h1, o', h2, h3⟩ := hr k e.symm
    rw [hk] at h2
    cases h2
    rcases ho with ho | ho
    · omega
    · exact ho h3)).trans hk⟩
theorem set {p : Addr} (hX : X ≤ p.block) (hr : ∃ o, a.heap[p.block]? = some o ∧ rdType o) (u : Value) : KeepR X a (a.setCell p u) :=
  ⟨rfl, rfl, rfl, by simp [World.setCell], fun k o hk ho => (Below.heap_setCell a p u k (fun e => by
    subst e
    obtain ⟨o', h2, h3⟩ := hr
    rw [hk] at h2
    cases h2
    rcases ho with ho | ho
    · omega
    · exact ho h3)).trans hk⟩
theorem below (h : KeepR X a b) (hX : X ≤ a.heap.size) : Below X a b := ⟨h.os, h.tape, h.output, h.size, fun k hk => by
  have hl : k < a.heap.size := by omega
  rw [Array.getElem?_eq_getElem hl]
  exact h.block k _ (Array.getElem?_eq_getElem hl) (.inl hk)⟩
theorem others (h : KeepR X a b) : KeepsOthers a b := ⟨h.size, fun k o hk ho => h.block k o hk (.inr (fun hr => by
  cases o with
  | cells cs t f => cases ho
  | _ => exact hr))⟩
theorem stay (h : KeepR X a b) {k : Nat} {cs : Array Value} {t : TypeId} {f : Nat × Nat} (hk : a.heap[k]? = some (.cells cs t f)) (ht : t ≠ 78 ∧ t ≠ 30 ∧ t ≠ 34) : b.heap[k]? = some (.cells cs t f) :=
  h.block k _ hk (.inr (fun hr => by
    rcases hr with e | e | e
    · exact ht.1 e
    · exact ht.2.1 e
    · exact ht.2.2 e))
end KeepR
theorem own_rd {w : World} {base : Nat} {e : TypeId} {size : Nat} {v : Value} {n : Nat} {xs : List Value} (h : w.ownsRow base e size v n xs) (he : e = 30 ∨ e = 34) {k : Nat} (hk : v.ownBlock = some k) : ∃ o, w.heap[k]? = some o ∧ rdType o := by
  rcases h.2 with ⟨rfl, _⟩ | ⟨g, cap, cur, rfl, _, hb, _⟩
  · simp [Value.ownBlock] at hk
  · have : g = k := by simpa [Value.ownBlock] using hk
    subst this
    exact ⟨_, hb, .inr he⟩
end Go.Proofs.YtghlodpbbghcoaaGreatDoor

/- The lines of a text: the iterator, walked. -/
namespace Go.Proofs.YtghlodpbbghcoaaGreatDoor
open Go.Lib Go.RowKit Go.Shelf
set_option maxHeartbeats 800000 in
theorem lines_any (s : ByteArray) (w : World) :
    Calls Tryz.prog 46 #[.string s] w fun e w' => e = .returned (.func (.func 75) #[] #[.pointer (some ⟨w.heap.size, 0, none⟩)]) ∧ w' = w.alloc (.cells #[.string s] 9) := by
  go_enter Tryz.func46, Tryz.ntmps46
  go_wp2
  go_ret
  exact ⟨rfl, rfl⟩
/-- A line as it comes: how many bytes stand ahead of it, and it. -/
structure LineX (m : Nat) where
  pos : Nat
  line : ByteArray
  le : line.size ≤ m
def lineEnc {m : Nat} (x : LineX m) : Array Value := #[.int .i64 x.pos, .string x.line]
theorem extract_take (s : ByteArray) (k n : Nat) (_ : k + n ≤ s.size) : (s.extract k (k + n)).data.toList = (s.data.toList.drop k).take n := by
  rw [ByteArray.data_extract, Array.toList_extract, List.extract_eq_take_drop]
  congr 1
  omega
/-- The box of the text stays. -/
def StayAt (k : Nat) (w w' : World) : Prop := w'.heap[k]? = w.heap[k]?

set_option maxRecDepth 8192 in
set_option maxHeartbeats 3200000 in
/-- THE ITERATOR'S CONTRACT. -/
theorem lines_stops (s : ByteArray) (hs : s.size ≤ 2000000) (Bx : Nat) (w : World) (hc : w.heap[Bx]? = some (.cells #[.string s] 9)) :
    SeqStopsK Fence.wide 3 Tryz.prog 75 #[.pointer (some ⟨Bx, 0, none⟩)] (lineEnc (m := s.size)) (StayAt Bx) (fun xs => xs.map (fun x => x.line.data.toList) = linesL s.data.toList) (fun xs => xs.map (fun x => x.line.data.toList) <+: linesL s.data.toList) s.size w := fun l J Jx W hW hJ hJx hY h0 => by
  have hBx : Bx < w.heap.size := blk_lt hc
  have hcW : W.heap[Bx]? = some (.cells #[.string s] 9) := (hW.block Bx hBx).trans hc
  have hz : Hid (s.data.toList.length = s.size) := Lib.hid (by simp)
  refine callsIn_of_wp Tryz.func75 rfl trivial ?_ rfl
  simp only [Tryz.ntmps75, List.size_toArray, List.length_cons, List.length_nil, Nat.reduceAdd, Nat.reduceSub, Array.replicate_succ, Array.replicate_zero, List.push_toArray, List.append_toArray, List.nil_append, List.cons_append]
  gi_wp2
  gi_loopw [3] (fun x3 wr => ∃ (k : Nat) (xs : List (LineX s.size)), k ≤ s.size ∧ x3 = .int .i64 k ∧ Hid (linesL s.data.toList = xs.map (fun x => x.line.data.toList) ++ linesL (s.data.toList.drop k)) ∧ Hid (J xs wr) ∧ Hid (xs.length ≤ k) ∧ Hid (wr.heap[Bx]? = some (.cells #[.string s] 9))) (fun x3 _ => s.size - (Lib.intOf x3).toNat)
  case atStart => exact ⟨0, [], Nat.zero_le _, rfl, Lib.hid rfl, Lib.hid h0, Lib.hid (Nat.le_refl _), Lib.hid hcW⟩
  case round =>
    obtain ⟨k, xs, hk, rfl, hxs, hJw, hlen, hbox⟩ := hrel
    have d0 : wr.cell? ⟨Bx, 0, none⟩ = some (.string s) := blk_cell hbox.out 0
    by_cases hlt : k < s.size
    · have hne : s.data.toList.drop k ≠ [] := fun e => by
        have := congrArg List.length e
        rw [List.length_drop, hz.out] at this
        simp at this
        omega
      have hstep := linesL_step _ hne
      have hn0 := lineN_pos _ hne
      have hn1 := lineN_le (s.data.toList.drop k)
      have hni := lineN_index (s.data.toList.drop k)
      have hge := Lib.indexByte_ge (s.data.toList.drop k) 10
      rw [List.length_drop, hz.out] at hn1 hni
      obtain ⟨m, hm⟩ : ∃ m, lineN (s.data.toList.drop k) = m := ⟨_, rfl⟩
      obtain ⟨i, hi⟩ : ∃ i, Lib.indexByte (s.data.toList.drop k) 10 = i := ⟨_, rfl⟩
      rw [hm] at hstep hn0 hn1 hni
      rw [hi] at hge hni
      have hidx : ∀ wx, Calls Tryz.prog 76 #[.string (s.extract k s.size), .int .u8 10] wx fun e w' => e = .returned (.int .i64 i) ∧ w' = wx := fun wx => by
        have h := Tryz.strings_IndexByte (s.extract k s.size) 10 wx
        have e : (s.extract k s.size).data.toList = s.data.toList.drop k := by
          have := extract_take s k (s.size - k) (by omega)
          rw [show k + (s.size - k) = s.size by omega] at this
          rw [this, List.take_of_length_le (by rw [List.length_drop, hz.out]; omega)]
        rw [e] at h
        rw [show ((10 : Int).toNat.toUInt8) = (10 : UInt8) from rfl, hi] at h
        exact h
      obtain ⟨km, hkm⟩ : ∃ km, k + m = km := ⟨_, rfl⟩
      have hline : Hid ((s.extract k (km)).data.toList = (s.data.toList.drop k).take m) := Lib.hid (by rw [← hkm]; exact extract_take s k m (by omega))
      have hdrop : Hid ((s.data.toList.drop k).drop m = s.data.toList.drop (km)) := Lib.hid (by rw [← hkm]; exact List.drop_drop ..)
      have hle : Hid ((s.extract k km).size ≤ s.size) := Lib.hid (by rw [ByteArray.size_extract]; omega)
      obtain ⟨fn, tmps, assign, body, hy, hR⟩ := hY xs (⟨k, s.extract k km, hle.out⟩ : LineX s.size) wr hJw.out (by have := hlen.out; omega)
      have hR2 := RoundIn.mono hR (R' := fun e W' => (e = .returned (.bool true) ∧ J (xs ++ [(⟨k, s.extract k km, hle.out⟩ : LineX s.size)]) W' ∧ W'.heap[Bx]? = some (.cells #[.string s] 9)) ∨ (e = .returned (.bool false) ∧ Jx (xs ++ [(⟨k, s.extract k km, hle.out⟩ : LineX s.size)]) W')) (fun e W' h => h.elim (fun ⟨he, hj, hb⟩ => .inl ⟨he, hj, Eq.trans hb hbox.out⟩) .inr)
      clear hR
      have hxe : lineEnc (⟨k, s.extract k km, hle.out⟩ : LineX s.size) = #[.int .i64 k, .string (s.extract k (km))] := rfl
      rw [hxe] at hy
      clear hxe hne hm hi
      replace hstep := Lib.hid hstep
      have hk0 : (0 : Int) ≤ (k : Int) := by omega
      have hk1 : (k : Int) < (s.size : Int) := by omega
      have hk2 : (k : Int) ≤ (s.size : Int) := by omega
      have hmk : (k : Int) + (m : Int) = (km : Int) := by omega
      have hkm2 : km ≤ s.size := by omega
      have hkm3 : k < km := by omega
      replace hkm := Lib.hid hkm
      have hnew : Hid (linesL s.data.toList = (xs ++ [(⟨k, s.extract k km, hle.out⟩ : LineX s.size)]).map (fun x => x.line.data.toList) ++ linesL (s.data.toList.drop (km))) := Lib.hid (by
        rw [hxs.out, hstep.out, hdrop.out, List.map_append, List.map_singleton, hline.out]
        simp)
      have hpre : Hid ((xs ++ [(⟨k, s.extract k km, hle.out⟩ : LineX s.size)]).map (fun x => x.line.data.toList) <+: linesL s.data.toList) := Lib.hid ⟨_, hnew.out.symm⟩
      have hlen2 : Hid ((xs ++ [(⟨k, s.extract k km, hle.out⟩ : LineX s.size)]).length ≤ km) := Lib.hid (by have := hlen.out; have := hkm.out; simp; omega)
      clear hstep hline hdrop
      by_cases hi1 : i = -1
      · subst hi1
        have hms : (s.size : Int) - (k : Int) = (m : Int) := by simp at hni; omega
        clear hni hge
        gi_wp2_with (first
          | (refine ⟨trivial, ?_⟩; gi_at_call 76; refine (callsIn_wide.2 (hidx _)).mono ?_; rintro e5 w5 ⟨rfl, e6⟩; obtain rfl := e6.symm)
          | ((try refine ⟨fun h => (by cases h), ?_⟩); refine hR2.mono ?_; clear hR2; rintro e W3 (⟨rfl, hJ3, hB3⟩ | ⟨rfl, hx3⟩)))
        · exact ⟨⟨km, xs ++ [(⟨k, s.extract k km, hle.out⟩ : LineX s.size)], by omega, by simp, hnew, Lib.hid hJ3, hlen2, Lib.hid hB3⟩, by simp [Lib.intOf]; omega⟩
        · exact ⟨rfl, _, results_none rfl _ _ _, ⟨_, rfl⟩, .inr ⟨_, hpre.out, hx3⟩⟩
      · obtain rfl : i = (m : Int) - 1 := by rw [if_neg (by omega)] at hni; omega
        have hm0 : ((m : Int) == 0) = false := beq_eq_false_iff_ne.2 (by omega)
        have hkm0 : (0 : Int) ≤ (km : Int) := by omega
        have hkm1 : (km : Int) ≤ (s.size : Int) := by omega
        clear hni hge hi1
        gi_wp2_with (first
          | (refine ⟨trivial, ?_⟩; gi_at_call 76; refine (callsIn_wide.2 (hidx _)).mono ?_; rintro e5 w5 ⟨rfl, e6⟩; obtain rfl := e6.symm)
          | ((try refine ⟨fun h => (by cases h), ?_⟩); refine hR2.mono ?_; clear hR2; rintro e W3 (⟨rfl, hJ3, hB3⟩ | ⟨rfl, hx3⟩)))
        · exact ⟨⟨km, xs ++ [(⟨k, s.extract k km, hle.out⟩ : LineX s.size)], by omega, by simp, hnew, Lib.hid hJ3, hlen2, Lib.hid hB3⟩, by simp [Lib.intOf]; omega⟩
        · exact ⟨rfl, _, results_none rfl _ _ _, ⟨_, rfl⟩, .inr ⟨_, hpre.out, hx3⟩⟩
    · have e : s.data.toList.drop k = [] := List.drop_eq_nil_of_le (by rw [hz.out]; omega)
      gi_wp2
      go_end0
      refine ⟨⟨_, rfl⟩, .inl ⟨xs, ?_, hJw.out⟩⟩
      rw [hxs.out, e]
      simp [linesL]
end Go.Proofs.YtghlodpbbghcoaaGreatDoor

/- Whether a flag stands in a list: walked. -/
namespace Go.Proofs.YtghlodpbbghcoaaGreatDoor
open Go.RowKit
/-- A slice of flags, read. -/
def FlagsAt (w : World) (A : Option Addr) (l : List Bool) : Prop := 0 < l.length → ∃ b o, A = some ⟨b, o, none⟩ ∧ b < w.heap.size ∧ ∀ j (hj : j < l.length), w.cell? ⟨b, o + j, none⟩ = some (.bool l[j])
theorem FlagsAt.below {w w' : World} {A : Option Addr} {l : List Bool} (h : FlagsAt w A l) (hb : Below w.heap.size w w') : FlagsAt w' A l := fun hp => by
  obtain ⟨b, o, e, hw, hc⟩ := h hp
  exact ⟨b, o, e, Nat.lt_of_lt_of_le hw hb.size, fun j hj => (hb.cell (p := ⟨b, o + j, none⟩) hw).trans (hc j hj)⟩
def IdxPost (l : List Bool) (x : Bool) (w : World) (e : Ending) (w' : World) : Prop := (∃ i : Int, e = .returned (.int .i64 i) ∧ decide (0 ≤ i) = l.any (· == x)) ∧ w' = w

set_option maxRecDepth 8192 in
set_option maxHeartbeats 1600000 in
theorem indexFlag_any (A : Option Addr) (cap : Nat) (l : List Bool) (x : Bool) (w : World) (h : FlagsAt w A l) (_ : l.length ≤ cap) (hl : l.length ≤ 140737488355328) : Calls Tryz.prog 102 #[.slice A l.length cap, .bool x] w (IdxPost l x w) := by
  obtain ⟨n, hn⟩ : ∃ n, l.length = n := ⟨_, rfl⟩
  have h' := Lib.hid h
  rw [hn] at hl ⊢
  replace hn := Lib.hid hn
  clear h
  obtain ⟨r, hr⟩ : ∃ r, l.any (· == x) = r := ⟨_, rfl⟩
  have hr' : Hid (l.any (· == x) = r) := Lib.hid hr
  have hpost : Hid (∀ i : Int, decide (0 ≤ i) = r → IdxPost l x w (.returned (.int .i64 i)) w) := Lib.hid (fun i e => ⟨⟨i, rfl, by rw [hr'.out]; exact e⟩, rfl⟩)
  clear hr
  go_enter Tryz.func102, Tryz.ntmps102
  go_wp2
  go_loop [8] (fun y => ∃ k : Nat, k ≤ n ∧ y = .int .i64 k ∧ Hid (∀ j (hj : j < l.length), j < k → l[j] ≠ x)) (fun y => n - (intOf y).toNat)
  case atStart => exact ⟨0, Nat.zero_le _, rfl, Lib.hid (fun j _ h => absurd h (Nat.not_lt_zero _))⟩
  case round =>
    obtain ⟨k, hk, rfl, hno⟩ := hrel
    by_cases hlt : k < n
    · have hkl : k < l.length := by rw [hn.out]; exact hlt
      obtain ⟨b, o, rfl, _, hcc⟩ := h'.out (by omega)
      have c0 := hcc k hkl
      obtain ⟨y, hy⟩ : ∃ y, l[k] = y := ⟨_, rfl⟩
      rw [hy] at c0
      have hyes : Hid (x = y → r = true) := Lib.hid (fun e => by
        rw [← hr'.out, List.any_eq_true]
        exact ⟨l[k], List.getElem_mem hkl, by rw [hy, e]; simp⟩)
      have hnext : Hid (x ≠ y → ∀ j (hj : j < l.length), j < k + 1 → l[j] ≠ x) := Lib.hid (fun e j hj hjk => by
        by_cases e2 : j = k
        · subst e2; rw [hy]; exact Ne.symm e
        · exact hno.out j hj (by omega))
      have hi0 : (0 : Int) ≤ (k : Int) := by omega
      have hi1 : (k : Int) < (n : Int) := by omega
      clear hcc hy
      by_cases hxy : x = y
      · have e := hyes.out hxy
        subst hxy e
        clear hyes hnext
        go_wp2
        go_ret
        exact hpost.out _ (decide_eq_true hi0)
      · have g := Lib.hid (hnext.out hxy)
        have exy : (x == y) = false := by simpa using hxy
        clear hyes hnext hxy
        go_wp2
        exact ⟨⟨k + 1, by omega, by simp, g⟩, by simp [intOf]; omega⟩
    · have e : r = false := by
        rw [← hr'.out, List.any_eq_false]
        intro y hy
        obtain ⟨j, hj, rfl⟩ := List.getElem_of_mem hy
        have := hno.out j hj (by have := hn.out; omega)
        simpa using this
      subst e
      go_wp2
      go_ret
      exact hpost.out (-1) rfl
def FlagPost (b : Bool) (w : World) (e : Ending) (w' : World) : Prop := e = .returned (.bool b) ∧ w' = w
theorem hasFlag_any (A : Option Addr) (cap : Nat) (l : List Bool) (x : Bool) (w : World) (h : FlagsAt w A l) (hc : l.length ≤ cap) (hl : l.length ≤ 140737488355328) : Calls Tryz.prog 79 #[.slice A l.length cap, .bool x] w (FlagPost (l.any (· == x)) w) := by
  have hi := indexFlag_any A cap l x w h hc hl
  obtain ⟨n, hn⟩ : ∃ n, l.length = n := ⟨_, rfl⟩
  rw [hn] at hi ⊢
  clear hn h hc hl
  go_enter Tryz.func79, Tryz.ntmps79
  go_wp2_with (go_at_call 102; refine hi.mono ?_; rintro e w1 ⟨⟨i, rfl, hi2⟩, rfl⟩; replace hi2 := Lib.hid hi2)
  go_ret
  exact ⟨by rw [← hi2.out]; rfl, rfl⟩
end Go.Proofs.YtghlodpbbghcoaaGreatDoor
