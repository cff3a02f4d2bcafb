/- Walks over nets, third part: lists held side by side; marks as a rising list; the reference's Step. -/
import Derived.Test.YtaefhfldgemcnaaW2
import Derived.Deep.QuietTactic
import Derived.BigQuiet
namespace Go.Proofs.Ytaefhfldgemcnaa
open Go.RowKit

theorem below_drewN {B : Nat} {a w : World} (h : Below B a w) (n : Nat) : Below B a (w.drewN n) := ⟨h.os, h.tape, h.output, h.size, h.block⟩
def sameB (xs ys : List Int) : Bool := decide (xs = ys)
theorem sameB_yes {xs ys : List Int} (h : xs = ys) : sameB xs ys = true := decide_eq_true h
theorem sameB_no {xs ys : List Int} (h : xs ≠ ys) : sameB xs ys = false := decide_eq_false h

set_option maxHeartbeats 800000 in
theorem same_any (xs ys : List Int) (A A' : Option Addr) (c c' : Nat) (w : World) (hn : xs.length ≤ 1000000000) (hn' : ys.length ≤ 1000000000) (hx : IntsAt w w.heap.size A xs) (hy : IntsAt w w.heap.size A' ys) :
    Calls Try.prog 23 #[.slice A xs.length c, .slice A' ys.length c'] w fun e w' => e = .returned (.bool (sameB xs ys)) ∧ Below w.heap.size w w' := by
  by_cases hlen : xs.length = ys.length
  · have hlb : (xs.length != ys.length) = false := by simp [hlen]
    have hlc : ((xs.length : Int) != ys.length) = false := by simp [hlen]
    go_enter Try.func23, Try.ntmps23
    go_wp2
    go_loopw [5] (fun i wr => ∃ k : Nat, k ≤ xs.length ∧ i = .int .i64 k ∧ Hid (xs.take k = ys.take k) ∧ Below w.heap.size w wr) (fun i _ => xs.length - (intOf i).toNat)
    case atStart => exact ⟨0, Nat.zero_le _, rfl, by simp [Hid], Below.refl _ _⟩
    case round =>
      obtain ⟨k, hk, rfl, heq, hb⟩ := hrel
      by_cases hlt : k < xs.length
      · have hlt' : k < ys.length := by omega
        obtain ⟨b1, o1, x, rfl, _, hxk, hcx⟩ := int_at hx hb hlt
        obtain ⟨b2, o2, y, rfl, _, hyk, hcy⟩ := int_at hy hb hlt'
        by_cases hq : x = y
        · subst hq
          go_wp2
          go_quiet (fail)
          go_wp2
          go_roundw
          case rel =>
            refine ⟨k + 1, by omega, by go_num, ?_, below_drewN hb _⟩
            have e1 := hxk.out
            have e2 := hyk.out
            have e3 := heq.out
            show xs.take (k + 1) = ys.take (k + 1)
            rw [List.take_add_one, List.take_add_one, e1, e2, e3]
          case measure => simp [intOf]; omega
        · have hqb : (x != y) = true := by simpa using hq
          go_wp2
          go_quiet (fail)
          go_wp2
          go_ret
          refine ⟨ret_bool (sameB_no ?_).symm, below_drewN hb _⟩
          rintro rfl
          have e1 := hxk.out
          have e2 := hyk.out
          rw [e1] at e2
          injection e2 with e2
          exact hq e2
      · obtain rfl : k = xs.length := by omega
        go_wp2
        go_ret
        refine ⟨ret_bool (sameB_yes ?_).symm, hb⟩
        have := heq.out
        rw [List.take_length] at this
        rw [this, hlen, List.take_length]
  · have hlb : (xs.length != ys.length) = true := by simp [hlen]
    have hlc : ((xs.length : Int) != ys.length) = true := by simp; omega
    go_enter Try.func23, Try.ntmps23
    go_wp2
    go_ret
    exact ⟨ret_bool (sameB_no (by rintro rfl; exact hlen rfl)).symm, Below.refl _ _⟩

/-! marks -/
abbrev BoolsAt (w : World) (B : Nat) (A : Option Addr) (l : List Bool) : Prop := CellsAt w B A (l.map Value.bool)
theorem bool_at {w wr : World} {B : Nat} {A : Option Addr} {l : List Bool} (h : BoolsAt w B A l) (hb : Below B w wr) {k : Nat} (hk : k < l.length) :
    ∃ b o q, A = some ⟨b, o, none⟩ ∧ b < B ∧ Hid (l[k]? = some q) ∧ wr.cell? ⟨b, o + k, none⟩ = some (.bool q) := by
  have he : (l.map Value.bool)[k]? = some (.bool l[k]) := by rw [List.getElem?_map, List.getElem?_eq_getElem hk]; rfl
  obtain ⟨b, o, rfl, hB, c0⟩ := (h.below hb).at_ he
  exact ⟨b, o, l[k], rfl, hB, List.getElem?_eq_getElem hk, c0⟩
def Marks (bs : List Bool) (S : Int → Prop) : Prop := ∀ k : Nat, k < bs.length → (bs[k]? = some true ↔ S k)

set_option maxHeartbeats 800000 in
theorem states_any (bs : List Bool) (S : Int → Prop) (A : Option Addr) (c : Nat) (w : World) (hn : bs.length ≤ 1000000000) (hm : Marks bs S) (hl : BoolsAt w w.heap.size A bs) :
    Calls Try.prog 49 #[.slice A bs.length c] w fun e w' => (∃ v, e = .returned v ∧ OwnInts w w' (rising bs.length S) v) ∧ Below w.heap.size w w' := by
  have HM := Lib.hid hm
  clear hm
  go_enter Try.func49, Try.ntmps49
  go_wp2
  go_loopw [3, 8] (fun out i wr => ∃ k : Nat, k ≤ bs.length ∧ i = .int .i64 k ∧ wr.ownsRow w.heap.size 3 1 out (rising k S).length ((rising k S).map (Value.int .i64)) ∧ Below w.heap.size w wr) (fun _ i _ => bs.length - (intOf i).toNat)
  case atStart => exact ⟨0, Nat.zero_le _, rfl, World.ownsRow_nil _ _ _ _, Below.refl _ _⟩
  case round =>
    obtain ⟨k, hk, rfl, hown, hb⟩ := hrel
    by_cases hlt : k < bs.length
    · obtain ⟨b, o, x, rfl, _, hx, hcell⟩ := bool_at hl hb hlt
      have hsz := hb.size
      have hlen := rising_length k S
      cases x with
      | true =>
        have hR := Lib.hid (rising_yes (P := S) ((HM.out k hlt).1 hx.out))
        go_wp2_with (at_builtin; refine wpList_append_new info3 Try.underlying36 rfl (by decide) (by decide) _ hown 1 rfl _ _ rfl rfl rfl (by simp) rfl rfl (by omega) (by omega) ?_; intro v' w' hown' hbel hgt _)
        go_roundw
        case rel =>
          refine ⟨k + 1, by omega, by go_num, ?_, hb.trans hbel⟩
          rw [show ((k + 1 : Nat) : Int) = (k : Int) + 1 from by omega, hR.out, List.map_append, List.length_append]
          exact hown'
        case measure => simp [intOf]; omega
      | false =>
        have hR := Lib.hid (rising_no (P := S) (fun h => by have := (HM.out k hlt).2 h; rw [hx.out] at this; cases this))
        go_wp2
        go_roundw
        case rel =>
          refine ⟨k + 1, by omega, by go_num, ?_, hb⟩
          rw [show ((k + 1 : Nat) : Int) = (k : Int) + 1 from by omega, hR.out]
          exact hown
        case measure => simp [intOf]; omega
    · obtain rfl : k = bs.length := by omega
      go_wp2
      go_ret
      exact ⟨⟨_, rfl, ownInts_of hown (Nat.le_refl _)⟩, hb⟩

/-! the reference's Step -/
def stepL (es : List Edge) (c : Int) (l : List Int) : List Int := (es.filter (fun e => e.takes c && hasB l e.frm)).map Edge.to
theorem stepL_snoc {es : List Edge} {e : Edge} {c : Int} {l : List Int} : stepL (es ++ [e]) c l = stepL es c l ++ if e.takes c && hasB l e.frm then [e.to] else [] := by
  unfold stepL
  rw [List.filter_append, List.map_append]
  congr 1
  cases h : e.takes c && hasB l e.frm <;> simp [h]
theorem stepL_length (es : List Edge) (c : Int) (l : List Int) : (stepL es c l).length ≤ es.length := by
  unfold stepL
  rw [List.length_map]
  exact List.length_filter_le _ _
theorem mem_stepL {es : List Edge} {c : Int} {l : List Int} {q : Int} : q ∈ stepL es c l ↔ StepP es c (· ∈ l) q := by
  unfold stepL StepP
  simp only [List.mem_map, List.mem_filter, Bool.and_eq_true, hasB_iff]
  constructor
  · rintro ⟨e, ⟨h1, h2, h3⟩, rfl⟩; exact ⟨e, h1, h2, h3, rfl⟩
  · rintro ⟨e, h1, h2, h3, rfl⟩; exact ⟨e, ⟨h1, h2, h3⟩, rfl⟩
theorem take_snoc {α : Type} {l : List α} {k : Nat} {x : α} (h : l[k]? = some x) : l.take (k + 1) = l.take k ++ [x] := by
  rw [List.take_add_one, h]; rfl

set_option maxHeartbeats 1600000 in
theorem refStep_any (n : Net) (l : List Int) (cc : Int) (A A' : Option Addr) (c c' : Nat) (w : World) (hst : 0 ≤ n.st) (hst' : n.st ≤ 500) (hne : n.edges.length ≤ 1000000) (hn : l.length ≤ 1000000000)
    (hE : EdgesAt w w.heap.size A n.edges) (hl : IntsAt w w.heap.size A' l) :
    Calls Try.prog 27 #[.agg #[.int .i64 n.st, .int .i64 n.start, .int .i64 n.fin, .slice A n.edges.length c], .slice A' l.length c', .int .u8 cc] w fun e w' => (∃ v, e = .returned v ∧ OwnInts w w' (rising n.st (StepP n.edges cc (· ∈ l))) v) ∧ Below w.heap.size w w' := by
  have hcong := Lib.hid (rising_congr (st := n.st) (P := (· ∈ stepL n.edges cc l)) (Q := StepP n.edges cc (· ∈ l)) (fun q _ _ => mem_stepL))
  go_enter Try.func27, Try.ntmps27
  go_wp2
  go_loopw [7, 8] (fun out i wr => ∃ k : Nat, k ≤ n.edges.length ∧ i = .int .i64 k ∧ wr.ownsRow (w.heap.size + 1) 3 1 out (stepL (n.edges.take k) cc l).length ((stepL (n.edges.take k) cc l).map (Value.int .i64)) ∧ Below (w.heap.size + 1) (w.alloc (.cells #[.int .i64 n.st, .int .i64 n.start, .int .i64 n.fin, .slice A n.edges.length c] 24)) wr) (fun _ i _ => n.edges.length - (intOf i).toNat)
  case atStart => exact ⟨0, Nat.zero_le _, rfl, World.ownsRow_nil _ _ _ _, Below.refl _ _⟩
  case round =>
    obtain ⟨k, hk, rfl, hown, hb⟩ := hrel
    obtain ⟨b0, b1, b2, b3, hsz⟩ := boxed4 hb
    by_cases hlt : k < n.edges.length
    · obtain ⟨bb, o, e, rfl, hbb, he, c0, c1, c2, c3⟩ := edge_at hE (unbox hb) hlt
      have hlen := stepL_length (n.edges.take k) cc l
      rw [List.length_take] at hlen
      have hS := Lib.hid (stepL_snoc (es := n.edges.take k) (e := e) (c := cc) (l := l))
      have hT := Lib.hid (take_snoc he.out)
      cases h1 : e.takes cc with
      | false =>
        go_wp2_with (first | (go_at_call 52; refine (refTakes_any _ _ _ _ _ _).mono ?_; rintro e w' ⟨rfl, rfl⟩))
        go_roundw
        case rel =>
          refine ⟨k + 1, by omega, by go_num, ?_, (hb.alloc (by omega) _).alloc (by simp; omega) _⟩
          rw [hT.out, hS.out, h1]
          simpa using (hown.alloc _).alloc _
        case measure => simp [intOf]; omega
      | true =>
        cases h2 : hasB l e.frm with
        | false =>
          go_wp2_with (first | (go_at_call 52; refine (refTakes_any _ _ _ _ _ _).mono ?_; rintro e w' ⟨rfl, rfl⟩) | (go_at_call 47; refine (has_any _ _ _ _ _ _ hn (hl.below (((unbox hb).alloc (by omega) _).alloc (by simp; omega) _))).mono ?_; rintro e w' ⟨rfl, rfl⟩))
          go_roundw
          case rel =>
            refine ⟨k + 1, by omega, by go_num, ?_, (hb.alloc (by omega) _).alloc (by simp; omega) _⟩
            rw [hT.out, hS.out, h1, h2]
            simpa using (hown.alloc _).alloc _
          case measure => simp [intOf]; omega
        | true =>
          go_wp2_with (first | (go_at_call 52; refine (refTakes_any _ _ _ _ _ _).mono ?_; rintro e w' ⟨rfl, rfl⟩) | (go_at_call 47; refine (has_any _ _ _ _ _ _ hn (hl.below (((unbox hb).alloc (by omega) _).alloc (by simp; omega) _))).mono ?_; rintro e w' ⟨rfl, rfl⟩) | (at_builtin; refine wpList_append_new info3 Try.underlying36 rfl (by decide) (by decide) _ ((hown.alloc _).alloc _) 1 rfl _ _ rfl rfl rfl (by simp) rfl rfl (by omega) ?_ ?_; (simp; omega); intro v' w' hown' hbel hgt _))
          go_roundw
          case rel =>
            refine ⟨k + 1, by omega, by go_num, ?_, ((hb.alloc (by omega) _).alloc (by simp; omega) _).trans hbel⟩
            rw [hT.out, hS.out, h1, h2]
            simpa using hown'
          case measure => simp [intOf]; omega
    · obtain rfl : k = n.edges.length := by omega
      rw [List.take_length] at hown
      have hlen := stepL_length n.edges cc l
      obtain ⟨A2, c2, rfl, hown2⟩ := ownInts_of (w := w) hown (by omega)
      have hA2 := OwnInts.ints hown2
      go_wp2_with (go_at_call 51; refine (sorted_any n.st n.start n.fin _ _ A2 c2 wr hst hst' (by omega) hA2).mono ?_; rintro e w' ⟨⟨v, rfl, hv⟩, hb2⟩)
      go_ret
      obtain ⟨A3, c3, rfl, hown3⟩ := hv
      rw [hcong.out] at hown3
      refine ⟨⟨_, rfl, ?_⟩, (unbox hb).trans (hb2.mono (by omega))⟩
      rw [hcong.out]
      exact ownInts_of hown3 (by omega)
end Go.Proofs.Ytaefhfldgemcnaa
