/- Walks over nets, first part: which nets may be; small tests on states and edges; a number counted round. -/
import Derived.Test.YtaefhfldgemcnaaProg
import Derived.Test.YtaefhfldgemcnaaPure
import Derived.Test.YtaefhfldgemcnaaMem
import Derived.WalkKit
import Derived.WalkSpells
import Derived.WalkLawsBesides
import Derived.Lib.Hide
namespace Go.Proofs.Ytaefhfldgemcnaa
open Go.RowKit

def edgeCells (e : Edge) : List Value := [.int .i64 e.frm, .int .i64 e.to, .int .u8 e.low, .int .u8 e.high]
theorem edgeCells_length (e : Edge) : (edgeCells e).length = 4 := rfl
abbrev EdgesAt (w : World) (B : Nat) (A : Option Addr) (es : List Edge) : Prop := CellsAt w B A (flat edgeCells es)
theorem edge_at {w wr : World} {B : Nat} {A : Option Addr} {es : List Edge} (h : EdgesAt w B A es) (hb : Below B w wr) {k : Nat} (hk : k < es.length) :
    ∃ b o e, A = some ⟨b, o, none⟩ ∧ b < B ∧ Hid (es[k]? = some e) ∧ wr.cell? ⟨b, o + k * 4, none⟩ = some (.int .i64 e.frm) ∧ wr.cell? ⟨b, o + k * 4 + 1, none⟩ = some (.int .i64 e.to) ∧ wr.cell? ⟨b, o + k * 4 + 2, none⟩ = some (.int .u8 e.low) ∧ wr.cell? ⟨b, o + k * 4 + 3, none⟩ = some (.int .u8 e.high) := by
  have he : es[k]? = some es[k] := List.getElem?_eq_getElem hk
  have g := fun j (hj : j < 4) => flat_get edgeCells_length he hj
  obtain ⟨b, o, rfl, hB, c0⟩ := (h.below hb).at_ (g 0 (by omega))
  obtain ⟨b1, o1, e1, _, c1⟩ := (h.below hb).at_ (g 1 (by omega))
  obtain ⟨b2, o2, e2, _, c2⟩ := (h.below hb).at_ (g 2 (by omega))
  obtain ⟨b3, o3, e3, _, c3⟩ := (h.below hb).at_ (g 3 (by omega))
  simp only [Option.some.injEq, Addr.mk.injEq] at e1 e2 e3
  obtain ⟨rfl, rfl, _⟩ := e1
  obtain ⟨rfl, rfl, _⟩ := e2
  obtain ⟨rfl, rfl, _⟩ := e3
  exact ⟨b, o, es[k], rfl, hB, he, c0, c1, c2, c3⟩

set_option maxHeartbeats 400000 in
theorem isState_any (s a b q : Int) (v : Value) (w : World) :
    Calls Try.prog 40 #[.agg #[.int .i64 s, .int .i64 a, .int .i64 b, v], .int .i64 q] w fun e w' => e = .returned (.bool (isSt s q)) ∧ w.alloc (.cells #[.int .i64 s, .int .i64 a, .int .i64 b, v] 24) = w' := by
  unfold isSt
  go_enter Try.func40, Try.ntmps40
  go_wp2
  · rename_i h; go_ret; exact ⟨by simp [h], rfl⟩
  · rename_i h; go_ret; exact ⟨by simp [Int.not_le.2 h], rfl⟩

def mayV (n : Net) : Int := if n.may then 0 else 1
theorem mayV_no {n : Net} (h : n.may = false) : mayV n = 1 := by simp [mayV, h]
theorem mayV_yes {n : Net} (h : n.may = true) : mayV n = 0 := by simp [mayV, h]

set_option maxHeartbeats 400000 in
theorem may_head (n : Net) (A : Option Addr) (c : Nat) (w : World) (h : n.st < 1 ∨ 500 < n.st ∨ isSt n.st n.start = false ∨ isSt n.st n.fin = false) :
    Calls Try.prog 14 #[.agg #[.int .i64 n.st, .int .i64 n.start, .int .i64 n.fin, .slice A n.edges.length c]] w fun e w' => e = .returned (.int .i64 1) ∧ Below w.heap.size w w' := by
  by_cases h1 : n.st < 1
  · go_enter Try.func14, Try.ntmps14
    go_wp2_with fail
    go_ret
    exact ⟨rfl, ((Below.refl _ _).alloc (by simp) _)⟩
  by_cases h2 : 500 < n.st
  · go_enter Try.func14, Try.ntmps14
    go_wp2_with fail
    go_ret
    exact ⟨rfl, ((Below.refl _ _).alloc (by simp) _)⟩
  have d1 : decide (n.st < 1) = false := by simpa using h1
  have d2 : decide (500 < n.st) = false := by simpa using h2
  cases h3 : isSt n.st n.start with
  | false =>
    go_enter Try.func14, Try.ntmps14
    go_wp2_with (go_at_call 40; refine (isState_any _ _ _ _ _ _).mono ?_; rintro e w' ⟨rfl, rfl⟩)
    go_ret
    exact ⟨rfl, ((Below.refl _ _).alloc (by simp) _).alloc (by simp) _⟩
  | true =>
    have h4 : isSt n.st n.fin = false := by
      rcases h with h | h | h | h
      · omega
      · omega
      · rw [h3] at h; cases h
      · exact h
    go_enter Try.func14, Try.ntmps14
    go_wp2_with (go_at_call 40; refine (isState_any _ _ _ _ _ _).mono ?_; rintro e w' ⟨rfl, rfl⟩)
    go_ret
    exact ⟨rfl, (((Below.refl _ _).alloc (by simp) _).alloc (by simp) _).alloc (by simp; omega) _⟩

set_option maxHeartbeats 800000 in
theorem may_tail (n : Net) (A : Option Addr) (c : Nat) (w : World) (hn : n.edges.length ≤ 1000000000) (h1 : 1 ≤ n.st) (h2 : n.st ≤ 500) (h3 : isSt n.st n.start = true) (h4 : isSt n.st n.fin = true)
   (hc : EdgesAt w w.heap.size A n.edges) :
    Calls Try.prog 14 #[.agg #[.int .i64 n.st, .int .i64 n.start, .int .i64 n.fin, .slice A n.edges.length c]] w fun e w' => e = .returned (.int .i64 (mayV n)) ∧ Below w.heap.size w w' := by
  have d1 : decide (n.st < 1) = false := by simpa using h1
  have d2 : decide (500 < n.st) = false := by simpa using h2
  have no : ∀ (k : Nat) (e : Edge), n.edges[k]? = some e → e.ok n.st = false → mayV n = 1 := by
    intro k e he hk
    refine mayV_no (Bool.eq_false_iff.2 fun hm => ?_)
    have := (may_iff.1 hm).2.2.2.2 e (List.mem_of_getElem? he)
    rw [hk] at this; cases this
  have yes : (∀ e ∈ n.edges, e.ok n.st = true) → mayV n = 0 := fun h => mayV_yes (may_iff.2 ⟨h1, h2, isSt_iff.1 h3, isSt_iff.1 h4, h⟩)
  have No := Lib.hid no
  have Yes := Lib.hid yes
  clear no yes
  go_enter Try.func14, Try.ntmps14
  go_wp2_with (go_at_call 40; refine (isState_any _ _ _ _ _ _).mono ?_; rintro e w' ⟨rfl, rfl⟩)
  go_loopw [30] (fun i wr => ∃ k : Nat, k ≤ n.edges.length ∧ i = .int .i64 k ∧ Below (w.heap.size + 1) (w.alloc (.cells #[.int .i64 n.st, .int .i64 n.start, .int .i64 n.fin, .slice A n.edges.length c] 24)) wr ∧ Hid (∀ e ∈ n.edges.take k, e.ok n.st = true)) (fun i _ => n.edges.length - (intOf i).toNat)
  case atStart =>
    exact ⟨0, Nat.zero_le _, rfl, ((Below.refl _ _).alloc (by simp) _).alloc (by simp) _, by intro e he; simp at he⟩
  case round =>
    obtain ⟨k, hk, rfl, hb, hall⟩ := hrel
    by_cases hlt : k < n.edges.length
    · obtain ⟨bb, o, e, rfl, hbb, he, c0, c1, c2, c3⟩ := edge_at hc (unbox hb) hlt
      obtain ⟨b0, b1, b2, b3, hsz⟩ := boxed4 hb
      cases h5 : isSt n.st e.frm with
      | false =>
        go_wp2_with (go_at_call 40; refine (isState_any _ _ _ _ _ _).mono ?_; rintro e w' ⟨rfl, rfl⟩)
        go_ret
        exact ⟨ret_int (No.out k e he.out (by simp [Edge.ok, h5])).symm, ((unbox hb).alloc (by omega) _).alloc (by simp; omega) _⟩
      | true =>
        cases h6 : isSt n.st e.to with
        | false =>
          go_wp2_with (go_at_call 40; refine (isState_any _ _ _ _ _ _).mono ?_; rintro e w' ⟨rfl, rfl⟩)
          go_ret
          exact ⟨ret_int (No.out k e he.out (by simp [Edge.ok, h6])).symm, (((unbox hb).alloc (by omega) _).alloc (by simp; omega) _).alloc (by simp; omega) _⟩
        | true =>
          go_wp2_with (go_at_call 40; refine (isState_any _ _ _ _ _ _).mono ?_; rintro e w' ⟨rfl, rfl⟩)
          go_roundw
          case rel =>
            refine ⟨k + 1, by omega, by go_num, ((hb.alloc (by omega) _).alloc (by simp; omega) _).alloc (by simp; omega) _, ?_⟩
            intro x hx
            rw [List.take_add_one, he.out] at hx
            simp only [Option.toList_some, List.mem_append, List.mem_singleton] at hx
            rcases hx with hx | rfl
            · exact hall.out x hx
            · simp [Edge.ok, h5, h6]
          case measure => simp [intOf]; omega
    · obtain rfl : k = n.edges.length := by omega
      go_wp2_with fail
      go_ret
      exact ⟨ret_int (Yes.out (by have := hall.out; rwa [List.take_length] at this)).symm, unbox hb⟩

theorem may_any (n : Net) (A : Option Addr) (c : Nat) (w : World) (hn : n.edges.length ≤ 1000000000) (hc : EdgesAt w w.heap.size A n.edges) :
    Calls Try.prog 14 #[.agg #[.int .i64 n.st, .int .i64 n.start, .int .i64 n.fin, .slice A n.edges.length c]] w fun e w' => e = .returned (.int .i64 (mayV n)) ∧ Below w.heap.size w w' := by
  by_cases h : n.st < 1 ∨ 500 < n.st ∨ isSt n.st n.start = false ∨ isSt n.st n.fin = false
  · have : mayV n = 1 := mayV_no (Bool.eq_false_iff.2 fun hm => by
      obtain ⟨h1, h2, h3, h4, _⟩ := may_iff.1 hm
      rcases h with h | h | h | h
      · omega
      · omega
      · rw [isSt_iff.2 h3] at h; cases h
      · rw [isSt_iff.2 h4] at h; cases h)
    rw [this]
    exact may_head n A c w h
  · simp only [not_or, Bool.not_eq_false] at h
    exact may_tail n A c w hn (by omega) (by omega) h.2.2.1 h.2.2.2 hc
end Go.Proofs.Ytaefhfldgemcnaa
