/- Walks over nets, eleventh part: the reference's test on nets. -/
import Derived.Test.YtaefhfldgemcnaaW10
namespace Go.Proofs.Ytaefhfldgemcnaa
open Go.RowKit

theorem isSt_no {s q : Int} (h : q < 0 ∨ s ≤ q) : isSt s q = false := by
  refine Bool.eq_false_iff.2 fun h' => ?_
  have := isSt_iff.1 h'
  omega

set_option maxHeartbeats 1600000 in
theorem refMay_head (n : Net) (A : Option Addr) (c : Nat) (w : World) (h : n.st < 1 ∨ 500 < n.st ∨ n.start < 0 ∨ n.st ≤ n.start ∨ n.fin < 0 ∨ n.st ≤ n.fin) :
    Calls Try.prog 15 #[.agg #[.int .i64 n.st, .int .i64 n.start, .int .i64 n.fin, .slice A n.edges.length c]] w fun e w' => e = .returned (.bool false) ∧ Below w.heap.size w w' := by
  by_cases h1 : n.st < 1
  · go_enter Try.func15, Try.ntmps15
    go_wp2_with fail
    go_ret
    exact ⟨rfl, ((Below.refl _ _).alloc (by simp) _)⟩
  by_cases h2 : 500 < n.st
  · go_enter Try.func15, Try.ntmps15
    go_wp2_with fail
    go_ret
    exact ⟨rfl, ((Below.refl _ _).alloc (by simp) _)⟩
  by_cases h3 : n.start < 0
  · go_enter Try.func15, Try.ntmps15
    go_wp2_with fail
    go_ret
    exact ⟨rfl, ((Below.refl _ _).alloc (by simp) _)⟩
  by_cases h4 : n.st ≤ n.start
  · go_enter Try.func15, Try.ntmps15
    go_wp2_with fail
    go_ret
    exact ⟨rfl, ((Below.refl _ _).alloc (by simp) _)⟩
  by_cases h5 : n.fin < 0
  · go_enter Try.func15, Try.ntmps15
    go_wp2_with fail
    go_ret
    exact ⟨rfl, ((Below.refl _ _).alloc (by simp) _)⟩
  have h6 : n.st ≤ n.fin := by omega
  clear h
  go_enter Try.func15, Try.ntmps15
  go_wp2_with fail
  go_ret
  exact ⟨rfl, ((Below.refl _ _).alloc (by simp) _)⟩

set_option maxHeartbeats 1600000 in
theorem refMay_tail (n : Net) (A : Option Addr) (c : Nat) (w : World) (hn : n.edges.length ≤ 1000000000) (h1 : 1 ≤ n.st) (h2 : n.st ≤ 500) (h3 : 0 ≤ n.start) (h4 : n.start < n.st) (h5 : 0 ≤ n.fin) (h6 : n.fin < n.st)
   (hc : EdgesAt w w.heap.size A n.edges) :
    Calls Try.prog 15 #[.agg #[.int .i64 n.st, .int .i64 n.start, .int .i64 n.fin, .slice A n.edges.length c]] w fun e w' => e = .returned (.bool n.may) ∧ Below w.heap.size w w' := by
  have no : ∀ (k : Nat) (e : Edge), n.edges[k]? = some e → e.ok n.st = false → n.may = false := by
    intro k e he hk
    refine Bool.eq_false_iff.2 fun hm => ?_
    have := (may_iff.1 hm).2.2.2.2 e (List.mem_of_getElem? he)
    rw [hk] at this; cases this
  have yes : (∀ e ∈ n.edges, e.ok n.st = true) → n.may = true := fun h => may_iff.2 ⟨h1, h2, ⟨h3, h4⟩, ⟨h5, h6⟩, h⟩
  have No := Lib.hid no
  have Yes := Lib.hid yes
  clear no yes
  go_enter Try.func15, Try.ntmps15
  go_wp2_with fail
  go_loopw [3] (fun i wr => ∃ k : Nat, k ≤ n.edges.length ∧ i = .int .i64 k ∧ Below (w.heap.size + 1) (w.alloc (.cells #[.int .i64 n.st, .int .i64 n.start, .int .i64 n.fin, .slice A n.edges.length c] 24)) wr ∧ Hid (∀ e ∈ n.edges.take k, e.ok n.st = true)) (fun i _ => n.edges.length - (intOf i).toNat)
  case atStart =>
    exact ⟨0, Nat.zero_le _, rfl, Below.refl _ _, by intro e he; simp at he⟩
  case round =>
    obtain ⟨k, hk, rfl, hb, hall⟩ := hrel
    obtain ⟨b0, b1, b2, b3, hsz⟩ := boxed4 hb
    by_cases hlt : k < n.edges.length
    · obtain ⟨bb, o, e, rfl, hbb, he, c0, c1, c2, c3⟩ := edge_at hc (unbox hb) hlt
      by_cases g1 : e.frm < 0
      · go_wp2_with fail
        go_ret
        exact ⟨ret_bool (No.out k e he.out (by rw [Edge.ok, isSt_no (.inl g1)]; rfl)).symm, (unbox hb).alloc (by omega) _⟩
      by_cases g2 : n.st ≤ e.frm
      · go_wp2_with fail
        go_ret
        exact ⟨ret_bool (No.out k e he.out (by rw [Edge.ok, isSt_no (.inr g2)]; rfl)).symm, (unbox hb).alloc (by omega) _⟩
      by_cases g3 : e.to < 0
      · go_wp2_with fail
        go_ret
        exact ⟨ret_bool (No.out k e he.out (by rw [Edge.ok, isSt_no (s := n.st) (.inl g3), Bool.and_false])).symm, (unbox hb).alloc (by omega) _⟩
      by_cases g4 : n.st ≤ e.to
      · go_wp2_with fail
        go_ret
        exact ⟨ret_bool (No.out k e he.out (by rw [Edge.ok, isSt_no (s := n.st) (.inr g4), Bool.and_false])).symm, (unbox hb).alloc (by omega) _⟩
      go_wp2_with fail
      go_roundw
      case rel =>
        refine ⟨k + 1, by omega, by go_num, hb.alloc (by omega) _, ?_⟩
        intro x hx
        rw [List.take_add_one, he.out] at hx
        simp only [Option.toList_some, List.mem_append, List.mem_singleton] at hx
        rcases hx with hx | rfl
        · exact hall.out x hx
        · exact ok_iff.2 ⟨⟨by omega, by omega⟩, by omega, by omega⟩
      case measure => simp [intOf]; omega
    · obtain rfl : k = n.edges.length := by omega
      go_wp2_with fail
      go_ret
      exact ⟨ret_bool (Yes.out (by have := hall.out; rwa [List.take_length] at this)).symm, unbox hb⟩

theorem refMay_any (n : Net) (A : Option Addr) (c : Nat) (w : World) (hn : n.edges.length ≤ 1000000000) (hc : EdgesAt w w.heap.size A n.edges) :
    Calls Try.prog 15 #[.agg #[.int .i64 n.st, .int .i64 n.start, .int .i64 n.fin, .slice A n.edges.length c]] w fun e w' => e = .returned (.bool n.may) ∧ Below w.heap.size w w' := by
  by_cases h : n.st < 1 ∨ 500 < n.st ∨ n.start < 0 ∨ n.st ≤ n.start ∨ n.fin < 0 ∨ n.st ≤ n.fin
  · have : n.may = false := Bool.eq_false_iff.2 fun hm => by
      obtain ⟨h1, h2, h3, h4, _⟩ := may_iff.1 hm
      omega
    rw [this]
    exact refMay_head n A c w h
  · exact refMay_tail n A c w hn (by omega) (by omega) (by omega) (by omega) (by omega) (by omega) hc
end Go.Proofs.Ytaefhfldgemcnaa
