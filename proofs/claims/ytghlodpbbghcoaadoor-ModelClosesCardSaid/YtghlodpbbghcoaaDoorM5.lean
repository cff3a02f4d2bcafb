/- Closed: the names of those that something closes, in order. -/
import Derived.Test.YtghlodpbbghcoaaDoorM4
import Derived.Test.YtghlodpbbghcoaaDoorShelf
import Derived.Maps.RangeWalk
import Derived.Maps.AppendAt
import Derived.Sort.OwnSorted
import Derived.Sort.KeysCollected
namespace Go.Proofs.YtghlodpbbghcoaaDoor
open Go.RowKit Go.Maps Go.Sort

theorem info9 : (Tryd.prog.info? 9).map (fun i => (i.zero, i.size, i.bytes)) = some (some (.string ⟨#[]⟩), 1, 16) := by kernel_rfl

/-- The names, in order. -/
def closedL : List (List UInt8) := [[100, 100], [100, 116], [108, 105], [111, 112, 116, 105, 111, 110], [112], [116, 100], [116, 114]]

def madeD (g1 g2 g3 g4 g5 g6 g7 : Nat) : DataW Unit := ((((((((DataW.map []).put (.string [112]) (rowD g1 11)).put (.string [108, 105]) (rowD g2 1)).put (.string [100, 116]) (rowD g3 2)).put (.string [100, 100]) (rowD g4 2)).put (.string [111, 112, 116, 105, 111, 110]) (rowD g5 1)).put (.string [116, 100]) (rowD g6 2)).put (.string [116, 114]) (rowD g7 1))

theorem made_keys (g1 g2 g3 g4 g5 g6 g7 : Nat) : (strKeys (madeD g1 g2 g3 g4 g5 g6 g7)).Perm closedL := by
  have e : strKeys (madeD g1 g2 g3 g4 g5 g6 g7) = strKeys (madeD 0 0 0 0 0 0 0) := by rfl
  rw [e]
  decide
theorem made_size (g1 g2 g3 g4 g5 g6 g7 : Nat) : Maps.size (madeD g1 g2 g3 g4 g5 g6 g7) = 7 := by rfl
theorem closed_sorted : closedL.mergeSort (fun x y : List UInt8 => decide (x ≤ y)) = closedL := List.mergeSort_of_pairwise (by decide)
theorem sorted_of_keys {ss : List (List UInt8)} {g1 g2 g3 g4 g5 g6 g7 : Nat} (h : ss.Perm (strKeys (madeD g1 g2 g3 g4 g5 g6 g7))) : ss.mergeSort (fun x y => decide (x ≤ y)) = closedL :=
  (mergeSort_of_perm (h.trans (made_keys _ _ _ _ _ _ _))).trans closed_sorted

set_option maxRecDepth 8192 in
set_option maxHeartbeats 1600000 in
theorem closed_any (w : World) :
    Calls Tryd.prog 18 #[] w fun e w' => ∃ g cap : Nat, e = .returned (.slice (some ⟨g, 0, none⟩) 7 cap) ∧
      w'.ownsRow w.heap.size 9 1 (.slice (some ⟨g, 0, none⟩) 7 cap) 7 (closedL.map encStr) ∧ Below w.heap.size w w' := by
  obtain ⟨i0, hi, hz0, hz1, hz2⟩ := info_parts info9
  go_enter Tryd.func18, Tryd.ntmps18
  go_wp2_with (first
    | (go_at_call 39
       refine (closers_any _).mono ?_
       rintro e w1 ⟨b, rfl, g1, g2, g3, g4, g5, g6, g7, hle, hown, hRows, hB⟩
       obtain ⟨D0, hD0⟩ : ∃ D0, madeD g1 g2 g3 g4 g5 g6 g7 = D0 := ⟨_, rfl⟩
       have hown : w1.ownsMap Tryd.prog 9 rowR b 7 D0 := hD0 ▸ hown
       have hsize : Maps.size D0 = 7 := hD0 ▸ made_size _ _ _ _ _ _ _
       replace hD0 := Lib.hid hD0
       replace hsize := Lib.hid hsize
       clear hRows)
    | (at_range; refine wpList_range_own _ rfl _ 66 rfl 9 22 (string_keyed Tryd.underlying9) Tryd.underlying66 _ b 7 _ rfl hown ?_; intro w0 hrg0 hg0 hs0))
  go_frame
  have hrow0 : w0.ownsRow w1.heap.size 9 1 (.slice none 0 0) 0 [] := World.ownsRow_nil _ _ _ _
  have hB0 : Below w.heap.size w w0 := hB.grown hg0 hB.size (fun j hj => by cases hj)
  clear hs0
  go_loopw [1] (fun v wr => ∃ (left : Lit → Bool) (cnt : Nat) (ss : List (List UInt8)), wr.ranges Tryd.prog 9 rowR b w1.heap.size 7 D0 left cnt ∧ ss.length + cnt ≤ Maps.size D0 ∧
      wr.ownsRow w1.heap.size 9 1 v ss.length (ss.map encStr) ∧ Collected D0 left ss ∧ Below w.heap.size w wr ∧ Hid (w1.heap.size ≤ wr.heap.size))
    (fun _ wr => wr.rangeLeft b w1.heap.size)
  case atStart => exact ⟨_, _, [], hrg0, by simp, hrow0, Collected.start D0, hB0, Lib.hid hg0.size⟩
  case round =>
    obtain ⟨left, cnt, ss, hrg, hcs, hrow, hC, hnx, hsz1⟩ := hrel
    have hw1 := Lib.hid hB.size
    go_wp2_with (first
      | (at_next; refine wpList_next_ranges _ rfl _ rfl 9 (string_keyed Tryd.underlying9) rowR encStr (fun v => v) (fun key kl hk => by obtain ⟨x, hx, _⟩ := Maps.keyOf_str Tryd.underlying9 hk; exact ⟨x, hx⟩) (fun v y hv => ⟨v, rfl⟩) b w1.heap.size 7 _ _ _ rfl hrg ?_ ?_))
    · intro hc0 hl0
      have hl := (hC.perm hown (string_keyed Tryd.underlying9) Tryd.underlying9 hl0)
      have hlen : ss.length = 7 := by
        have h := hl
        rw [← hD0.out] at h
        exact (h.trans (made_keys _ _ _ _ _ _ _)).length_eq
      have hsort := sorted_of_keys (hD0.out ▸ hl)
      rcases hrow.2 with hnil | ⟨g, cap, cur, rfl, hbase1, hb, h1, h2, h3, h4⟩
      · have := hnil.2
        rw [hlen] at this
        cases this
      have hbase : w.heap.size ≤ g := Nat.le_trans hw1.out hbase1
      have hH : Holds encStr wr g 0 ss.toArray := holds_of_block hb (by simpa using h4)
      have hgl : g < wr.heap.size := (Array.getElem?_eq_some_iff.1 hb).1
      have hc := Tryd.slices_Sort_string g 0 cap ss wr hH hgl (by omega)
      replace hsort := Lib.hid hsort
      replace hlen := Lib.hid hlen
      replace hl := Lib.hid hl
      go_wp2_with (go_at_call 40; refine hc.mono ?_; rintro e w' ⟨rfl, nn, os, rfl⟩)
      go_ret
      have hlen := hlen.out
      refine ⟨g, cap, by rw [hlen]; rfl, ?_, hnx.grown (grownBy_sorted _) hnx.size (fun j hj => by cases hj; exact hbase)⟩
      have := ownsRow_sorted (ss := ss) (ts := ss.mergeSort (fun x y => decide (x ≤ y))) (n := nn) (os := os) (by simp) hbase hb h1 h2 h3
      rw [hsort.out, hlen] at this
      rw [hsort.out]
      exact this
    · intro x c kl yd yp w2 cnt2 hkey hlk hv hat hrg2 hlt hg2 hs2 hen
      obtain ⟨x', ex, rfl, _⟩ := Maps.keyOf_str Tryd.underlying9 hkey
      obtain rfl : x = x' := encStr_inj ex
      have hrow2 := hrow.kept hg2 (Or.inr (row_ne_iter hrow hrg).symm)
      clear hs2
      have hss : ss.length ≤ 7 := by have := hsize.out; omega
      go_wp2_with (first
        | (at_builtin; refine wpList_append_own _ rfl _ _ 22 rfl w1.heap.size 9 i0 (.string ⟨#[]⟩) 1 16 Tryd.underlying22 hi hz0 hz1 hz2 rfl (by decide) _ _ _ rfl (hrow2.alloc _) ⟨w2.heap.size, 0, none⟩ 1 1 [encStr x] rfl rfl (cell_one_new _ _ _) (by simp [Value.oneCell', encStr]) (by unfold maxLen; omega) (by omega) (by have := hsz1.out; have := hg2.size; simp; omega) ?_; intro v' w3 hown' hg3 hnil3; go_frame))
      have hrg3 := (hrg2.alloc _).kept hg3 (row_ne_low hrow2 hown.lt) (row_ne_iter hrow2 hrg2)
      go_roundw
      case rel =>
        refine ⟨_, cnt2, ss ++ [x], hrg3, by simp; omega, by simpa using hown', hC.step hlk hat, ?_, Lib.hid ?_⟩
        rotate_left
        · have := hg3.size; have := hg2.size; have := hsz1.out; simp at *; omega
        exact ((hnx.grown hg2 hnx.size (fun j hj => by cases hj; exact hw1.out)).alloc (by have := hnx.size; have := hg2.size; omega) _).grown hg3 (by have := hnx.size; have := hg2.size; simp; omega) (fun j hj => Nat.le_trans hw1.out (hrow2.lt j hj).1)
      case measure => rw [hrg3.left_eq, hrg.left_eq]; exact hlt
end Go.Proofs.YtghlodpbbghcoaaDoor