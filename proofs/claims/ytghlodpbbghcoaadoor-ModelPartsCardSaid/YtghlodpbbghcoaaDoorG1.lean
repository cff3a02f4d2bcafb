/- A flat node cloned, walked. -/
import Derived.Test.YtghlodpbbghcoaaDoorD8
import Derived.Test.YtghlodpbbghcoaaDoorBlk
import Derived.Test.YtghlodpbbghcoaaDoorU6
import Derived.LoopN
import Derived.Deep.AppendLies
import Derived.Deep.RegionHeld3
import Derived.Deep.RegionLaw
namespace Go.Proofs.YtghlodpbbghcoaaDoor
open Go.Lib Go.RowKit

theorem info78 : (Tryd.prog.info? 78).map (fun i => (i.zero, i.size, i.bytes)) = some (some (.agg #[.slice none 0 0, .pointer none]), 2, 32) := by kernel_rfl

theorem make_one (w : World) : (Instr.makeSlice 23 (.int .i64 1) (.int .i64 1)).run Tryd.prog w = .ok (.slice (some ⟨w.heap.size, 0, none⟩) 1 1) (w.alloc (.cells #[.int .i64 0, .string ⟨#[]⟩, .slice none 0 0, .string ⟨#[]⟩, .slice none 0 0] 28)) := by kernel_rfl

set_option maxRecDepth 100000 in
set_option maxHeartbeats 6400000 in
theorem clone_flat (b o cap : Nat) (k : Int) (nm tx : ByteArray) (w : World) (hb : b < w.heap.size)
    (c0 : w.cell? ⟨b, o, none⟩ = some (.int .i64 k)) (c1 : w.cell? ⟨b, o + 1, none⟩ = some (.string nm)) (c2 : w.cell? ⟨b, o + 2, none⟩ = some (.slice none 0 0)) (c3 : w.cell? ⟨b, o + 3, none⟩ = some (.string tx)) (c4 : w.cell? ⟨b, o + 4, none⟩ = some (.slice none 0 0)) :
    Calls Tryd.prog 26 #[.slice (some ⟨b, o, none⟩) 1 cap] w fun e w' => ∃ g, e = .returned (.slice (some ⟨g, 0, none⟩) 1 1) ∧ w.heap.size ≤ g ∧ w'.heap[g]? = some (.cells #[.int .i64 k, .string nm, .slice none 0 0, .string tx, .slice none 0 0] 28 (0, 0)) ∧ Below w.heap.size w w' := by
  obtain ⟨i0, hi, hz0, hz1, hz2⟩ := info_parts info78
  go_enter Tryd.func26, Tryd.ntmps26
  go_wp2
  refine wp_loop_rounds 3 ?_
  rw [rounds_succ]
  have hmk := make_one
  have hb1 : b < w.heap.size + 1 := by omega
  have hb2 : b < w.heap.size + 1 + 1 := by omega
  have hb3 : b < w.heap.size + 1 + 1 + 1 := by omega
  have hb4 : b < w.heap.size + 1 + 1 + 1 + 1 := by omega
  go_upto_region 9 with fail
  refine wp_loop_rounds 2 ?_
  rw [rounds_succ]
  go_upto_region 11 with fail
  obtain ⟨W5, hW5⟩ : ∃ W5, ((((w.alloc (.cells #[.slice none 0 0] 23)).alloc (.cells #[.slice (some ⟨b, o, none⟩) 1 cap, .pointer (some ⟨w.heap.size, 0, none⟩)] 78)).alloc (.cells #[.slice (some ⟨b, o, none⟩) 1 cap, .pointer (some ⟨w.heap.size, 0, none⟩)] 78)).alloc
    (.cells #[.int .i64 0, .string ⟨#[]⟩, .slice none 0 0, .string ⟨#[]⟩, .slice none 0 0] 28)).alloc (.cells #[.int .i64 k, .string nm, .slice none 0 0, .string tx, .slice none 0 0] 28) = W5 := ⟨_, rfl⟩
  have hz5 : W5.heap.size = w.heap.size + 5 := by rw [← hW5]; simp
  have X0 : W5.heap[w.heap.size]? = some (.cells #[.slice none 0 0] 23) := by rw [← hW5]; exact blk_alloc (blk_alloc (blk_alloc (blk_alloc (blk_new _ _) _) _) _) _
  have X2 : W5.heap[w.heap.size + 1 + 1]? = some (.cells #[.slice (some ⟨b, o, none⟩) 1 cap, .pointer (some ⟨w.heap.size, 0, none⟩)] 78) := by rw [← hW5]; exact blk_alloc (blk_alloc (blk_new' (by simp)) _) _
  have X3 : W5.heap[w.heap.size + 1 + 1 + 1]? = some (.cells #[.int .i64 0, .string ⟨#[]⟩, .slice none 0 0, .string ⟨#[]⟩, .slice none 0 0] 28) := by rw [← hW5]; exact blk_alloc (blk_new' (by simp)) _
  have X4 : W5.heap[w.heap.size + 1 + 1 + 1 + 1]? = some (.cells #[.int .i64 k, .string nm, .slice none 0 0, .string tx, .slice none 0 0] 28) := by rw [← hW5]; exact blk_new' (by simp)
  have X1 : W5.heap[w.heap.size + 1]? = some (.cells #[.slice (some ⟨b, o, none⟩) 1 cap, .pointer (some ⟨w.heap.size, 0, none⟩)] 78) := by rw [← hW5]; exact blk_alloc (blk_alloc (blk_alloc (blk_new' (by simp)) _) _) _
  have hB5 : Below w.heap.size w W5 := by rw [← hW5]; exact (((((Below.refl _ w).alloc (Nat.le_refl _) _).alloc (by simp) _).alloc (by simp; omega) _).alloc (by simp; omega) _).alloc (by simp; omega) _
  rw [hW5]
  clear hW5
  replace hz5 := Lib.hid hz5
  replace X0 := Lib.hid X0
  replace X2 := Lib.hid X2
  replace X3 := Lib.hid X3
  replace X4 := Lib.hid X4
  replace hB5 := Lib.hid hB5
  replace X1 := Lib.hid X1
  have hl4 : W5.cell? ⟨w.heap.size + 1 + 1 + 1 + 1, 4, none⟩ = some (.slice none 0 0) := blk_cell X4.out 4
  have hl4' : ∀ c, (W5.alloc c).cell? ⟨w.heap.size + 1 + 1 + 1 + 1, 4, none⟩ = some (.slice none 0 0) := fun c => blk_cell (blk_alloc X4.out _) 4
  go_region_law
    (refine step_append_room (by rfl) _ _ 79 (by rfl) 78 i0 2 Tryd.underlying79 hi hz1 (w.heap.size + 1) 0 0 1 (by rfl) ⟨_, 0, none⟩ 1 1 [.slice none 0 0, .pointer (some ⟨w.heap.size + 1 + 1 + 1, 4, none⟩)] (by rfl) (by rfl) (cells_new _ _ _) (by intro u hu; simp at hu; rcases hu with rfl | rfl <;> rfl) (by decide)
      (by intro j hj; have hj' : j < 2 := hj; refine ⟨?_, ?_⟩; (show (World.cell? (W5.alloc _) _).isSome = true; rw [blk_cell (blk_alloc X1.out _)]; rcases j with _ | _ | j; rfl; rfl; omega); exact blk_frozen (blk_alloc X1.out _) _) ?_)
  obtain ⟨W6, hW6⟩ : ∃ W6, (W5.alloc (.cells #[.slice none 0 0, .pointer (some ⟨w.heap.size + 1 + 1 + 1, 4, none⟩)] 78)).drew.setCells (w.heap.size + 1) 0 [.slice none 0 0, .pointer (some ⟨w.heap.size + 1 + 1 + 1, 4, none⟩)] = W6 := ⟨_, rfl⟩
  have e6 : W6 = ((W5.alloc (.cells #[.slice none 0 0, .pointer (some ⟨w.heap.size + 1 + 1 + 1, 4, none⟩)] 78)).drew.setCell ⟨w.heap.size + 1, 0, none⟩ (.slice none 0 0)).setCell ⟨w.heap.size + 1, 1, none⟩ (.pointer (some ⟨w.heap.size + 1 + 1 + 1, 4, none⟩)) := by rw [← hW6]; rfl
  rw [hW6]
  have Z0 : W6.heap[w.heap.size]? = some (.cells #[.slice none 0 0] 23) := by rw [e6]; exact blk_set (blk_set (blk_drew (blk_alloc X0.out _)) (by dsimp only; omega) _) (by dsimp only; omega) _
  have Z2 : W6.heap[w.heap.size + 1 + 1]? = some (.cells #[.slice (some ⟨b, o, none⟩) 1 cap, .pointer (some ⟨w.heap.size, 0, none⟩)] 78) := by rw [e6]; exact blk_set (blk_set (blk_drew (blk_alloc X2.out _)) (by dsimp only; omega) _) (by dsimp only; omega) _
  have Z3 : W6.heap[w.heap.size + 1 + 1 + 1]? = some (.cells #[.int .i64 0, .string ⟨#[]⟩, .slice none 0 0, .string ⟨#[]⟩, .slice none 0 0] 28) := by rw [e6]; exact blk_set (blk_set (blk_drew (blk_alloc X3.out _)) (by dsimp only; omega) _) (by dsimp only; omega) _
  have Z4 : W6.heap[w.heap.size + 1 + 1 + 1 + 1]? = some (.cells #[.int .i64 k, .string nm, .slice none 0 0, .string tx, .slice none 0 0] 28) := by rw [e6]; exact blk_set (blk_set (blk_drew (blk_alloc X4.out _)) (by dsimp only; omega) _) (by dsimp only; omega) _
  have Z1 : W6.heap[w.heap.size + 1]? = some (.cells #[.slice none 0 0, .pointer (some ⟨w.heap.size + 1 + 1 + 1, 4, none⟩)] 78) := by rw [e6]; exact blk_set_self (blk_set_self (blk_drew (blk_alloc X1.out _)) 0 _) 1 _
  have hB6 : Below w.heap.size w W6 := by
    rw [e6]
    exact (((hB5.out.alloc hB5.out.size _).drew).setCell (p := ⟨w.heap.size + 1, 0, none⟩) (by simp) _).setCell (p := ⟨w.heap.size + 1, 1, none⟩) (by simp) _
  clear e6 hW6 hl4 hl4' X0 X1 X2 X3 X4 hB5
  have a40 := blk_cell Z4 0
  have a41 := blk_cell Z4 1
  have a42 := blk_cell Z4 2
  have a43 := blk_cell Z4 3
  have a44 := blk_cell Z4 4
  have f42 := blk_frozen Z4 2
  have f44 := blk_frozen Z4 4
  have a30 := blk_cell Z3 0
  have a31 := blk_cell Z3 1
  have a32 := blk_cell Z3 2
  have a33 := blk_cell Z3 3
  have a34 := blk_cell Z3 4
  have f30 := blk_frozen Z3 0
  have f31 := blk_frozen Z3 1
  have f32 := blk_frozen Z3 2
  have f33 := blk_frozen Z3 3
  have f34 := blk_frozen Z3 4
  replace Z0 := Lib.hid Z0
  replace Z1 := Lib.hid Z1
  replace Z2 := Lib.hid Z2
  replace Z3 := Lib.hid Z3
  replace Z4 := Lib.hid Z4
  replace hB6 := Lib.hid hB6
  simp only [List.getElem?_toArray, List.getElem?_cons_zero, List.getElem?_cons_succ] at a40 a41 a42 a43 a44 a30 a31 a32 a33 a34
  go_upto_region 15 with fail
  obtain ⟨W7, hW7⟩ : ∃ W7, ((((((W6.setCell ⟨w.heap.size + 1 + 1 + 1 + 1, 2, none⟩ (.slice none 0 0)).setCell ⟨w.heap.size + 1 + 1 + 1 + 1, 4, none⟩ (.slice none 0 0)).setCell ⟨w.heap.size + 1 + 1 + 1, 0, none⟩ (.int .i64 k)).setCell ⟨w.heap.size + 1 + 1 + 1, 1, none⟩ (.string nm)).setCell ⟨w.heap.size + 1 + 1 + 1, 2, none⟩ (.slice none 0 0)).setCell ⟨w.heap.size + 1 + 1 + 1, 3, none⟩ (.string tx)).setCell ⟨w.heap.size + 1 + 1 + 1, 4, none⟩ (.slice none 0 0) = W7 := ⟨_, rfl⟩
  have Y0 : W7.heap[w.heap.size]? = some (.cells #[.slice none 0 0] 23) := by rw [← hW7]; exact blk_set (blk_set (blk_set (blk_set (blk_set (blk_set (blk_set (Z0.out) (by dsimp only; omega) _) (by dsimp only; omega) _) (by dsimp only; omega) _) (by dsimp only; omega) _) (by dsimp only; omega) _) (by dsimp only; omega) _) (by dsimp only; omega) _
  have Y1 : W7.heap[w.heap.size + 1]? = some (.cells #[.slice none 0 0, .pointer (some ⟨w.heap.size + 1 + 1 + 1, 4, none⟩)] 78) := by rw [← hW7]; exact blk_set (blk_set (blk_set (blk_set (blk_set (blk_set (blk_set (Z1.out) (by dsimp only; omega) _) (by dsimp only; omega) _) (by dsimp only; omega) _) (by dsimp only; omega) _) (by dsimp only; omega) _) (by dsimp only; omega) _) (by dsimp only; omega) _
  have Y2 : W7.heap[w.heap.size + 1 + 1]? = some (.cells #[.slice (some ⟨b, o, none⟩) 1 cap, .pointer (some ⟨w.heap.size, 0, none⟩)] 78) := by rw [← hW7]; exact blk_set (blk_set (blk_set (blk_set (blk_set (blk_set (blk_set (Z2.out) (by dsimp only; omega) _) (by dsimp only; omega) _) (by dsimp only; omega) _) (by dsimp only; omega) _) (by dsimp only; omega) _) (by dsimp only; omega) _) (by dsimp only; omega) _
  have Y3 : W7.heap[w.heap.size + 1 + 1 + 1]? = some (.cells #[.int .i64 k, .string nm, .slice none 0 0, .string tx, .slice none 0 0] 28) := by
    rw [← hW7]
    exact blk_set_self (blk_set_self (blk_set_self (blk_set_self (blk_set_self (blk_set (blk_set Z3.out (by dsimp only; omega) _) (by dsimp only; omega) _) 0 _) 1 _) 2 _) 3 _) 4 _
  have hB7 : Below w.heap.size w W7 := by
    rw [← hW7]
    exact ((((((hB6.out.setCell (p := ⟨w.heap.size + 1 + 1 + 1 + 1, 2, none⟩) (by dsimp only; omega) _).setCell (p := ⟨w.heap.size + 1 + 1 + 1 + 1, 4, none⟩) (by dsimp only; omega) _).setCell (p := ⟨w.heap.size + 1 + 1 + 1, 0, none⟩) (by dsimp only; omega) _).setCell (p := ⟨w.heap.size + 1 + 1 + 1, 1, none⟩) (by dsimp only; omega) _).setCell (p := ⟨w.heap.size + 1 + 1 + 1, 2, none⟩) (by dsimp only; omega) _).setCell (p := ⟨w.heap.size + 1 + 1 + 1, 3, none⟩) (by dsimp only; omega) _).setCell (p := ⟨w.heap.size + 1 + 1 + 1, 4, none⟩) (by dsimp only; omega) _
  rw [hW7]
  clear hW7 a40 a41 a42 a43 a44 f42 f44 a30 a31 a32 a33 a34 f30 f31 f32 f33 f34 Z0 Z1 Z2 Z3 Z4 hB6
  have y00 := blk_cell Y0 0
  have g00 := blk_frozen Y0 0
  have y10 := blk_cell Y1 0
  have y11 := blk_cell Y1 1
  have y20 := blk_cell Y2 0
  have y21 := blk_cell Y2 1
  simp only [List.getElem?_toArray, List.getElem?_cons_zero, List.getElem?_cons_succ] at y00 y10 y11 y20 y21
  have hlt : w.heap.size + 1 < W7.heap.size := blk_lt Y1
  replace Y0 := Lib.hid Y0
  replace Y1 := Lib.hid Y1
  replace Y2 := Lib.hid Y2
  replace Y3 := Lib.hid Y3
  replace hB7 := Lib.hid hB7
  go_wp2
  rw [rounds_succ]
  go_wp2
  rw [rounds_succ]
  go_wp2
  have hfin : ∀ o1, ((W7.setCell ⟨w.heap.size, 0, none⟩ (.slice (some ⟨w.heap.size + 1 + 1 + 1, 0, none⟩) 1 1)).alloc o1).cell? ⟨w.heap.size, 0, none⟩ = some (.slice (some ⟨w.heap.size + 1 + 1 + 1, 0, none⟩) 1 1) := fun o1 => blk_cell (blk_alloc (blk_set_self Y0.out 0 _) o1) 0
  rw [rounds_succ]
  go_wp2
  go_ret
  refine ⟨w.heap.size + 1 + 1 + 1, rfl, by omega, ?_, ?_⟩
  · exact blk_alloc (blk_set Y3.out (by dsimp only; omega) _) _
  · exact (hB7.out.setCell (p := ⟨w.heap.size, 0, none⟩) (Nat.le_refl _) _).alloc (by have := hB7.out.size; simpa using this) _
end Go.Proofs.YtghlodpbbghcoaaDoor
