/- A builder's writing, walked. -/
import Derived.Test.YtghlodpbbghcoaaDoorShelf
import Derived.Test.YtghlodpbbghcoaaDoorBlk
import Derived.Test.YtghlodpbbghcoaaDoorU5
import Derived.Lib.AppendStr
import Derived.Lib.Builder
namespace Go.Proofs.YtghlodpbbghcoaaDoor
open Go.Lib Go.RowKit

theorem size49 : (Tryd.prog.info? 49).map (·.size) = some 2 := by kernel_rfl
theorem lies49 : liesAt Tryd.prog Tryd.prog.depth 49 (2 / Tryd.prog.cellsOf 49) 0 49 1 = true := by kernel_rfl

set_option maxHeartbeats 1000000 in
set_option maxRecDepth 100000 in
theorem copyCheck_used (b : Nat) (w : World) (h0 : w.cell? ⟨b, 0, none⟩ = some (.pointer (some ⟨b, 0, none⟩))) :
    Calls Tryd.prog 48 #[.pointer (some ⟨b, 0, none⟩)] w fun e w' => e = .returned (.tuple #[]) ∧ w' = w := by
  obtain ⟨j, hj, _⟩ := Option.map_eq_some_iff.1 size49
  go_enter Tryd.func48, Tryd.ntmps48
  go_wp2
  try rw [Lib.run_neq_ptr_same w _ Tryd.underlying47 hj]
  go_wp2
  go_end0
  exact ⟨rfl, rfl⟩

set_option maxHeartbeats 1000000 in
set_option maxRecDepth 100000 in
theorem copyCheck_fresh (b : Nat) (w : World) (h0 : w.cell? ⟨b, 0, none⟩ = some (.pointer none)) (hsh : w.shape? b = some (49, 2)) (hfz : w.frozen? ⟨b, 0, none⟩ = false) :
    Calls Tryd.prog 48 #[.pointer (some ⟨b, 0, none⟩)] w fun e w' => e = .returned (.tuple #[]) ∧ w' = w.setCell ⟨b, 0, none⟩ (.pointer (some ⟨b, 0, none⟩)) := by
  obtain ⟨j, hj, hjs⟩ := Option.map_eq_some_iff.1 size49
  go_enter Tryd.func48, Tryd.ntmps48
  go_wp2
  rw [Lib.run_to_unsafe w ⟨b, 0, none⟩ Tryd.underlying47 Tryd.underlying94 hj (by rw [hjs]; decide) hsh (Nat.zero_lt_succ 1)]
  simp only [Result.andThen]
  rw [Oper.upon_value]
  go_wp2
  rw [run_callFunc_extern Tryd.func70 (by kernel_rfl) (by kernel_rfl) (by kernel_rfl) (e := Extern.AbiNoEscape.same) (by kernel_rfl)]
  rw [Lib.run_noEscape]
  simp only [Result.andThen]
  rw [Oper.upon_value]
  go_wp2
  rw [Lib.run_from_unsafe w ⟨b, 0, none⟩ Tryd.underlying94 Tryd.underlying47 hj hsh lies49]
  simp only [Result.andThen]
  rw [Oper.upon_value]
  go_wp2
  go_end0
  exact ⟨rfl, rfl⟩

theorem copyCheck_any (B b : Nat) (bs : List Value) (w : World) (h : Lib.IsBuilder 49 5 B b bs w) :
    Calls Tryd.prog 48 #[.pointer (some ⟨b, 0, none⟩)] w fun e w' => e = .returned (.tuple #[]) ∧ (Lib.BuilderAt 49 5 B b (.pointer (some ⟨b, 0, none⟩)) bs w' ∧ Below B w w') := by
  rcases h with h | h
  · refine (copyCheck_fresh b w h.cell0 h.shape h.frozen0).mono ?_
    rintro e w' ⟨rfl, rfl⟩
    exact ⟨rfl, h.used _, (Below.refl B w).setCell (p := ⟨b, 0, none⟩) h.1 _⟩
  · refine (copyCheck_used b w h.cell0).mono ?_
    rintro e w' ⟨rfl, rfl⟩
    exact ⟨rfl, h, Below.refl B _⟩

set_option maxHeartbeats 2000000 in
set_option maxRecDepth 100000 in
/-- A BUILDER'S WRITING OF A TEXT. -/
theorem writeString_any (B b : Nat) (bs : List Value) (s : ByteArray) (w : World) (h : Lib.IsBuilder 49 5 B b bs w) (hlen : bs.length + s.size ≤ 1000000) (hBw : B ≤ w.heap.size) :
    Calls Tryd.prog 27 #[.pointer (some ⟨b, 0, none⟩), .string s] w fun e w' => (∃ v, e = .returned v) ∧ (Lib.BuilderAt 49 5 B b (.pointer (some ⟨b, 0, none⟩)) (bs ++ strCells s) w' ∧ Below B w w') := by
  obtain ⟨i0, hi, hz0, hz1, hz2⟩ := info_parts info5
  go_enter Tryd.func27, Tryd.ntmps27
  go_wp2_with (go_at_call 48; refine (copyCheck_any B b bs _ h).mono ?_)
  rintro e w1 ⟨rfl, h1, hb1⟩
  obtain ⟨hB, v, hbk, hown, hne⟩ := h1
  have hsz := Lib.hid hb1.size
  have c1 : w1.cell? ⟨b, 1, none⟩ = some v := by rw [blk_cell hbk]; rfl
  have f1 : w1.frozen? ⟨b, 1, none⟩ = false := blk_frozen hbk 1
  go_wp2_with (at_builtin; refine wpList_append_own_string _ rfl _ _ 25 9 rfl B 5 i0 Tryd.underlying25 Tryd.underlying9 hi hz0 hz1 hz2 _ bs.length bs rfl hown s rfl (by unfold maxLen; omega) (by omega) (by have := hsz.out; omega) ?_; intro v' w2 hown2 hg2 hnil2; have hbk2 := blk_grown hbk hg2 hne; have c2 : w2.cell? ⟨b, 1, none⟩ = some v := blk_cell hbk2 1; have f2 : w2.frozen? ⟨b, 1, none⟩ = false := blk_frozen hbk2 1; obtain ⟨A2, cap2, rfl, hcap2, hc2⟩ := own_cell hown2)
  go_ret2
  refine ⟨⟨_, rfl⟩, ?_, ?_⟩
  · exact Lib.BuilderAt.put (T := 49) (e := 5) hB hbk2 (bs' := bs ++ strCells s) (by simpa [strCells_length] using hown2) (by decide)
  · exact (hb1.trans ((Below.refl B w1).grown hg2 (by have := hsz.out; omega) (fun j hj => (hown.lt j hj).1))).setCell (p := ⟨b, 1, none⟩) hB _
end Go.Proofs.YtghlodpbbghcoaaDoor
