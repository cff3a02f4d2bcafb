/- Closes, walked. -/
import Derived.Test.YtghlodpbbghcoaaGreatDoorC3
import Derived.Test.YtghlodpbbghcoaaGreatDoorShelf
namespace Go.Proofs.YtghlodpbbghcoaaGreatDoor
open Go.RowKit Go.Maps

theorem contains_row (v : Value) (zs : List ByteArray) (x : ByteArray) (w : World) (hz : zs.length ≤ 100) (h : TextRow w v zs) :
    Calls Tryz.prog 40 #[v, .string x] w fun e w' => e = .returned (.bool (Lib.containsS zs x)) ∧ w' = w := by
  rcases h with ⟨rfl, rfl⟩ | ⟨g, rfl, hc⟩
  · refine (Tryz.slices_Contains_string_empty none 0 x w).mono ?_
    rintro e w' ⟨rfl, rfl⟩
    exact ⟨rfl, rfl⟩
  · refine (Tryz.slices_Contains_string g 0 zs.length zs.length zs x w (Nat.le_refl _) (by omega) hc).mono ?_
    rintro e w' ⟨rfl, rfl⟩
    rw [List.take_length]
    exact ⟨rfl, rfl⟩
theorem closersOf_few (o : List UInt8) : (closersOf o).length ≤ 100 := by
  unfold closersOf
  repeat' split
  all_goals decide

set_option maxHeartbeats 1600000 in
theorem closes_any (o x : ByteArray) (ho : o.size ≤ maxLen) (w : World) :
    Calls Tryz.prog 90 #[.string o, .string x] w fun e w' => e = .returned (.bool (Lib.containsS (closersOf o.data.toList) x)) ∧ Below w.heap.size w w' := by
  go_enter Tryz.func90, Tryz.ntmps90
  go_wp2_with (first
    | (go_at_call 105
       refine (closers_any _).mono ?_
       rintro e w1 ⟨b, rfl, hm⟩
       obtain ⟨v, hrun, hrow⟩ := hm.look o ho
       have hrow := Lib.hid hrow)
    | (go_at_call 40; refine (contains_row _ _ _ _ (closersOf_few _) hrow.out).mono ?_; rintro e w2 ⟨rfl, rfl⟩))
  go_ret
  obtain ⟨_, _, _, _, _, _, _, _, _, _, hB⟩ := hm
  exact ⟨rfl, hB⟩
end Go.Proofs.YtghlodpbbghcoaaGreatDoor
