/- Closes, walked. -/
import Derived.Test.YtghlodpbbghcoaaDoorSB
import Derived.Test.YtghlodpbbghcoaaDoorShelf
namespace Go.Proofs.YtghlodpbbghcoaaDoor
open Go.RowKit Go.Maps

theorem contains_row (v : Value) (zs : List ByteArray) (x : ByteArray) (w : World) (hz : zs.length ≤ 100) (h : TextRow w v zs) :
    Calls Tryd.prog 41 #[v, .string x] w fun e w' => e = .returned (.bool (Lib.containsS zs x)) ∧ w' = w := by
  rcases h with ⟨rfl, rfl⟩ | ⟨g, rfl, hc⟩
  · refine (Tryd.slices_Contains_string_empty none 0 x w).mono ?_
    rintro e w' ⟨rfl, rfl⟩
    exact ⟨rfl, rfl⟩
  · refine (Tryd.slices_Contains_string g 0 zs.length zs.length zs x w (Nat.le_refl _) (by omega) hc).mono ?_
    rintro e w' ⟨rfl, rfl⟩
    rw [List.take_length]
    exact ⟨rfl, rfl⟩
theorem closersOf_few (o : List UInt8) : (closersOf o).length ≤ 100 := by
  unfold closersOf
  repeat' split
  all_goals decide

set_option maxHeartbeats 1600000 in
theorem closes_any (o x : ByteArray) (ho : o.size ≤ maxLen) (w : World) :
    Calls Tryd.prog 19 #[.string o, .string x] w fun e w' => e = .returned (.bool (Lib.containsS (closersOf o.data.toList) x)) ∧ Below w.heap.size w w' := by
  go_enter Tryd.func19, Tryd.ntmps19
  go_wp2_with (first
    | (go_at_call 39
       refine (closers_any _).mono ?_
       rintro e w1 ⟨b, rfl, hm⟩
       obtain ⟨v, hrun, hrow⟩ := hm.look o ho
       have hrow := Lib.hid hrow)
    | (go_at_call 41; refine (contains_row _ _ _ _ (closersOf_few _) hrow.out).mono ?_; rintro e w2 ⟨rfl, rfl⟩))
  go_ret
  obtain ⟨_, _, _, _, _, _, _, _, _, _, hB⟩ := hm
  exact ⟨rfl, hB⟩
end Go.Proofs.YtghlodpbbghcoaaDoor
