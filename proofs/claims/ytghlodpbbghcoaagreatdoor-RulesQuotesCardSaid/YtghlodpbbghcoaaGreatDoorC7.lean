/- The document's void and raw elements: walked. -/
import Derived.Test.YtghlodpbbghcoaaGreatDoorC6
namespace Go.Proofs.YtghlodpbbghcoaaGreatDoor
open Go.Lib Go.RowKit
set_option maxHeartbeats 800000 in
theorem raw76_any (s : ByteArray) (w : World) : Calls Tryz.prog 84 #[.string s] w fun e w' => e = .returned (.bool (rawB s)) ∧ w' = w := by
  go_enter Tryz.func84, Tryz.ntmps84
  go_wp2
  all_goals go_ret
  all_goals refine ⟨congrArg (fun b => Ending.returned (Value.bool b)) ?_, rfl⟩
  all_goals simp [rawB, *]
set_option maxHeartbeats 1600000 in
theorem void75_any (s : ByteArray) (w : World) : Calls Tryz.prog 83 #[.string s] w fun e w' => e = .returned (.bool (voidB s)) ∧ w' = w := by
  go_enter Tryz.func83, Tryz.ntmps83
  go_wp2
  all_goals go_ret
  all_goals refine ⟨congrArg (fun b => Ending.returned (Value.bool b)) ?_, rfl⟩
  all_goals simp_all [voidB]
end Go.Proofs.YtghlodpbbghcoaaGreatDoor
