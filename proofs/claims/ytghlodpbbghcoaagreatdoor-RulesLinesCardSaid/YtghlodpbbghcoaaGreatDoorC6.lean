/- Void and raw elements; plain names; patterns: walked. -/
import Derived.Test.YtghlodpbbghcoaaGreatDoorC5
import Derived.Test.YtghlodpbbghcoaaGreatDoorShelf
namespace Go.Proofs.YtghlodpbbghcoaaGreatDoor
open Go.Lib Go.RowKit
def rawB (s : ByteArray) : Bool := s.toList == [115, 99, 114, 105, 112, 116] || s.toList == [115, 116, 121, 108, 101]
def voidB (s : ByteArray) : Bool := s.toList == [98, 114] || s.toList == [104, 114] || s.toList == [105, 109, 103] || s.toList == [105, 110, 112, 117, 116] || s.toList == [119, 98, 114]
set_option maxHeartbeats 800000 in
theorem raw_any (s : ByteArray) (w : World) : Calls Tryz.prog 89 #[.string s] w fun e w' => e = .returned (.bool (rawB s)) ∧ w' = w := by
  go_enter Tryz.func89, Tryz.ntmps89
  go_wp2
  all_goals go_ret
  all_goals refine ⟨congrArg (fun b => Ending.returned (Value.bool b)) ?_, rfl⟩
  all_goals simp [rawB, *]
set_option maxHeartbeats 800000 in
theorem void_any (s : ByteArray) (w : World) : Calls Tryz.prog 88 #[.string s] w fun e w' => e = .returned (.bool (voidB s)) ∧ w' = w := by
  go_enter Tryz.func88, Tryz.ntmps88
  go_wp2
  all_goals go_ret
  all_goals refine ⟨congrArg (fun b => Ending.returned (Value.bool b)) ?_, rfl⟩
  all_goals simp_all [voidB]

/-- Is a text a plain name? -/
def plainP (s : ByteArray) : Bool := decide (s.size ≤ 16) && namedL s.data.toList
theorem plain_any (s : ByteArray) (hs : s.size ≤ maxLen) (w : World) : Calls Tryz.prog 55 #[.string s] w fun e w' => e = .returned (.bool (plainP s)) ∧ w' = w := by
  have hn := named_any s hs w
  obtain ⟨n, hn0⟩ : ∃ n, namedL s.data.toList = n := ⟨_, rfl⟩
  unfold plainP
  rw [hn0] at hn ⊢
  clear hn0
  by_cases h : s.size ≤ 16
  · go_enter Tryz.func55, Tryz.ntmps55
    go_wp2_with (go_at_call 87; refine hn.mono ?_; rintro e w1 ⟨rfl, rfl⟩)
    go_ret
    simp [h]
  · go_enter Tryz.func55, Tryz.ntmps55
    go_wp2
    go_ret
    simp
end Go.Proofs.YtghlodpbbghcoaaGreatDoor
