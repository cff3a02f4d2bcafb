/- The first 30 bytes; an attribute's value looked for. -/
import Derived.Test.YtghlodpbbghcoaaDoorN3
import Derived.Test.YtghlodpbbghcoaaDoorSC
import Derived.OwnWalk
namespace Go.Proofs.YtghlodpbbghcoaaDoor
open Go.Lib Go.RowKit
def cut30 (s : ByteArray) : ByteArray := if 30 < s.size then s.extract 0 30 else s
theorem cut30_size (s : ByteArray) : (cut30 s).size ≤ 30 := by
  unfold cut30
  split
  · rw [ByteArray.size_extract]; omega
  · omega

set_option maxRecDepth 8192 in
theorem few30_any (s : ByteArray) (w : World) : Calls Tryd.prog 49 #[.string s] w fun e w' => e = .returned (.string (cut30 s)) ∧ w' = w := by
  go_enter Tryd.func49, Tryd.ntmps49
  by_cases h : 30 < s.size
  · go_wp2
    go_ret
    exact ⟨by rw [cut30, if_pos h]; rfl, rfl⟩
  · go_wp2
    go_ret
    exact ⟨by rw [cut30, if_neg h]; rfl, rfl⟩
end Go.Proofs.YtghlodpbbghcoaaDoor
