/- Fits at the document's two nodes. -/
import Derived.Test.YtghlodpbbghcoaaDoorM4
import Derived.Deep.RegionWith
import Derived.Deep.RegionHeld3
namespace Go.Proofs.YtghlodpbbghcoaaDoor
open Go.RowKit Go.Maps

theorem below_drewN {n : Nat} {a w : World} (h : Below n a w) (k : Nat) : Below n a (w.drewN k) := ⟨h.1, h.2, h.3, h.4, h.5⟩
def pB : ByteArray := ⟨#[112]⟩
def scriptB : ByteArray := ⟨#[115, 99, 114, 105, 112, 116]⟩
set_option maxHeartbeats 800000 in
theorem void_p (w : World) : Calls Tryd.prog 30 #[.string pB] w fun e w' => e = .returned (.bool false) ∧ w' = w := by
  unfold pB
  go_enter Tryd.func30, Tryd.ntmps30
  go_wp2
  go_ret
  exact ⟨rfl, rfl⟩
set_option maxHeartbeats 800000 in
theorem void_script (w : World) : Calls Tryd.prog 30 #[.string scriptB] w fun e w' => e = .returned (.bool false) ∧ w' = w := by
  unfold scriptB
  go_enter Tryd.func30, Tryd.ntmps30
  go_wp2
  go_ret
  exact ⟨rfl, rfl⟩
set_option maxHeartbeats 800000 in
theorem raw_p (w : World) : Calls Tryd.prog 31 #[.string pB] w fun e w' => e = .returned (.bool false) ∧ w' = w := by
  unfold pB
  go_enter Tryd.func31, Tryd.ntmps31
  go_wp2
  go_ret
  exact ⟨rfl, rfl⟩
set_option maxHeartbeats 800000 in
theorem raw_script (w : World) : Calls Tryd.prog 31 #[.string scriptB] w fun e w' => e = .returned (.bool true) ∧ w' = w := by
  unfold scriptB
  go_enter Tryd.func31, Tryd.ntmps31
  go_wp2
  go_ret
  exact ⟨rfl, rfl⟩
set_option maxHeartbeats 1600000 in
theorem fits_p (x y : ByteArray) (a k : Value) (ha : a = .slice none 0 0) (hk : k = .slice none 0 0) (w : World) :
    Calls Tryd.prog 17 #[.string pB, .agg #[.int .i64 1, .string x, a, .string y, k]] w fun e w' => e = .returned (.bool (!Lib.containsS (closersOf [112]) x)) ∧ Below w.heap.size w w' := by
  subst ha hk
  go_enter Tryd.func17, Tryd.ntmps17
  go_wp2_with (first
    | (go_at_call 30; refine (void_p _).mono ?_; rintro e w2 ⟨rfl, rfl⟩)
    | (go_at_call 31; refine (raw_p _).mono ?_; rintro e w2 ⟨rfl, rfl⟩)
    | (go_at_call 19; refine (closes_any pB x (by decide) _).mono ?_; rintro e w2 ⟨rfl, hB⟩))
  go_ret
  exact ⟨rfl, ((Below.refl w.heap.size w).alloc (Nat.le_refl _) _).trans (hB.mono (by simp))⟩

set_option maxHeartbeats 1600000 in
/-- In a raw element no element fits. -/
theorem fits_script (x y : ByteArray) (w : World) :
    Calls Tryd.prog 17 #[.string scriptB, .agg #[.int .i64 1, .string x, .slice none 0 0, .string y, .slice none 0 0]] w fun e w' => e = .returned (.bool false) ∧ Below w.heap.size w w' := by
  go_enter Tryd.func17, Tryd.ntmps17
  go_wp2_with (first
    | (go_at_call 30; refine (void_script _).mono ?_; rintro e w2 ⟨rfl, rfl⟩)
    | (go_at_call 31; refine (raw_script _).mono ?_; rintro e w2 ⟨rfl, rfl⟩))
  go_quiet (fail)
  go_wp2
  go_ret
  exact ⟨rfl, below_drewN ((Below.refl w.heap.size w).alloc (Nat.le_refl _) _) _⟩
end Go.Proofs.YtghlodpbbghcoaaDoor
