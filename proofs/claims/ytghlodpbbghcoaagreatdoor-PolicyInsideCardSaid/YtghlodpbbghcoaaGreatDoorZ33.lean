/- Does a pattern fit a name: walked. -/
import Derived.Test.YtghlodpbbghcoaaGreatDoorZ21
import Derived.Test.YtghlodpbbghcoaaGreatDoorZ15
import Derived.Test.YtghlodpbbghcoaaGreatDoorShelf
namespace Go.Proofs.YtghlodpbbghcoaaGreatDoor
open Go.Lib Go.RowKit Go.Maps
def fitsP (p nm : ByteArray) : Bool := plainP (stemP p) && (nm.toList == (stemP p).toList || (manyP p && Lib.hasPrefix nm.data.toList (stemP p).data.toList))
set_option maxRecDepth 8192 in
set_option maxHeartbeats 1600000 in
theorem fits_any (p nm : ByteArray) (hp : p.size ≤ 140737488355328) (w : World) : Calls Tryz.prog 13 #[.string p, .string nm] w fun e w' => e = .returned (.bool (fitsP p nm)) ∧ w' = w := by
  have hpa := pattern_any p hp w
  have hpx := Tryz.strings_HasPrefix nm (stemP p) w
  unfold fitsP
  obtain ⟨st, hst⟩ : ∃ st, stemP p = st := ⟨_, rfl⟩
  rw [hst] at hpa hpx ⊢
  obtain ⟨ok, hok⟩ : ∃ b, plainP st = b := ⟨_, rfl⟩
  obtain ⟨eq, heq⟩ : ∃ b, (nm.toList == st.toList) = b := ⟨_, rfl⟩
  obtain ⟨many, hmany⟩ : ∃ b, manyP p = b := ⟨_, rfl⟩
  obtain ⟨px, hpx0⟩ : ∃ b, Lib.hasPrefix nm.data.toList st.data.toList = b := ⟨_, rfl⟩
  rw [hok, hmany] at hpa
  rw [hpx0] at hpx
  rw [hok, heq, hmany, hpx0]
  clear hok hmany hpx0 hst
  cases ok
  all_goals cases eq
  all_goals cases many
  all_goals go_enter Tryz.func13, Tryz.ntmps13
  all_goals go_wp2_with (first
    | (go_at_call 34; refine hpa.mono ?_; rintro e5 w5 ⟨rfl, e6⟩; obtain rfl := e6.symm)
    | (go_at_call 35; refine hpx.mono ?_; rintro e5 w5 ⟨rfl, e6⟩; obtain rfl := e6.symm))
  all_goals go_ret
  all_goals exact ⟨by simp, rfl⟩
end Go.Proofs.YtghlodpbbghcoaaGreatDoor
