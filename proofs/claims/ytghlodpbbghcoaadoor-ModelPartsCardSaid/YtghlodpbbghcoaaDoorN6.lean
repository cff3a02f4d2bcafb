/- The document's right text, walked. -/
import Derived.Test.YtghlodpbbghcoaaDoorN5
import Derived.Test.YtghlodpbbghcoaaDoorU6
import Derived.Lib.ConvBytes
namespace Go.Proofs.YtghlodpbbghcoaaDoor
open Go.Lib Go.RowKit

theorem bytesV_of (w : World) (s : ByteArray) : BytesV (bytesWorld w 5 s) (some ⟨w.heap.size, 0, none⟩) s.size (grownCap w s.size 0 5) s.data.toList :=
  ⟨(Array.length_toList).symm, grownCap_ge w s.size 0 5, fun _ => ⟨_, _, rfl, by rw [bytesWorld_size]; omega, fun j hj => by rw [Nat.zero_add]; exact bytesWorld_cell w 5 s j (by rwa [Array.length_toList] at hj)⟩⟩
theorem below_bytes (w : World) (s : ByteArray) : Below w.heap.size w (bytesWorld w 5 s) :=
  ⟨rfl, rfl, rfl, by rw [bytesWorld_size]; omega, fun k hk => bytesWorld_at_old w 5 s k hk⟩

set_option maxRecDepth 8192 in
set_option maxHeartbeats 1600000 in
theorem is3_any (s : ByteArray) (hs : s.size ≤ 1000000) (w : World) :
    Calls Tryd.prog 74 #[.string s] w fun e w' => e = .returned (.bool (isL s.data.toList)) ∧ Below w.heap.size w w' := by
  have hconv := Lib.run_convert_string_bytes (P := Tryd.prog) w 9 25 5 s Tryd.underlying9 Tryd.underlying25 Tryd.underlying5
  have hright := right_any (some ⟨w.heap.size, 0, none⟩) s.size (grownCap w s.size 0 5) s.data.toList hs _ (bytesV_of w s)
  obtain ⟨W, hW⟩ : ∃ W, bytesWorld w 5 s = W := ⟨_, rfl⟩
  have hBW : Hid (Below w.heap.size w W) := Lib.hid (by rw [← hW]; exact below_bytes w s)
  rw [hW] at hconv hright
  clear hW
  obtain ⟨t, ht⟩ : ∃ t : ByteArray, (⟨(rightL s.data.toList).toArray⟩ : ByteArray) = t := ⟨_, rfl⟩
  have hts : Hid (isL s.data.toList = (t.toList == s.toList)) := Lib.hid (by rw [← ht, ByteArray.toList_mk, ByteArray.toList_eq, isL_iff])
  rw [ht] at hright
  clear ht
  obtain ⟨gc, hgc⟩ : ∃ gc, grownCap w s.size 0 5 = gc := ⟨_, rfl⟩
  rw [hgc] at hconv hright
  clear hgc
  go_enter Tryd.func74, Tryd.ntmps74
  go_wp2_with (go_at_call 7; refine hright.mono ?_; rintro e w2 ⟨rfl, hB2⟩)
  go_ret
  exact ⟨by rw [hts.out]; rfl, hBW.out.trans (hB2.mono hBW.out.size)⟩
end Go.Proofs.YtghlodpbbghcoaaDoor
