/- An attribute's value looked for: walked (what it tells is not said). -/
import Derived.Test.YtghlodpbbghcoaaDoorN8
namespace Go.Proofs.YtghlodpbbghcoaaDoor
open Go.Lib Go.RowKit

/-- A text, and whether. -/
def ValPost (w : World) (e : Ending) (w' : World) : Prop := (∃ (t : ByteArray) (b : Bool), e = .returned (.tuple #[.string t, .bool b])) ∧ Below w.heap.size w w'

set_option maxRecDepth 8192 in
set_option maxHeartbeats 3200000 in
theorem value_safe (k : Int) (nm tx a : ByteArray) (va vk : Value) (al : List (ByteArray × ByteArray)) (w : World) (hr : ARow w (fun b => b < w.heap.size) va al) (hl : al.length ≤ 1000000) :
    Calls Tryd.prog 52 #[.agg #[.int .i64 k, .string nm, va, .string tx, vk], .string a] w (ValPost w) := by
  obtain ⟨A, cap, rfl, hc, hat⟩ := hr
  obtain ⟨n, hn⟩ : ∃ n, al.length = n := ⟨_, rfl⟩
  rw [hn] at hc hl ⊢
  replace hn := Lib.hid hn
  replace hat := Lib.hid hat
  go_enter Tryd.func52, Tryd.ntmps52
  go_upto_region 2 with fail
  obtain ⟨W, hW⟩ : ∃ W, w.alloc (.cells #[.int .i64 k, .string nm, .slice A n cap, .string tx, vk] 28) = W := ⟨_, rfl⟩
  have hB : Hid (Below w.heap.size w W) := Lib.hid (by rw [← hW]; exact (Below.refl _ w).alloc (Nat.le_refl _) _)
  have hc2 : W.cell? ⟨w.heap.size, 2, none⟩ = some (.slice A n cap) := by rw [← hW, World.cell?_alloc_new]; rfl
  rw [hW]
  clear hW
  go_loop [6] (fun i => ∃ k : Nat, k ≤ n ∧ i = .int .i64 k) (fun i => n - (Lib.intOf i).toNat)
  case atStart => exact ⟨0, Nat.zero_le _, rfl⟩
  case round =>
    obtain ⟨j, hj, rfl⟩ := hrel
    by_cases hlt : j < n
    · obtain ⟨b, o, rfl, hb, h0, h1⟩ := hat.out j (by rw [hn.out]; exact hlt)
      have hi0 : (0 : Int) ≤ (j : Int) := by omega
      have hi1 : (j : Int) < (n : Int) := by omega
      obtain ⟨s0, hs0⟩ : ∃ s, (al[j]'(by rw [hn.out]; exact hlt)).1 = s := ⟨_, rfl⟩
      obtain ⟨s1, hs1⟩ : ∃ s, (al[j]'(by rw [hn.out]; exact hlt)).2 = s := ⟨_, rfl⟩
      rw [hs0] at h0
      rw [hs1] at h1
      have g0 : W.cell? ⟨b, o + j * 2, none⟩ = some (.string s0) := (hB.out.cell (p := ⟨b, o + j * 2, none⟩) hb).trans h0
      have g1 : W.cell? ⟨b, o + j * 2 + 1, none⟩ = some (.string s1) := (hB.out.cell (p := ⟨b, o + j * 2 + 1, none⟩) hb).trans h1
      clear hs0 hs1 h0 h1
      go_wp2
      all_goals first
        | (go_ret2
           exact ⟨⟨s1, true, rfl⟩, hB.out⟩)
        | exact ⟨⟨j + 1, by omega, by simp⟩, by simp [Lib.intOf]; omega⟩
    · have hkn : j = n := by omega
      subst hkn
      go_wp2
      go_ret2
      exact ⟨⟨⟨#[]⟩, false, rfl⟩, hB.out⟩
end Go.Proofs.YtghlodpbbghcoaaDoor
