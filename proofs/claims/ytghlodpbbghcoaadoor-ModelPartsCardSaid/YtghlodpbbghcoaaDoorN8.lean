/- Of a text an element's name, an attribute's name: walked. -/
import Derived.Test.YtghlodpbbghcoaaDoorN7
namespace Go.Proofs.YtghlodpbbghcoaaDoor
open Go.Lib Go.RowKit

def wordsL : List ByteArray := [⟨#[97]⟩, ⟨#[98]⟩, ⟨#[112]⟩, ⟨#[117, 108]⟩, ⟨#[108, 105]⟩, ⟨#[98, 114]⟩, ⟨#[105, 109, 103]⟩, ⟨#[100, 105, 118]⟩, ⟨#[115, 99, 114, 105, 112, 116]⟩, ⟨#[120, 45, 121]⟩]
def attrsL : List ByteArray := [⟨#[105, 100]⟩, ⟨#[104, 114, 101, 102]⟩, ⟨#[116, 105, 116, 108, 101]⟩, ⟨#[100, 97, 116, 97, 45, 97]⟩, ⟨#[111, 110, 99, 108, 105, 99, 107]⟩]
theorem wordsL_small : ∀ j, (wordsL.getD j ByteArray.empty).size ≤ 10 := by
  intro j
  rcases j with _ | _ | _ | _ | _ | _ | _ | _ | _ | _ | j <;> first | decide | exact Nat.zero_le _
theorem attrsL_small : ∀ j, (attrsL.getD j ByteArray.empty).size ≤ 10 := by
  intro j
  rcases j with _ | _ | _ | _ | _ | j <;> first | decide | exact Nat.zero_le _
theorem wordsL_cell (w : World) (j : Nat) (hj : j < 10) : (w.alloc (.cells #[.string ⟨#[97]⟩, .string ⟨#[98]⟩, .string ⟨#[112]⟩, .string ⟨#[117, 108]⟩, .string ⟨#[108, 105]⟩, .string ⟨#[98, 114]⟩, .string ⟨#[105, 109, 103]⟩, .string ⟨#[100, 105, 118]⟩, .string ⟨#[115, 99, 114, 105, 112, 116]⟩, .string ⟨#[120, 45, 121]⟩] 9)).cell? ⟨w.heap.size, j, none⟩ = some (.string (wordsL.getD j ByteArray.empty)) := by
  rw [World.cell?_alloc_new]
  rcases j with _ | _ | _ | _ | _ | _ | _ | _ | _ | _ | j <;> first | rfl | omega
theorem attrsL_cell (w : World) (j : Nat) (hj : j < 5) : (w.alloc (.cells #[.string ⟨#[105, 100]⟩, .string ⟨#[104, 114, 101, 102]⟩, .string ⟨#[116, 105, 116, 108, 101]⟩, .string ⟨#[100, 97, 116, 97, 45, 97]⟩, .string ⟨#[111, 110, 99, 108, 105, 99, 107]⟩] 9)).cell? ⟨w.heap.size, j, none⟩ = some (.string (attrsL.getD j ByteArray.empty)) := by
  rw [World.cell?_alloc_new]
  rcases j with _ | _ | _ | _ | _ | j <;> first | rfl | omega

set_option maxRecDepth 8192 in
set_option maxHeartbeats 3200000 in
theorem attribute_any (s : ByteArray) (hs : s.size ≤ 1000000) (w : World) :
    Calls Tryd.prog 51 #[.string s] w fun e w' => (∃ t : ByteArray, e = .returned (.string t) ∧ t.size ≤ s.size + 10) ∧ Below w.heap.size w w' := by
  have hat := attributed3_any s hs w
  obtain ⟨a, ha⟩ : ∃ a, attrL s.data.toList = a := ⟨_, rfl⟩
  rw [ha] at hat
  clear ha
  have hmax : s.size ≤ 9223372036854775807 := by omega
  obtain ⟨m, hm⟩ : ∃ m, s.size % 5 = m := ⟨_, rfl⟩
  have hm5 : m < 5 := by omega
  have hm2 : (s.size : Int).tmod 5 = (m : Int) := by rw [Int.tmod_eq_emod_of_nonneg (by omega)]; omega
  cases a
  · go_enter Tryd.func51, Tryd.ntmps51
    go_wp2_with (go_at_call 72; refine hat.mono ?_; rintro e w1 ⟨rfl, hB⟩; have hcell := attrsL_cell w1 m hm5)
    go_ret
    exact ⟨⟨attrsL.getD m ByteArray.empty, by rw [List.getD_eq_getElem?_getD]; rfl, by have := attrsL_small m; omega⟩, hB.alloc hB.size _⟩
  · go_enter Tryd.func51, Tryd.ntmps51
    go_wp2_with (go_at_call 72; refine hat.mono ?_; rintro e w1 ⟨rfl, hB⟩)
    go_ret
    exact ⟨⟨s, rfl, by omega⟩, hB⟩

set_option maxRecDepth 8192 in
set_option maxHeartbeats 3200000 in
theorem word_any (s : ByteArray) (hs : s.size ≤ 1000000) (w : World) :
    Calls Tryd.prog 50 #[.string s] w fun e w' => (∃ t : ByteArray, e = .returned (.string t) ∧ t.size ≤ s.size + 10) ∧ Below w.heap.size w w' := by
  have hat := named3_any s (Nat.le_trans hs (by unfold maxLen; decide))
  obtain ⟨a, ha⟩ : ∃ a, namedL s.data.toList = a := ⟨_, rfl⟩
  rw [ha] at hat
  clear ha
  have hmax : s.size ≤ 9223372036854775807 := by omega
  have hcell := wordsL_cell w
  go_enter Tryd.func50, Tryd.ntmps50
  go_upto_region 4 with fail
  obtain ⟨W, hW⟩ : ∃ W, w.alloc (.cells #[.string ⟨#[97]⟩, .string ⟨#[98]⟩, .string ⟨#[112]⟩, .string ⟨#[117, 108]⟩, .string ⟨#[108, 105]⟩, .string ⟨#[98, 114]⟩, .string ⟨#[105, 109, 103]⟩, .string ⟨#[100, 105, 118]⟩, .string ⟨#[115, 99, 114, 105, 112, 116]⟩, .string ⟨#[120, 45, 121]⟩] 9) = W := ⟨_, rfl⟩
  have hB : Hid (Below w.heap.size w W) := Lib.hid (by rw [← hW]; exact (Below.refl _ w).alloc (Nat.le_refl _) _)
  have hWs : Hid (w.heap.size < W.heap.size) := Lib.hid (by rw [← hW]; simp)
  rw [hW] at hcell ⊢
  replace hcell := Lib.hid hcell
  clear hW
  go_loop [4, 5] (fun n i => ∃ k m : Nat, k ≤ s.size ∧ i = .int .i64 k ∧ n = .int .i64 m ∧ m ≤ 255 * k) (fun _ i => s.size - (Lib.intOf i).toNat)
  case atStart => exact ⟨0, 0, Nat.zero_le _, rfl, rfl, Nat.zero_le _⟩
  case round =>
    obtain ⟨k, m, hk, rfl, rfl, hm⟩ := hrel
    by_cases hlt : k < s.size
    · obtain ⟨cb, hcb⟩ : ∃ cb : UInt8, s[k] = cb := ⟨_, rfl⟩
      have hi0 : (0 : Int) ≤ (k : Int) := by omega
      have hi1 : (k : Int) < (s.size : Int) := by omega
      have hc256 := cb.toNat_lt
      have hc2 : (cb.toNat : Int) ≤ 255 := by omega
      go_wp2
      refine ⟨⟨k + 1, m + cb.toNat, by omega, by simp, by simp, by omega⟩, by simp [Lib.intOf]; omega⟩
    · obtain ⟨q, hq⟩ : ∃ q, m % 10 = q := ⟨_, rfl⟩
      have hq10 : q < 10 := by omega
      have hq2 : (m : Int).tmod 10 = (q : Int) := by rw [Int.tmod_eq_emod_of_nonneg (by omega)]; omega
      have hc := hcell.out q hq10
      have hkn : k = s.size := by omega
      subst hkn
      cases a
      · go_wp2_with (go_at_call 71; refine (hat _).mono ?_; rintro e w1 ⟨rfl, rfl⟩)
        go_ret
        exact ⟨⟨wordsL.getD q ByteArray.empty, by rw [List.getD_eq_getElem?_getD]; rfl, by have := wordsL_small q; omega⟩, hB.out⟩
      · go_wp2_with (go_at_call 71; refine (hat _).mono ?_; rintro e w1 ⟨rfl, rfl⟩)
        go_ret
        exact ⟨⟨s, rfl, by omega⟩, hB.out⟩
end Go.Proofs.YtghlodpbbghcoaaDoor
