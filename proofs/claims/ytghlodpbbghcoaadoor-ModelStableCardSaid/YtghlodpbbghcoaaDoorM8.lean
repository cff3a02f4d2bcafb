/- Stable of no nodes; the document's examples. -/
import Derived.Test.YtghlodpbbghcoaaDoorM7
namespace Go.Proofs.YtghlodpbbghcoaaDoor
open Go.RowKit Go.Shelf

set_option maxHeartbeats 800000 in
theorem raw_none (w : World) : Calls Tryd.prog 31 #[.string ⟨#[]⟩] w fun e w' => e = .returned (.bool false) ∧ w' = w := by
  go_enter Tryd.func31, Tryd.ntmps31
  go_wp2
  go_ret
  exact ⟨rfl, rfl⟩

set_option maxRecDepth 8192 in
set_option maxHeartbeats 1600000 in
theorem stable_nil (w : World) :
    Calls Tryd.prog 14 #[.slice none 0 0] w fun e w' => e = .returned (.bool true) ∧ Below w.heap.size w w' := by
  go_enter Tryd.func14, Tryd.ntmps14
  go_wp2_with (go_at_call 8; refine (may_nil _).mono ?_; rintro e w1 ⟨rfl, hB⟩)
  go_loopw [3] (fun v wr => ∃ k : Nat, k ≤ 1 ∧ v = .slice (some ⟨w1.heap.size, 0, none⟩) k 1 ∧ wr.cell? ⟨w1.heap.size, 0, none⟩ = some (.string ⟨#[]⟩) ∧ wr.cell? ⟨w1.heap.size, 1, none⟩ = some (.slice none 0 0) ∧ Below (w1.heap.size + 1) (w1.alloc (.cells #[.string ⟨#[]⟩, .slice none 0 0] 62)) wr)
    (fun v _ => match v with | .slice _ n _ => n | _ => 0)
  case atStart => exact ⟨1, Nat.le_refl _, rfl, by simp, by simp, Below.refl _ _⟩
  case round =>
    obtain ⟨k, hk, rfl, hc0, hc1, hb⟩ := hrel
    obtain ⟨wo, rfl⟩ : ∃ wo : World, wo = wr := ⟨_, rfl⟩
    go_wp2_with (go_at_call 31; refine (raw_none _).mono ?_; rintro e w' ⟨rfl, rfl⟩)
    · have hk1 : k = 1 := by omega
      subst hk1
      go_loopw [3, 39] (fun v i wr => v = .slice (some ⟨w1.heap.size, 0, none⟩) 0 1 ∧ i = .int .i64 0 ∧ wr = wo.alloc (.cells #[.string ⟨#[]⟩, .slice none 0 0] 62)) (fun _ _ _ => 0)
      case atStart => exact ⟨rfl, rfl, rfl⟩
      case round =>
        obtain ⟨rfl, rfl, rfl⟩ := hrel
        go_wp2
        have hlt : w1.heap.size + 1 ≤ wo.heap.size := by have := hb.size; simpa using this
        refine ⟨⟨0, Nat.zero_le _, rfl, ?_, ?_, hb.alloc hlt _⟩, Nat.zero_lt_one⟩
        · exact (World.cell?_alloc_lt _ _ _ (by exact hlt)).trans hc0
        · exact (World.cell?_alloc_lt _ _ _ (by exact hlt)).trans hc1
    · go_ret
      exact ⟨rfl, hB.trans ((((Below.refl w1.heap.size w1).alloc (Nat.le_refl _) _).trans (hb.mono (Nat.le_succ _))).mono hB.size)⟩

/-- THE DOCUMENT's EXAMPLES. -/
theorem div_closes : Lib.containsS (closersOf [112]) ⟨#[100, 105, 118]⟩ = true := by decide
set_option maxRecDepth 8192 in
set_option maxHeartbeats 1600000 in
theorem lives_any (w : World) :
    Calls Tryd.prog 16 #[] w fun e w' => e = .returned (.bool true) ∧ Below w.heap.size w w' := by
  have h1 := div_closes
  have h2 : (Value.string ⟨#[112]⟩) = .string pB := rfl
  go_enter Tryd.func16, Tryd.ntmps16
  go_wp2_with (first
    | (go_at_call 19; refine (closes_any ⟨#[112]⟩ ⟨#[100, 105, 118]⟩ (by decide) _).mono ?_; rintro e w1 ⟨rfl, hB1⟩)
    | (go_at_call_of 17 (Value.string ⟨#[112]⟩); refine (fits_p _ _ _ _ rfl rfl _).mono ?_; rintro e w2 ⟨rfl, hB2⟩)
    | (go_at_call_of 17 (Value.string ⟨#[115, 99, 114, 105, 112, 116]⟩); refine (fits_script _ _ _).mono ?_; rintro e w3 ⟨rfl, hB3⟩)
    | (go_at_call 14; refine (stable_nil _).mono ?_; rintro e w4 ⟨rfl, hB4⟩))
  go_ret
  exact ⟨rfl, ((hB1.trans (hB2.mono hB1.size)).trans (hB3.mono (hB1.trans (hB2.mono hB1.size)).size)).trans (hB4.mono ((hB1.trans (hB2.mono hB1.size)).trans (hB3.mono (hB1.trans (hB2.mono hB1.size)).size)).size)⟩
end Go.Proofs.YtghlodpbbghcoaaDoor
