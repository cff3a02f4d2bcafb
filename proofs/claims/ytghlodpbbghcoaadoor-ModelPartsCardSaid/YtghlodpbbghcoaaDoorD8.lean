/- The document's example of layer 3. -/
import Derived.Test.YtghlodpbbghcoaaDoorD7
namespace Go.Proofs.YtghlodpbbghcoaaDoor
open Go.Lib Go.RowKit Go.Shelf

def brB : ByteArray := ⟨#[98, 114]⟩
def styleB : ByteArray := ⟨#[115, 116, 121, 108, 101]⟩
set_option maxHeartbeats 800000 in
theorem void_br (w : World) : Calls Tryd.prog 30 #[.string ⟨#[98, 114]⟩] w fun e w' => e = .returned (.bool true) ∧ w' = w := by
  go_enter Tryd.func30, Tryd.ntmps30
  go_wp2
  go_ret
  exact ⟨rfl, rfl⟩
set_option maxHeartbeats 800000 in
theorem raw_style (w : World) : Calls Tryd.prog 31 #[.string ⟨#[115, 116, 121, 108, 101]⟩] w fun e w' => e = .returned (.bool true) ∧ w' = w := by
  go_enter Tryd.func31, Tryd.ntmps31
  go_wp2
  go_ret
  exact ⟨rfl, rfl⟩

/-- The example's nodes. -/
def exF : Fo := .node 1 ⟨#[97]⟩ [(⟨#[105, 100]⟩, ⟨#[49]⟩)] ⟨#[]⟩ (.node 2 ⟨#[]⟩ [] ⟨#[120]⟩ .nil .nil) .nil
theorem exF_may : mayB exF = true := by decide +kernel
theorem exF_ok : exF.Ok := by
  refine ⟨by decide, ?_, by decide, by decide, ⟨by decide, ?_, by decide, by decide, trivial, trivial⟩, trivial⟩
  · intro a ha
    simp at ha
    subst ha
    exact ⟨by decide, by decide⟩
  · intro a ha
    cases ha
theorem exF_row (w : World) (W : World) (h : W = ((w.alloc (.cells #[.string ⟨#[105, 100]⟩, .string ⟨#[49]⟩] 56)).alloc (.cells #[.int .i64 2, .string ⟨#[]⟩, .slice none 0 0, .string ⟨#[120]⟩, .slice none 0 0] 28)).alloc
      (.cells #[.int .i64 1, .string ⟨#[97]⟩, .slice (some ⟨w.heap.size, 0, none⟩) 1 1, .string ⟨#[]⟩, .slice (some ⟨w.heap.size + 1, 0, none⟩) 1 1] 28)) : RowAt W W.heap.size (w.heap.size + 2) 0 exF := by
  have s1 : W.heap.size = w.heap.size + 3 := by rw [h]; simp
  have e2 : ∀ j, W.cell? ⟨w.heap.size + 2, j, none⟩ = (#[.int .i64 1, .string ⟨#[97]⟩, .slice (some ⟨w.heap.size, 0, none⟩) 1 1, .string ⟨#[]⟩, .slice (some ⟨w.heap.size + 1, 0, none⟩) 1 1] : Array Value)[j]? := fun j => by
    rw [h, World.cell?_alloc_at _ _ _ _ (by simp)]
  have e1 : ∀ j, W.cell? ⟨w.heap.size + 1, j, none⟩ = (#[.int .i64 2, .string ⟨#[]⟩, .slice none 0 0, .string ⟨#[120]⟩, .slice none 0 0] : Array Value)[j]? := fun j => by
    rw [h, World.cell?_alloc_past _ _ _ (by simp), World.cell?_alloc_at _ _ _ _ (by simp)]
  have e0 : ∀ j, W.cell? ⟨w.heap.size, j, none⟩ = (#[.string ⟨#[105, 100]⟩, .string ⟨#[49]⟩] : Array Value)[j]? := fun j => by
    rw [h, World.cell?_alloc_past _ _ _ (by simp; omega), World.cell?_alloc_past _ _ _ (by simp), World.cell?_alloc_at _ _ _ _ rfl]
  refine ⟨by omega, e2 0, e2 1, ⟨_, e2 2, some ⟨w.heap.size, 0, none⟩, 1, rfl, Nat.le_refl _, fun j hj => ?_⟩, e2 3, ⟨some ⟨w.heap.size + 1, 0, none⟩, 1, e2 4, Nat.le_refl _, fun _ => ⟨w.heap.size + 1, 0, rfl, ?_⟩⟩, trivial⟩
  · have : j = 0 := by simp at hj; omega
    subst this
    exact ⟨w.heap.size, 0, rfl, by omega, e0 0, e0 1⟩
  · exact ⟨by omega, e1 0, e1 1, ⟨_, e1 2, none, 0, rfl, Nat.le_refl _, fun j hj => absurd hj (Nat.not_lt_zero _)⟩, e1 3, ⟨none, 0, e1 4, Nat.le_refl _, fun h => absurd h (by decide)⟩, trivial⟩

set_option maxRecDepth 8192 in
set_option maxHeartbeats 1600000 in
theorem lives3_any (w : World) (hT : Tabs w) :
    Calls Tryd.prog 10 #[] w fun e w' => e = .returned (.bool true) ∧ Below w.heap.size w w' := by
  obtain ⟨W, hW⟩ : ∃ W, ((w.alloc (.cells #[.string ⟨#[105, 100]⟩, .string ⟨#[49]⟩] 56)).alloc (.cells #[.int .i64 2, .string ⟨#[]⟩, .slice none 0 0, .string ⟨#[120]⟩, .slice none 0 0] 28)).alloc
      (.cells #[.int .i64 1, .string ⟨#[97]⟩, .slice (some ⟨w.heap.size, 0, none⟩) 1 1, .string ⟨#[]⟩, .slice (some ⟨w.heap.size + 1, 0, none⟩) 1 1] 28) = W := ⟨_, rfl⟩
  have hrow := exF_row w W hW.symm
  have hB0 : Below w.heap.size w W := by rw [← hW]; exact (((Below.refl _ w).alloc (Nat.le_refl _) _).alloc (by simp) _).alloc (by simp; omega) _
  have hwt := weight_any (some ⟨w.heap.size + 2, 0, none⟩) 1 exF exF_ok (by decide) (by decide) (by decide) W.heap.size W (Nat.le_refl _) (fun _ => ⟨_, _, rfl, hrow⟩)
  have hmay : ∀ w1, Below W.heap.size W w1 → Calls Tryd.prog 8 #[.slice (some ⟨w.heap.size + 2, 0, none⟩) 1 1] w1 (ErrPost (mayB exF) w1) := fun w1 hb =>
    may_any (some ⟨w.heap.size + 2, 0, none⟩) 1 exF exF_ok (by decide) (by decide) (by decide) W.heap.size w1 (tabs_below (tabs_below hT hB0) hb) hb.size (fun _ => ⟨_, _, rfl, hrow.below hb⟩)
  rw [exF_may] at hmay
  have hsum : sumW (nodesOf false exF) = 3 := by decide
  rw [hsum] at hwt
  change Calls Tryd.prog 29 #[.slice (some ⟨w.heap.size + 2, 0, none⟩) 1 1] W _ at hwt
  clear hrow hsum
  go_enter Tryd.func10, Tryd.ntmps10
  go_upto_region 2 with fail
  clear hW
  replace hB0 := Lib.hid hB0
  go_wp2_with (first
    | (go_at_call 29; refine hwt.mono ?_; rintro e w1 ⟨rfl, hB1⟩)
    | (go_at_call 8; refine (hmay _ hB1).mono ?_; rintro e w2 ⟨x, rfl, hx, hB2⟩; obtain rfl : x = 0 := of_decide_eq_true hx)
    | (go_at_call 30; refine (void_br _).mono ?_; rintro e w3 ⟨rfl, rfl⟩)
    | (go_at_call 31; refine (raw_style _).mono ?_; rintro e w3 ⟨rfl, rfl⟩))
  go_ret
  exact ⟨rfl, (hB0.out.trans (hB1.mono hB0.out.size)).trans (hB2.mono (hB0.out.trans (hB1.mono hB0.out.size)).size)⟩
end Go.Proofs.YtghlodpbbghcoaaDoor
