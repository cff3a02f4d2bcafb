/- What closes what: the walk of the maker. -/
import Derived.Test.YtghlodpbbghcoaaGreatDoorC1
namespace Go.Proofs.YtghlodpbbghcoaaGreatDoor
open Go.RowKit Go.Maps

/-- The rows that lie in blocks of their own, above n. -/
def RowsAt (n : Nat) (W : World) (l : List (Nat × Array Value)) : Prop := ∀ p ∈ l, n < p.1 ∧ W.heap[p.1]? = some (.cells p.2 9)
theorem RowsAt.step {n : Nat} {W W' : World} {l : List (Nat × Array Value)} {cs : Array Value} (h : RowsAt n W l) (hn : n < W.heap.size) (hg : (W.alloc (.cells cs 9)).grownBy W' (some n)) :
    RowsAt n W' ((W.heap.size, cs) :: l) := by
  intro p hp
  rcases List.mem_cons.1 hp with rfl | hp
  · refine ⟨hn, ?_⟩
    rw [hg.block _ (by simp) (by simp; omega)]
    exact (MapKept.heap_alloc W _).1
  · obtain ⟨h1, h2⟩ := h p hp
    have hlt : p.1 < W.heap.size := (Array.getElem?_eq_some_iff.1 h2).1
    refine ⟨h1, ?_⟩
    rw [hg.block _ (by simp; omega) (by simp; omega)]
    exact (Below.heap_alloc W _ _ hlt).trans h2

def rowD (g n : Nat) : DataW Unit := .agg [.lit (.int .i64 g), .lit (.int .i64 0), .lit (.int .i64 n), .lit (.int .i64 n)]
/-- The map of what closes what lies in block b, its rows in blocks of their own. -/
def Made (w : World) (b : Nat) (w' : World) : Prop :=
  ∃ g1 g2 g3 g4 g5 g6 g7 : Nat, w.heap.size ≤ b ∧ w'.ownsMap Tryz.prog 9 rowR b 7 ((((((((DataW.map []).put (.string [112]) (rowD g1 11)).put (.string [108, 105]) (rowD g2 1)).put (.string [100, 116]) (rowD g3 2)).put (.string [100, 100]) (rowD g4 2)).put (.string [111, 112, 116, 105, 111, 110]) (rowD g5 1)).put (.string [116, 100]) (rowD g6 2)).put (.string [116, 114]) (rowD g7 1)) ∧
    RowsAt b w' [(g7, #[.string ⟨#[116, 114]⟩]), (g6, #[.string ⟨#[116, 100]⟩, .string ⟨#[116, 114]⟩]), (g5, #[.string ⟨#[111, 112, 116, 105, 111, 110]⟩]), (g4, #[.string ⟨#[100, 100]⟩, .string ⟨#[100, 116]⟩]), (g3, #[.string ⟨#[100, 100]⟩, .string ⟨#[100, 116]⟩]), (g2, #[.string ⟨#[108, 105]⟩]), (g1, #[.string ⟨#[98, 108, 111, 99, 107, 113, 117, 111, 116, 101]⟩, .string ⟨#[100, 105, 118]⟩, .string ⟨#[104, 49]⟩, .string ⟨#[104, 50]⟩, .string ⟨#[104, 114]⟩, .string ⟨#[108, 105]⟩, .string ⟨#[111, 108]⟩, .string ⟨#[112]⟩, .string ⟨#[112, 114, 101]⟩, .string ⟨#[116, 97, 98, 108, 101]⟩, .string ⟨#[117, 108]⟩])] ∧ Below w.heap.size w w'

set_option maxRecDepth 8192 in
set_option maxHeartbeats 1600000 in
/-- THE MAKER: a map of seven rows, each in a block of its own. -/
theorem closers_any (w : World) :
    Calls Tryz.prog 105 #[] w fun e w' => ∃ b, e = .returned (.map (some b)) ∧ Made w b w' := by
  have hmm := @run_makeMap Tryz.prog
  have hown := Lib.hid (World.ownsMap_made w Tryz.prog 9 rowR)
  have hB := Lib.hid ((Below.refl w.heap.size w).alloc (Nat.le_refl _) (.map #[] 0))
  have hR : Hid (RowsAt w.heap.size (w.alloc (.map #[] 0)) []) := Lib.hid (fun p hp => by cases hp)
  go_enter Tryz.func105, Tryz.ntmps105
  go_wp2_with (
    (refine wpList_insert_own _ rfl _ _ _ 127 rfl 9 22 (string_keyed Tryz.underlying9) Tryz.underlying127 rowR w.heap.size _ _ rfl (hown.out.alloc _) (by decide) _ _ _ rfl rfl (WideMaps.keyOf_string_mk Tryz.underlying9 (by decide)) _ [] rfl ?_
     intro w1 hown1 hg1
     have hB := Lib.hid (((hB.out.alloc hB.out.size _)).grown hg1 (by have := hB.out.size; simp; omega) (fun j hj => by cases hj; exact Nat.le_refl _))
     have hR := Lib.hid (hR.out.step hown.out.lt hg1)
     have hown := Lib.hid hown1
     clear hown1 hg1))
  go_ret
  exact ⟨_, rfl, _, _, _, _, _, _, _, Nat.le_refl _, hown.out, by simpa only [World.size_alloc] using hR.out, hB.out⟩
end Go.Proofs.YtghlodpbbghcoaaGreatDoor
