/- What closes what: the look-up; Closes. -/
import Derived.Test.YtghlodpbbghcoaaGreatDoorC2
namespace Go.Proofs.YtghlodpbbghcoaaGreatDoor
open Go.RowKit Go.Maps

/-- What closes an element, in the program's order. -/
def closersOf (o : List UInt8) : List ByteArray :=
  if o = [112] then [⟨#[98, 108, 111, 99, 107, 113, 117, 111, 116, 101]⟩, ⟨#[100, 105, 118]⟩, ⟨#[104, 49]⟩, ⟨#[104, 50]⟩, ⟨#[104, 114]⟩, ⟨#[108, 105]⟩, ⟨#[111, 108]⟩, ⟨#[112]⟩, ⟨#[112, 114, 101]⟩, ⟨#[116, 97, 98, 108, 101]⟩, ⟨#[117, 108]⟩]
  else if o = [108, 105] then [⟨#[108, 105]⟩]
  else if o = [100, 116] then [⟨#[100, 100]⟩, ⟨#[100, 116]⟩]
  else if o = [100, 100] then [⟨#[100, 100]⟩, ⟨#[100, 116]⟩]
  else if o = [111, 112, 116, 105, 111, 110] then [⟨#[111, 112, 116, 105, 111, 110]⟩]
  else if o = [116, 100] then [⟨#[116, 100]⟩, ⟨#[116, 114]⟩]
  else if o = [116, 114] then [⟨#[116, 114]⟩]
  else []

/-- A row of texts in memory. -/
def TextRow (w : World) (v : Value) (zs : List ByteArray) : Prop :=
  (v = .slice none 0 0 ∧ zs = []) ∨ ∃ g, v = .slice (some ⟨g, 0, none⟩) zs.length zs.length ∧ ∀ j, j < zs.length → w.cell? ⟨g, 0 + j, none⟩ = some (.string (zs.getD j ByteArray.empty))

theorem rowR_some {w : World} {v : Value} {g n : Nat} {ps : List MemPlace} {zs : List ByteArray} {cs : Array Value} (hv : rowR v = some (rowD g n, ps)) (hb : w.heap[g]? = some (.cells cs 9))
    (hn : zs.length = n := by rfl) (hc : cs.toList = zs.map Value.string := by rfl) : TextRow w v zs := by
  unfold rowR rowD at hv
  split at hv
  · cases hv
  · rename_i b o l c
    simp only [Option.some.injEq, Prod.mk.injEq, DataW.agg.injEq, List.cons.injEq, DataW.lit.injEq, Lit.int.injEq, true_and, and_true] at hv
    obtain ⟨⟨h1, h2, h3, h4⟩, _⟩ := hv
    right
    refine ⟨g, ?_, fun j hj => ?_⟩
    · rw [hn, show b = g by omega, show o = 0 by omega, show l = n by omega, show c = n by omega]
    · have h1 : w.cell? ⟨g, 0 + j, none⟩ = cs[j]? := by simp [World.cell?, hb]
      rw [h1, ← Array.getElem?_toList, hc, List.getElem?_map, List.getElem?_eq_getElem hj, List.getD_eq_getElem?_getD, List.getElem?_eq_getElem hj]
      rfl
  · cases hv
theorem rowR_none {v : Value} {ps : List MemPlace} (hv : rowR v = some (.nil, ps)) : v = .slice none 0 0 := by
  unfold rowR at hv
  split at hv
  · rfl
  · simp at hv
  · cases hv

set_option maxHeartbeats 3200000 in
theorem Made.look {w w' : World} {b : Nat} (h : Made w b w') (o : ByteArray) (hs : o.size ≤ maxLen) :
    ∃ v, (Instr.lookup 127 (.map (some b)) (.string o) false).run Tryz.prog w' = .ok v w' ∧ TextRow w' v (closersOf o.data.toList) := by
  obtain ⟨g1, g2, g3, g4, g5, g6, g7, hle, hown, hR, hB⟩ := h
  obtain ⟨v, ps, hrun, hv⟩ := hown.lookup (string_keyed Tryz.underlying9) Tryz.underlying127 (z := .slice none 0 0) (by kernel_rfl) (zd := .nil) (zp := []) rfl (WideMaps.keyOf_string_mk Tryz.underlying9 hs)
  refine ⟨v, hrun, ?_⟩
  simp only [RowsAt, List.forall_mem_cons] at hR
  obtain ⟨⟨_, r7⟩, ⟨_, r6⟩, ⟨_, r5⟩, ⟨_, r4⟩, ⟨_, r3⟩, ⟨_, r2⟩, ⟨_, r1⟩, _⟩ := hR
  by_cases h1 : o.data.toList = [112]
  · rw [h1] at hv ⊢
    exact rowR_some (g := g1) (hv.trans (congrArg some (congrArg (·, ps) (by kernel_rfl : _ = rowD g1 11)))) r1
  by_cases h2 : o.data.toList = [108, 105]
  · rw [h2] at hv ⊢
    exact rowR_some (g := g2) (hv.trans (congrArg some (congrArg (·, ps) (by kernel_rfl : _ = rowD g2 1)))) r2
  by_cases h3 : o.data.toList = [100, 116]
  · rw [h3] at hv ⊢
    exact rowR_some (g := g3) (hv.trans (congrArg some (congrArg (·, ps) (by kernel_rfl : _ = rowD g3 2)))) r3
  by_cases h4 : o.data.toList = [100, 100]
  · rw [h4] at hv ⊢
    exact rowR_some (g := g4) (hv.trans (congrArg some (congrArg (·, ps) (by kernel_rfl : _ = rowD g4 2)))) r4
  by_cases h5 : o.data.toList = [111, 112, 116, 105, 111, 110]
  · rw [h5] at hv ⊢
    exact rowR_some (g := g5) (hv.trans (congrArg some (congrArg (·, ps) (by kernel_rfl : _ = rowD g5 1)))) r5
  by_cases h6 : o.data.toList = [116, 100]
  · rw [h6] at hv ⊢
    exact rowR_some (g := g6) (hv.trans (congrArg some (congrArg (·, ps) (by kernel_rfl : _ = rowD g6 2)))) r6
  by_cases h7 : o.data.toList = [116, 114]
  · rw [h7] at hv ⊢
    exact rowR_some (g := g7) (hv.trans (congrArg some (congrArg (·, ps) (by kernel_rfl : _ = rowD g7 1)))) r7
  have e : closersOf o.data.toList = [] := by simp [closersOf, h1, h2, h3, h4, h5, h6, h7]
  rw [e]
  left
  refine ⟨rowR_none (ps := ps) (hv.trans ?_), rfl⟩
  have ne : ∀ {l : List UInt8}, o.data.toList ≠ l → Lit.string o.data.toList ≠ Lit.string l := fun h e => h (Lit.string.inj e)
  rw [atKey_put_other (ne h7), atKey_put_other (ne h6), atKey_put_other (ne h5), atKey_put_other (ne h4), atKey_put_other (ne h3), atKey_put_other (ne h2), atKey_put_other (ne h1)]
  rfl
end Go.Proofs.YtghlodpbbghcoaaGreatDoor
