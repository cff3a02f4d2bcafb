/- What the frames share, more: the tables of package utf8 as laid; texts as an argument. -/
import Derived.Test.YtghlodpbbghcoaaDoorFrame
import Derived.Test.YtghlodpbbghcoaaDoorU7
import Derived.Lib.LaidU8T
import Derived.Lib.LaidIn
import Derived.SliceStrings
namespace Go.Proofs.YtghlodpbbghcoaaDoor
open Go.ChangeShapes Go.WideShapes Go.ChangeAt Go.RowKit Go.Lib
section
variable {H : Type} {enc : TypeId × Value → H}
theorem utfExtra : U8Extra Tryd.prog Tryd.laysValid_ren where
  n3 := by kernel_rfl
  n4 := by kernel_rfl
  y3 := by kernel_rfl
  y4 := by kernel_rfl
  c5 := by kernel_rfl
  c119 := by kernel_rfl
  c138 := by kernel_rfl
theorem tabs_laid {W : World} (hL : laidMet Tryd.prog laidL W) : Tabs W := by
  have h3 : VarReads Tryd.prog W "unicode/utf8.first" Pinned.utf8First := Lib.laidMet.reads hL (.tail _ (.head _))
  have h4 := Lib.laidMet.reads hL (.head _)
  rw [Pinned.utf8First_eq] at h3
  exact utf8Tabs_of_readsT (U8Types.of196 Tryd.laysValid) utfExtra h3 h4
set_option maxRecDepth 100000 in
theorem open_texts {W : World} {base : Nat} {v : Value} {d : DataW H} {ps : List MemPlace} (hv : Value.okWide Tryd.prog W .any base 22 v) (h : DataW.Trod enc Tryd.prog W 0 (fun _ => true) true 22 v d ps) :
    ∃ (A : Option Addr) (n cap : Nat) (ss : List ByteArray), v = .slice A n cap ∧ n ≤ cap ∧ n ≤ maxLen ∧ ∀ i, i < n → ∃ b o, A = some ⟨b, o, none⟩ ∧ b < W.heap.size ∧ W.cell? ⟨b, o + i, none⟩ = some (.string (ss.getD i ByteArray.empty)) := by
  obtain ⟨a0, len0, cap0, rfl⟩ := okWide_slice Tryd.underlying22 hv
  obtain ⟨fuel, hf⟩ := h
  rcases open_strings Tryd.underlying22 Tryd.underlying9 (by kernel_rfl) hf with ⟨hcs, _⟩ | ⟨a, len, cap, ss, hcs, _, hl, hm, hz, _, hcell, _⟩
  · simp only [Value.cells, List.cons.injEq, and_true, Value.slice.injEq] at hcs
    obtain ⟨rfl, rfl, rfl⟩ := hcs
    exact ⟨none, 0, 0, [], rfl, Nat.le_refl _, Nat.zero_le _, fun i hi => absurd hi (Nat.not_lt_zero _)⟩
  · simp only [Value.cells, List.cons.injEq, and_true, Value.slice.injEq] at hcs
    obtain ⟨rfl, rfl, rfl⟩ := hcs
    simp only [if_true] at hz
    refine ⟨_, _, _, ss, rfl, hl, Nat.le_trans hl hm, fun i hi => ?_⟩
    have hc0 := hcell 0 (by omega)
    have hci := hcell i (by omega)
    obtain ⟨b, o, spot⟩ := a
    have hs : spot = none := by
      cases spot with
      | none => rfl
      | some x =>
        exfalso
        simp only [Addr.add, if_true, World.cell?] at hc0
        split at hc0 <;> simp at hc0
    subst hs
    have e : (⟨b, o, none⟩ : Addr).add i = ⟨b, o + i, none⟩ := by unfold Addr.add; split <;> simp_all
    rw [e] at hci
    refine ⟨b, o, rfl, ?_, hci⟩
    rcases Nat.lt_or_ge b W.heap.size with h' | h'
    · exact h'
    · simp [World.cell?, Array.getElem?_eq_none h'] at hci
end
end Go.Proofs.YtghlodpbbghcoaaDoor
