/- Lists of texts that the call owns. -/
import Derived.Test.YtghlodpbbghcoaaGreatDoorZ29
import Derived.Test.YtghlodpbbghcoaaGreatDoorZ5
import Derived.Deep.AppendLies
namespace Go.Proofs.YtghlodpbbghcoaaGreatDoor
open Go.Lib Go.RowKit Go.Maps
def strV (l : List ByteArray) : List Value := l.map Value.string
/-- A list of texts in a row that the call owns. -/
def OwnS (w : World) (base : Nat) (v : Value) (l : List ByteArray) : Prop := w.ownsRow base 9 1 v l.length (strV l)
theorem OwnS.nil (w : World) (base : Nat) : OwnS w base (.slice none 0 0) [] := World.ownsRow_nil _ _ _ _
theorem OwnS.strs {w : World} {base : Nat} {v : Value} {l : List ByteArray} (h : OwnS w base v l) : StrsAt w (fun k => v.ownBlock = some k) v l := by
  rcases h.2 with ⟨rfl, h0⟩ | ⟨g, cap, cur, rfl, hb0, hb, h1, h2, h3, h4⟩
  · have : l = [] := List.eq_nil_of_length_eq_zero h0
    subst this
    exact CRow.nil _ _ _
  · have hl : (sCells l).length = l.length := List.length_map _
    refine ⟨_, cap, by rw [hl], by rw [hl]; exact h1, fun j hj => ⟨g, 0, rfl, rfl, fun i hi => ?_⟩⟩
    obtain rfl : i = 0 := by omega
    rw [hl] at hj
    have e3 : w.cell? ⟨g, 0 + j * 1 + 0, none⟩ = cur[0 + j * 1 + 0]? := by simp [World.cell?, hb]
    have e4 : cur[j]? = (strV l)[j]? := by rw [← h4, List.getElem?_take, if_pos (by omega), Array.getElem?_toList]
    rw [e3, show 0 + j * 1 + 0 = j by omega, e4]
    simp [strV, sCells]
theorem OwnS.fresh {w : World} {base : Nat} {v : Value} {l : List ByteArray} (h : OwnS w base v l) : StrsAt w (fun k => base ≤ k ∧ k < w.heap.size) v l :=
  h.strs.move (Stays.refl _ _) (fun k hk => World.ownsRow.lt h k hk)
theorem OwnS.form {w : World} {base : Nat} {v : Value} {l : List ByteArray} (h : OwnS w base v l) : (l = [] ∧ v = .slice none 0 0) ∨ ∃ g cap, v = .slice (some ⟨g, 0, none⟩) l.length cap ∧ base ≤ g ∧ g < w.heap.size ∧ l.length ≤ cap ∧ ∀ j u, (strV l)[j]? = some u → w.cell? ((⟨g, 0, none⟩ : Addr).add j) = some u := by
  rcases id h.2 with ⟨rfl, h0⟩ | ⟨g, cap, cur, rfl, hb0, hb, h1, h2, h3, h4⟩
  · exact .inl ⟨List.eq_nil_of_length_eq_zero h0, rfl⟩
  · exact .inr ⟨g, cap, rfl, hb0, (World.ownsRow.lt h g rfl).2, h1, World.ownsRow.cells h rfl⟩
theorem OwnS.mono {w : World} {base base' : Nat} {v : Value} {l : List ByteArray} (h : OwnS w base v l) (hb : base' ≤ base) : OwnS w base' v l := ⟨h.1, h.2.imp id (fun ⟨g, cap, cur, a, b, c⟩ => ⟨g, cap, cur, a, Nat.le_trans hb b, c⟩)⟩
theorem strV_one (l : List ByteArray) : ∀ u ∈ strV l, u.oneCell' = true := by
  intro u hu
  obtain ⟨s, _, rfl⟩ := List.mem_map.1 hu
  rfl
theorem strV_len (l : List ByteArray) : (strV l).length = l.length := List.length_map _
theorem strV_snoc (l : List ByteArray) (s : ByteArray) : strV (l ++ [s]) = strV l ++ [.string s] := by simp [strV]
end Go.Proofs.YtghlodpbbghcoaaGreatDoor
