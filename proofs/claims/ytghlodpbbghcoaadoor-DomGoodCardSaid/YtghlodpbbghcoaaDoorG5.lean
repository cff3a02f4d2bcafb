/- Flat nodes as a forest; merged ones may be. -/
import Derived.Test.YtghlodpbbghcoaaDoorG4
namespace Go.Proofs.YtghlodpbbghcoaaDoor
open Go.Lib Go.RowKit

def flatF : List Fl → Fo
  | [] => .nil
  | p :: r => .node p.1 ⟨#[]⟩ [] p.2 .nil (flatF r)
theorem flatF_len : ∀ l : List Fl, (flatF l).len = l.length
  | [] => rfl
  | p :: r => by rw [flatF, Fo.len, flatF_len r, List.length_cons]
theorem flatF_size : ∀ l : List Fl, (flatF l).size = l.length
  | [] => rfl
  | p :: r => by rw [flatF, Fo.size, flatF_size r, List.length_cons, Fo.size]; omega
theorem flatF_height : ∀ l : List Fl, (flatF l).height ≤ 1
  | [] => Nat.zero_le _
  | p :: r => by rw [flatF, Fo.height, Fo.height]; have := flatF_height r; omega
theorem flatF_ok : ∀ {q : Bool} (l : List Fl), goodRow q l → (flatF l).Ok
  | _, [], _ => trivial
  | _, p :: r, h => ⟨by show 0 ≤ maxLen; exact Nat.zero_le _, fun a ha => absurd ha (by simp), Nat.zero_le _, Nat.le_trans h.2.2.1 (by unfold maxLen; decide), trivial, flatF_ok r h.2.2.2.2⟩
theorem flat_good : ∀ (q : Bool) (l : List Fl), goodRow q l → (nodesOf q (flatF l)).all Dt.good = true
  | _, [], _ => rfl
  | q, p :: r, h => by
    obtain ⟨k, t⟩ := p
    obtain ⟨hk, hL, hz, h2, hr⟩ := h
    rw [flatF, nodesOf, nodesOf, List.nil_append, List.all_cons, flat_good _ r hr, Bool.and_true]
    have e1 : (⟨#[]⟩ : ByteArray).toList.isEmpty = true := by rw [ByteArray.toList_eq]; rfl
    rcases hk with rfl | rfl
    · obtain ⟨ha, hb⟩ := h2 rfl
      simp only at ha hL
      subst hb
      simp [Dt.good, checkB, e1, hL, ha, Fo.len]
    · simp only at hL
      simp [Dt.good, checkB, e1, hL, Fo.len]
theorem flatCells_at : ∀ (l : List Fl) (i : Nat) (h : i < l.length) (j : Nat), j < 5 → (flatCells l)[i * 5 + j]? = [Value.int .i64 l[i].1, .string ⟨#[]⟩, .slice none 0 0, .string l[i].2, .slice none 0 0][j]?
  | p :: r, 0, h, j, hj => by
    show ([Value.int .i64 p.1, .string ⟨#[]⟩, .slice none 0 0, .string p.2, .slice none 0 0] ++ flatCells r)[0 * 5 + j]? = _
    rw [Nat.zero_mul, Nat.zero_add, List.getElem?_append_left (by simpa using hj)]
    rfl
  | p :: r, i + 1, h, j, hj => by
    show ([Value.int .i64 p.1, .string ⟨#[]⟩, .slice none 0 0, .string p.2, .slice none 0 0] ++ flatCells r)[(i + 1) * 5 + j]? = _
    rw [List.getElem?_append_right (by simp; omega), show (i + 1) * 5 + j - [Value.int .i64 p.1, .string ⟨#[]⟩, .slice none 0 0, .string p.2, .slice none 0 0].length = i * 5 + j by simp; omega, flatCells_at r i (by simpa using h) j hj]
    rfl
theorem own_flat {w : World} {base : Nat} {v : Value} {l : List Fl} (h : w.ownsRow base 28 5 v l.length (flatCells l)) : ∃ A cap, v = .slice A l.length cap ∧ l.length ≤ cap ∧ (0 < l.length → ∃ b, A = some ⟨b, 0, none⟩ ∧ b < w.heap.size ∧ base ≤ b ∧ FlatAt w b 0 l) := by
  rcases h.2 with ⟨rfl, h0⟩ | ⟨g, cap, cur, rfl, hb0, hb, h1, h2, h3, h4⟩
  · rw [h0]
    exact ⟨none, 0, rfl, Nat.le_refl _, fun hj => absurd hj (Nat.lt_irrefl _)⟩
  · refine ⟨_, cap, rfl, h1, fun hj => ⟨g, rfl, (Array.getElem?_eq_some_iff.1 hb).1, hb0, fun i hi => ?_⟩⟩
    have e2 : ∀ j, j < 5 → w.cell? ⟨g, 0 + i * 5 + j, none⟩ = [Value.int .i64 l[i].1, .string ⟨#[]⟩, .slice none 0 0, .string l[i].2, .slice none 0 0][j]? := by
      intro j hj
      have e3 : w.cell? ⟨g, 0 + i * 5 + j, none⟩ = cur[0 + i * 5 + j]? := by simp [World.cell?, hb]
      rw [e3, ← flatCells_at l i hi j hj, ← h4, List.getElem?_take, if_pos (by omega), Array.getElem?_toList, Nat.zero_add]
    exact ⟨e2 0 (by decide), e2 1 (by decide), e2 2 (by decide), e2 3 (by decide), e2 4 (by decide)⟩
theorem row_flat {w : World} {b : Nat} (hb : b < w.heap.size) : ∀ (l : List Fl) (o : Nat), FlatAt w b o l → RowAt w w.heap.size b o (flatF l)
  | [], _, _ => trivial
  | p :: r, o, h => by
    obtain ⟨h0, h1, h2, h3, h4⟩ := h 0 (by simp)
    simp only [Nat.zero_mul, Nat.add_zero, List.getElem_cons_zero] at h0 h1 h2 h3 h4
    refine ⟨hb, h0, h1, ⟨_, h2, none, 0, rfl, Nat.le_refl _, fun j hj => absurd hj (Nat.not_lt_zero _)⟩, h3, ⟨none, 0, h4, Nat.le_refl _, fun hp => absurd hp (Nat.lt_irrefl _)⟩, row_flat hb r (o + 5) (fun i hi => ?_)⟩
    obtain ⟨g0, g1, g2, g3, g4⟩ := h (i + 1) (by simpa using hi)
    rw [show o + (i + 1) * 5 = o + 5 + i * 5 by omega] at g0 g1 g2 g3 g4
    exact ⟨g0, g1, g2, g3, g4⟩
end Go.Proofs.YtghlodpbbghcoaaDoor
