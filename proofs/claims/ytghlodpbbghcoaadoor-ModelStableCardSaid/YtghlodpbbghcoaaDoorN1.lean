/- Nodes as an argument: read into a forest. -/
import Derived.Test.YtghlodpbbghcoaaDoorFrame2
import Derived.Test.YtghlodpbbghcoaaDoorD5
import Derived.Deep.Fields
namespace Go.Proofs.YtghlodpbbghcoaaDoor
open Go.ChangeShapes Go.WideShapes Go.ChangeAt Go.RowKit Go.Lib Go.Deep
section
variable {H : Type} {enc : TypeId × Value → H}
theorem elem_fields {P : Program} {w : World} {base : Nat} {spare : Nat → Bool} {held : Bool} {e : TypeId} {fs : Array Field} {n : Nat} {a : Addr} {y : DataW H × List MemPlace} (he : P.underlying e = some (.struct fs)) (hone : oneCellFields P fs = true) (hC : P.cellsOf e = fs.size)
    (h : (w.cells? base a (P.cellsOf e)).bind (DataW.trod enc P w base spare held n e) = some y) :
    ∃ n', n = n' + 1 ∧ ∀ (j : Nat) (f : Field), fs[j]? = some f → ∃ (v : Value) (z : DataW H × List MemPlace), w.cell? (a.add j) = some v ∧ DataW.trod enc P w base spare held n' f.type [v] = some z := by
  obtain ⟨cs', hc, ht'⟩ := Option.bind_eq_some_iff.1 h
  rw [hC] at hc
  obtain ⟨ys, n', hn', hy, hlen, hyl, hf⟩ := DataW.trod_struct he ht'
  obtain ⟨_, hcl, hat⟩ := World.cells?_some hc
  refine ⟨n', hn', fun j f hj => ?_⟩
  obtain ⟨ho, hk⟩ := hone_of hone j f hj
  have hjl : j < fs.size := (Array.getElem?_eq_some_iff.1 hj).1
  have hcell := hat j hjl
  have hv : cs'[j]? = some (cs'[j]'(by omega)) := List.getElem?_eq_getElem (by omega)
  have h1 := hf j f hj
  rw [ho, hk] at h1
  have hone' : (cs'.drop j).take 1 = [cs'[j]'(by omega)] := by
    rw [List.drop_eq_getElem_cons (by omega)]
    rfl
  rw [hone'] at h1
  have hys : ys[j]? = some (ys[j]'(by omega)) := List.getElem?_eq_getElem (by omega)
  exact ⟨_, _, by rw [hcell, hv], h1.trans hys⟩
theorem spot_none {w : World} {a : Addr} {v : Value} (h : w.cell? (a.add 0) = some v) : a = ⟨a.block, a.off, none⟩ ∧ a.block < w.heap.size := by
  obtain ⟨b, o, spot⟩ := a
  simp only [Addr.add, if_true] at h
  refine ⟨?_, ?_⟩
  · cases spot with
    | none => rfl
    | some x =>
      exfalso
      simp only [World.cell?] at h
      split at h <;> simp at h
  · rcases Nat.lt_or_ge b w.heap.size with h' | h'
    · exact h'
    · simp [World.cell?, Array.getElem?_eq_none h'] at h
theorem add_at (b o j : Nat) : (⟨b, o, none⟩ : Addr).add j = ⟨b, o + j, none⟩ := by unfold Addr.add; split <;> simp_all

theorem open_attrs {W : World} {fuel : Nat} {v : Value} {x : DataW H × List MemPlace} (h : DataW.trod enc Tryd.prog W 0 (fun _ => true) true fuel 26 [v] = some x) :
    ∃ al : List (ByteArray × ByteArray), AttrsAt W W.heap.size v al ∧ AttrsOk al ∧ al.length ≤ maxLen := by
  rcases DataW.trod_slice Tryd.underlying26 h with ⟨hcs, _⟩ | ⟨a, len, cap, elems, rest, n, _, hcs, _, _, hl, hm, hlen, hel, _, _⟩
  · simp only [List.cons.injEq, and_true] at hcs
    exact ⟨[], ⟨none, 0, hcs, Nat.le_refl _, fun j hj => absurd hj (Nat.not_lt_zero _)⟩, fun a ha => absurd ha (by simp), Nat.zero_le _⟩
  · simp only [List.cons.injEq, and_true] at hcs
    have key : ∀ i, ∃ p : ByteArray × ByteArray, i < len → p.1.size ≤ maxLen ∧ p.2.size ≤ maxLen ∧ ∃ b o, a = ⟨b, o, none⟩ ∧ b < W.heap.size ∧ W.cell? ⟨b, o + i * 2, none⟩ = some (.string p.1) ∧ W.cell? ⟨b, o + i * 2 + 1, none⟩ = some (.string p.2) := by
      intro i
      by_cases hi : i < len
      · have hsome : ∀ i, i < len → ∃ y, elems[i]? = some y := fun i hi => ⟨_, List.getElem?_eq_getElem (by omega)⟩
        have hC : Tryd.prog.cellsOf 56 = 2 := by kernel_rfl
        obtain ⟨y0, hy0⟩ := hsome 0 (by omega)
        obtain ⟨_, _, hf0⟩ := elem_fields Tryd.underlying56 (by kernel_rfl) (by kernel_rfl) ((hel 0 (by omega)).trans hy0)
        obtain ⟨v0, _, hv0, _⟩ := hf0 0 _ rfl
        rw [Nat.zero_mul, show (a.add 0).add 0 = a.add 0 by simp [Addr.add]] at hv0
        obtain ⟨ha, hab⟩ := spot_none hv0
        obtain ⟨y, hy⟩ := hsome i hi
        obtain ⟨n', _, hf⟩ := elem_fields Tryd.underlying56 (by kernel_rfl) (by kernel_rfl) ((hel i hi).trans hy)
        rw [hC, ha, add_at] at hf
        obtain ⟨u0, z0, c0, t0⟩ := hf 0 _ rfl
        obtain ⟨u1, z1, c1, t1⟩ := hf 1 _ rfl
        obtain ⟨s0, e0, _, w0⟩ := DataW.trod_string Tryd.underlying9 t0
        obtain ⟨s1, e1, _, w1⟩ := DataW.trod_string Tryd.underlying9 t1
        simp only [List.cons.injEq, and_true] at e0 e1
        subst e0 e1
        rw [add_at] at c0 c1
        exact ⟨(s0, s1), fun _ => ⟨w0, w1, _, _, ha, hab, c0, c1⟩⟩
      · exact ⟨(default, default), fun h => absurd h hi⟩
    obtain ⟨p, hp⟩ := Classical.axiomOfChoice key
    refine ⟨(List.range len).map p, ⟨some a, cap, by rw [List.length_map, List.length_range]; exact hcs, by simpa using hl, fun j hj => ?_⟩, fun q hq => ?_, by simpa using Nat.le_trans hl hm⟩
    · simp only [List.length_map, List.length_range] at hj
      obtain ⟨_, _, b, o, ha, hb, h1, h2⟩ := hp j hj
      exact ⟨b, o, by rw [ha], hb, by simpa using h1, by simpa using h2⟩
    · obtain ⟨j, hj, rfl⟩ := List.mem_map.1 hq
      obtain ⟨h1, h2, _⟩ := hp j (List.mem_range.1 hj)
      exact ⟨h1, h2⟩
end
end Go.Proofs.YtghlodpbbghcoaaDoor
