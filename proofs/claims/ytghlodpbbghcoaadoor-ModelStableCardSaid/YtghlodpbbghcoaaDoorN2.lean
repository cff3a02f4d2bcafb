/- Nodes as an argument: read into a forest, whole. -/
import Derived.Test.YtghlodpbbghcoaaDoorN1
namespace Go.Proofs.YtghlodpbbghcoaaDoor
open Go.ChangeShapes Go.WideShapes Go.ChangeAt Go.RowKit Go.Lib Go.Deep
/-- Is all of a size that memory can hold? -/
def Fo.In : Fo → Prop
  | .nil => True
  | .node _ nm al tx kids rest => nm.size ≤ maxLen ∧ AttrsOk al ∧ al.length ≤ maxLen ∧ tx.size ≤ maxLen ∧ kids.len ≤ maxLen ∧ kids.In ∧ rest.In
section
variable {H : Type} {enc : TypeId × Value → H}
theorem open_nodes {W : World} : ∀ (fuel : Nat) (v : Value) (x : DataW H × List MemPlace), DataW.trod enc Tryd.prog W 0 (fun _ => true) true fuel 23 [v] = some x →
    ∃ (A : Option Addr) (cap : Nat) (f : Fo), v = .slice A f.len cap ∧ f.len ≤ cap ∧ cap ≤ maxLen ∧ f.In ∧ (0 < f.len → ∃ b o, A = some ⟨b, o, none⟩ ∧ b < W.heap.size ∧ RowAt W W.heap.size b o f) := by
  intro fuel
  induction fuel using Nat.strongRecOn with
  | _ fuel ih =>
  intro v x h
  rcases DataW.trod_slice Tryd.underlying23 h with ⟨hcs, _⟩ | ⟨a, len, cap, elems, rest, n, hn, hcs, _, _, hl, hm, hlen, hel, _, _⟩
  · simp only [List.cons.injEq, and_true] at hcs
    exact ⟨none, 0, .nil, hcs, Nat.le_refl _, Nat.zero_le _, trivial, fun j => absurd j (Nat.lt_irrefl _)⟩
  · simp only [List.cons.injEq, and_true] at hcs
    by_cases h0 : len = 0
    · subst h0
      exact ⟨some a, cap, .nil, hcs, hl, hm, trivial, fun j => absurd j (Nat.lt_irrefl _)⟩
    · have hsome : ∀ i, i < len → ∃ y, elems[i]? = some y := fun i hi => ⟨_, List.getElem?_eq_getElem (by omega)⟩
      have hC : Tryd.prog.cellsOf 28 = 5 := by kernel_rfl
      have hone : oneCellFields Tryd.prog #[{ name := "Kind", type := 3, offset := 0, embedded := false, tag := "", pkgPath := "", byteOffset := 0 },
        { name := "Name", type := 9, offset := 1, embedded := false, tag := "", pkgPath := "", byteOffset := 8 },
        { name := "Attrs", type := 26, offset := 2, embedded := false, tag := "", pkgPath := "", byteOffset := 24 },
        { name := "Text", type := 9, offset := 3, embedded := false, tag := "", pkgPath := "", byteOffset := 48 },
        { name := "Kids", type := 23, offset := 4, embedded := false, tag := "", pkgPath := "", byteOffset := 64 }] = true := by kernel_rfl
      obtain ⟨y0, hy0⟩ := hsome 0 (by omega)
      obtain ⟨_, _, hf0⟩ := elem_fields Tryd.underlying28 hone (by kernel_rfl) ((hel 0 (by omega)).trans hy0)
      obtain ⟨v0, _, hv0, _⟩ := hf0 0 _ rfl
      rw [Nat.zero_mul, show (a.add 0).add 0 = a.add 0 by simp [Addr.add]] at hv0
      obtain ⟨ha, hab⟩ := spot_none hv0
      obtain ⟨b, hb⟩ : ∃ b, a.block = b := ⟨_, rfl⟩
      obtain ⟨o, ho⟩ : ∃ o, a.off = o := ⟨_, rfl⟩
      rw [hb, ho] at ha
      rw [hb] at hab
      subst ha
      have rows : ∀ k i, i + k = len → ∃ f : Fo, f.len = k ∧ f.In ∧ RowAt W W.heap.size b (o + i * 5) f := by
        intro k
        induction k with
        | zero => exact fun i _ => ⟨.nil, rfl, trivial, trivial⟩
        | succ k ihk =>
          intro i hik
          obtain ⟨fr, hfr, hfrI, hfrR⟩ := ihk (i + 1) (by omega)
          obtain ⟨y, hy⟩ := hsome i (by omega)
          obtain ⟨n', hn', hf⟩ := elem_fields Tryd.underlying28 hone (by kernel_rfl) ((hel i (by omega)).trans hy)
          rw [hC, add_at] at hf
          obtain ⟨u0, z0, c0, t0⟩ := hf 0 _ rfl
          obtain ⟨u1, z1, c1, t1⟩ := hf 1 _ rfl
          obtain ⟨u2, z2, c2, t2⟩ := hf 2 _ rfl
          obtain ⟨u3, z3, c3, t3⟩ := hf 3 _ rfl
          obtain ⟨u4, z4, c4, t4⟩ := hf 4 _ rfl
          obtain ⟨kd, e0, _, _⟩ := DataW.trod_int Tryd.underlying3 t0
          obtain ⟨nm, e1, _, w1⟩ := DataW.trod_string Tryd.underlying9 t1
          obtain ⟨al, hal, halo, hall⟩ := open_attrs t2
          obtain ⟨tx, e3, _, w3⟩ := DataW.trod_string Tryd.underlying9 t3
          obtain ⟨A4, cap4, f4, e4, hc4, hm4, hI4, hR4⟩ := ih n' (by omega) u4 z4 t4
          simp only [List.cons.injEq, and_true] at e0 e1 e3
          subst e0 e1 e3 e4
          rw [add_at] at c0 c1 c2 c3 c4
          refine ⟨.node kd nm al tx f4 fr, by rw [Fo.len, hfr], ⟨w1, halo, hall, w3, Nat.le_trans hc4 hm4, hI4, hfrI⟩, hab, c0, c1, ⟨_, c2, hal⟩, c3, ⟨_, _, c4, hc4, fun hp => ?_⟩, ?_⟩
          · obtain ⟨b', o', e, _, hr⟩ := hR4 hp
            exact ⟨b', o', e, hr⟩
          · rw [show o + i * 5 + 5 = o + (i + 1) * 5 by omega]
            exact hfrR
      obtain ⟨f, hfl, hfI, hfR⟩ := rows len 0 (by omega)
      rw [Nat.zero_mul, Nat.add_zero] at hfR
      exact ⟨_, cap, f, by rw [hfl]; exact hcs, by omega, hm, hfI, fun _ => ⟨b, o, rfl, hab, hfR⟩⟩
end
end Go.Proofs.YtghlodpbbghcoaaDoor
