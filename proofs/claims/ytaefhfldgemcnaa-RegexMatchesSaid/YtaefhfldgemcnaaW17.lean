/- The frame's part: a net that came in, opened. -/
import Derived.Test.YtaefhfldgemcnaaW10
import Derived.Test.YtaefhfldgemcnaaRows
import Derived.ProofKit
import Derived.Lib.SmallJoins
import Derived.Deep.Slices
import Derived.Deep.Fields
namespace Go.Proofs.Ytaefhfldgemcnaa
open Go.Joins Go.ChangeShapes Go.WideShapes Go.ChangeAt Go.RowKit Go.Deep

theorem Try.own : ownKnob Try.prog.godebug = none := by kernel_rfl
theorem Try.laidOut : laidOutB Try.prog = true := by kernel_rfl

section
variable {H : Type} {enc : TypeId × Value → H} {P : Program} {w : World} {base : Nat} {spare : Nat → Bool} {held : Bool}
theorem open_slice_fields {t e : TypeId} {fs : Array Field} {fuel : Nat} {cs : List Value} {x : DataW H × List MemPlace} (ht : P.underlying t = some (.slice e)) (he : P.underlying e = some (.struct fs))
    (hone : oneCellFields P fs = true) (hC : P.cellsOf e = fs.size) (h : DataW.trod enc P w base spare held fuel t cs = some x) :
    (cs = [.slice none 0 0] ∧ x = (.nil, [])) ∨
    ∃ (a : Addr) (len cap m : Nat) (D : Nat → DataW H) (Pl : Nat → List MemPlace), cs = [.slice (some a) len cap] ∧ base ≤ a.block ∧ len ≤ cap ∧ cap ≤ maxLen ∧ m = (if spare a.block then cap else len) ∧
      x = (.slice ((List.range len).map D) ((List.range (m - len)).map fun j => D (len + j)), MemPlace.row a (m * fs.size) ++ (List.range m).flatMap Pl) ∧
      ∀ i, i < m → ∃ (ys : List (DataW H × List MemPlace)) (n : Nat), D i = .agg (ys.map (·.1)) ∧ Pl i = ys.flatMap (·.2) ∧ ys.length = fs.size ∧
        ∀ (j : Nat) (f : Field), fs[j]? = some f → ∃ (v : Value) (y : DataW H × List MemPlace), w.cell? (a.add (i * fs.size + j)) = some v ∧ ys[j]? = some y ∧ DataW.trod enc P w base spare held n f.type [v] = some y := by
  rcases open_slice ht h with h0 | ⟨a, len, cap, m, n, D, Pl, hcs, hb, hl, hm, hmm, hx, hi⟩
  · exact .inl h0
  · refine .inr ⟨a, len, cap, m, D, Pl, hcs, hb, hl, hm, hmm, by rw [hC] at hx; exact hx, fun i him => ?_⟩
    obtain ⟨cs', hc, ht'⟩ := hi i him
    rw [hC] at hc
    obtain ⟨ys, n', hn', hy, hlen, hyl, hf⟩ := DataW.trod_struct he ht'
    obtain ⟨_, hcl, hat⟩ := World.cells?_some hc
    simp only [Prod.mk.injEq] at hy
    refine ⟨ys, n', hy.1, hy.2, hyl, fun j f hj => ?_⟩
    obtain ⟨ho, hk⟩ := hone_of hone j f hj
    have hjl : j < fs.size := (Array.getElem?_eq_some_iff.1 hj).1
    have hcell := hat j hjl
    have hv : cs'[j]? = some (cs'[j]'(by omega)) := List.getElem?_eq_getElem (by omega)
    have h1 := hf j f hj
    rw [ho, hk] at h1
    have hone' : (cs'.drop j).take 1 = [cs'[j]'(by omega)] := by
      rw [List.drop_eq_getElem_cons (by omega)]
      rfl
    rw [hone'] at h1
    have hys : ys[j]? = some (ys[j]'(by omega)) := List.getElem?_eq_getElem (by omega)
    refine ⟨_, _, ?_, hys, h1.trans hys⟩
    rw [← Go.Deep.add_add, hcell, hv]
end

theorem i64_of_wf {x : Int} (h : (Lit.int .i64 x).wf = true) : I64 x := by
  simp [Lit.wf, IntKind.min, IntKind.max, IntKind.signed, IntKind.bits] at h
  exact ⟨by omega, by omega⟩
theorem cell_lt {w : World} {a : Addr} {v : Value} (h : w.cell? a = some v) : a.block < w.heap.size := by
  rcases Nat.lt_or_ge a.block w.heap.size with h1 | h1
  · exact h1
  · have : w.heap[a.block]? = none := Array.getElem?_eq_none h1
    simp [World.cell?, this] at h

/-- What a net that came in is. -/
structure NetIn (W : World) (v : Value) (st start fin : Int) (es : List Edge) (A : Option Addr) (c : Nat) : Prop where
  val : v = .agg #[.int .i64 st, .int .i64 start, .int .i64 fin, .slice A es.length c]
  i0 : I64 st
  i1 : I64 start
  i2 : I64 fin
  ie : ∀ e ∈ es, I64 e.frm ∧ I64 e.to
  len : es.length ≤ c
  cap : c ≤ maxLen
  ed : EdgesAt W W.heap.size A es

set_option maxRecDepth 100000 in
theorem open_net {H : Type} {enc : TypeId × Value → H} {W : World} {b0 : Nat} {v : Value} {d : DataW H} {p : List MemPlace} (hv : Value.okWide Try.prog W .any b0 24 v) (h : DataW.Trod enc Try.prog W 0 (fun _ => true) true 24 v d p) :
    ∃ st start fin es A c, NetIn W v st start fin es A c := by
  obtain ⟨v0, v1, v2, v3, y0, y1, y2, y3, n, rfl, _, _, h0, h1, h2, h3⟩ := open_agg4 Try.underlying24 (by kernel_rfl) (by kernel_rfl) hv h
  obtain ⟨st, e0, _, w0⟩ := DataW.trod_int Try.underlying3 h0
  obtain ⟨start, e1, _, w1⟩ := DataW.trod_int Try.underlying3 h1
  obtain ⟨fin, e2, _, w2⟩ := DataW.trod_int Try.underlying3 h2
  simp only [List.cons.injEq, and_true] at e0 e1 e2
  subst e0 e1 e2
  rcases open_slice_fields Try.underlying22 Try.underlying35 (by kernel_rfl) (by kernel_rfl) h3 with ⟨e3, _⟩ | ⟨a, len, cap, m, D, Pl, e3, _, hlc, hcm, hm, _, hi⟩
  · simp only [List.cons.injEq, and_true] at e3
    subst e3
    exact ⟨st, start, fin, [], none, 0, rfl, i64_of_wf w0, i64_of_wf w1, i64_of_wf w2, by simp, by simp, by simp, CellsAt.nil⟩
  · simp only [List.cons.injEq, and_true] at e3
    subst e3
    simp only [if_true] at hm
    subst hm
    have key : ∀ i, ∃ e : Edge, i < len → (I64 e.frm ∧ I64 e.to) ∧ W.cell? (a.add (i * 4 + 0)) = some (.int .i64 e.frm) ∧ W.cell? (a.add (i * 4 + 1)) = some (.int .i64 e.to) ∧ W.cell? (a.add (i * 4 + 2)) = some (.int .u8 e.low) ∧ W.cell? (a.add (i * 4 + 3)) = some (.int .u8 e.high) := by
      intro i
      by_cases hil : i < len
      · obtain ⟨ys, n', _, _, _, hf⟩ := hi i (by omega)
        obtain ⟨u0, z0, c0, _, t0⟩ := hf 0 _ rfl
        obtain ⟨u1, z1, c1, _, t1⟩ := hf 1 _ rfl
        obtain ⟨u2, z2, c2, _, t2⟩ := hf 2 _ rfl
        obtain ⟨u3, z3, c3, _, t3⟩ := hf 3 _ rfl
        obtain ⟨x0, e0, _, w0⟩ := DataW.trod_int Try.underlying3 t0
        obtain ⟨x1, e1, _, w1⟩ := DataW.trod_int Try.underlying3 t1
        obtain ⟨x2, e2, _, _⟩ := DataW.trod_int Try.underlying5 t2
        obtain ⟨x3, e3, _, _⟩ := DataW.trod_int Try.underlying5 t3
        simp only [List.cons.injEq, and_true] at e0 e1 e2 e3
        subst e0 e1 e2 e3
        exact ⟨⟨x0, x1, x2, x3⟩, fun _ => ⟨⟨i64_of_wf w0, i64_of_wf w1⟩, c0, c1, c2, c3⟩⟩
      · exact ⟨⟨0, 0, 0, 0⟩, fun h => absurd h hil⟩
    obtain ⟨f, hf⟩ := Classical.axiomOfChoice key
    refine ⟨st, start, fin, (List.range len).map f, some a, m, by simp, i64_of_wf w0, i64_of_wf w1, i64_of_wf w2, ?_, by simpa using hlc, hcm, ?_⟩
    · intro e he
      simp only [List.mem_map, List.mem_range] at he
      obtain ⟨i, hil, rfl⟩ := he
      exact (hf i hil).1
    · intro j hj
      have hj' : j < len * 4 := by
        have := flat_length edgeCells_length ((List.range len).map f)
        rw [this] at hj
        simpa using hj
      have hk : j / 4 < len := by omega
      obtain ⟨_, g0, g1, g2, g3⟩ := hf (j / 4) hk
      have z0 := (hf 0 (by omega)).2.1
      obtain ⟨b, o, spot⟩ := a
      have hspot : spot = none := by simpa [Addr.add] using World.cell?_spot z0
      subst hspot
      refine ⟨b, o, rfl, cell_lt z0, ?_⟩
      have hget : ((List.range len).map f)[j / 4]? = some (f (j / 4)) := by simp [hk]
      have := flat_get edgeCells_length hget (Nat.mod_lt j (by decide : 0 < 4))
      rw [show j / 4 * 4 + j % 4 = j from by omega] at this
      have hx : (flat edgeCells ((List.range len).map f))[j] = (edgeCells (f (j / 4)))[j % 4]'(by rw [edgeCells_length]; omega) := by
        have h5 : (flat edgeCells ((List.range len).map f))[j]? = some (flat edgeCells ((List.range len).map f))[j] := List.getElem?_eq_getElem hj
        rw [h5, List.getElem?_eq_getElem (by rw [edgeCells_length]; omega)] at this
        exact Option.some.inj this
      rw [hx]
      have hadd : ∀ r, r < 4 → (⟨b, o, none⟩ : Addr).add (j / 4 * 4 + r) = ⟨b, o + (j / 4 * 4 + r), none⟩ := fun r _ => by unfold Addr.add; split <;> simp_all
      rw [hadd _ (by omega)] at g0 g1 g2 g3
      rcases (by omega : j % 4 = 0 ∨ j % 4 = 1 ∨ j % 4 = 2 ∨ j % 4 = 3) with hr | hr | hr | hr
      · rw [show o + j = o + (j / 4 * 4 + 0) from by omega, g0]
        simp [edgeCells, hr]
      · rw [show o + j = o + (j / 4 * 4 + 1) from by omega, g1]
        simp [edgeCells, hr]
      · rw [show o + j = o + (j / 4 * 4 + 2) from by omega, g2]
        simp [edgeCells, hr]
      · rw [show o + j = o + (j / 4 * 4 + 3) from by omega, g3]
        simp [edgeCells, hr]
end Go.Proofs.Ytaefhfldgemcnaa
