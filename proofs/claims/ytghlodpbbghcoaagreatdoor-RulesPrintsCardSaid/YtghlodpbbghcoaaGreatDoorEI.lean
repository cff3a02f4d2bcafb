/- The nets of the seven expressions: plain, reckoned by the kernel. -/
import Derived.Test.YtghlodpbbghcoaaGreatDoorEF
import Derived.Test.YtghlodpbbghcoaaGreatDoorXH
import Derived.Test.YtghlodpbbghcoaaGreatDoorXI
import Derived.Test.YtghlodpbbghcoaaGreatDoorZ31
import Derived.Test.YtghlodpbbghcoaaGreatDoorEH
import Derived.Deep.RegionHeld3
namespace Go.Proofs.YtghlodpbbghcoaaGreatDoor
def byteE (e : Rx.Edge) : Bool := (decide (0 ≤ e.low) && decide (e.low ≤ 255)) && (decide (0 ≤ e.high) && decide (e.high ≤ 255))
def netOk (s : ByteArray) : Bool :=
  match Rx.parseR s with
  | none => false
  | some t => (decide (t.size ≤ 1000) && decide ((Rx.netT t).1 ≤ 8)) && (Rx.Net.may ⟨(Rx.netT t).1, 0, 1, (Rx.netT t).2⟩ && ((Rx.netT t).2.all byteE && decide ((Rx.netT t).2.length ≤ 1000)))
theorem nets_ok : (pool7.all netOk) = true := by kernel_rfl
theorem net_of {s : ByteArray} (h : s ∈ pool7) : ∃ t, Rx.parseR s = some t ∧ t.size ≤ 1000 ∧ (Rx.netT t).1 ≤ 8 ∧ Rx.Net.may ⟨(Rx.netT t).1, 0, 1, (Rx.netT t).2⟩ = true ∧ ByteEdges (Rx.netT t).2 ∧ (Rx.netT t).2.length ≤ 1000 := by
  have h1 := List.all_eq_true.1 nets_ok s h
  unfold netOk at h1
  cases hp : Rx.parseR s with
  | none => rw [hp] at h1; cases h1
  | some t =>
    rw [hp] at h1
    simp only [Bool.and_eq_true, decide_eq_true_eq, List.all_eq_true] at h1
    obtain ⟨⟨h2, h3⟩, h4, h5, h6⟩ := h1
    refine ⟨t, rfl, h2, h3, h4, fun e he => ?_, h6⟩
    have := h5 e he
    unfold byteE at this
    simp only [Bool.and_eq_true, decide_eq_true_eq] at this
    exact this
theorem pool7_short : ∀ s ∈ pool7, s.size ≤ 60 := by
  intro s hs
  simp only [pool7, List.mem_cons, List.not_mem_nil, or_false] at hs
  rcases hs with rfl | rfl | rfl | rfl | rfl | rfl | rfl <;> decide
end Go.Proofs.YtghlodpbbghcoaaGreatDoor

/- Of of package dfa: walked. -/
namespace Go.Proofs.YtghlodpbbghcoaaGreatDoor
open Go.RowKit Go.Maps
theorem stepIf_store_mid {P : Program} {ops : Array Oper} {o : Oper} {a : Act} {w : World} {K : Act → World → Prop} {Q : Exit → Act → World → Prop} {E : Prop} (hgd : o.guard = none) (ty : TypeId) (x y : Operand) (ho : o.op = .store ty x y)
    (b off : Nat) (cells : Array Value) (hx : a.eval x = .pointer (some ⟨b, off, none⟩)) (hy : a.eval y = .agg cells) (ht : w.there b off cells.size) (hi : (P.info? ty).map (·.size) = some cells.size) (h1 : cells.all (·.oneCell') = true)
    (h : K (a.put o.dst undef) (w.setCells b off cells.toList)) : if Region.wanted o (yielded ops a.tmps) = true then o.wp P a w K Q else E := by
  have hw : Region.wanted o (yielded ops a.tmps) = true := by simp [Region.wanted, hgd]
  rw [if_pos hw]
  exact wp_store_mid ty x y ho b off cells hx hy ht hi h1 h
/-- How far Of's third statement has come, in whatever order: the boxes that are made, the steps that are reckoned. -/
structure OfInv (w0 : World) (N : Nat) (w : World) (b4 b5 g : Option Nat) : Prop where
  below : Below w0.heap.size w0 w
  h4 : ∀ b, b4 = some b → w0.heap.size ≤ b ∧ w.heap[b]? = some (.cells #[.slice none 0 0] 156 (0, 0))
  h5 : ∀ b, b5 = some b → w0.heap.size ≤ b ∧ w.heap[b]? = some (.cells (Rx.bcells Rx.noneM) 158 (0, 0))
  hg : ∀ x, g = some x → StepsAt w w.heap.size (some ⟨x, 0, none⟩) N N
theorem OfInv.start (w0 : World) (N : Nat) : OfInv w0 N w0.drew none none none := ⟨(Below.refl _ _).drew, fun _ h => by simp at h, fun _ h => by simp at h, fun _ h => by simp at h⟩
theorem StepsAt.wide {w : World} {B B' : Nat} {A : Option Addr} {n k : Nat} (h : StepsAt w B A n k) (hB : B ≤ B') : StepsAt w B' A n k := by
  obtain ⟨b, o, e, hb, h⟩ := h
  exact ⟨b, o, e, by omega, h⟩
theorem OfInv.own {w0 : World} {N : Nat} {w w' : World} {b4 b5 g : Option Nat} (h : OfInv w0 N w b4 b5 g) (hb : Below w.heap.size w w') : OfInv w0 N w' b4 b5 g :=
  ⟨h.below.trans (hb.mono h.below.size), fun b e => ⟨(h.h4 b e).1, blk_below (h.h4 b e).2 hb (blk_lt (h.h4 b e).2)⟩, fun b e => ⟨(h.h5 b e).1, blk_below (h.h5 b e).2 hb (blk_lt (h.h5 b e).2)⟩, fun x e => ((h.hg x e).below hb).wide hb.size⟩
theorem OfInv.alloc4 {w0 : World} {N : Nat} {w : World} {b5 g : Option Nat} (h : OfInv w0 N w none b5 g) : OfInv w0 N (w.alloc (.cells #[.slice none 0 0] 156)) (some w.heap.size) b5 g := by
  have h1 := h.own ((Below.refl _ _).alloc (Nat.le_refl _) (.cells #[.slice none 0 0] 156))
  exact ⟨h1.below, fun b e => by obtain rfl := Option.some.inj e; exact ⟨h.below.size, blk_new _ _⟩, h1.h5, h1.hg⟩
theorem OfInv.alloc5 {w0 : World} {N : Nat} {w : World} {b4 g : Option Nat} (h : OfInv w0 N w b4 none g) : OfInv w0 N (w.alloc (.cells (Rx.bcells Rx.noneM) 158)) b4 (some w.heap.size) g := by
  have h1 := h.own ((Below.refl _ _).alloc (Nat.le_refl _) (.cells (Rx.bcells Rx.noneM) 158))
  exact ⟨h1.below, h1.h4, fun b e => by obtain rfl := Option.some.inj e; exact ⟨h.below.size, blk_new _ _⟩, h1.hg⟩
theorem OfInv.steps {w0 : World} {N : Nat} {w w' : World} {b4 b5 : Option Nat} {x : Nat} (h : OfInv w0 N w b4 b5 none) (hb : Below w.heap.size w w') (hg : StepsAt w' w'.heap.size (some ⟨x, 0, none⟩) N N) : OfInv w0 N w' b4 b5 (some x) := by
  have h1 := h.own hb
  exact ⟨h1.below, h1.h4, h1.h5, fun y e => by obtain rfl := Option.some.inj e; exact hg⟩
theorem OfInv.all {w0 : World} {N : Nat} {w : World} {b4 b5 g : Nat} (h : OfInv w0 N w (some b4) (some b5) (some g)) : (w0.heap.size ≤ b4 ∧ w.heap[b4]? = some (.cells #[.slice none 0 0] 156 (0, 0))) ∧ (w0.heap.size ≤ b5 ∧ w.heap[b5]? = some (.cells (Rx.bcells Rx.noneM) 158 (0, 0))) ∧ StepsAt w w.heap.size (some ⟨g, 0, none⟩) N N :=
  ⟨h.h4 _ rfl, h.h5 _ rfl, h.hg _ rfl⟩
/-- The i-th of a row of sets. -/
theorem own_set {w : World} {A : Option Addr} {m c : Nat} {l : List Nat} (h : w.ownsRow 0 162 8 (.slice A m c) m (flat setL l)) {i : Nat} (hi : i < l.length) (hm : l.length = m) : ∃ g x o, A = some ⟨g, 0, none⟩ ∧ SetAt w g (i * 8) x ∧ w.heap[g]? = some o := by
  obtain ⟨hl, hr⟩ := h
  rcases hr with ⟨e, e0⟩ | ⟨g, cap, cur, e, hb, hg, hcap, hcm, hcs, htk⟩
  · omega
  · injection e with e1 e2 e3
    subst e1
    have hx : l[i]? = some l[i] := List.getElem?_eq_getElem hi
    have hget : ∀ j, j < 8 → w.cell? ⟨g, i * 8 + j, none⟩ = (setL l[i])[j]? := fun j hj => by
      rw [blk_cell hg, ← flat_get (enc := setL) (m := 8) (fun x => by simp [setL, setV]) hx hj, ← htk, List.getElem?_take, if_pos (by omega), Array.getElem?_toList]
    refine ⟨g, l[i], _, rfl, ⟨?_, fun j h0 h8 => ?_⟩, hg⟩
    · have := hget 0 (by omega)
      simpa [setL, setV] using this
    · rw [hget j h8]
      match j, h0, h8 with
      | 1, _, _ | 2, _, _ | 3, _, _ | 4, _, _ | 5, _, _ | 6, _, _ | 7, _, _ => rfl
/-- What stands behind it. -/
structure OfDone (w0 : World) (N : Nat) (wa wb : World) (b4 b5 g : Nat) (m : List Bool) : Prop where
  below : Below w0.heap.size w0 wb
  le4 : w0.heap.size ≤ b4
  le5 : w0.heap.size ≤ b5
  h4 : wb.heap[b4]? = some (.cells #[.slice (some ⟨g, 0, none⟩) N N] 156 (0, 0))
  h5 : wb.heap[b5]? = some (.cells (Rx.bcells m) 158 (0, 0))
  hg : StepsAt wb wb.heap.size (some ⟨g, 0, none⟩) N N
  there : wa.there b5 0 (Rx.bcells m).size
theorem OfInv.done {w0 : World} {N : Nat} (hN : 0 < N) {w : World} {b4 b5 g : Nat} (h : OfInv w0 N w (some b4) (some b5) (some g)) {m : List Bool} (hm : m.length = 95) :
    OfDone w0 N (w.setCell ⟨b4, 0, none⟩ (.slice (some ⟨g, 0, none⟩) N N)) ((w.setCell ⟨b4, 0, none⟩ (.slice (some ⟨g, 0, none⟩) N N)).setCells b5 0 (Rx.bcells m).toList) b4 b5 g m := by
  obtain ⟨⟨l4, h4⟩, ⟨l5, h5⟩, hg⟩ := h.all
  have hne : b4 ≠ b5 := fun e => by
    subst e
    have := h4.symm.trans h5
    simp at this
  obtain ⟨b, o, e, hgl, hst⟩ := hg
  simp only [Option.some.injEq, Addr.mk.injEq, and_true] at e
  obtain ⟨rfl, rfl⟩ := e
  obtain ⟨x, _, hx, _⟩ := hst 0 0 hN (by decide)
  have hg4 : g ≠ b4 := fun e => by
    subst e
    rw [blk_cell h4] at hx
    simp at hx
  have hg5 : g ≠ b5 := fun e => by
    subst e
    rw [blk_cell h5] at hx
    have : (Rx.bcells Rx.noneM)[0 + 0 * 760 + 0 * 8]? = some (.bool false) := by kernel_rfl
    rw [this] at hx
    simp at hx
  have ha5 : (w.setCell ⟨b4, 0, none⟩ (.slice (some ⟨g, 0, none⟩) N N)).heap[b5]? = some (.cells (Rx.bcells Rx.noneM) 158 (0, 0)) := blk_set h5 (fun e => hne e.symm) _
  have ha4 : (w.setCell ⟨b4, 0, none⟩ (.slice (some ⟨g, 0, none⟩) N N)).heap[b4]? = some (.cells #[.slice (some ⟨g, 0, none⟩) N N] 156 (0, 0)) := blk_set_self h4 0 _
  refine ⟨Rx.below_setCells l5 _ _ _ (h.below.setCell (p := ⟨b4, 0, none⟩) l4 _), l4, l5, (Rx.heap_setCells_other hne _ _ _).trans ha4, ?_, ?_, ?_⟩
  · have h := Rx.blk_setCellsAll (Rx.bcells m).toList (Rx.noneM.map Value.bool) [] _ (by simp [Rx.bcells, hm, Rx.noneM_length]) ha5
    simpa using h
  · refine StepsAt.keep ⟨g, 0, rfl, hgl, hst⟩ (fun b hb he => ?_) (by rw [setCells_size]; simp)
    obtain ⟨o, he⟩ := he
    simp only [Option.some.injEq, Addr.mk.injEq, and_true] at he
    obtain ⟨rfl, _⟩ := he
    exact (Rx.heap_setCells_other hg5 _ _ _).trans (Below.heap_setCell w ⟨b4, 0, none⟩ _ g hg4)
  · intro j hj
    have hj2 : j < 95 := by rw [Rx.bcells_size] at hj; omega
    rw [Nat.zero_add]
    refine ⟨?_, blk_frozen ha5 j⟩
    rw [blk_cell ha5 j, Rx.bcells_get (by rw [Rx.noneM_length]; exact hj2)]; rfl

set_option maxRecDepth 8192 in
set_option maxHeartbeats 12800000 in
theorem of116_any (n : Rx.Net) (N : Nat) (A : Option Addr) (c : Nat) (w : World) (hN : n.st = (N : Int)) (hN8 : N ≤ 8) (hm : n.may = true) (hne : n.edges.length ≤ 1000) (hby : ByteEdges n.edges) (hE : Rx.EdgesAt w w.heap.size A n.edges) (hT : TzTab w) :
    Calls Tryz.prog 116 #[.agg #[.int .i64 n.st, .int .i64 n.start, .int .i64 n.fin, .slice A n.edges.length c]] w fun e w' => (∃ v, e = .returned (.tuple #[v, .int .i64 0])) ∧ Below w.heap.size w w' := by
  obtain ⟨q1, -, ⟨q2, q3⟩, ⟨q4, q5⟩, -⟩ := Rx.may_iff.1 hm
  obtain ⟨qs, hqs⟩ := Int.eq_ofNat_of_zero_le q2
  obtain ⟨qf, hqf⟩ := Int.eq_ofNat_of_zero_le q4
  have hN0 : 0 < N := by omega
  have hqfN : qf < N := by omega
  have Hm := Lib.hid hm
  have HE := Lib.hid hE
  have HT := Lib.hid hT
  have hagg : (Value.agg #[.int .i64 n.st, .int .i64 n.start, .int .i64 n.fin, .slice A n.edges.length c]) = .agg #[.int .i64 (N : Int), .int .i64 (qs : Int), .int .i64 (qf : Int), .slice A n.edges.length c] := by rw [hN, hqs, hqf]
  have h120 : Hid (∀ W, Below w.heap.size w W → Calls Tryz.prog 120 #[.agg #[.int .i64 (N : Int), .int .i64 (qs : Int), .int .i64 (qf : Int), .slice A n.edges.length c]] W fun e w' => e = .returned (.int .i64 0) ∧ Below W.heap.size W w') := fun W hb => by
    have h := Rx.may_any n A c W (by omega) ((HE.out.below hb).more hb.size)
    rw [Rx.mayV_yes Hm.out] at h
    rwa [hagg] at h
  have h121 : Hid (∀ W, Below w.heap.size w W → Calls Tryz.prog 121 #[.agg #[.int .i64 (N : Int), .int .i64 (qs : Int), .int .i64 (qf : Int), .slice A n.edges.length c]] W fun e w' =>
      (∃ g, e = .returned (.slice (some ⟨g, 0, none⟩) N N) ∧ StepsAt w' w'.heap.size (some ⟨g, 0, none⟩) N N) ∧ Below W.heap.size W w') := fun W hb => by
    have h := stepsOf_any n N A c W hN hN8 Hm.out (by omega) hby ((HE.out.below hb).more hb.size)
    rwa [hagg] at h
  have h122 : Hid (∀ W, Below w.heap.size w W → Calls Tryz.prog 122 #[.agg #[.int .i64 (N : Int), .int .i64 (qs : Int), .int .i64 (qf : Int), .slice A n.edges.length c]] W (TruthsOut W)) := fun W hb => by
    have h := borders_any n A c W (by omega) hby ((HE.out.below hb).more hb.size)
    rwa [hagg] at h
  have h127 : Hid (∀ W B, Below w.heap.size w W → W.heap[B]? = some (.cells #[.int .i64 (qs : Int)] 3 (0, 0)) → Calls Tryz.prog 127 #[.agg #[.int .i64 (N : Int), .int .i64 (qs : Int), .int .i64 (qf : Int), .slice A n.edges.length c], .slice (some ⟨B, 0, none⟩) 1 1] W fun e w' =>
      (∃ A' c' xs, e = .returned (.slice A' xs.length c') ∧ Rx.IntsAt w' w'.heap.size A' xs ∧ xs.length ≤ N ∧ ∀ q ∈ xs, 0 ≤ q ∧ q < (N : Int)) ∧ Below W.heap.size W w') := fun W B hb hB => by
    have h := closedN_any n N B qs c A W hN Hm.out (by omega) ((HE.out.below hb).more hb.size) hB
    rwa [hqs, hqf] at h
  rw [hagg]
  obtain ⟨ne, hnl⟩ : ∃ ne, ne = n.edges.length := ⟨_, rfl⟩
  rw [← hnl] at h120 h121 h122 h127 ⊢
  clear hagg hnl hE hT hm hqs hqf q1 q2 q3 q4 q5 hne
  go_enter Tryz.func116, Tryz.ntmps116
  go_upto_region 1 with fail
  obtain ⟨w1, hw1⟩ : ∃ w1, w1 = (w.alloc (.cells #[.int .i64 (N : Int), .int .i64 (qs : Int), .int .i64 (qf : Int), .slice A ne c] 143)).alloc (.cells #[.slice none 0 0, .slice none 0 0] 138) := ⟨_, rfl⟩
  have hX1 : Hid (w1.heap[w.heap.size]? = some (.cells #[.int .i64 (N : Int), .int .i64 (qs : Int), .int .i64 (qf : Int), .slice A ne c] 143 (0, 0))) := by subst hw1; exact blk_alloc (blk_new _ _) _
  have hR1 : Hid (w1.heap[w.heap.size + 1]? = some (.cells #[.slice none 0 0, .slice none 0 0] 138 (0, 0))) := by subst hw1; exact blk_new' (by simp)
  have hB1 : Hid (Below w.heap.size w w1) := by subst hw1; exact ((Below.refl _ _).alloc (Nat.le_refl _) _).alloc (by simp) _
  rw [← hw1]
  clear hw1
  obtain ⟨X, hXe⟩ : ∃ X, X = w.heap.size := ⟨_, rfl⟩
  rw [← hXe] at hX1 hR1 ⊢
  have HXe := Lib.hid hXe
  clear hXe
  have hS0 : Hid (∀ W, Below w1.heap.size w1 W → W.cell? ⟨X, 0, none⟩ = some (.int .i64 (N : Int)) ∧ W.cell? ⟨X, 1, none⟩ = some (.int .i64 (qs : Int)) ∧ W.cell? ⟨X, 2, none⟩ = some (.int .i64 (qf : Int)) ∧ W.cell? ⟨X, 3, none⟩ = some (.slice A ne c)) := fun W hb => by
    have hbk := blk_below hX1.out hb (blk_lt hX1.out)
    exact ⟨blk_cell hbk 0, blk_cell hbk 1, blk_cell hbk 2, blk_cell hbk 3⟩
  obtain ⟨x0, x1, x2, x3⟩ := hS0.out w1 (Below.refl _ _)
  go_upto_region 3 with (go_at_call 120; refine (h120.out _ hB1.out).mono ?_; rintro e w2 ⟨rfl, hb2⟩; have Hb2 := Lib.hid hb2; clear hb2)
  have hB2 : Hid (Below w.heap.size w w2) := hB1.out.trans (Hb2.out.mono hB1.out.size)
  clear x0 x1 x2 x3 h120
  go_cut [4, 5] (fun s4 s5 wx => ∃ (b4 b5 g : Nat) (mm : List Bool), s4 = .pointer (some ⟨b4, 0, none⟩) ∧ s5 = .pointer (some ⟨b5, 0, none⟩) ∧ mm.length = 95 ∧ ∃ wa, OfDone w2 N wa wx b4 b5 g mm)
  case first =>
    have hS : Hid (∀ W, Below w2.heap.size w2 W → W.cell? ⟨X, 0, none⟩ = some (.int .i64 (N : Int)) ∧ W.cell? ⟨X, 1, none⟩ = some (.int .i64 (qs : Int)) ∧ W.cell? ⟨X, 2, none⟩ = some (.int .i64 (qf : Int)) ∧ W.cell? ⟨X, 3, none⟩ = some (.slice A ne c)) := fun W hb => hS0.out W (Hb2.out.trans (hb.mono Hb2.out.size))
    replace h121 : Hid (∀ W, Below w2.heap.size w2 W → Calls Tryz.prog 121 #[.agg #[.int .i64 (N : Int), .int .i64 (qs : Int), .int .i64 (qf : Int), .slice A ne c]] W fun e w' =>
      (∃ g, e = .returned (.slice (some ⟨g, 0, none⟩) N N) ∧ StepsAt w' w'.heap.size (some ⟨g, 0, none⟩) N N) ∧ Below W.heap.size W w') := fun W hb => h121.out W (hB2.out.trans (hb.mono hB2.out.size))
    replace h122 : Hid (∀ W, Below w2.heap.size w2 W → Calls Tryz.prog 122 #[.agg #[.int .i64 (N : Int), .int .i64 (qs : Int), .int .i64 (qf : Int), .slice A ne c]] W (TruthsOut W)) := fun W hb => h122.out W (hB2.out.trans (hb.mono hB2.out.size))
    have hI := Lib.hid (OfInv.start w2 N)
    clear h127
    refine wp_region_held_drew (S := fun W => W.cell? ⟨X, 0, none⟩ = some (.int .i64 (N : Int)) ∧ W.cell? ⟨X, 1, none⟩ = some (.int .i64 (qs : Int)) ∧ W.cell? ⟨X, 2, none⟩ = some (.int .i64 (qf : Int)) ∧ W.cell? ⟨X, 3, none⟩ = some (.slice A ne c)) (by kernel_rfl) ?_ (fun hHeld => ?_)
    · exact hS.out _ hI.out.below
    generalize hZ0 : w2.drew = W0 at hI hHeld ⊢
    clear hZ0
    refine wpAnyH_take (i := 0) (v := ?_) rfl (by kernel_rfl) (by kernel_rfl) (by kernel_rfl) (fun _ _ _ h => h) (Or.inl ⟨by rfl, ?_⟩) (by assumption) ?_
    rotate_left
    · (intro W hSw; (try dsimp only at hSw); go_simp; try with_reducible rfl)
    (try simp only [Act.put, List.getElem_toArray, List.getElem_cons_zero, List.setIfInBounds_toArray, List.set_cons_zero, List.set_cons_succ])
    refine wpAnyH_take (i := 2) (v := ?_) rfl (by kernel_rfl) (by kernel_rfl) (by kernel_rfl) (fun _ _ _ h => h) (Or.inl ⟨by rfl, ?_⟩) (by assumption) ?_
    rotate_left
    · (intro W hSw; (try dsimp only at hSw); go_simp; try with_reducible rfl)
    (try simp only [Act.put, List.getElem_toArray, List.getElem_cons_zero, List.getElem_cons_succ, List.setIfInBounds_toArray, List.set_cons_zero, List.set_cons_succ])
    refine wpAnyH_ready (rs := [1, 4, 5]) (by kernel_rfl) (by simp) ?_
    refine AllReadyH.cons rfl (fun K hK => ?_) (AllReadyH.cons rfl (fun K hK => ?_) (AllReadyH.cons rfl (fun K hK => ?_) AllReadyH.nil))
    · go_simp
      (go_at_call 121; refine Calls.mono (h121.out _ hI.out.below) ?_; rintro e W1 ⟨⟨g, rfl, hg⟩, hb⟩; have hI1 := Lib.hid (hI.out.steps hb hg); clear hb hg)
      (try go_wp2_with fail)
      refine hK.out _ _ ?_ (fun hHeld => ?_)
      · exact hS.out _ hI1.out.below
      clear hK K
      clear hI
      replace hI := hI1
      clear hI1
      (try simp only [Act.put, List.getElem_toArray, List.getElem_cons_zero, List.getElem_cons_succ, List.setIfInBounds_toArray, List.set_cons_zero, List.set_cons_succ])
      refine wpAnyH_ready (rs := [3, 4, 5]) (by kernel_rfl) (by simp) ?_
      refine AllReadyH.cons rfl (fun K hK => ?_) (AllReadyH.cons rfl (fun K hK => ?_) (AllReadyH.cons rfl (fun K hK => ?_) AllReadyH.nil))
      · go_simp
        (go_at_call 122; refine Calls.mono (h122.out _ hI.out.below) ?_; rintro e W2 ⟨⟨mm, hml, rfl⟩, hb⟩; have hI2 := Lib.hid (hI.out.own hb); clear hb)
        (try go_wp2_with fail)
        refine hK.out _ _ ?_ (fun hHeld => ?_)
        · exact hS.out _ hI2.out.below
        clear hK K
        clear hI
        replace hI := hI2
        clear hI2
        (try simp only [Act.put, List.getElem_toArray, List.getElem_cons_zero, List.getElem_cons_succ, List.setIfInBounds_toArray, List.set_cons_zero, List.set_cons_succ])
        refine wpAnyH_ready (rs := [4, 5]) (by kernel_rfl) (by simp) ?_
        refine AllReadyH.cons rfl (fun K hK => ?_) (AllReadyH.cons rfl (fun K hK => ?_) AllReadyH.nil)
        · go_simp
          have hI3 := Lib.hid (hI.out.alloc4)
          refine hK.out _ _ ?_ (fun hHeld => ?_)
          · exact hS.out _ hI3.out.below
          clear hK K
          generalize hZ3 : W2.alloc (.cells #[.slice none 0 0] 156) = W3 at hI3 hHeld ⊢
          clear hZ3 hI
          replace hI := hI3
          clear hI3
          (try simp only [Act.put, List.getElem_toArray, List.getElem_cons_zero, List.getElem_cons_succ, List.setIfInBounds_toArray, List.set_cons_zero, List.set_cons_succ])
          refine wpAnyH_ready (rs := [5]) (by kernel_rfl) (by simp) ?_
          refine AllReadyH.cons rfl (fun K hK => ?_) AllReadyH.nil
          · go_simp
            rw [zero158]
            have hI4 := Lib.hid (hI.out.alloc5)
            refine hK.out _ _ ?_ (fun hHeld => ?_)
            · exact hS.out _ hI4.out.below
            clear hK K
            generalize hZ4 : W3.alloc (.cells (Rx.bcells Rx.noneM) 158) = W4 at hI4 hHeld ⊢
            clear hZ4 hI
            replace hI := hI4
            clear hI4
            (try simp only [Act.put, List.getElem_toArray, List.getElem_cons_zero, List.getElem_cons_succ, List.setIfInBounds_toArray, List.set_cons_zero, List.set_cons_succ])
            obtain ⟨hX4, hX5, hXg⟩ := hI.out.all
            have c4 := blk_cell hX4.2 0
            have f4 := blk_frozen hX4.2 0
            refine wpAnyH_ready (rs := [6]) (by kernel_rfl) (by simp) ?_
            refine AllReadyH.cons rfl (fun K hK => ?_) AllReadyH.nil
            go_simp
            refine hK.out _ _ ?_ (fun hHeld => ?_)
            · exact hS.out _ (hI.out.below.setCell hX4.1 _)
            clear hK K
            (try simp only [Act.put, List.getElem_toArray, List.getElem_cons_zero, List.getElem_cons_succ])
            have hd := hI.out.done hN0 hml
            refine wpAnyH_ready (rs := [7]) (by kernel_rfl) (by simp) ?_
            refine AllReadyH.cons rfl (fun K hK => ?_) AllReadyH.nil
            refine stepIf_store_mid rfl 158 _ _ rfl _ 0 (Rx.bcells mm) rfl rfl hd.there (info158 hml) (Rx.bcells_one mm) ?_
            refine hK.out _ _ ?_ (fun hHeld => ?_)
            · exact hS.out _ hd.below
            clear hK K
            (try simp only [Act.put, List.getElem_toArray, List.getElem_cons_zero, List.getElem_cons_succ])
            refine wpAnyH_done (by kernel_rfl) ?_ _
            go_wp2_with fail
            go_meet
            exact ⟨_, _, _, mm, rfl, rfl, hml, _, hd⟩
        · go_simp
          rw [zero158]
          have hI5 := Lib.hid (hI.out.alloc5)
          refine hK.out _ _ ?_ (fun hHeld => ?_)
          · exact hS.out _ hI5.out.below
          clear hK K
          generalize hZ5 : W2.alloc (.cells (Rx.bcells Rx.noneM) 158) = W5 at hI5 hHeld ⊢
          clear hZ5 hI
          replace hI := hI5
          clear hI5
          (try simp only [Act.put, List.getElem_toArray, List.getElem_cons_zero, List.getElem_cons_succ, List.setIfInBounds_toArray, List.set_cons_zero, List.set_cons_succ])
          refine wpAnyH_ready (rs := [4]) (by kernel_rfl) (by simp) ?_
          refine AllReadyH.cons rfl (fun K hK => ?_) AllReadyH.nil
          · go_simp
            have hI6 := Lib.hid (hI.out.alloc4)
            refine hK.out _ _ ?_ (fun hHeld => ?_)
            · exact hS.out _ hI6.out.below
            clear hK K
            generalize hZ6 : W5.alloc (.cells #[.slice none 0 0] 156) = W6 at hI6 hHeld ⊢
            clear hZ6 hI
            replace hI := hI6
            clear hI6
            (try simp only [Act.put, List.getElem_toArray, List.getElem_cons_zero, List.getElem_cons_succ, List.setIfInBounds_toArray, List.set_cons_zero, List.set_cons_succ])
            obtain ⟨hX4, hX5, hXg⟩ := hI.out.all
            have c4 := blk_cell hX4.2 0
            have f4 := blk_frozen hX4.2 0
            refine wpAnyH_ready (rs := [6]) (by kernel_rfl) (by simp) ?_
            refine AllReadyH.cons rfl (fun K hK => ?_) AllReadyH.nil
            go_simp
            refine hK.out _ _ ?_ (fun hHeld => ?_)
            · exact hS.out _ (hI.out.below.setCell hX4.1 _)
            clear hK K
            (try simp only [Act.put, List.getElem_toArray, List.getElem_cons_zero, List.getElem_cons_succ])
            have hd := hI.out.done hN0 hml
            refine wpAnyH_ready (rs := [7]) (by kernel_rfl) (by simp) ?_
            refine AllReadyH.cons rfl (fun K hK => ?_) AllReadyH.nil
            refine stepIf_store_mid rfl 158 _ _ rfl _ 0 (Rx.bcells mm) rfl rfl hd.there (info158 hml) (Rx.bcells_one mm) ?_
            refine hK.out _ _ ?_ (fun hHeld => ?_)
            · exact hS.out _ hd.below
            clear hK K
            (try simp only [Act.put, List.getElem_toArray, List.getElem_cons_zero, List.getElem_cons_succ])
            refine wpAnyH_done (by kernel_rfl) ?_ _
            go_wp2_with fail
            go_meet
            exact ⟨_, _, _, mm, rfl, rfl, hml, _, hd⟩
      · go_simp
        have hI7 := Lib.hid (hI.out.alloc4)
        refine hK.out _ _ ?_ (fun hHeld => ?_)
        · exact hS.out _ hI7.out.below
        clear hK K
        generalize hZ7 : W1.alloc (.cells #[.slice none 0 0] 156) = W7 at hI7 hHeld ⊢
        clear hZ7 hI
        replace hI := hI7
        clear hI7
        (try simp only [Act.put, List.getElem_toArray, List.getElem_cons_zero, List.getElem_cons_succ, List.setIfInBounds_toArray, List.set_cons_zero, List.set_cons_succ])
        refine wpAnyH_ready (rs := [3, 5]) (by kernel_rfl) (by simp) ?_
        refine AllReadyH.cons rfl (fun K hK => ?_) (AllReadyH.cons rfl (fun K hK => ?_) AllReadyH.nil)
        · go_simp
          (go_at_call 122; refine Calls.mono (h122.out _ hI.out.below) ?_; rintro e W8 ⟨⟨mm, hml, rfl⟩, hb⟩; have hI8 := Lib.hid (hI.out.own hb); clear hb)
          (try go_wp2_with fail)
          refine hK.out _ _ ?_ (fun hHeld => ?_)
          · exact hS.out _ hI8.out.below
          clear hK K
          clear hI
          replace hI := hI8
          clear hI8
          (try simp only [Act.put, List.getElem_toArray, List.getElem_cons_zero, List.getElem_cons_succ, List.setIfInBounds_toArray, List.set_cons_zero, List.set_cons_succ])
          refine wpAnyH_ready (rs := [5]) (by kernel_rfl) (by simp) ?_
          refine AllReadyH.cons rfl (fun K hK => ?_) AllReadyH.nil
          · go_simp
            rw [zero158]
            have hI9 := Lib.hid (hI.out.alloc5)
            refine hK.out _ _ ?_ (fun hHeld => ?_)
            · exact hS.out _ hI9.out.below
            clear hK K
            generalize hZ9 : W8.alloc (.cells (Rx.bcells Rx.noneM) 158) = W9 at hI9 hHeld ⊢
            clear hZ9 hI
            replace hI := hI9
            clear hI9
            (try simp only [Act.put, List.getElem_toArray, List.getElem_cons_zero, List.getElem_cons_succ, List.setIfInBounds_toArray, List.set_cons_zero, List.set_cons_succ])
            obtain ⟨hX4, hX5, hXg⟩ := hI.out.all
            have c4 := blk_cell hX4.2 0
            have f4 := blk_frozen hX4.2 0
            refine wpAnyH_ready (rs := [6]) (by kernel_rfl) (by simp) ?_
            refine AllReadyH.cons rfl (fun K hK => ?_) AllReadyH.nil
            go_simp
            refine hK.out _ _ ?_ (fun hHeld => ?_)
            · exact hS.out _ (hI.out.below.setCell hX4.1 _)
            clear hK K
            (try simp only [Act.put, List.getElem_toArray, List.getElem_cons_zero, List.getElem_cons_succ])
            have hd := hI.out.done hN0 hml
            refine wpAnyH_ready (rs := [7]) (by kernel_rfl) (by simp) ?_
            refine AllReadyH.cons rfl (fun K hK => ?_) AllReadyH.nil
            refine stepIf_store_mid rfl 158 _ _ rfl _ 0 (Rx.bcells mm) rfl rfl hd.there (info158 hml) (Rx.bcells_one mm) ?_
            refine hK.out _ _ ?_ (fun hHeld => ?_)
            · exact hS.out _ hd.below
            clear hK K
            (try simp only [Act.put, List.getElem_toArray, List.getElem_cons_zero, List.getElem_cons_succ])
            refine wpAnyH_done (by kernel_rfl) ?_ _
            go_wp2_with fail
            go_meet
            exact ⟨_, _, _, mm, rfl, rfl, hml, _, hd⟩
        · go_simp
          rw [zero158]
          have hI10 := Lib.hid (hI.out.alloc5)
          refine hK.out _ _ ?_ (fun hHeld => ?_)
          · exact hS.out _ hI10.out.below
          clear hK K
          generalize hZ10 : W7.alloc (.cells (Rx.bcells Rx.noneM) 158) = W10 at hI10 hHeld ⊢
          clear hZ10 hI
          replace hI := hI10
          clear hI10
          (try simp only [Act.put, List.getElem_toArray, List.getElem_cons_zero, List.getElem_cons_succ, List.setIfInBounds_toArray, List.set_cons_zero, List.set_cons_succ])
          refine wpAnyH_ready (rs := [3]) (by kernel_rfl) (by simp) ?_
          refine AllReadyH.cons rfl (fun K hK => ?_) AllReadyH.nil
          · go_simp
            (go_at_call 122; refine Calls.mono (h122.out _ hI.out.below) ?_; rintro e W11 ⟨⟨mm, hml, rfl⟩, hb⟩; have hI11 := Lib.hid (hI.out.own hb); clear hb)
            (try go_wp2_with fail)
            refine hK.out _ _ ?_ (fun hHeld => ?_)
            · exact hS.out _ hI11.out.below
            clear hK K
            clear hI
            replace hI := hI11
            clear hI11
            (try simp only [Act.put, List.getElem_toArray, List.getElem_cons_zero, List.getElem_cons_succ, List.setIfInBounds_toArray, List.set_cons_zero, List.set_cons_succ])
            obtain ⟨hX4, hX5, hXg⟩ := hI.out.all
            have c4 := blk_cell hX4.2 0
            have f4 := blk_frozen hX4.2 0
            refine wpAnyH_ready (rs := [6]) (by kernel_rfl) (by simp) ?_
            refine AllReadyH.cons rfl (fun K hK => ?_) AllReadyH.nil
            go_simp
            refine hK.out _ _ ?_ (fun hHeld => ?_)
            · exact hS.out _ (hI.out.below.setCell hX4.1 _)
            clear hK K
            (try simp only [Act.put, List.getElem_toArray, List.getElem_cons_zero, List.getElem_cons_succ])
            have hd := hI.out.done hN0 hml
            refine wpAnyH_ready (rs := [7]) (by kernel_rfl) (by simp) ?_
            refine AllReadyH.cons rfl (fun K hK => ?_) AllReadyH.nil
            refine stepIf_store_mid rfl 158 _ _ rfl _ 0 (Rx.bcells mm) rfl rfl hd.there (info158 hml) (Rx.bcells_one mm) ?_
            refine hK.out _ _ ?_ (fun hHeld => ?_)
            · exact hS.out _ hd.below
            clear hK K
            (try simp only [Act.put, List.getElem_toArray, List.getElem_cons_zero, List.getElem_cons_succ])
            refine wpAnyH_done (by kernel_rfl) ?_ _
            go_wp2_with fail
            go_meet
            exact ⟨_, _, _, mm, rfl, rfl, hml, _, hd⟩
      · go_simp
        rw [zero158]
        have hI12 := Lib.hid (hI.out.alloc5)
        refine hK.out _ _ ?_ (fun hHeld => ?_)
        · exact hS.out _ hI12.out.below
        clear hK K
        generalize hZ12 : W1.alloc (.cells (Rx.bcells Rx.noneM) 158) = W12 at hI12 hHeld ⊢
        clear hZ12 hI
        replace hI := hI12
        clear hI12
        (try simp only [Act.put, List.getElem_toArray, List.getElem_cons_zero, List.getElem_cons_succ, List.setIfInBounds_toArray, List.set_cons_zero, List.set_cons_succ])
        refine wpAnyH_ready (rs := [3, 4]) (by kernel_rfl) (by simp) ?_
        refine AllReadyH.cons rfl (fun K hK => ?_) (AllReadyH.cons rfl (fun K hK => ?_) AllReadyH.nil)
        · go_simp
          (go_at_call 122; refine Calls.mono (h122.out _ hI.out.below) ?_; rintro e W13 ⟨⟨mm, hml, rfl⟩, hb⟩; have hI13 := Lib.hid (hI.out.own hb); clear hb)
          (try go_wp2_with fail)
          refine hK.out _ _ ?_ (fun hHeld => ?_)
          · exact hS.out _ hI13.out.below
          clear hK K
          clear hI
          replace hI := hI13
          clear hI13
          (try simp only [Act.put, List.getElem_toArray, List.getElem_cons_zero, List.getElem_cons_succ, List.setIfInBounds_toArray, List.set_cons_zero, List.set_cons_succ])
          refine wpAnyH_ready (rs := [4]) (by kernel_rfl) (by simp) ?_
          refine AllReadyH.cons rfl (fun K hK => ?_) AllReadyH.nil
          · go_simp
            have hI14 := Lib.hid (hI.out.alloc4)
            refine hK.out _ _ ?_ (fun hHeld => ?_)
            · exact hS.out _ hI14.out.below
            clear hK K
            generalize hZ14 : W13.alloc (.cells #[.slice none 0 0] 156) = W14 at hI14 hHeld ⊢
            clear hZ14 hI
            replace hI := hI14
            clear hI14
            (try simp only [Act.put, List.getElem_toArray, List.getElem_cons_zero, List.getElem_cons_succ, List.setIfInBounds_toArray, List.set_cons_zero, List.set_cons_succ])
            obtain ⟨hX4, hX5, hXg⟩ := hI.out.all
            have c4 := blk_cell hX4.2 0
            have f4 := blk_frozen hX4.2 0
            refine wpAnyH_ready (rs := [6]) (by kernel_rfl) (by simp) ?_
            refine AllReadyH.cons rfl (fun K hK => ?_) AllReadyH.nil
            go_simp
            refine hK.out _ _ ?_ (fun hHeld => ?_)
            · exact hS.out _ (hI.out.below.setCell hX4.1 _)
            clear hK K
            (try simp only [Act.put, List.getElem_toArray, List.getElem_cons_zero, List.getElem_cons_succ])
            have hd := hI.out.done hN0 hml
            refine wpAnyH_ready (rs := [7]) (by kernel_rfl) (by simp) ?_
            refine AllReadyH.cons rfl (fun K hK => ?_) AllReadyH.nil
            refine stepIf_store_mid rfl 158 _ _ rfl _ 0 (Rx.bcells mm) rfl rfl hd.there (info158 hml) (Rx.bcells_one mm) ?_
            refine hK.out _ _ ?_ (fun hHeld => ?_)
            · exact hS.out _ hd.below
            clear hK K
            (try simp only [Act.put, List.getElem_toArray, List.getElem_cons_zero, List.getElem_cons_succ])
            refine wpAnyH_done (by kernel_rfl) ?_ _
            go_wp2_with fail
            go_meet
            exact ⟨_, _, _, mm, rfl, rfl, hml, _, hd⟩
        · go_simp
          have hI15 := Lib.hid (hI.out.alloc4)
          refine hK.out _ _ ?_ (fun hHeld => ?_)
          · exact hS.out _ hI15.out.below
          clear hK K
          generalize hZ15 : W12.alloc (.cells #[.slice none 0 0] 156) = W15 at hI15 hHeld ⊢
          clear hZ15 hI
          replace hI := hI15
          clear hI15
          (try simp only [Act.put, List.getElem_toArray, List.getElem_cons_zero, List.getElem_cons_succ, List.setIfInBounds_toArray, List.set_cons_zero, List.set_cons_succ])
          refine wpAnyH_ready (rs := [3]) (by kernel_rfl) (by simp) ?_
          refine AllReadyH.cons rfl (fun K hK => ?_) AllReadyH.nil
          · go_simp
            (go_at_call 122; refine Calls.mono (h122.out _ hI.out.below) ?_; rintro e W16 ⟨⟨mm, hml, rfl⟩, hb⟩; have hI16 := Lib.hid (hI.out.own hb); clear hb)
            (try go_wp2_with fail)
            refine hK.out _ _ ?_ (fun hHeld => ?_)
            · exact hS.out _ hI16.out.below
            clear hK K
            clear hI
            replace hI := hI16
            clear hI16
            (try simp only [Act.put, List.getElem_toArray, List.getElem_cons_zero, List.getElem_cons_succ, List.setIfInBounds_toArray, List.set_cons_zero, List.set_cons_succ])
            obtain ⟨hX4, hX5, hXg⟩ := hI.out.all
            have c4 := blk_cell hX4.2 0
            have f4 := blk_frozen hX4.2 0
            refine wpAnyH_ready (rs := [6]) (by kernel_rfl) (by simp) ?_
            refine AllReadyH.cons rfl (fun K hK => ?_) AllReadyH.nil
            go_simp
            refine hK.out _ _ ?_ (fun hHeld => ?_)
            · exact hS.out _ (hI.out.below.setCell hX4.1 _)
            clear hK K
            (try simp only [Act.put, List.getElem_toArray, List.getElem_cons_zero, List.getElem_cons_succ])
            have hd := hI.out.done hN0 hml
            refine wpAnyH_ready (rs := [7]) (by kernel_rfl) (by simp) ?_
            refine AllReadyH.cons rfl (fun K hK => ?_) AllReadyH.nil
            refine stepIf_store_mid rfl 158 _ _ rfl _ 0 (Rx.bcells mm) rfl rfl hd.there (info158 hml) (Rx.bcells_one mm) ?_
            refine hK.out _ _ ?_ (fun hHeld => ?_)
            · exact hS.out _ hd.below
            clear hK K
            (try simp only [Act.put, List.getElem_toArray, List.getElem_cons_zero, List.getElem_cons_succ])
            refine wpAnyH_done (by kernel_rfl) ?_ _
            go_wp2_with fail
            go_meet
            exact ⟨_, _, _, mm, rfl, rfl, hml, _, hd⟩
    · go_simp
      have hI17 := Lib.hid (hI.out.alloc4)
      refine hK.out _ _ ?_ (fun hHeld => ?_)
      · exact hS.out _ hI17.out.below
      clear hK K
      generalize hZ17 : W0.alloc (.cells #[.slice none 0 0] 156) = W17 at hI17 hHeld ⊢
      clear hZ17 hI
      replace hI := hI17
      clear hI17
      (try simp only [Act.put, List.getElem_toArray, List.getElem_cons_zero, List.getElem_cons_succ, List.setIfInBounds_toArray, List.set_cons_zero, List.set_cons_succ])
      refine wpAnyH_ready (rs := [1, 5]) (by kernel_rfl) (by simp) ?_
      refine AllReadyH.cons rfl (fun K hK => ?_) (AllReadyH.cons rfl (fun K hK => ?_) AllReadyH.nil)
      · go_simp
        (go_at_call 121; refine Calls.mono (h121.out _ hI.out.below) ?_; rintro e W18 ⟨⟨g, rfl, hg⟩, hb⟩; have hI18 := Lib.hid (hI.out.steps hb hg); clear hb hg)
        (try go_wp2_with fail)
        refine hK.out _ _ ?_ (fun hHeld => ?_)
        · exact hS.out _ hI18.out.below
        clear hK K
        clear hI
        replace hI := hI18
        clear hI18
        (try simp only [Act.put, List.getElem_toArray, List.getElem_cons_zero, List.getElem_cons_succ, List.setIfInBounds_toArray, List.set_cons_zero, List.set_cons_succ])
        refine wpAnyH_ready (rs := [3, 5]) (by kernel_rfl) (by simp) ?_
        refine AllReadyH.cons rfl (fun K hK => ?_) (AllReadyH.cons rfl (fun K hK => ?_) AllReadyH.nil)
        · go_simp
          (go_at_call 122; refine Calls.mono (h122.out _ hI.out.below) ?_; rintro e W19 ⟨⟨mm, hml, rfl⟩, hb⟩; have hI19 := Lib.hid (hI.out.own hb); clear hb)
          (try go_wp2_with fail)
          refine hK.out _ _ ?_ (fun hHeld => ?_)
          · exact hS.out _ hI19.out.below
          clear hK K
          clear hI
          replace hI := hI19
          clear hI19
          (try simp only [Act.put, List.getElem_toArray, List.getElem_cons_zero, List.getElem_cons_succ, List.setIfInBounds_toArray, List.set_cons_zero, List.set_cons_succ])
          refine wpAnyH_ready (rs := [5]) (by kernel_rfl) (by simp) ?_
          refine AllReadyH.cons rfl (fun K hK => ?_) AllReadyH.nil
          · go_simp
            rw [zero158]
            have hI20 := Lib.hid (hI.out.alloc5)
            refine hK.out _ _ ?_ (fun hHeld => ?_)
            · exact hS.out _ hI20.out.below
            clear hK K
            generalize hZ20 : W19.alloc (.cells (Rx.bcells Rx.noneM) 158) = W20 at hI20 hHeld ⊢
            clear hZ20 hI
            replace hI := hI20
            clear hI20
            (try simp only [Act.put, List.getElem_toArray, List.getElem_cons_zero, List.getElem_cons_succ, List.setIfInBounds_toArray, List.set_cons_zero, List.set_cons_succ])
            obtain ⟨hX4, hX5, hXg⟩ := hI.out.all
            have c4 := blk_cell hX4.2 0
            have f4 := blk_frozen hX4.2 0
            refine wpAnyH_ready (rs := [6]) (by kernel_rfl) (by simp) ?_
            refine AllReadyH.cons rfl (fun K hK => ?_) AllReadyH.nil
            go_simp
            refine hK.out _ _ ?_ (fun hHeld => ?_)
            · exact hS.out _ (hI.out.below.setCell hX4.1 _)
            clear hK K
            (try simp only [Act.put, List.getElem_toArray, List.getElem_cons_zero, List.getElem_cons_succ])
            have hd := hI.out.done hN0 hml
            refine wpAnyH_ready (rs := [7]) (by kernel_rfl) (by simp) ?_
            refine AllReadyH.cons rfl (fun K hK => ?_) AllReadyH.nil
            refine stepIf_store_mid rfl 158 _ _ rfl _ 0 (Rx.bcells mm) rfl rfl hd.there (info158 hml) (Rx.bcells_one mm) ?_
            refine hK.out _ _ ?_ (fun hHeld => ?_)
            · exact hS.out _ hd.below
            clear hK K
            (try simp only [Act.put, List.getElem_toArray, List.getElem_cons_zero, List.getElem_cons_succ])
            refine wpAnyH_done (by kernel_rfl) ?_ _
            go_wp2_with fail
            go_meet
            exact ⟨_, _, _, mm, rfl, rfl, hml, _, hd⟩
        · go_simp
          rw [zero158]
          have hI21 := Lib.hid (hI.out.alloc5)
          refine hK.out _ _ ?_ (fun hHeld => ?_)
          · exact hS.out _ hI21.out.below
          clear hK K
          generalize hZ21 : W18.alloc (.cells (Rx.bcells Rx.noneM) 158) = W21 at hI21 hHeld ⊢
          clear hZ21 hI
          replace hI := hI21
          clear hI21
          (try simp only [Act.put, List.getElem_toArray, List.getElem_cons_zero, List.getElem_cons_succ, List.setIfInBounds_toArray, List.set_cons_zero, List.set_cons_succ])
          refine wpAnyH_ready (rs := [3]) (by kernel_rfl) (by simp) ?_
          refine AllReadyH.cons rfl (fun K hK => ?_) AllReadyH.nil
          · go_simp
            (go_at_call 122; refine Calls.mono (h122.out _ hI.out.below) ?_; rintro e W22 ⟨⟨mm, hml, rfl⟩, hb⟩; have hI22 := Lib.hid (hI.out.own hb); clear hb)
            (try go_wp2_with fail)
            refine hK.out _ _ ?_ (fun hHeld => ?_)
            · exact hS.out _ hI22.out.below
            clear hK K
            clear hI
            replace hI := hI22
            clear hI22
            (try simp only [Act.put, List.getElem_toArray, List.getElem_cons_zero, List.getElem_cons_succ, List.setIfInBounds_toArray, List.set_cons_zero, List.set_cons_succ])
            obtain ⟨hX4, hX5, hXg⟩ := hI.out.all
            have c4 := blk_cell hX4.2 0
            have f4 := blk_frozen hX4.2 0
            refine wpAnyH_ready (rs := [6]) (by kernel_rfl) (by simp) ?_
            refine AllReadyH.cons rfl (fun K hK => ?_) AllReadyH.nil
            go_simp
            refine hK.out _ _ ?_ (fun hHeld => ?_)
            · exact hS.out _ (hI.out.below.setCell hX4.1 _)
            clear hK K
            (try simp only [Act.put, List.getElem_toArray, List.getElem_cons_zero, List.getElem_cons_succ])
            have hd := hI.out.done hN0 hml
            refine wpAnyH_ready (rs := [7]) (by kernel_rfl) (by simp) ?_
            refine AllReadyH.cons rfl (fun K hK => ?_) AllReadyH.nil
            refine stepIf_store_mid rfl 158 _ _ rfl _ 0 (Rx.bcells mm) rfl rfl hd.there (info158 hml) (Rx.bcells_one mm) ?_
            refine hK.out _ _ ?_ (fun hHeld => ?_)
            · exact hS.out _ hd.below
            clear hK K
            (try simp only [Act.put, List.getElem_toArray, List.getElem_cons_zero, List.getElem_cons_succ])
            refine wpAnyH_done (by kernel_rfl) ?_ _
            go_wp2_with fail
            go_meet
            exact ⟨_, _, _, mm, rfl, rfl, hml, _, hd⟩
      · go_simp
        rw [zero158]
        have hI23 := Lib.hid (hI.out.alloc5)
        refine hK.out _ _ ?_ (fun hHeld => ?_)
        · exact hS.out _ hI23.out.below
        clear hK K
        generalize hZ23 : W17.alloc (.cells (Rx.bcells Rx.noneM) 158) = W23 at hI23 hHeld ⊢
        clear hZ23 hI
        replace hI := hI23
        clear hI23
        (try simp only [Act.put, List.getElem_toArray, List.getElem_cons_zero, List.getElem_cons_succ, List.setIfInBounds_toArray, List.set_cons_zero, List.set_cons_succ])
        refine wpAnyH_ready (rs := [1]) (by kernel_rfl) (by simp) ?_
        refine AllReadyH.cons rfl (fun K hK => ?_) AllReadyH.nil
        · go_simp
          (go_at_call 121; refine Calls.mono (h121.out _ hI.out.below) ?_; rintro e W24 ⟨⟨g, rfl, hg⟩, hb⟩; have hI24 := Lib.hid (hI.out.steps hb hg); clear hb hg)
          (try go_wp2_with fail)
          refine hK.out _ _ ?_ (fun hHeld => ?_)
          · exact hS.out _ hI24.out.below
          clear hK K
          clear hI
          replace hI := hI24
          clear hI24
          (try simp only [Act.put, List.getElem_toArray, List.getElem_cons_zero, List.getElem_cons_succ, List.setIfInBounds_toArray, List.set_cons_zero, List.set_cons_succ])
          refine wpAnyH_ready (rs := [3]) (by kernel_rfl) (by simp) ?_
          refine AllReadyH.cons rfl (fun K hK => ?_) AllReadyH.nil
          · go_simp
            (go_at_call 122; refine Calls.mono (h122.out _ hI.out.below) ?_; rintro e W25 ⟨⟨mm, hml, rfl⟩, hb⟩; have hI25 := Lib.hid (hI.out.own hb); clear hb)
            (try go_wp2_with fail)
            refine hK.out _ _ ?_ (fun hHeld => ?_)
            · exact hS.out _ hI25.out.below
            clear hK K
            clear hI
            replace hI := hI25
            clear hI25
            (try simp only [Act.put, List.getElem_toArray, List.getElem_cons_zero, List.getElem_cons_succ, List.setIfInBounds_toArray, List.set_cons_zero, List.set_cons_succ])
            obtain ⟨hX4, hX5, hXg⟩ := hI.out.all
            have c4 := blk_cell hX4.2 0
            have f4 := blk_frozen hX4.2 0
            refine wpAnyH_ready (rs := [6]) (by kernel_rfl) (by simp) ?_
            refine AllReadyH.cons rfl (fun K hK => ?_) AllReadyH.nil
            go_simp
            refine hK.out _ _ ?_ (fun hHeld => ?_)
            · exact hS.out _ (hI.out.below.setCell hX4.1 _)
            clear hK K
            (try simp only [Act.put, List.getElem_toArray, List.getElem_cons_zero, List.getElem_cons_succ])
            have hd := hI.out.done hN0 hml
            refine wpAnyH_ready (rs := [7]) (by kernel_rfl) (by simp) ?_
            refine AllReadyH.cons rfl (fun K hK => ?_) AllReadyH.nil
            refine stepIf_store_mid rfl 158 _ _ rfl _ 0 (Rx.bcells mm) rfl rfl hd.there (info158 hml) (Rx.bcells_one mm) ?_
            refine hK.out _ _ ?_ (fun hHeld => ?_)
            · exact hS.out _ hd.below
            clear hK K
            (try simp only [Act.put, List.getElem_toArray, List.getElem_cons_zero, List.getElem_cons_succ])
            refine wpAnyH_done (by kernel_rfl) ?_ _
            go_wp2_with fail
            go_meet
            exact ⟨_, _, _, mm, rfl, rfl, hml, _, hd⟩
    · go_simp
      rw [zero158]
      have hI26 := Lib.hid (hI.out.alloc5)
      refine hK.out _ _ ?_ (fun hHeld => ?_)
      · exact hS.out _ hI26.out.below
      clear hK K
      generalize hZ26 : W0.alloc (.cells (Rx.bcells Rx.noneM) 158) = W26 at hI26 hHeld ⊢
      clear hZ26 hI
      replace hI := hI26
      clear hI26
      (try simp only [Act.put, List.getElem_toArray, List.getElem_cons_zero, List.getElem_cons_succ, List.setIfInBounds_toArray, List.set_cons_zero, List.set_cons_succ])
      refine wpAnyH_ready (rs := [1, 4]) (by kernel_rfl) (by simp) ?_
      refine AllReadyH.cons rfl (fun K hK => ?_) (AllReadyH.cons rfl (fun K hK => ?_) AllReadyH.nil)
      · go_simp
        (go_at_call 121; refine Calls.mono (h121.out _ hI.out.below) ?_; rintro e W27 ⟨⟨g, rfl, hg⟩, hb⟩; have hI27 := Lib.hid (hI.out.steps hb hg); clear hb hg)
        (try go_wp2_with fail)
        refine hK.out _ _ ?_ (fun hHeld => ?_)
        · exact hS.out _ hI27.out.below
        clear hK K
        clear hI
        replace hI := hI27
        clear hI27
        (try simp only [Act.put, List.getElem_toArray, List.getElem_cons_zero, List.getElem_cons_succ, List.setIfInBounds_toArray, List.set_cons_zero, List.set_cons_succ])
        refine wpAnyH_ready (rs := [3, 4]) (by kernel_rfl) (by simp) ?_
        refine AllReadyH.cons rfl (fun K hK => ?_) (AllReadyH.cons rfl (fun K hK => ?_) AllReadyH.nil)
        · go_simp
          (go_at_call 122; refine Calls.mono (h122.out _ hI.out.below) ?_; rintro e W28 ⟨⟨mm, hml, rfl⟩, hb⟩; have hI28 := Lib.hid (hI.out.own hb); clear hb)
          (try go_wp2_with fail)
          refine hK.out _ _ ?_ (fun hHeld => ?_)
          · exact hS.out _ hI28.out.below
          clear hK K
          clear hI
          replace hI := hI28
          clear hI28
          (try simp only [Act.put, List.getElem_toArray, List.getElem_cons_zero, List.getElem_cons_succ, List.setIfInBounds_toArray, List.set_cons_zero, List.set_cons_succ])
          refine wpAnyH_ready (rs := [4]) (by kernel_rfl) (by simp) ?_
          refine AllReadyH.cons rfl (fun K hK => ?_) AllReadyH.nil
          · go_simp
            have hI29 := Lib.hid (hI.out.alloc4)
            refine hK.out _ _ ?_ (fun hHeld => ?_)
            · exact hS.out _ hI29.out.below
            clear hK K
            generalize hZ29 : W28.alloc (.cells #[.slice none 0 0] 156) = W29 at hI29 hHeld ⊢
            clear hZ29 hI
            replace hI := hI29
            clear hI29
            (try simp only [Act.put, List.getElem_toArray, List.getElem_cons_zero, List.getElem_cons_succ, List.setIfInBounds_toArray, List.set_cons_zero, List.set_cons_succ])
            obtain ⟨hX4, hX5, hXg⟩ := hI.out.all
            have c4 := blk_cell hX4.2 0
            have f4 := blk_frozen hX4.2 0
            refine wpAnyH_ready (rs := [6]) (by kernel_rfl) (by simp) ?_
            refine AllReadyH.cons rfl (fun K hK => ?_) AllReadyH.nil
            go_simp
            refine hK.out _ _ ?_ (fun hHeld => ?_)
            · exact hS.out _ (hI.out.below.setCell hX4.1 _)
            clear hK K
            (try simp only [Act.put, List.getElem_toArray, List.getElem_cons_zero, List.getElem_cons_succ])
            have hd := hI.out.done hN0 hml
            refine wpAnyH_ready (rs := [7]) (by kernel_rfl) (by simp) ?_
            refine AllReadyH.cons rfl (fun K hK => ?_) AllReadyH.nil
            refine stepIf_store_mid rfl 158 _ _ rfl _ 0 (Rx.bcells mm) rfl rfl hd.there (info158 hml) (Rx.bcells_one mm) ?_
            refine hK.out _ _ ?_ (fun hHeld => ?_)
            · exact hS.out _ hd.below
            clear hK K
            (try simp only [Act.put, List.getElem_toArray, List.getElem_cons_zero, List.getElem_cons_succ])
            refine wpAnyH_done (by kernel_rfl) ?_ _
            go_wp2_with fail
            go_meet
            exact ⟨_, _, _, mm, rfl, rfl, hml, _, hd⟩
        · go_simp
          have hI30 := Lib.hid (hI.out.alloc4)
          refine hK.out _ _ ?_ (fun hHeld => ?_)
          · exact hS.out _ hI30.out.below
          clear hK K
          generalize hZ30 : W27.alloc (.cells #[.slice none 0 0] 156) = W30 at hI30 hHeld ⊢
          clear hZ30 hI
          replace hI := hI30
          clear hI30
          (try simp only [Act.put, List.getElem_toArray, List.getElem_cons_zero, List.getElem_cons_succ, List.setIfInBounds_toArray, List.set_cons_zero, List.set_cons_succ])
          refine wpAnyH_ready (rs := [3]) (by kernel_rfl) (by simp) ?_
          refine AllReadyH.cons rfl (fun K hK => ?_) AllReadyH.nil
          · go_simp
            (go_at_call 122; refine Calls.mono (h122.out _ hI.out.below) ?_; rintro e W31 ⟨⟨mm, hml, rfl⟩, hb⟩; have hI31 := Lib.hid (hI.out.own hb); clear hb)
            (try go_wp2_with fail)
            refine hK.out _ _ ?_ (fun hHeld => ?_)
            · exact hS.out _ hI31.out.below
            clear hK K
            clear hI
            replace hI := hI31
            clear hI31
            (try simp only [Act.put, List.getElem_toArray, List.getElem_cons_zero, List.getElem_cons_succ, List.setIfInBounds_toArray, List.set_cons_zero, List.set_cons_succ])
            obtain ⟨hX4, hX5, hXg⟩ := hI.out.all
            have c4 := blk_cell hX4.2 0
            have f4 := blk_frozen hX4.2 0
            refine wpAnyH_ready (rs := [6]) (by kernel_rfl) (by simp) ?_
            refine AllReadyH.cons rfl (fun K hK => ?_) AllReadyH.nil
            go_simp
            refine hK.out _ _ ?_ (fun hHeld => ?_)
            · exact hS.out _ (hI.out.below.setCell hX4.1 _)
            clear hK K
            (try simp only [Act.put, List.getElem_toArray, List.getElem_cons_zero, List.getElem_cons_succ])
            have hd := hI.out.done hN0 hml
            refine wpAnyH_ready (rs := [7]) (by kernel_rfl) (by simp) ?_
            refine AllReadyH.cons rfl (fun K hK => ?_) AllReadyH.nil
            refine stepIf_store_mid rfl 158 _ _ rfl _ 0 (Rx.bcells mm) rfl rfl hd.there (info158 hml) (Rx.bcells_one mm) ?_
            refine hK.out _ _ ?_ (fun hHeld => ?_)
            · exact hS.out _ hd.below
            clear hK K
            (try simp only [Act.put, List.getElem_toArray, List.getElem_cons_zero, List.getElem_cons_succ])
            refine wpAnyH_done (by kernel_rfl) ?_ _
            go_wp2_with fail
            go_meet
            exact ⟨_, _, _, mm, rfl, rfl, hml, _, hd⟩
      · go_simp
        have hI32 := Lib.hid (hI.out.alloc4)
        refine hK.out _ _ ?_ (fun hHeld => ?_)
        · exact hS.out _ hI32.out.below
        clear hK K
        generalize hZ32 : W26.alloc (.cells #[.slice none 0 0] 156) = W32 at hI32 hHeld ⊢
        clear hZ32 hI
        replace hI := hI32
        clear hI32
        (try simp only [Act.put, List.getElem_toArray, List.getElem_cons_zero, List.getElem_cons_succ, List.setIfInBounds_toArray, List.set_cons_zero, List.set_cons_succ])
        refine wpAnyH_ready (rs := [1]) (by kernel_rfl) (by simp) ?_
        refine AllReadyH.cons rfl (fun K hK => ?_) AllReadyH.nil
        · go_simp
          (go_at_call 121; refine Calls.mono (h121.out _ hI.out.below) ?_; rintro e W33 ⟨⟨g, rfl, hg⟩, hb⟩; have hI33 := Lib.hid (hI.out.steps hb hg); clear hb hg)
          (try go_wp2_with fail)
          refine hK.out _ _ ?_ (fun hHeld => ?_)
          · exact hS.out _ hI33.out.below
          clear hK K
          clear hI
          replace hI := hI33
          clear hI33
          (try simp only [Act.put, List.getElem_toArray, List.getElem_cons_zero, List.getElem_cons_succ, List.setIfInBounds_toArray, List.set_cons_zero, List.set_cons_succ])
          refine wpAnyH_ready (rs := [3]) (by kernel_rfl) (by simp) ?_
          refine AllReadyH.cons rfl (fun K hK => ?_) AllReadyH.nil
          · go_simp
            (go_at_call 122; refine Calls.mono (h122.out _ hI.out.below) ?_; rintro e W34 ⟨⟨mm, hml, rfl⟩, hb⟩; have hI34 := Lib.hid (hI.out.own hb); clear hb)
            (try go_wp2_with fail)
            refine hK.out _ _ ?_ (fun hHeld => ?_)
            · exact hS.out _ hI34.out.below
            clear hK K
            clear hI
            replace hI := hI34
            clear hI34
            (try simp only [Act.put, List.getElem_toArray, List.getElem_cons_zero, List.getElem_cons_succ, List.setIfInBounds_toArray, List.set_cons_zero, List.set_cons_succ])
            obtain ⟨hX4, hX5, hXg⟩ := hI.out.all
            have c4 := blk_cell hX4.2 0
            have f4 := blk_frozen hX4.2 0
            refine wpAnyH_ready (rs := [6]) (by kernel_rfl) (by simp) ?_
            refine AllReadyH.cons rfl (fun K hK => ?_) AllReadyH.nil
            go_simp
            refine hK.out _ _ ?_ (fun hHeld => ?_)
            · exact hS.out _ (hI.out.below.setCell hX4.1 _)
            clear hK K
            (try simp only [Act.put, List.getElem_toArray, List.getElem_cons_zero, List.getElem_cons_succ])
            have hd := hI.out.done hN0 hml
            refine wpAnyH_ready (rs := [7]) (by kernel_rfl) (by simp) ?_
            refine AllReadyH.cons rfl (fun K hK => ?_) AllReadyH.nil
            refine stepIf_store_mid rfl 158 _ _ rfl _ 0 (Rx.bcells mm) rfl rfl hd.there (info158 hml) (Rx.bcells_one mm) ?_
            refine hK.out _ _ ?_ (fun hHeld => ?_)
            · exact hS.out _ hd.below
            clear hK K
            (try simp only [Act.put, List.getElem_toArray, List.getElem_cons_zero, List.getElem_cons_succ])
            refine wpAnyH_done (by kernel_rfl) ?_ _
            go_wp2_with fail
            go_meet
            exact ⟨_, _, _, mm, rfl, rfl, hml, _, hd⟩
  case rest =>
    obtain ⟨b4, b5, g, mm, rfl, rfl, hml, wa, hD⟩ := hcut
    have HD := Lib.hid hD
    clear hD h121 h122
    have hB3 : Hid (Below w.heap.size w wc) := hB2.out.trans (HD.out.below.mono hB2.out.size)
    have hB13 : Hid (Below w1.heap.size w1 wc) := Hb2.out.trans (HD.out.below.mono Hb2.out.size)
    go_upto_region 6 with fail
    rw [zero162]
    obtain ⟨L, hL⟩ : ∃ L, L = wc.heap.size := ⟨_, rfl⟩
    have kL : Hid (SetBlk (wc.alloc (.cells (setV 0) 162)) wc.heap.size 0) := blk_new _ _
    have k4 : Hid ((wc.alloc (.cells (setV 0) 162)).heap[b4]? = some (.cells #[.slice (some ⟨g, 0, none⟩) N N] 156 (0, 0))) := blk_alloc HD.out.h4 _
    have k5 : Hid ((wc.alloc (.cells (setV 0) 162)).heap[b5]? = some (.cells (Rx.bcells mm) 158 (0, 0))) := blk_alloc HD.out.h5 _
    have kB : Hid (Below wc.heap.size wc (wc.alloc (.cells (setV 0) 162))) := (Below.refl _ _).alloc (Nat.le_refl _) _
    have kg : Hid (StepsAt (wc.alloc (.cells (setV 0) 162)) (wc.alloc (.cells (setV 0) 162)).heap.size (some ⟨g, 0, none⟩) N N) := (HD.out.hg.below kB.out).wide kB.out.size
    have hLw : Hid (w1.heap.size ≤ L) := Lib.hid (by rw [hL]; exact hB13.out.size)
    rw [← hL] at kL ⊢
    clear hL
    generalize wc.alloc (.cells (setV 0) 162) = w4 at kL k4 k5 kB kg ⊢
    have hB4 : Hid (Below w.heap.size w w4) := hB3.out.trans (kB.out.mono hB3.out.size)
    have hB14 : Hid (Below w1.heap.size w1 w4) := hB13.out.trans (kB.out.mono hB13.out.size)
    clear HD hB3 hB13 kB hB2 Hb2
    obtain ⟨x0, x1, x2, x3⟩ := hS0.out w4 hB14.out
    have h5b := blk_new w4 (.cells #[.int .i64 (qs : Int)] 3)
    have hB45 : Hid (Below w4.heap.size w4 (w4.alloc (.cells #[.int .i64 (qs : Int)] 3))) := (Below.refl _ _).alloc (Nat.le_refl _) _
    have HC7 := Lib.hid (h127.out (w4.alloc (.cells #[.int .i64 (qs : Int)] 3)) w4.heap.size (hB4.out.trans (hB45.out.mono hB4.out.size)) h5b)
    have hp0 : 0 < 2 ^ N := Nat.pow_pos (by decide)
    have hp256 : 2 ^ N ≤ 256 := Nat.le_trans (Nat.pow_le_pow_right (by decide) hN8) (by decide)
    replace hp0 := Lib.hid hp0
    replace hp256 := Lib.hid hp256
    clear h5b h127
    go_upto_region 9 with (first
      | (go_at_call 127; refine HC7.out.mono ?_; rintro e w6 ⟨⟨A6, c6, xs, rfl, hI6, hl6, hin6⟩, hb6⟩; have HI := Lib.hid hI6; have Hin := Lib.hid hin6; have Hb6 := Lib.hid hb6; clear hI6 hin6 hb6)
      | (go_at_call 126; refine (setOf_any N xs A6 c6 w6 hN8 (by omega) HI.out Hin.out).mono ?_; rintro e w7 ⟨⟨z, hz, rfl⟩, hb7⟩; have hB47 : Hid (Below w4.heap.size w4 w7) := hB45.out.trans ((Hb6.out.trans (hb7.mono Hb6.out.size)).mono hB45.out.size); have HC5 := Lib.hid (walk125_any N z 0 b5 b4 L mm (some ⟨g, 0, none⟩) N w7 hN8 hz ((HT.out.below hB4.out HT.out.lt).below hB47.out (Nat.lt_of_lt_of_le HT.out.lt hB4.out.size)) ((kg.out.below hB47.out).wide hB47.out.size) hml (blk_below k5.out hB47.out (blk_lt k5.out)) (blk_below k4.out hB47.out (blk_lt k4.out)) (blk_below kL.out hB47.out (blk_lt kL.out)) hp0.out); clear hb7 hz)
      | (go_at_call 125; refine HC5.out.mono ?_; rintro e w8 ⟨⟨l, Al, cl, A2, c2, rows, rfl, hl0, hl256, hlx, hown, hrow, hrows⟩, hk8⟩; have Hown := Lib.hid hown; have Hrow := Lib.hid hrow; have Hrows := Lib.hid hrows; have Hk8 := Lib.hid hk8; clear hown hrow hrows hk8 hlx))
    obtain ⟨m, hml2⟩ : ∃ m, m = l.length := ⟨_, rfl⟩
    rw [← hml2] at Hown Hrow Hrows hl0 hl256 ⊢
    have Hml := Lib.hid hml2
    have hm256 : m ≤ 256 := by have := hp256.out; omega
    clear hml2 hl256
    have hXl := Lib.hid (blk_lt hX1.out)
    have hRl := Lib.hid (blk_lt hR1.out)
    have hB17 : Hid (Below w1.heap.size w1 w7) := hB14.out.trans (hB47.out.mono hB14.out.size)
    have hB18 : Hid (Below w1.heap.size w1 w8) := below_keep hB17.out Hk8.out hLw.out (Nat.le_refl _)
    have hB8 : Hid (Below w.heap.size w w8) := hB1.out.trans (hB18.out.mono hB1.out.size)
    clear x0 x1 x2 x3 HC7 HC5 hB45 hB47 hB17 hB4 hB14 kL k4 k5 kg Hk8 HI Hin Hb6
    have hmk := make51 m hl0 (by omega)
    go_upto_region 10 with fail
    obtain ⟨T, hT⟩ : ∃ T, T = w8.heap.size := ⟨_, rfl⟩
    have k1 : Hid ((w8.alloc (.cells (Rx.bcells (List.replicate m false)) 4)).heap[w8.heap.size]? = some (.cells (Rx.bcells (List.replicate m false)) 4 (0, 0))) := blk_new _ _
    have k2 : Hid (Below w8.heap.size w8 (w8.alloc (.cells (Rx.bcells (List.replicate m false)) 4))) := (Below.refl _ _).alloc (Nat.le_refl _) _
    rw [← hT] at k1 ⊢
    generalize w8.alloc (.cells (Rx.bcells (List.replicate m false)) 4) = w9 at k1 k2 ⊢
    have HTe := Lib.hid hT
    clear hT hmk
    go_wp2_with fail
    go_loopw [43] (fun s43 wr => ∃ (k : Nat) (ms : List Bool), s43 = .int .i64 k ∧ k ≤ m ∧ Hid (ms.length = m) ∧ Hid (wr.heap[T]? = some (.cells (Rx.bcells ms) 4 (0, 0))) ∧ Hid (Below w8.heap.size w8 wr)) (fun s43 _ => m - (intOf s43).toNat)
    case atStart => exact ⟨0, _, rfl, by omega, Lib.hid (by simp), k1, k2⟩
    case round =>
      clear k1 k2
      obtain ⟨k, ms, rfl, hk, hms, hTb, hB⟩ := hrel
      have hBr : Hid (Below w1.heap.size w1 wr) := hB18.out.trans (hB.out.mono hB18.out.size)
      by_cases hlt : k < m
      · obtain ⟨gl, x, ob, rfl, hset, hgl⟩ := own_set Hown.out (i := k) (by have := Hml.out; omega) Hml.out.symm
        have hc : ∀ o v, w8.cell? ⟨gl, o, none⟩ = some v → wr.cell? ⟨gl, o, none⟩ = some v := fun o v h => (hB.out.cell (p := ⟨gl, o, none⟩) (blk_lt hgl)).trans h
        have b0 := hc _ _ hset.1
        have b1 := hc _ _ (hset.2 1 (by decide) (by decide))
        have b2 := hc _ _ (hset.2 2 (by decide) (by decide))
        have b3 := hc _ _ (hset.2 3 (by decide) (by decide))
        have b4' := hc _ _ (hset.2 4 (by decide) (by decide))
        have b5' := hc _ _ (hset.2 5 (by decide) (by decide))
        have b6 := hc _ _ (hset.2 6 (by decide) (by decide))
        have b7 := hc _ _ (hset.2 7 (by decide) (by decide))
        have i1 : (k : Int) < (m : Int) := by omega
        clear hc hset hgl
        go_upto_region 13 with fail
        have hx2 := Lib.hid (blk_new wr (.cells #[.int .u64 x, .int .u64 0, .int .u64 0, .int .u64 0, .int .u64 0, .int .u64 0, .int .u64 0, .int .u64 0] 162))
        have hb2 : Hid (Below wr.heap.size wr (wr.alloc (.cells #[.int .u64 x, .int .u64 0, .int .u64 0, .int .u64 0, .int .u64 0, .int .u64 0, .int .u64 0, .int .u64 0] 162))) := (Below.refl _ _).alloc (Nat.le_refl _) _
        obtain ⟨E, hE⟩ : ∃ E, E = wr.heap.size := ⟨_, rfl⟩
        rw [← hE] at hx2 ⊢
        clear hE
        generalize wr.alloc (.cells #[.int .u64 x, .int .u64 0, .int .u64 0, .int .u64 0, .int .u64 0, .int .u64 0, .int .u64 0, .int .u64 0] 162) = w10 at hx2 hb2 ⊢
        clear b0 b1 b2 b3 b4' b5' b6 b7
        have b0 : w10.cell? ⟨E, 0, none⟩ = some (.int .u64 x) := blk_cell hx2.out 0
        have b1 : w10.cell? ⟨E, 1, none⟩ = some (.int .u64 0) := blk_cell hx2.out 1
        have b2 : w10.cell? ⟨E, 2, none⟩ = some (.int .u64 0) := blk_cell hx2.out 2
        have b3 : w10.cell? ⟨E, 3, none⟩ = some (.int .u64 0) := blk_cell hx2.out 3
        have b4' : w10.cell? ⟨E, 4, none⟩ = some (.int .u64 0) := blk_cell hx2.out 4
        have b5' : w10.cell? ⟨E, 5, none⟩ = some (.int .u64 0) := blk_cell hx2.out 5
        have b6 : w10.cell? ⟨E, 6, none⟩ = some (.int .u64 0) := blk_cell hx2.out 6
        have b7 : w10.cell? ⟨E, 7, none⟩ = some (.int .u64 0) := blk_cell hx2.out 7
        have hB110 : Hid (Below w1.heap.size w1 w10) := hBr.out.trans (hb2.out.mono hBr.out.size)
        obtain ⟨-, -, x2, -⟩ := hS0.out w10 hB110.out
        have hT10 : Hid (w10.heap[T]? = some (.cells (Rx.bcells ms) 4 (0, 0))) := blk_below hTb.out hb2.out (blk_lt hTb.out)
        have HC := Lib.hid (setHas_any x qf w10 (by omega))
        unfold setV at HC
        go_wp2_with (go_at_call 128; refine HC.out.mono ?_; rintro e w11 ⟨⟨bb, rfl⟩, hb11⟩; have hT11 : w11.heap[T]? = some (.cells (Rx.bcells ms) 4 (0, 0)) := blk_below hT10.out hb11 (blk_lt hT10.out); have r0 : w11.cell? ⟨T, k, none⟩ = some (.bool (ms.getD k false)) := (blk_cell hT11 k).trans (Rx.bcells_get (by rw [hms.out]; exact hlt)); have q0 : w11.frozen? ⟨T, k, none⟩ = false := blk_frozen hT11 k; have HT11 := Lib.hid hT11; have Hb11 := Lib.hid hb11; clear hT11 hb11)
        go_roundw
        case rel =>
          refine ⟨k + 1, ms.set k bb, by go_num, by omega, Lib.hid (by rw [List.length_set]; exact hms.out), ?_, (hB.out.trans ((hb2.out.trans (Hb11.out.mono hb2.out.size)).mono hB.out.size)).setCell (p := ⟨T, k, none⟩) (by have := HTe.out; show _ ≤ T; omega) _⟩
          have := blk_set_self HT11.out k (.bool bb)
          rwa [Rx.bcells_set] at this
        case measure => simp [intOf]; omega
      · have hkm : k = m := by omega
        subst hkm
        have hNx : NextAt w8 A2 k k := nextAt_rows Hrow.out Hrows.out
        have HC := Lib.hid (form129_any k c2 k A2 (some ⟨T, 0, none⟩) wr hl0 (by omega) (hNx.below hB.out) (BoolsAt.of_blk hTb.out hms.out))
        have hRr : Hid (wr.heap[X + 1]? = some (.cells #[.slice none 0 0, .slice none 0 0] 138 (0, 0))) := blk_below hR1.out hBr.out hRl.out
        have hBw : Hid (Below w.heap.size w wr) := hB1.out.trans (hBr.out.mono hB1.out.size)
        clear hNx
        go_wp2_with (go_at_call 129; refine HC.out.mono ?_; rintro e w12 ⟨⟨A4, n4, c4, A5, n5, c5, rfl⟩, hb12⟩; have hR12 : w12.heap[X + 1]? = some (.cells #[.slice none 0 0, .slice none 0 0] 138 (0, 0)) := blk_below hRr.out hb12 (blk_lt hRr.out); have p0 := blk_cell hR12 0; have p1 := blk_cell hR12 1; have f0 := blk_frozen hR12 0; have f1 := blk_frozen hR12 1; have HR12 := Lib.hid hR12; have Hb12 := Lib.hid hb12; clear hR12 hb12)
        have hst : ((w12.setCell ⟨X + 1, 0, none⟩ (.slice A4 n4 c4)).setCell ⟨X + 1, 1, none⟩ (.slice A5 n5 c5)).heap[X + 1]? = some (.cells #[.slice A4 n4 c4, .slice A5 n5 c5] 138 (0, 0)) := blk_set_self (blk_set_self HR12.out 0 _) 1 _
        have c0 := blk_cell hst 0
        have c1 := blk_cell hst 1
        have hp : w.heap.size ≤ X + 1 := by have := HXe.out; omega
        refine bodyPost_ret (v := .tuple #[.agg #[.slice A4 n4 c4, .slice A5 n5 c5], .int .i64 0]) ?_ rfl ⟨⟨_, rfl⟩, ((hBw.out.trans (Hb12.out.mono hBw.out.size)).setCell (p := ⟨X + 1, 0, none⟩) hp _).setCell (p := ⟨X + 1, 1, none⟩) hp _⟩
        simp [results, Tryz.f116, go_sem, c0, c1]
end Go.Proofs.YtghlodpbbghcoaaGreatDoor

/- Whether a text is an expression whose automaton may be: walked, at the seven expressions. -/
namespace Go.Proofs.YtghlodpbbghcoaaGreatDoor
open Go.RowKit Go.Maps
set_option maxRecDepth 8192 in
set_option maxHeartbeats 3200000 in
theorem matches_any (s : ByteArray) (hs : s ∈ pool7) (W : World) (hT : TzTab W) : Calls Tryz.prog 109 #[.string s] W (IsB true W) := by
  obtain ⟨t, hp, ht, hst, hmay, hby, hne⟩ := net_of hs
  have hsz := pool7_short s hs
  have hparse := Lib.hid (Rx.parse_any s W (by omega))
  have Hp := Lib.hid hp
  have Hmay := Lib.hid hmay
  have Hby := Lib.hid hby
  have HT := Lib.hid hT
  obtain ⟨N, hN⟩ : ∃ N, N = (Rx.netT t).1 := ⟨_, rfl⟩
  have HN := Lib.hid hN
  rw [← hN] at hst
  clear hp hmay hby hT hN
  go_enter Tryz.func109, Tryz.ntmps109
  go_wp2_with (first
    | (go_at_call 115; refine hparse.out.mono ?_; rintro e w1 ⟨hg, hb1⟩; rw [Hp.out] at hg; obtain ⟨g, vg, rfl, hg1, -, hg3⟩ := hg; obtain ⟨ty, u, rfl⟩ := hg3.form; have hg2 : Rx.PartAt w1 (· < w1.heap.size) (.iface ty u) t := hg3.move (fun g h => ⟨h.2, rfl⟩); have Hg1 := Lib.hid hg1; have Hg2 := Lib.hid hg2; have Hb1 := Lib.hid hb1; clear hg1 hg2 hg3 hb1)
    | (go_at_call 117; refine (Rx.net_any g ty u t w1 Hg1.out Hg2.out ht).mono ?_; rintro e w2 ⟨⟨A, c, rfl, hE⟩, hb2⟩; have HE := Lib.hid hE; have Hb2 := Lib.hid hb2; clear hE hb2)
    | (go_at_call 116; refine (of116_any ⟨((Rx.netT t).1 : Nat), 0, 1, (Rx.netT t).2⟩ N A c w2 (by rw [HN.out]) hst Hmay.out hne Hby.out HE.out (((HT.out.below Hb1.out HT.out.lt)).below Hb2.out (Nat.lt_of_lt_of_le HT.out.lt Hb1.out.size))).mono ?_; rintro e w3 ⟨⟨v, rfl⟩, hb3⟩; have Hb3 := Lib.hid hb3; clear hb3))
  go_ret
  have hb := Hb1.out.trans (Hb2.out.mono Hb1.out.size)
  exact ⟨rfl, hb.trans (Hb3.out.mono hb.size)⟩
end Go.Proofs.YtghlodpbbghcoaaGreatDoor
