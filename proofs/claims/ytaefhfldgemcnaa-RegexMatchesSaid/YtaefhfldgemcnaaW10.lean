/- Walks over nets, tenth part: a net that may be, made of any; the reference's test. -/
import Derived.Test.YtaefhfldgemcnaaW6
namespace Go.Proofs.Ytaefhfldgemcnaa
open Go.RowKit

theorem blk_set_self {w : World} {g : Nat} {cs : Array Value} {t : TypeId} (h : w.heap[g]? = some (.cells cs t (0, 0))) (i : Nat) (u : Value) : (w.setCell ⟨g, i, none⟩ u).heap[g]? = some (.cells (cs.setIfInBounds i u) t (0, 0)) := by
  simp [World.setCell, Array.getElem?_modify, h]
theorem blk_frozen {w : World} {g : Nat} {cs : Array Value} {t : TypeId} (h : w.heap[g]? = some (.cells cs t (0, 0))) (i : Nat) : w.frozen? ⟨g, i, none⟩ = false := by simp [World.frozen?, h]
theorem own_form {w : World} {base : Nat} {e : TypeId} {size n : Nat} {v : Value} {xs : List Value} (h : w.ownsRow base e size v n xs) : ∃ A c, v = .slice A n c ∧ w.ownsRow base e size (.slice A n c) n xs := by
  obtain ⟨h1, h2⟩ := h
  rcases h2 with ⟨rfl, hn⟩ | ⟨g, cap, cur, rfl, r⟩
  · exact ⟨none, 0, by rw [hn], h1, .inl ⟨by rw [hn], hn⟩⟩
  · exact ⟨some ⟨g, 0, none⟩, cap, rfl, h1, .inr ⟨g, cap, cur, rfl, r⟩⟩
theorem box_second {w wr : World} {o1 o2 : Obj} (hb : Below (w.heap.size + 2) ((w.alloc o1).alloc o2) wr) : wr.heap[w.heap.size + 1]? = some o2 :=
  blk_below (blk_new' (by simp)) hb (by omega)
/-- A net is handed back, its edges where the world has them. -/
def IsNet (m : Net) (e : Ending) (w' : World) : Prop :=
  ∃ A c, e = .returned (.agg #[.int .i64 m.st, .int .i64 m.start, .int .i64 m.fin, .slice A m.edges.length c]) ∧ EdgesAt w' w'.heap.size A m.edges
def I64 (x : Int) : Prop := -9223372036854775808 ≤ x ∧ x ≤ 9223372036854775807

set_option maxHeartbeats 3200000 in
theorem good_any (n : Net) (A : Option Addr) (c : Nat) (w : World) (h1 : I64 n.st) (h2 : I64 n.start) (h3 : I64 n.fin) (h4 : ∀ e ∈ n.edges, I64 e.frm ∧ I64 e.to)
    (hE : EdgesAt w w.heap.size A n.edges) :
    Calls Try.prog 16 #[.agg #[.int .i64 n.st, .int .i64 n.start, .int .i64 n.fin, .slice A n.edges.length c]] w fun e w' =>
      IsNet (good n) e w' ∧ Below w.heap.size w w' := by
  have H1 := Lib.hid h1
  have H2 := Lib.hid h2
  have H3 := Lib.hid h3
  have H4 := Lib.hid h4
  clear h1 h2 h3 h4
  have hg := goodSt_range n
  obtain ⟨gs, hgs⟩ : ∃ gs, gs = goodSt n := ⟨_, rfl⟩
  rw [← hgs] at hg
  have Hgs : Hid (gs = 1 + roundI n.st 6) := hgs
  clear hgs
  have hr := @roundI_range n.st 6 (by omega)
  go_enter Try.func16, Try.ntmps16
  go_wp2_with fail
  refine (round_any n.st 6 (by omega) H1.out.1 H1.out.2 _).mono ?_
  rintro e w' ⟨rfl, rfl⟩
  go_wp2_with fail
  rw [← Hgs.out]
  refine (round_any n.start gs (by omega) H2.out.1 H2.out.2 _).mono ?_
  rintro e w' ⟨rfl, rfl⟩
  go_wp2_with fail
  refine (round_any n.fin gs (by omega) H3.out.1 H3.out.2 _).mono ?_
  rintro e w' ⟨rfl, rfl⟩
  go_wp2_with fail
  obtain ⟨rs, hrs⟩ : ∃ rs, rs = roundI n.start gs := ⟨_, rfl⟩
  obtain ⟨rf, hrf⟩ : ∃ rf, rf = roundI n.fin gs := ⟨_, rfl⟩
  rw [← hrs, ← hrf]
  have Hrs := Lib.hid hrs
  have Hrf := Lib.hid hrf
  clear hrs hrf
  go_loopw [4] (fun i wr => ∃ (k : Nat) (A2 : Option Addr) (c2 : Nat), i = .int .i64 k ∧ k ≤ n.edges.length ∧ k ≤ 10 ∧ wr.heap[w.heap.size + 1 + 1]? = some (.cells #[.int .i64 gs, .int .i64 rs, .int .i64 rf, .slice A2 k c2] 24 (0, 0)) ∧
      wr.ownsRow (w.heap.size + 3) 35 4 (.slice A2 k c2) k (flat edgeCells ((n.edges.take k).map (goodEdge gs))) ∧
      Below (w.heap.size + 2) ((w.alloc (.cells #[.int .i64 n.st, .int .i64 n.start, .int .i64 n.fin, .slice A n.edges.length c] 24)).alloc (.cells #[.int .i64 0, .int .i64 0, .int .i64 0, .slice none 0 0] 24)) wr) (fun i _ => n.edges.length - (intOf i).toNat)
  case atStart => exact ⟨0, none, 0, rfl, Nat.zero_le _, by omega, blk_new' (by simp), by simpa [flat] using World.ownsRow_nil _ _ _ _, (Below.refl _ _).alloc (by simp) _⟩
  case round =>
    obtain ⟨k, A2, c2, rfl, hk, hk10, hbox, hown, hb⟩ := hrel
    have hbw1 : Below (w.heap.size + 1) (w.alloc (.cells #[.int .i64 n.st, .int .i64 n.start, .int .i64 n.fin, .slice A n.edges.length c] 24)) wr := ((Below.refl _ _).alloc (by simp) _).trans (hb.mono (by omega))
    obtain ⟨b0, b1, b2, b3, _⟩ := boxed4 hbw1
    have hbl := blk_lt hbox
    have g0 : wr.cell? ⟨w.heap.size + 1 + 1, 0, none⟩ = some (.int .i64 gs) := blk_cell hbox 0
    have g1 : wr.cell? ⟨w.heap.size + 1 + 1, 1, none⟩ = some (.int .i64 rs) := blk_cell hbox 1
    have g2 : wr.cell? ⟨w.heap.size + 1 + 1, 2, none⟩ = some (.int .i64 rf) := blk_cell hbox 2
    have g3 : wr.cell? ⟨w.heap.size + 1 + 1, 3, none⟩ = some (.slice A2 k c2) := blk_cell hbox 3
    have gf : wr.frozen? ⟨w.heap.size + 1 + 1, 3, none⟩ = false := blk_frozen hbox 3
    by_cases hlt : k < n.edges.length
    · by_cases hlt10 : k < 10
      · obtain ⟨bb, o, e, rfl, hbb, he, e0, e1, e2, e3⟩ := edge_at hE (unbox hbw1) hlt
        have hT := Lib.hid (take_snoc he.out)
        have He := Lib.hid (H4.out e (List.mem_of_getElem? he.out))
        go_wp2_with fail
        refine (round_any e.frm gs (by omega) He.out.1.1 He.out.1.2 _).mono ?_
        rintro e' w' ⟨rfl, rfl⟩
        go_wp2_with fail
        refine (round_any e.to gs (by omega) He.out.2.1 He.out.2.2 _).mono ?_
        rintro e' w' ⟨rfl, rfl⟩
        have Hbox := Lib.hid hbox
        clear hbox
        go_wp2_with (at_builtin; refine wpList_append_new info35 Try.underlying22 rfl (by decide) (by decide) _ (hown.alloc _) 1 rfl _ _ rfl rfl rfl (by simp) rfl rfl (by omega) ?_ ?_; (simp; omega); intro v' w' hown' hbel hgt hgrow; obtain ⟨A3, c3, rfl, hown3⟩ := own_form hown'; have hbx := blk_grown (blk_alloc Hbox.out _) hgrow (own_ne hown Hbox.out (by decide)); have g3' : w'.cell? ⟨w.heap.size + 1 + 1, 3, none⟩ = some (.slice A2 k c2) := blk_cell hbx 3; have gf' := blk_frozen hbx 3; have Hbx := Lib.hid hbx; clear hbx)
        go_roundw
        case rel =>
          refine ⟨k + 1, A3, c3, by go_num, by omega, by omega, ?_, ?_, ((hb.alloc (by omega) _).trans (hbel.mono (by omega))).setCell (p := ⟨w.heap.size + 1 + 1, 3, none⟩) (by simp) _⟩
          · exact blk_set_self Hbx.out 3 _
          · rw [hT.out, List.map_append, flat_append, List.map_cons, List.map_nil, flat_one]
            exact ownsRow_setCell_other hown3 (own_ne hown3 Hbx.out (by decide)) _
        case measure => simp [intOf]; omega
      · have hlt10' : ¬ ((k : Int) < 10) := by omega
        have hres := box_second hb
        have q0 : wr.cell? ⟨w.heap.size + 1, 0, none⟩ = some (.int .i64 0) := blk_cell hres 0
        have q1 : wr.cell? ⟨w.heap.size + 1, 1, none⟩ = some (.int .i64 0) := blk_cell hres 1
        have q2 : wr.cell? ⟨w.heap.size + 1, 2, none⟩ = some (.int .i64 0) := blk_cell hres 2
        have q3 : wr.cell? ⟨w.heap.size + 1, 3, none⟩ = some (.slice none 0 0) := blk_cell hres 3
        have r0 := blk_frozen hres 0
        have r1 := blk_frozen hres 1
        have r2 := blk_frozen hres 2
        have r3 := blk_frozen hres 3
        have Hres := Lib.hid hres
        clear hres
        have hes : (good n).edges = (n.edges.take k).map (goodEdge gs) := by
          have e1 : goodSt n = gs := Hgs.out.symm
          unfold good
          rw [e1]
          rw [show k = 10 from by omega]
        have Hes := Lib.hid hes
        clear hes
        go_wp2_with fail
        refine bodyPost_ret (v := .agg #[.int .i64 gs, .int .i64 rs, .int .i64 rf, .slice A2 k c2]) (by simp [results, Try.results16, go_sem, q0, q1, q2, q3]) rfl ⟨⟨A2, c2, ?_, ?_⟩, ?_⟩
        · have e1 : goodSt n = gs := Hgs.out.symm
          rw [Hes.out]
          simp only [good, e1, ← Hrs.out, ← Hrf.out, List.length_map, List.length_take, Nat.min_eq_left hk]
        · rw [Hes.out]
          exact CellsAt.of_own (ownsRow_setCell_below (ownsRow_setCell_below (ownsRow_setCell_below (ownsRow_setCell_below hown (a := ⟨w.heap.size + 1, 0, none⟩) (by simp) _) (a := ⟨w.heap.size + 1, 1, none⟩) (by simp) _) (a := ⟨w.heap.size + 1, 2, none⟩) (by simp) _) (a := ⟨w.heap.size + 1, 3, none⟩) (by simp) _)
        · exact ((((unbox hbw1).setCell (p := ⟨w.heap.size + 1, 0, none⟩) (by simp) _).setCell (p := ⟨w.heap.size + 1, 1, none⟩) (by simp) _).setCell (p := ⟨w.heap.size + 1, 2, none⟩) (by simp) _).setCell (p := ⟨w.heap.size + 1, 3, none⟩) (by simp) _
    · have hres := box_second hb
      have q0 : wr.cell? ⟨w.heap.size + 1, 0, none⟩ = some (.int .i64 0) := blk_cell hres 0
      have q1 : wr.cell? ⟨w.heap.size + 1, 1, none⟩ = some (.int .i64 0) := blk_cell hres 1
      have q2 : wr.cell? ⟨w.heap.size + 1, 2, none⟩ = some (.int .i64 0) := blk_cell hres 2
      have q3 : wr.cell? ⟨w.heap.size + 1, 3, none⟩ = some (.slice none 0 0) := blk_cell hres 3
      have r0 := blk_frozen hres 0
      have r1 := blk_frozen hres 1
      have r2 := blk_frozen hres 2
      have r3 := blk_frozen hres 3
      have Hres := Lib.hid hres
      clear hres
      have hes : (good n).edges = (n.edges.take k).map (goodEdge gs) := by
        have e1 : goodSt n = gs := Hgs.out.symm
        unfold good
        rw [e1]
        rw [List.take_of_length_le (show n.edges.length ≤ k by omega), List.take_of_length_le (show n.edges.length ≤ 10 by omega)]
      have Hes := Lib.hid hes
      clear hes
      go_wp2_with fail
      refine bodyPost_ret (v := .agg #[.int .i64 gs, .int .i64 rs, .int .i64 rf, .slice A2 k c2]) (by simp [results, Try.results16, go_sem, q0, q1, q2, q3]) rfl ⟨⟨A2, c2, ?_, ?_⟩, ?_⟩
      · have e1 : goodSt n = gs := Hgs.out.symm
        rw [Hes.out]
        simp only [good, e1, ← Hrs.out, ← Hrf.out, List.length_map, List.length_take, Nat.min_eq_left hk]
      · rw [Hes.out]
        exact CellsAt.of_own (ownsRow_setCell_below (ownsRow_setCell_below (ownsRow_setCell_below (ownsRow_setCell_below hown (a := ⟨w.heap.size + 1, 0, none⟩) (by simp) _) (a := ⟨w.heap.size + 1, 1, none⟩) (by simp) _) (a := ⟨w.heap.size + 1, 2, none⟩) (by simp) _) (a := ⟨w.heap.size + 1, 3, none⟩) (by simp) _)
      · exact ((((unbox hbw1).setCell (p := ⟨w.heap.size + 1, 0, none⟩) (by simp) _).setCell (p := ⟨w.heap.size + 1, 1, none⟩) (by simp) _).setCell (p := ⟨w.heap.size + 1, 2, none⟩) (by simp) _).setCell (p := ⟨w.heap.size + 1, 3, none⟩) (by simp) _
end Go.Proofs.Ytaefhfldgemcnaa
