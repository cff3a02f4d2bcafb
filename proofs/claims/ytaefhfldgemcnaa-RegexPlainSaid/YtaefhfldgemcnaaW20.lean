/- Walks over nets, twentieth part: a net read from behind. -/
import Derived.Test.YtaefhfldgemcnaaW8
import Derived.Test.YtaefhfldgemcnaaW10
namespace Go.Proofs.Ytaefhfldgemcnaa
open Go.RowKit

def BackPost (m : Net) (w : World) (e : Ending) (w' : World) : Prop := IsNet m.back e w' ∧ Below w.heap.size w w'

set_option maxHeartbeats 3200000 in
theorem back_any (n : Net) (A : Option Addr) (c : Nat) (w : World) (hm : n.may = true) (hne : n.edges.length ≤ 1000000) (hE : EdgesAt w w.heap.size A n.edges) :
    Calls Try.prog 22 #[.agg #[.int .i64 n.st, .int .i64 n.start, .int .i64 n.fin, .slice A n.edges.length c]] w (BackPost n w) := by
  have HM := Lib.hid (fun (wx : World) (hx : EdgesAt wx wx.heap.size A n.edges) => may_yes n A c wx hm hne hx)
  clear hm
  have hE1 := (hE.alloc (Nat.le_refl _) (.cells #[.int .i64 n.st, .int .i64 n.start, .int .i64 n.fin, .slice A n.edges.length c] 24)).alloc (by simp) (.cells #[.int .i64 0, .int .i64 0, .int .i64 0, .slice none 0 0] 24)
  go_enter Try.func22, Try.ntmps22
  go_wp2_with fail
  refine (HM.out _ (hE1.more (by simp; omega))).mono ?_
  rintro e w1 ⟨rfl, hb1⟩
  have hb2 : Below (w.heap.size + 2) ((w.alloc (.cells #[.int .i64 n.st, .int .i64 n.start, .int .i64 n.fin, .slice A n.edges.length c] 24)).alloc (.cells #[.int .i64 0, .int .i64 0, .int .i64 0, .slice none 0 0] 24)) w1 := by simpa using hb1
  have hbw : Below (w.heap.size + 1) (w.alloc (.cells #[.int .i64 n.st, .int .i64 n.start, .int .i64 n.fin, .slice A n.edges.length c] 24)) w1 := ((Below.refl _ _).alloc (by simp) _).trans (hb2.mono (by omega))
  obtain ⟨b0, b1, b2, b3, _⟩ := boxed4 hbw
  have hz := hb2.size
  simp only [World.size_alloc] at hz
  clear hb1 hE1 hbw
  go_wp2_with fail
  go_loopw [20] (fun i wr => ∃ (k : Nat) (A2 : Option Addr) (c2 : Nat), i = .int .i64 k ∧ k ≤ n.edges.length ∧ wr.heap[w1.heap.size]? = some (.cells #[.int .i64 n.st, .int .i64 n.fin, .int .i64 n.start, .slice A2 k c2] 24 (0, 0)) ∧
      wr.ownsRow (w1.heap.size + 1) 35 4 (.slice A2 k c2) k (flat edgeCells ((n.edges.take k).map Edge.swap)) ∧ Below w1.heap.size w1 wr) (fun i _ => n.edges.length - (intOf i).toNat)
  case atStart => exact ⟨0, none, 0, rfl, Nat.zero_le _, blk_new _ _, by simpa [flat] using World.ownsRow_nil _ _ _ _, (Below.refl _ _).alloc (Nat.le_refl _) _⟩
  case round =>
    obtain ⟨k, A2, c2, rfl, hk, hbox, hown, hb⟩ := hrel
    clear b0 b1 b2 b3
    have hbq : Below (w.heap.size + 2) ((w.alloc (.cells #[.int .i64 n.st, .int .i64 n.start, .int .i64 n.fin, .slice A n.edges.length c] 24)).alloc (.cells #[.int .i64 0, .int .i64 0, .int .i64 0, .slice none 0 0] 24)) wr := hb2.trans (hb.mono (by omega))
    have hbw1 : Below (w.heap.size + 1) (w.alloc (.cells #[.int .i64 n.st, .int .i64 n.start, .int .i64 n.fin, .slice A n.edges.length c] 24)) wr := ((Below.refl _ _).alloc (by simp) _).trans (hbq.mono (by omega))
    obtain ⟨b0, b1, b2, b3, _⟩ := boxed4 hbw1
    have hbl := blk_lt hbox
    have g0 : wr.cell? ⟨w1.heap.size, 0, none⟩ = some (.int .i64 n.st) := blk_cell hbox 0
    have g1 : wr.cell? ⟨w1.heap.size, 1, none⟩ = some (.int .i64 n.fin) := blk_cell hbox 1
    have g2 : wr.cell? ⟨w1.heap.size, 2, none⟩ = some (.int .i64 n.start) := blk_cell hbox 2
    have g3 : wr.cell? ⟨w1.heap.size, 3, none⟩ = some (.slice A2 k c2) := blk_cell hbox 3
    have gf : wr.frozen? ⟨w1.heap.size, 3, none⟩ = false := blk_frozen hbox 3
    by_cases hlt : k < n.edges.length
    · obtain ⟨bb, o, e, rfl, hbb, he, e0, e1, e2, e3⟩ := edge_at hE (unbox hbw1) hlt
      have hT := Lib.hid (take_snoc he.out)
      have Hbox := Lib.hid hbox
      clear hbox
      go_wp2_with (at_builtin; refine wpList_append_new info35 Try.underlying22 rfl (by decide) (by decide) _ (hown.alloc _) 1 rfl _ _ rfl rfl rfl (by simp) rfl rfl (by omega) ?_ ?_; (simp; omega); intro v' w' hown' hbel hgt hgrow; obtain ⟨A3, c3, rfl, hown3⟩ := own_form hown'; have hbx := blk_grown (blk_alloc Hbox.out _) hgrow (own_ne hown Hbox.out (by decide)); have g3' : w'.cell? ⟨w1.heap.size, 3, none⟩ = some (.slice A2 k c2) := blk_cell hbx 3; have gf' := blk_frozen hbx 3; have Hbx := Lib.hid hbx; clear hbx)
      go_roundw
      case rel =>
        refine ⟨k + 1, A3, c3, by go_num, by omega, ?_, ?_, ((hb.alloc (by omega) _).trans (hbel.mono (by omega))).setCell (p := ⟨w1.heap.size, 3, none⟩) (by simp) _⟩
        · exact blk_set_self Hbx.out 3 _
        · rw [hT.out, List.map_append, flat_append, List.map_cons, List.map_nil, flat_one]
          exact ownsRow_setCell_other hown3 (own_ne hown3 Hbx.out (by decide)) _
      case measure => simp [intOf]; omega
    · have hres := box_second hbq
      have q0 : wr.cell? ⟨w.heap.size + 1, 0, none⟩ = some (.int .i64 0) := blk_cell hres 0
      have q1 : wr.cell? ⟨w.heap.size + 1, 1, none⟩ = some (.int .i64 0) := blk_cell hres 1
      have q2 : wr.cell? ⟨w.heap.size + 1, 2, none⟩ = some (.int .i64 0) := blk_cell hres 2
      have q3 : wr.cell? ⟨w.heap.size + 1, 3, none⟩ = some (.slice none 0 0) := blk_cell hres 3
      have r0 := blk_frozen hres 0
      have r1 := blk_frozen hres 1
      have r2 := blk_frozen hres 2
      have r3 := blk_frozen hres 3
      have Hres := Lib.hid hres
      clear hres
      have hes : n.back.edges = (n.edges.take k).map Edge.swap := by
        unfold Net.back
        rw [List.take_of_length_le (show n.edges.length ≤ k by omega)]
      have Hes := Lib.hid hes
      clear hes
      go_wp2_with fail
      refine bodyPost_ret (v := .agg #[.int .i64 n.st, .int .i64 n.fin, .int .i64 n.start, .slice A2 k c2]) (by simp [results, Try.results22, go_sem, q0, q1, q2, q3]) rfl ⟨⟨A2, c2, ?_, ?_⟩, ?_⟩
      · rw [Hes.out]
        simp only [Net.back, List.length_map, List.length_take, Nat.min_eq_left hk]
      · rw [Hes.out]
        exact CellsAt.of_own (ownsRow_setCell_below (ownsRow_setCell_below (ownsRow_setCell_below (ownsRow_setCell_below hown (a := ⟨w.heap.size + 1, 0, none⟩) (by simp; omega) _) (a := ⟨w.heap.size + 1, 1, none⟩) (by simp; omega) _) (a := ⟨w.heap.size + 1, 2, none⟩) (by simp; omega) _) (a := ⟨w.heap.size + 1, 3, none⟩) (by simp; omega) _)
      · exact ((((unbox hbw1).setCell (p := ⟨w.heap.size + 1, 0, none⟩) (by simp) _).setCell (p := ⟨w.heap.size + 1, 1, none⟩) (by simp) _).setCell (p := ⟨w.heap.size + 1, 2, none⟩) (by simp) _).setCell (p := ⟨w.heap.size + 1, 3, none⟩) (by simp) _
end Go.Proofs.Ytaefhfldgemcnaa
