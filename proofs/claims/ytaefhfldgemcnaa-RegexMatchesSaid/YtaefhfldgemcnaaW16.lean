/- The law NfaMay, walked. -/
import Derived.Test.YtaefhfldgemcnaaW15
import Derived.Test.YtaefhfldgemcnaaW10
import Derived.Test.YtaefhfldgemcnaaW11
namespace Go.Proofs.Ytaefhfldgemcnaa
open Go.RowKit

def MayPost (m : Net) (w : World) (e : Ending) (w' : World) : Prop := e = .returned (.int .i64 (mayV m)) ∧ Below w.heap.size w w'
def RefPost (m : Net) (w : World) (e : Ending) (w' : World) : Prop := e = .returned (.bool m.may) ∧ Below w.heap.size w w'
def GoodPost (m : Net) (w : World) (e : Ending) (w' : World) : Prop := IsNet (good m) e w' ∧ Below w.heap.size w w'

/-- The box of a net in a world later than the one that made it. -/
structure NBox (w W : World) (st start fin : Int) (L : List Edge) (A : Option Addr) (c : Nat) : Prop where
  box : W.heap[w.heap.size]? = some (.cells #[.int .i64 st, .int .i64 start, .int .i64 fin, .slice A L.length c] 24 (0, 0))
  bel : Below w.heap.size w W
  ed : EdgesAt W W.heap.size A L
theorem NBox.next {w W W' : World} {st start fin : Int} {L : List Edge} {A : Option Addr} {c : Nat} (h : NBox w W st start fin L A c) (hb : Below W.heap.size W W') : NBox w W' st start fin L A c :=
  ⟨blk_below h.box hb (blk_lt h.box), h.bel.trans (hb.mono (Nat.le_of_lt (blk_lt h.box))), (h.ed.below hb).more hb.size⟩

theorem good_len (n : Net) : (good n).edges.length ≤ 10 := by
  simp [good]
  omega

set_option maxHeartbeats 3200000 in
theorem nfaMay_any (st start fin : Int) (es : List Edge) (A : Option Addr) (c : Nat) (w : World) (h1 : I64 st) (h2 : I64 start) (h3 : I64 fin) (h4 : ∀ e ∈ es, I64 e.frm ∧ I64 e.to)
    (hc : es.length ≤ c) (hc2 : c ≤ 9223372036854775807) (hE : EdgesAt w w.heap.size A es) :
    Calls Try.prog 3 #[.agg #[.int .i64 st, .int .i64 start, .int .i64 fin, .slice A es.length c]] w fun e w' => e = .returned (.bool true) ∧ Below w.heap.size w w' := by
  have H4 := Lib.hid h4
  clear h4
  have H1 := Lib.hid h1
  have H2 := Lib.hid h2
  have H3 := Lib.hid h3
  clear h1 h2 h3
  by_cases hl : 20 < es.length
  · go_enter Try.func3, Try.ntmps3
    go_upto_region 3 with fail
    have hN : NBox w (w.alloc (.cells #[.int .i64 st, .int .i64 start, .int .i64 fin, .slice A 20 c] 24)) st start fin (es.take 20) A c := by
      refine ⟨?_, (Below.refl _ _).alloc (Nat.le_refl _) _, ?_⟩
      · rw [List.length_take, show min 20 es.length = 20 from by omega]
        exact blk_new _ _
      · have : EdgesAt w w.heap.size A (es.take 20) := by
          unfold EdgesAt
          rw [flat_take edgeCells_length]
          exact CellsAt.take hE _
        exact (this.alloc (Nat.le_refl _) _).more (by simp)
    have hL4 : Hid (∀ e ∈ es.take 20, I64 e.frm ∧ I64 e.to) := fun e he => H4.out e (List.mem_of_mem_take he)
    have hLl : (es.take 20).length = 20 := by rw [List.length_take]; omega
    generalize es.take 20 = L at hN hL4 hLl
    generalize w.alloc _ = W at hN ⊢
    clear H4
    have HM := Lib.hid (fun (wx : World) (hx : EdgesAt wx wx.heap.size A L) => (show Calls Try.prog 14 #[.agg #[.int .i64 st, .int .i64 start, .int .i64 fin, .slice A L.length c]] wx (MayPost ⟨st, start, fin, L⟩ wx) from may_any ⟨st, start, fin, L⟩ A c wx (by show L.length ≤ _; omega) hx))
    have HR := Lib.hid (fun (wx : World) (hx : EdgesAt wx wx.heap.size A L) => (show Calls Try.prog 15 #[.agg #[.int .i64 st, .int .i64 start, .int .i64 fin, .slice A L.length c]] wx (RefPost ⟨st, start, fin, L⟩ wx) from refMay_any ⟨st, start, fin, L⟩ A c wx (by show L.length ≤ _; omega) hx))
    have HG := Lib.hid (fun (wx : World) (hx : EdgesAt wx wx.heap.size A L) => (show Calls Try.prog 16 #[.agg #[.int .i64 st, .int .i64 start, .int .i64 fin, .slice A L.length c]] wx (GoodPost ⟨st, start, fin, L⟩ wx) from good_any ⟨st, start, fin, L⟩ A c wx H1.out H2.out H3.out hL4.out hx))
    clear H1 H2 H3 hL4
    try clear hLl
    have b0 : W.cell? ⟨w.heap.size, 0, none⟩ = some (.int .i64 st) := blk_cell hN.box 0
    have b1 : W.cell? ⟨w.heap.size, 1, none⟩ = some (.int .i64 start) := blk_cell hN.box 1
    have b2 : W.cell? ⟨w.heap.size, 2, none⟩ = some (.int .i64 fin) := blk_cell hN.box 2
    have b3 : W.cell? ⟨w.heap.size, 3, none⟩ = some (.slice A L.length c) := blk_cell hN.box 3
    go_wp2_with fail
    refine (HM.out W hN.ed).mono ?_
    rintro e w2 ⟨rfl, hb2⟩
    have hN2 := hN.next hb2
    clear b0 b1 b2 b3 hb2 hN
    have b0 : w2.cell? ⟨w.heap.size, 0, none⟩ = some (.int .i64 st) := blk_cell hN2.box 0
    have b1 : w2.cell? ⟨w.heap.size, 1, none⟩ = some (.int .i64 start) := blk_cell hN2.box 1
    have b2 : w2.cell? ⟨w.heap.size, 2, none⟩ = some (.int .i64 fin) := blk_cell hN2.box 2
    have b3 : w2.cell? ⟨w.heap.size, 3, none⟩ = some (.slice A L.length c) := blk_cell hN2.box 3
    go_wp2_with fail
    refine (HR.out w2 hN2.ed).mono ?_
    rintro e w3 ⟨rfl, hb3⟩
    have hN3 := hN2.next hb3
    clear b0 b1 b2 b3 hb3 hN2
    have b0 : w3.cell? ⟨w.heap.size, 0, none⟩ = some (.int .i64 st) := blk_cell hN3.box 0
    have b1 : w3.cell? ⟨w.heap.size, 1, none⟩ = some (.int .i64 start) := blk_cell hN3.box 1
    have b2 : w3.cell? ⟨w.heap.size, 2, none⟩ = some (.int .i64 fin) := blk_cell hN3.box 2
    have b3 : w3.cell? ⟨w.heap.size, 3, none⟩ = some (.slice A L.length c) := blk_cell hN3.box 3
    have hgm := good_may ⟨st, start, fin, L⟩
    have hgl := good_len ⟨st, start, fin, L⟩
    cases hmm : Net.may ⟨st, start, fin, L⟩ with
    | true =>
      rw [mayV_yes hmm]
      go_wp2_with fail
      refine (HG.out w3 hN3.ed).mono ?_
      rintro e w4 ⟨hg, hb4⟩
      generalize good ⟨st, start, fin, L⟩ = g at hgm hgl hg
      obtain ⟨A5, c5, rfl, hE5⟩ := hg
      have Hgm := Lib.hid hgm
      have HY := Lib.hid (may_yes g A5 c5 w4 Hgm.out (by omega) hE5)
      clear hgm hE5
      go_wp2_with fail
      refine HY.out.mono ?_
      rintro e w5 ⟨rfl, hb5⟩
      go_wp2_with fail
      refine (lives_any w5).mono ?_
      rintro e w6 ⟨rfl, hb6⟩
      have hz4 := hb4.size
      have hz5 := hb5.size
      have hz3 := hN3.bel.size
      go_wp2_with fail
      go_ret
      exact ⟨rfl, hN3.bel.trans ((hb4.mono (by omega)).trans ((hb5.mono (by omega)).trans (hb6.mono (by omega))))⟩
    | false =>
      rw [mayV_no hmm]
      go_wp2_with fail
      refine (HG.out w3 hN3.ed).mono ?_
      rintro e w4 ⟨hg, hb4⟩
      generalize good ⟨st, start, fin, L⟩ = g at hgm hgl hg
      obtain ⟨A5, c5, rfl, hE5⟩ := hg
      have Hgm := Lib.hid hgm
      have HY := Lib.hid (may_yes g A5 c5 w4 Hgm.out (by omega) hE5)
      clear hgm hE5
      go_wp2_with fail
      refine HY.out.mono ?_
      rintro e w5 ⟨rfl, hb5⟩
      go_wp2_with fail
      refine (lives_any w5).mono ?_
      rintro e w6 ⟨rfl, hb6⟩
      have hz4 := hb4.size
      have hz5 := hb5.size
      have hz3 := hN3.bel.size
      go_wp2_with fail
      go_ret
      exact ⟨rfl, hN3.bel.trans ((hb4.mono (by omega)).trans ((hb5.mono (by omega)).trans (hb6.mono (by omega))))⟩
  · go_enter Try.func3, Try.ntmps3
    go_upto_region 3 with fail
    have hN : NBox w (w.alloc (.cells #[.int .i64 st, .int .i64 start, .int .i64 fin, .slice A es.length c] 24)) st start fin es A c :=
      ⟨blk_new _ _, (Below.refl _ _).alloc (Nat.le_refl _) _, (hE.alloc (Nat.le_refl _) _).more (by simp)⟩
    obtain ⟨L, rfl⟩ : ∃ L : List Edge, L = es := ⟨_, rfl⟩
    have hL4 := H4
    generalize w.alloc _ = W at hN ⊢
    clear H4
    have HM := Lib.hid (fun (wx : World) (hx : EdgesAt wx wx.heap.size A L) => (show Calls Try.prog 14 #[.agg #[.int .i64 st, .int .i64 start, .int .i64 fin, .slice A L.length c]] wx (MayPost ⟨st, start, fin, L⟩ wx) from may_any ⟨st, start, fin, L⟩ A c wx (by show L.length ≤ _; omega) hx))
    have HR := Lib.hid (fun (wx : World) (hx : EdgesAt wx wx.heap.size A L) => (show Calls Try.prog 15 #[.agg #[.int .i64 st, .int .i64 start, .int .i64 fin, .slice A L.length c]] wx (RefPost ⟨st, start, fin, L⟩ wx) from refMay_any ⟨st, start, fin, L⟩ A c wx (by show L.length ≤ _; omega) hx))
    have HG := Lib.hid (fun (wx : World) (hx : EdgesAt wx wx.heap.size A L) => (show Calls Try.prog 16 #[.agg #[.int .i64 st, .int .i64 start, .int .i64 fin, .slice A L.length c]] wx (GoodPost ⟨st, start, fin, L⟩ wx) from good_any ⟨st, start, fin, L⟩ A c wx H1.out H2.out H3.out hL4.out hx))
    clear H1 H2 H3 hL4
    try clear hLl
    have b0 : W.cell? ⟨w.heap.size, 0, none⟩ = some (.int .i64 st) := blk_cell hN.box 0
    have b1 : W.cell? ⟨w.heap.size, 1, none⟩ = some (.int .i64 start) := blk_cell hN.box 1
    have b2 : W.cell? ⟨w.heap.size, 2, none⟩ = some (.int .i64 fin) := blk_cell hN.box 2
    have b3 : W.cell? ⟨w.heap.size, 3, none⟩ = some (.slice A L.length c) := blk_cell hN.box 3
    go_wp2_with fail
    refine (HM.out W hN.ed).mono ?_
    rintro e w2 ⟨rfl, hb2⟩
    have hN2 := hN.next hb2
    clear b0 b1 b2 b3 hb2 hN
    have b0 : w2.cell? ⟨w.heap.size, 0, none⟩ = some (.int .i64 st) := blk_cell hN2.box 0
    have b1 : w2.cell? ⟨w.heap.size, 1, none⟩ = some (.int .i64 start) := blk_cell hN2.box 1
    have b2 : w2.cell? ⟨w.heap.size, 2, none⟩ = some (.int .i64 fin) := blk_cell hN2.box 2
    have b3 : w2.cell? ⟨w.heap.size, 3, none⟩ = some (.slice A L.length c) := blk_cell hN2.box 3
    go_wp2_with fail
    refine (HR.out w2 hN2.ed).mono ?_
    rintro e w3 ⟨rfl, hb3⟩
    have hN3 := hN2.next hb3
    clear b0 b1 b2 b3 hb3 hN2
    have b0 : w3.cell? ⟨w.heap.size, 0, none⟩ = some (.int .i64 st) := blk_cell hN3.box 0
    have b1 : w3.cell? ⟨w.heap.size, 1, none⟩ = some (.int .i64 start) := blk_cell hN3.box 1
    have b2 : w3.cell? ⟨w.heap.size, 2, none⟩ = some (.int .i64 fin) := blk_cell hN3.box 2
    have b3 : w3.cell? ⟨w.heap.size, 3, none⟩ = some (.slice A L.length c) := blk_cell hN3.box 3
    have hgm := good_may ⟨st, start, fin, L⟩
    have hgl := good_len ⟨st, start, fin, L⟩
    cases hmm : Net.may ⟨st, start, fin, L⟩ with
    | true =>
      rw [mayV_yes hmm]
      go_wp2_with fail
      refine (HG.out w3 hN3.ed).mono ?_
      rintro e w4 ⟨hg, hb4⟩
      generalize good ⟨st, start, fin, L⟩ = g at hgm hgl hg
      obtain ⟨A5, c5, rfl, hE5⟩ := hg
      have Hgm := Lib.hid hgm
      have HY := Lib.hid (may_yes g A5 c5 w4 Hgm.out (by omega) hE5)
      clear hgm hE5
      go_wp2_with fail
      refine HY.out.mono ?_
      rintro e w5 ⟨rfl, hb5⟩
      go_wp2_with fail
      refine (lives_any w5).mono ?_
      rintro e w6 ⟨rfl, hb6⟩
      have hz4 := hb4.size
      have hz5 := hb5.size
      have hz3 := hN3.bel.size
      go_wp2_with fail
      go_ret
      exact ⟨rfl, hN3.bel.trans ((hb4.mono (by omega)).trans ((hb5.mono (by omega)).trans (hb6.mono (by omega))))⟩
    | false =>
      rw [mayV_no hmm]
      go_wp2_with fail
      refine (HG.out w3 hN3.ed).mono ?_
      rintro e w4 ⟨hg, hb4⟩
      generalize good ⟨st, start, fin, L⟩ = g at hgm hgl hg
      obtain ⟨A5, c5, rfl, hE5⟩ := hg
      have Hgm := Lib.hid hgm
      have HY := Lib.hid (may_yes g A5 c5 w4 Hgm.out (by omega) hE5)
      clear hgm hE5
      go_wp2_with fail
      refine HY.out.mono ?_
      rintro e w5 ⟨rfl, hb5⟩
      go_wp2_with fail
      refine (lives_any w5).mono ?_
      rintro e w6 ⟨rfl, hb6⟩
      have hz4 := hb4.size
      have hz5 := hb5.size
      have hz3 := hN3.bel.size
      go_wp2_with fail
      go_ret
      exact ⟨rfl, hN3.bel.trans ((hb4.mono (by omega)).trans ((hb5.mono (by omega)).trans (hb6.mono (by omega))))⟩
end Go.Proofs.Ytaefhfldgemcnaa
