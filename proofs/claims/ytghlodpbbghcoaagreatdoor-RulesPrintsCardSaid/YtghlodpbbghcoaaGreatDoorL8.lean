/- The law RulesPrints: walked. -/
import Derived.Test.YtghlodpbbghcoaaGreatDoorLP
namespace Go.Proofs.YtghlodpbbghcoaaGreatDoor
open Go.Lib Go.RowKit Go.Maps
set_option maxRecDepth 16384 in
set_option maxHeartbeats 6400000 in
theorem rulesPrints_any (vt ve vu : Value) (p : Pol) (w : World) (hT : TzTab w) (h : PolAt w (fun k => k < w.heap.size) vt ve vu p) (hin : p.In) :
    Calls Tryz.prog 8 #[.agg #[vt, ve, vu]] w (IsB true w) := by
  obtain ⟨At, nt, ct, rfl, -, -, -⟩ := h.top.form
  obtain ⟨Ae, ne, ce, rfl, -, -, -⟩ := h.elts.form
  obtain ⟨Au, nu, cu, rfl, -, -, -⟩ := h.unwrap.form
  obtain ⟨w1, hw1⟩ : ∃ w1, w.alloc (.cells #[.slice At nt ct, .slice Ae ne ce, .slice Au nu cu] 25) = w1 := ⟨_, rfl⟩
  have hB1 : Hid (Below w.heap.size w w1) := Lib.hid (by rw [← hw1]; exact (Below.refl _ _).alloc (Nat.le_refl _) _)
  have hbx : Hid (w1.heap[w.heap.size]? = some (.cells #[.slice At nt ct, .slice Ae ne ce, .slice Au nu cu] 25)) := Lib.hid (by rw [← hw1]; exact blk_new _ _)
  have hgood := goodT_any (.slice At nt ct) (.slice Ae ne ce) (.slice Au nu cu) p w w1 h hin hT hB1.out
  clear h hin hT
  have d0 := blk_cell hbx.out 0
  have d1 := blk_cell hbx.out 1
  have d2 := blk_cell hbx.out 2
  go_enter Tryz.func8, Tryz.ntmps8
  go_upto_region 2 with (go_at_call 10; refine hgood.mono ?_; rintro e6 w6 ⟨vt', ve', vu', q, rfl, hq, hok, hB6, hT6⟩; obtain ⟨A1, n1, c1, rfl, -, -, -⟩ := hq.top.form; obtain ⟨A2, n2, c2, rfl, -, -, -⟩ := hq.elts.form; obtain ⟨A3, n3, c3, rfl, -, -, -⟩ := hq.unwrap.form; replace hq := Lib.hid hq; replace hok := Lib.hid hok; replace hB6 := Lib.hid hB6; replace hT6 := Lib.hid hT6)
  clear d0 d1 d2 hgood hw1
  obtain ⟨wg, hwg⟩ : ∃ wg, w6.alloc (.cells #[.slice A1 n1 c1, .slice A2 n2 c2, .slice A3 n3 c3] 25) = wg := ⟨_, rfl⟩
  have hBg : Hid (Below w6.heap.size w6 wg) := Lib.hid (by rw [← hwg]; exact (Below.refl _ _).alloc (Nat.le_refl _) _)
  have hgb : Hid (wg.heap[w6.heap.size]? = some (.cells #[.slice A1 n1 c1, .slice A2 n2 c2, .slice A3 n3 c3] 25)) := Lib.hid (by rw [← hwg]; exact blk_new _ _)
  rw [hwg]
  clear hwg
  obtain ⟨tp, htp⟩ : ∃ tp, tx (printB q) = tp := ⟨_, rfl⟩
  have hprint : Hid (∀ wx, Below w6.heap.size w6 wx → Calls Tryz.prog 25 #[.agg #[.slice A1 n1 c1, .slice A2 n2 c2, .slice A3 n3 c3]] wx fun e w' => e = .returned (.tuple #[.string tp, .int .i64 0]) ∧ Below wx.heap.size wx w') := Lib.hid (fun wx hb => by
    rw [← htp]
    exact printT_any (.slice A1 n1 c1) (.slice A2 n2 c2) (.slice A3 n3 c3) p q w6 wx hq.out hok.out hT6.out hb)
  have hparse : Hid (∀ wx, Below w6.heap.size w6 wx → Calls Tryz.prog 26 #[.string tp] wx (ParsePost q wx)) := Lib.hid (fun wx hb => by
    rw [← htp]
    exact parseT_any p q w6 wx hok.out hT6.out hb)
  have href : Hid (∀ wx, Below w6.heap.size w6 wx → Calls Tryz.prog 27 #[.agg #[.slice A1 n1 c1, .slice A2 n2 c2, .slice A3 n3 c3]] wx fun e w' => e = .returned (.string tp) ∧ Below wx.heap.size wx w') := Lib.hid (fun wx hb => by
    rw [← htp]
    exact refT_any (.slice A1 n1 c1) (.slice A2 n2 c2) (.slice A3 n3 c3) p q w6 wx hq.out hok.out hb)
  clear htp
  have d0 := blk_cell hgb.out 0
  have d1 := blk_cell hgb.out 1
  have d2 := blk_cell hgb.out 2
  go_upto_region 3 with (go_at_call 25; refine (hprint.out _ hBg.out).mono ?_; rintro e7 w7 ⟨rfl, hB7⟩; replace hB7 := Lib.hid hB7)
  have hB67 : Hid (Below w6.heap.size w6 w7) := Lib.hid (hBg.out.trans (hB7.out.mono hBg.out.size))
  clear d0 d1 d2
  go_upto_region 4 with (go_at_call 26; refine (hparse.out _ hB67.out).mono ?_; rintro e8 w8 ⟨vt2, ve2, vu2, rfl, hq8, hB8⟩; obtain ⟨A4, n4, c4, rfl, -, -, -⟩ := hq8.top.form; obtain ⟨A5, n5, c5, rfl, -, -, -⟩ := hq8.elts.form; obtain ⟨A6, n6, c6, rfl, -, -, -⟩ := hq8.unwrap.form; replace hq8 := Lib.hid hq8; replace hB8 := Lib.hid hB8)
  obtain ⟨wh, hwh⟩ : ∃ wh, w8.alloc (.cells #[.slice A4 n4 c4, .slice A5 n5 c5, .slice A6 n6 c6] 25) = wh := ⟨_, rfl⟩
  have hBh : Hid (Below w8.heap.size w8 wh) := Lib.hid (by rw [← hwh]; exact (Below.refl _ _).alloc (Nat.le_refl _) _)
  have hhb : Hid (wh.heap[w8.heap.size]? = some (.cells #[.slice A4 n4 c4, .slice A5 n5 c5, .slice A6 n6 c6] 25)) := Lib.hid (by rw [← hwh]; exact blk_new _ _)
  rw [hwh]
  clear hwh
  have hB6h : Hid (Below w6.heap.size w6 wh) := Lib.hid ((hB67.out.trans (hB8.out.mono hB67.out.size)).trans (hBh.out.mono (Nat.le_trans hB67.out.size hB8.out.size)))
  have hBgh : Hid (Below wg.heap.size wg wh) := Lib.hid (hB7.out.trans ((hB8.out.trans (hBh.out.mono hB8.out.size)).mono hB7.out.size))
  have hgh : Hid (wh.heap[w6.heap.size]? = some (.cells #[.slice A1 n1 c1, .slice A2 n2 c2, .slice A3 n3 c3] 25)) := Lib.hid (blk_below hgb.out hBgh.out (blk_lt hgb.out))
  have d0 := blk_cell hgh.out 0
  have d1 := blk_cell hgh.out 1
  have d2 := blk_cell hgh.out 2
  have hl14 := fun wx => lives14_any wx
  go_wp2_with (first
    | (go_at_call 27; refine (href.out _ hB6h.out).mono ?_; rintro e9 w9 ⟨rfl, hB9⟩; replace hB9 := Lib.hid hB9
       have hg9 : Hid (w9.heap[w6.heap.size]? = some (.cells #[.slice A1 n1 c1, .slice A2 n2 c2, .slice A3 n3 c3] 25)) := Lib.hid (blk_below hgh.out hB9.out (blk_lt hgh.out))
       have hh9 : Hid (w9.heap[w8.heap.size]? = some (.cells #[.slice A4 n4 c4, .slice A5 n5 c5, .slice A6 n6 c6] 25)) := Lib.hid (blk_below hhb.out hB9.out (blk_lt hhb.out))
       have x0 := blk_cell hg9.out 0
       have x1 := blk_cell hg9.out 1
       have x2 := blk_cell hg9.out 2
       have y0 := blk_cell hh9.out 0
       have y1 := blk_cell hh9.out 1
       have y2 := blk_cell hh9.out 2)
    | (go_at_call 28; refine (sameT_any (.slice A4 n4 c4) (.slice A5 n5 c5) (.slice A6 n6 c6) (.slice A1 n1 c1) (.slice A2 n2 c2) (.slice A3 n3 c3) p q w6 w8 _ hq8.out hq.out hok.out (hB6h.out.trans (hB9.out.mono hB6h.out.size)) (hBh.out.trans (hB9.out.mono hBh.out.size))).mono ?_; rintro e10 w10 ⟨rfl, hB10⟩; replace hB10 := Lib.hid hB10)
    | (go_at_call 24; refine (hl14 _).mono ?_; rintro e11 w11 ⟨rfl, hB11⟩; replace hB11 := Lib.hid hB11))
  go_ret
  have b1 := hB1.out.trans (hB6.out.mono hB1.out.size)
  have b2 := b1.trans (hB6h.out.mono b1.size)
  have b3 := b2.trans (hB9.out.mono b2.size)
  have b4 := b3.trans (hB10.out.mono b3.size)
  exact ⟨rfl, b4.trans (hB11.out.mono b4.size)⟩
end Go.Proofs.YtghlodpbbghcoaaGreatDoor
