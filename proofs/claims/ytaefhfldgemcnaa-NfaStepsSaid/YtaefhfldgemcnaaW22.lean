/- The law NfaSteps, walked. -/
import Derived.Test.YtaefhfldgemcnaaW19
import Derived.Test.YtaefhfldgemcnaaW9
import Derived.Test.YtaefhfldgemcnaaW16
import Derived.Deep.RegionHeld3
namespace Go.Proofs.Ytaefhfldgemcnaa
open Go.RowKit

theorem closed_r (n : Net) (l : List Int) (A A' : Option Addr) (c c' : Nat) (w : World) (hm : n.may = true) (hne : n.edges.length ≤ 1000000) (hn : l.length ≤ 1000000000)
    (hE : EdgesAt w w.heap.size A n.edges) (hl : IntsAt w w.heap.size A' l) :
    Calls Try.prog 24 #[.agg #[.int .i64 n.st, .int .i64 n.start, .int .i64 n.fin, .slice A n.edges.length c], .slice A' l.length c'] w (RPost w (rising n.st (Eps Edge.none_ n.edges (S0 n.st l)))) := by
  refine (closed_any n l A A' c c' w hm hne hn hE hl).mono ?_
  rintro e w' ⟨⟨v, rfl, A2, c2, rfl, hown⟩, hb⟩
  exact ⟨⟨A2, c2, rfl, OwnInts.ints hown⟩, hb⟩
theorem step_r (n : Net) (l : List Int) (cc : Int) (A A' : Option Addr) (c c' : Nat) (w : World) (hm : n.may = true) (hne : n.edges.length ≤ 1000000) (hn : l.length ≤ 1000000000)
    (hE : EdgesAt w w.heap.size A n.edges) (hl : IntsAt w w.heap.size A' l) :
    Calls Try.prog 26 #[.agg #[.int .i64 n.st, .int .i64 n.start, .int .i64 n.fin, .slice A n.edges.length c], .slice A' l.length c', .int .u8 cc] w (RPost w (rising n.st (StepP n.edges cc (· ∈ l)))) := by
  refine (step_ok n l cc A A' c c' w hm hne hn hE hl).mono ?_
  rintro e w' ⟨⟨v, rfl, A2, c2, rfl, hown⟩, hb⟩
  exact ⟨⟨A2, c2, rfl, OwnInts.ints hown⟩, hb⟩
theorem same_r (r : List Int) (A A' : Option Addr) (c c' : Nat) (w : World) (hn : r.length ≤ 1000000000) (hx : IntsAt w w.heap.size A r) (hy : IntsAt w w.heap.size A' r) :
    Calls Try.prog 23 #[.slice A r.length c, .slice A' r.length c'] w fun e w' => e = .returned (.bool true) ∧ Below w.heap.size w w' := by
  have := same_any r r A A' c c' w hn hn hx hy
  have e : sameB r r = true := sameB_yes rfl
  rwa [e] at this


set_option maxHeartbeats 6400000 in
theorem nfaSteps_any (st start fin : Int) (es : List Edge) (A : Option Addr) (c : Nat) (l : List Int) (Al : Option Addr) (cl : Nat) (cc : Int) (w : World) (h1 : I64 st) (h2 : I64 start) (h3 : I64 fin) (h4 : ∀ e ∈ es, I64 e.frm ∧ I64 e.to)
    (hE : EdgesAt w w.heap.size A es) (hL : IntsAt w w.heap.size Al l) (hlc : l.length ≤ cl) (hcl : cl ≤ 9223372036854775807) :
    Calls Try.prog 7 #[.agg #[.int .i64 st, .int .i64 start, .int .i64 fin, .slice A es.length c], .slice Al l.length cl, .int .u8 cc] w fun e w' => e = .returned (.bool true) ∧ Below w.heap.size w w' := by
  have HG := Lib.hid (fun (wx : World) (hx : EdgesAt wx wx.heap.size A es) => (show Calls Try.prog 16 #[.agg #[.int .i64 st, .int .i64 start, .int .i64 fin, .slice A es.length c]] wx (GoodPost ⟨st, start, fin, es⟩ wx) from good_any ⟨st, start, fin, es⟩ A c wx h1 h2 h3 h4 hx))
  clear h1 h2 h3 h4
  have hE1 := (hE.alloc (Nat.le_refl _) (.cells #[.int .i64 st, .int .i64 start, .int .i64 fin, .slice A es.length c] 24)).more (B' := (w.alloc (.cells #[.int .i64 st, .int .i64 start, .int .i64 fin, .slice A es.length c] 24)).heap.size) (by simp)
  have hgm := good_may ⟨st, start, fin, es⟩
  have hgl := good_len ⟨st, start, fin, es⟩
  go_enter Try.func7, Try.ntmps7
  go_wp2_with fail
  refine (HG.out _ hE1).mono ?_
  rintro e w2 ⟨hg, hb2⟩
  generalize good ⟨st, start, fin, es⟩ = g at hgm hg hgl
  obtain ⟨A5, c5, rfl, hE5⟩ := hg
  simp only [World.size_alloc] at hb2
  have hbw : Below w.heap.size w w2 := ((Below.refl _ _).alloc (Nat.le_refl _) _).trans (hb2.mono (by omega))
  have hz := hbw.size
  have Hgm := Lib.hid hgm
  clear hgm hb2 hE1
  have hbx := blk_new w2 (.cells #[.int .i64 g.st, .int .i64 g.start, .int .i64 g.fin, .slice A5 g.edges.length c5] 24)
  have hbw3 := hbw.alloc (by omega) (.cells #[.int .i64 g.st, .int .i64 g.start, .int .i64 g.fin, .slice A5 g.edges.length c5] 24)
  have hE6 : EdgesAt (w2.alloc (.cells #[.int .i64 g.st, .int .i64 g.start, .int .i64 g.fin, .slice A5 g.edges.length c5] 24)) (w2.alloc (.cells #[.int .i64 g.st, .int .i64 g.start, .int .i64 g.fin, .slice A5 g.edges.length c5] 24)).heap.size A5 g.edges :=
    (hE5.alloc (Nat.le_refl _) _).more (by simp)
  have hLw : IntsAt (w2.alloc (.cells #[.int .i64 g.st, .int .i64 g.start, .int .i64 g.fin, .slice A5 g.edges.length c5] 24)) (w2.alloc (.cells #[.int .i64 g.st, .int .i64 g.start, .int .i64 g.fin, .slice A5 g.edges.length c5] 24)).heap.size Al l :=
    (hL.below hbw3).more hbw3.size
  by_cases hl : 8 < l.length
  · go_upto_region 4 with fail
    generalize w2.alloc (.cells #[.int .i64 g.st, .int .i64 g.start, .int .i64 g.fin, .slice A5 g.edges.length c5] 24) = W at hE6 hbx hbw3 hLw ⊢
    have hLW : IntsAt W W.heap.size Al (l.take 8) := by
      have := CellsAt.take hLw 8
      unfold IntsAt
      rwa [List.map_take]
    have hLl : (l.take 8).length = 8 := by rw [List.length_take]; omega
    clear hLw
    generalize l.take 8 = L at hLW hLl
    have hbl := blk_lt hbx
    have b0 : W.cell? ⟨w2.heap.size, 0, none⟩ = some (.int .i64 g.st) := blk_cell hbx 0
    have b1 : W.cell? ⟨w2.heap.size, 1, none⟩ = some (.int .i64 g.start) := blk_cell hbx 1
    have b2 : W.cell? ⟨w2.heap.size, 2, none⟩ = some (.int .i64 g.fin) := blk_cell hbx 2
    have b3 : W.cell? ⟨w2.heap.size, 3, none⟩ = some (.slice A5 g.edges.length c5) := blk_cell hbx 3
    have hzW := hbw3.size
    obtain ⟨r1, hr1⟩ : ∃ r1, r1 = rising g.st (Eps Edge.none_ g.edges (S0 g.st L)) := ⟨_, rfl⟩
    obtain ⟨r2, hr2⟩ : ∃ r2, r2 = rising g.st (StepP g.edges cc (· ∈ L)) := ⟨_, rfl⟩
    have H24 := Lib.hid (fun (wx : World) (hx : Below W.heap.size W wx) => (show Calls Try.prog 24 #[.agg #[.int .i64 g.st, .int .i64 g.start, .int .i64 g.fin, .slice A5 g.edges.length c5], .slice Al 8 cl] wx (RPost wx r1) from (by have h9 := (hr1 ▸ closed_r g L A5 Al c5 cl wx Hgm.out (by omega) (by omega) ((hE6.below hx).more hx.size) ((hLW.below hx).more hx.size)); rwa [hLl] at h9)))
    have H25 := Lib.hid (fun (wx : World) (hx : Below W.heap.size W wx) => (show Calls Try.prog 25 #[.agg #[.int .i64 g.st, .int .i64 g.start, .int .i64 g.fin, .slice A5 g.edges.length c5], .slice Al 8 cl] wx (RPost wx r1) from (by have h9 := (refClosed_r g L r1 A5 Al c5 cl wx Hgm.out (by omega) (by omega) ((hE6.below hx).more hx.size) ((hLW.below hx).more hx.size) hr1.symm); rwa [hLl] at h9)))
    have H26 := Lib.hid (fun (wx : World) (hx : Below W.heap.size W wx) => (show Calls Try.prog 26 #[.agg #[.int .i64 g.st, .int .i64 g.start, .int .i64 g.fin, .slice A5 g.edges.length c5], .slice Al 8 cl, .int .u8 cc] wx (RPost wx r2) from (by have h9 := (hr2 ▸ step_r g L cc A5 Al c5 cl wx Hgm.out (by omega) (by omega) ((hE6.below hx).more hx.size) ((hLW.below hx).more hx.size)); rwa [hLl] at h9)))
    have H27 := Lib.hid (fun (wx : World) (hx : Below W.heap.size W wx) => (show Calls Try.prog 27 #[.agg #[.int .i64 g.st, .int .i64 g.start, .int .i64 g.fin, .slice A5 g.edges.length c5], .slice Al 8 cl, .int .u8 cc] wx (RPost wx r2) from (by have h9 := (hr2 ▸ refStep_r g L cc A5 Al c5 cl wx Hgm.out (by omega) (by omega) ((hE6.below hx).more hx.size) ((hLW.below hx).more hx.size)); rwa [hLl] at h9)))
    have hr1l : Hid (r1.length ≤ 1000000000) := by have := rising_len Hgm.out (Eps Edge.none_ g.edges (S0 g.st L)); rw [← hr1] at this; exact Nat.le_trans this (by omega)
    have hr2l : Hid (r2.length ≤ 1000000000) := by have := rising_len Hgm.out (StepP g.edges cc (· ∈ L)); rw [← hr2] at this; exact Nat.le_trans this (by omega)
    have hB := Lib.hid ((Below.refl W.heap.size W).drew)
    clear hE5 hE6 hLW hr1 hr2 hLl
    go_region_held3 (fun w' => w'.cell? ⟨w2.heap.size, 0, none⟩ = some (.int .i64 g.st) ∧ w'.cell? ⟨w2.heap.size, 1, none⟩ = some (.int .i64 g.start) ∧ w'.cell? ⟨w2.heap.size, 2, none⟩ = some (.int .i64 g.fin) ∧ w'.cell? ⟨w2.heap.size, 3, none⟩ = some (.slice A5 g.edges.length c5))
      (exact ⟨(hB.out.cell (p := ⟨w2.heap.size, 0, none⟩) hbl).trans b0, (hB.out.cell (p := ⟨w2.heap.size, 1, none⟩) hbl).trans b1, (hB.out.cell (p := ⟨w2.heap.size, 2, none⟩) hbl).trans b2, (hB.out.cell (p := ⟨w2.heap.size, 3, none⟩) hbl).trans b3⟩)
      (first
        | (go_at_call 24; refine (H24.out _ hB.out).mono ?_; rintro e w' ⟨⟨A24, c24, rfl, hnew⟩, hb'⟩; have hX := Lib.hid hnew; (try (have hY := Lib.hid ((hY.out.below hb').more hb'.size))); have hB := Lib.hid (hB.out.trans (hb'.mono hB.out.size)); clear hnew hb')
        | (go_at_call 25; refine (H25.out _ hB.out).mono ?_; rintro e w' ⟨⟨A25, c25, rfl, hnew⟩, hb'⟩; have hY := Lib.hid hnew; (try (have hX := Lib.hid ((hX.out.below hb').more hb'.size))); have hB := Lib.hid (hB.out.trans (hb'.mono hB.out.size)); clear hnew hb')
        | (go_at_call 26; refine (H26.out _ hB.out).mono ?_; rintro e w' ⟨⟨A26, c26, rfl, hnew⟩, hb'⟩; have hX2 := Lib.hid hnew; (try (have hY2 := Lib.hid ((hY2.out.below hb').more hb'.size))); have hB := Lib.hid (hB.out.trans (hb'.mono hB.out.size)); clear hnew hb')
        | (go_at_call 27; refine (H27.out _ hB.out).mono ?_; rintro e w' ⟨⟨A27, c27, rfl, hnew⟩, hb'⟩; have hY2 := Lib.hid hnew; (try (have hX2 := Lib.hid ((hX2.out.below hb').more hb'.size))); have hB := Lib.hid (hB.out.trans (hb'.mono hB.out.size)); clear hnew hb')
        | (go_at_call 23; refine (same_r r1 _ _ _ _ _ hr1l.out hX.out hY.out).mono ?_; rintro e w' ⟨rfl, hb'⟩; have hB := Lib.hid (hB.out.trans (hb'.mono hB.out.size)); clear hb' hX hY)
        | (go_at_call 23; refine (same_r r2 _ _ _ _ _ hr2l.out hX2.out hY2.out).mono ?_; rintro e w' ⟨rfl, hb'⟩; have hB := Lib.hid (hB.out.trans (hb'.mono hB.out.size)); clear hb')
        | (go_at_call 17; refine (lives_any _).mono ?_; rintro e w' ⟨rfl, hb'⟩; have hB := Lib.hid (hB.out.trans (hb'.mono hB.out.size)); clear hb'))
    all_goals go_wp2_with fail
    all_goals go_ret
    all_goals exact ⟨rfl, hbw3.trans (hB.out.mono (by omega))⟩
  · go_upto_region 4 with fail
    generalize w2.alloc (.cells #[.int .i64 g.st, .int .i64 g.start, .int .i64 g.fin, .slice A5 g.edges.length c5] 24) = W at hE6 hbx hbw3 hLw ⊢
    obtain ⟨L, rfl⟩ : ∃ L : List Int, L = l := ⟨_, rfl⟩
    have hLW := hLw
    have hLl : True := trivial
    clear hLw
    have hbl := blk_lt hbx
    have b0 : W.cell? ⟨w2.heap.size, 0, none⟩ = some (.int .i64 g.st) := blk_cell hbx 0
    have b1 : W.cell? ⟨w2.heap.size, 1, none⟩ = some (.int .i64 g.start) := blk_cell hbx 1
    have b2 : W.cell? ⟨w2.heap.size, 2, none⟩ = some (.int .i64 g.fin) := blk_cell hbx 2
    have b3 : W.cell? ⟨w2.heap.size, 3, none⟩ = some (.slice A5 g.edges.length c5) := blk_cell hbx 3
    have hzW := hbw3.size
    obtain ⟨r1, hr1⟩ : ∃ r1, r1 = rising g.st (Eps Edge.none_ g.edges (S0 g.st L)) := ⟨_, rfl⟩
    obtain ⟨r2, hr2⟩ : ∃ r2, r2 = rising g.st (StepP g.edges cc (· ∈ L)) := ⟨_, rfl⟩
    have H24 := Lib.hid (fun (wx : World) (hx : Below W.heap.size W wx) => (show Calls Try.prog 24 #[.agg #[.int .i64 g.st, .int .i64 g.start, .int .i64 g.fin, .slice A5 g.edges.length c5], .slice Al L.length cl] wx (RPost wx r1) from (hr1 ▸ closed_r g L A5 Al c5 cl wx Hgm.out (by omega) (by omega) ((hE6.below hx).more hx.size) ((hLW.below hx).more hx.size))))
    have H25 := Lib.hid (fun (wx : World) (hx : Below W.heap.size W wx) => (show Calls Try.prog 25 #[.agg #[.int .i64 g.st, .int .i64 g.start, .int .i64 g.fin, .slice A5 g.edges.length c5], .slice Al L.length cl] wx (RPost wx r1) from (refClosed_r g L r1 A5 Al c5 cl wx Hgm.out (by omega) (by omega) ((hE6.below hx).more hx.size) ((hLW.below hx).more hx.size) hr1.symm)))
    have H26 := Lib.hid (fun (wx : World) (hx : Below W.heap.size W wx) => (show Calls Try.prog 26 #[.agg #[.int .i64 g.st, .int .i64 g.start, .int .i64 g.fin, .slice A5 g.edges.length c5], .slice Al L.length cl, .int .u8 cc] wx (RPost wx r2) from (hr2 ▸ step_r g L cc A5 Al c5 cl wx Hgm.out (by omega) (by omega) ((hE6.below hx).more hx.size) ((hLW.below hx).more hx.size))))
    have H27 := Lib.hid (fun (wx : World) (hx : Below W.heap.size W wx) => (show Calls Try.prog 27 #[.agg #[.int .i64 g.st, .int .i64 g.start, .int .i64 g.fin, .slice A5 g.edges.length c5], .slice Al L.length cl, .int .u8 cc] wx (RPost wx r2) from (hr2 ▸ refStep_r g L cc A5 Al c5 cl wx Hgm.out (by omega) (by omega) ((hE6.below hx).more hx.size) ((hLW.below hx).more hx.size))))
    have hr1l : Hid (r1.length ≤ 1000000000) := by have := rising_len Hgm.out (Eps Edge.none_ g.edges (S0 g.st L)); rw [← hr1] at this; exact Nat.le_trans this (by omega)
    have hr2l : Hid (r2.length ≤ 1000000000) := by have := rising_len Hgm.out (StepP g.edges cc (· ∈ L)); rw [← hr2] at this; exact Nat.le_trans this (by omega)
    have hB := Lib.hid ((Below.refl W.heap.size W).drew)
    clear hE5 hE6 hLW hr1 hr2 hLl
    go_region_held3 (fun w' => w'.cell? ⟨w2.heap.size, 0, none⟩ = some (.int .i64 g.st) ∧ w'.cell? ⟨w2.heap.size, 1, none⟩ = some (.int .i64 g.start) ∧ w'.cell? ⟨w2.heap.size, 2, none⟩ = some (.int .i64 g.fin) ∧ w'.cell? ⟨w2.heap.size, 3, none⟩ = some (.slice A5 g.edges.length c5))
      (exact ⟨(hB.out.cell (p := ⟨w2.heap.size, 0, none⟩) hbl).trans b0, (hB.out.cell (p := ⟨w2.heap.size, 1, none⟩) hbl).trans b1, (hB.out.cell (p := ⟨w2.heap.size, 2, none⟩) hbl).trans b2, (hB.out.cell (p := ⟨w2.heap.size, 3, none⟩) hbl).trans b3⟩)
      (first
        | (go_at_call 24; refine (H24.out _ hB.out).mono ?_; rintro e w' ⟨⟨A24, c24, rfl, hnew⟩, hb'⟩; have hX := Lib.hid hnew; (try (have hY := Lib.hid ((hY.out.below hb').more hb'.size))); have hB := Lib.hid (hB.out.trans (hb'.mono hB.out.size)); clear hnew hb')
        | (go_at_call 25; refine (H25.out _ hB.out).mono ?_; rintro e w' ⟨⟨A25, c25, rfl, hnew⟩, hb'⟩; have hY := Lib.hid hnew; (try (have hX := Lib.hid ((hX.out.below hb').more hb'.size))); have hB := Lib.hid (hB.out.trans (hb'.mono hB.out.size)); clear hnew hb')
        | (go_at_call 26; refine (H26.out _ hB.out).mono ?_; rintro e w' ⟨⟨A26, c26, rfl, hnew⟩, hb'⟩; have hX2 := Lib.hid hnew; (try (have hY2 := Lib.hid ((hY2.out.below hb').more hb'.size))); have hB := Lib.hid (hB.out.trans (hb'.mono hB.out.size)); clear hnew hb')
        | (go_at_call 27; refine (H27.out _ hB.out).mono ?_; rintro e w' ⟨⟨A27, c27, rfl, hnew⟩, hb'⟩; have hY2 := Lib.hid hnew; (try (have hX2 := Lib.hid ((hX2.out.below hb').more hb'.size))); have hB := Lib.hid (hB.out.trans (hb'.mono hB.out.size)); clear hnew hb')
        | (go_at_call 23; refine (same_r r1 _ _ _ _ _ hr1l.out hX.out hY.out).mono ?_; rintro e w' ⟨rfl, hb'⟩; have hB := Lib.hid (hB.out.trans (hb'.mono hB.out.size)); clear hb' hX hY)
        | (go_at_call 23; refine (same_r r2 _ _ _ _ _ hr2l.out hX2.out hY2.out).mono ?_; rintro e w' ⟨rfl, hb'⟩; have hB := Lib.hid (hB.out.trans (hb'.mono hB.out.size)); clear hb')
        | (go_at_call 17; refine (lives_any _).mono ?_; rintro e w' ⟨rfl, hb'⟩; have hB := Lib.hid (hB.out.trans (hb'.mono hB.out.size)); clear hb'))
    all_goals go_wp2_with fail
    all_goals go_ret
    all_goals exact ⟨rfl, hbw3.trans (hB.out.mono (by omega))⟩
end Go.Proofs.Ytaefhfldgemcnaa
