/- The law NfaAccepts, walked. -/
import Derived.Test.YtaefhfldgemcnaaW18
import Derived.Test.YtaefhfldgemcnaaW19
import Derived.Deep.RegionHeld3
namespace Go.Proofs.Ytaefhfldgemcnaa
open Go.RowKit

set_option maxHeartbeats 3200000 in
theorem nfaAccepts_any (st start fin : Int) (es : List Edge) (A : Option Addr) (c : Nat) (s : ByteArray) (w : World) (h1 : I64 st) (h2 : I64 start) (h3 : I64 fin) (h4 : ∀ e ∈ es, I64 e.frm ∧ I64 e.to)
    (hs : s.size ≤ 9223372036854775807) (hE : EdgesAt w w.heap.size A es) :
    Calls Try.prog 4 #[.agg #[.int .i64 st, .int .i64 start, .int .i64 fin, .slice A es.length c], .string s] w fun e w' => e = .returned (.bool true) ∧ Below w.heap.size w w' := by
  have HG := Lib.hid (fun (wx : World) (hx : EdgesAt wx wx.heap.size A es) => (show Calls Try.prog 16 #[.agg #[.int .i64 st, .int .i64 start, .int .i64 fin, .slice A es.length c]] wx (GoodPost ⟨st, start, fin, es⟩ wx) from good_any ⟨st, start, fin, es⟩ A c wx h1 h2 h3 h4 hx))
  have HF := Lib.hid (fun (wx : World) => (show Calls Try.prog 18 #[.string s] wx (FewPost wx) from few_any s wx hs))
  clear h1 h2 h3 h4 hs
  have hE1 := (hE.alloc (Nat.le_refl _) (.cells #[.int .i64 st, .int .i64 start, .int .i64 fin, .slice A es.length c] 24)).more (B' := (w.alloc (.cells #[.int .i64 st, .int .i64 start, .int .i64 fin, .slice A es.length c] 24)).heap.size) (by simp)
  have hgm := good_may ⟨st, start, fin, es⟩
  have hgl := good_len ⟨st, start, fin, es⟩
  go_enter Try.func4, Try.ntmps4
  go_wp2_with fail
  refine (HG.out _ hE1).mono ?_
  rintro e w2 ⟨hg, hb2⟩
  generalize good ⟨st, start, fin, es⟩ = g at hgm hg hgl
  obtain ⟨A5, c5, rfl, hE5⟩ := hg
  simp only [World.size_alloc] at hb2
  have hbw : Below w.heap.size w w2 := ((Below.refl _ _).alloc (Nat.le_refl _) _).trans (hb2.mono (by omega))
  have hz := hbw.size
  have Hgm := Lib.hid hgm
  clear hgm hb2 hE1
  go_wp2_with fail
  refine (HF.out _).mono ?_
  rintro e w3 ⟨⟨t, rfl, ht⟩, rfl⟩
  have hE6 : EdgesAt (w2.alloc (.cells #[.int .i64 g.st, .int .i64 g.start, .int .i64 g.fin, .slice A5 g.edges.length c5] 24)) (w2.alloc (.cells #[.int .i64 g.st, .int .i64 g.start, .int .i64 g.fin, .slice A5 g.edges.length c5] 24)).heap.size A5 g.edges :=
    (hE5.alloc (Nat.le_refl _) _).more (by simp)
  have hbx := blk_new w2 (.cells #[.int .i64 g.st, .int .i64 g.start, .int .i64 g.fin, .slice A5 g.edges.length c5] 24)
  have hbw3 := hbw.alloc (by omega) (.cells #[.int .i64 g.st, .int .i64 g.start, .int .i64 g.fin, .slice A5 g.edges.length c5] 24)
  go_upto_region 3 with fail
  generalize w2.alloc (.cells #[.int .i64 g.st, .int .i64 g.start, .int .i64 g.fin, .slice A5 g.edges.length c5] 24) = W at hE6 hbx hbw3 ⊢
  have hbl := blk_lt hbx
  have b0 : W.cell? ⟨w2.heap.size, 0, none⟩ = some (.int .i64 g.st) := blk_cell hbx 0
  have b1 : W.cell? ⟨w2.heap.size, 1, none⟩ = some (.int .i64 g.start) := blk_cell hbx 1
  have b2 : W.cell? ⟨w2.heap.size, 2, none⟩ = some (.int .i64 g.fin) := blk_cell hbx 2
  have b3 : W.cell? ⟨w2.heap.size, 3, none⟩ = some (.slice A5 g.edges.length c5) := blk_cell hbx 3
  have hzW := hbw3.size
  have HA := Lib.hid (fun (wx : World) (hx : Below W.heap.size W wx) => (show Calls Try.prog 19 #[.agg #[.int .i64 g.st, .int .i64 g.start, .int .i64 g.fin, .slice A5 g.edges.length c5], .string t] wx (AccPost g t wx) from
    accepts_any g t A5 c5 wx Hgm.out (by omega) (by omega) ((hE6.below hx).more hx.size)))
  have HR := Lib.hid (fun (wx : World) (hx : Below W.heap.size W wx) => (show Calls Try.prog 20 #[.agg #[.int .i64 g.st, .int .i64 g.start, .int .i64 g.fin, .slice A5 g.edges.length c5], .string t] wx (AccPost g t wx) from
    refAccepts_any g t A5 c5 wx Hgm.out (by omega) (by omega) ((hE6.below hx).more hx.size)))
  have hB := Lib.hid ((Below.refl W.heap.size W).drew)
  clear hE5 hE6
  go_region_held3 (fun w' => w'.cell? ⟨w2.heap.size, 0, none⟩ = some (.int .i64 g.st) ∧ w'.cell? ⟨w2.heap.size, 1, none⟩ = some (.int .i64 g.start) ∧ w'.cell? ⟨w2.heap.size, 2, none⟩ = some (.int .i64 g.fin) ∧ w'.cell? ⟨w2.heap.size, 3, none⟩ = some (.slice A5 g.edges.length c5))
    (exact ⟨(hB.out.cell (p := ⟨w2.heap.size, 0, none⟩) hbl).trans b0, (hB.out.cell (p := ⟨w2.heap.size, 1, none⟩) hbl).trans b1, (hB.out.cell (p := ⟨w2.heap.size, 2, none⟩) hbl).trans b2, (hB.out.cell (p := ⟨w2.heap.size, 3, none⟩) hbl).trans b3⟩)
    (first
      | (go_at_call 19; refine (HA.out _ hB.out).mono ?_; rintro e w' ⟨rfl, hb'⟩; have hB := Lib.hid (hB.out.trans (hb'.mono hB.out.size)); clear hb')
      | (go_at_call 20; refine (HR.out _ hB.out).mono ?_; rintro e w' ⟨rfl, hb'⟩; have hB := Lib.hid (hB.out.trans (hb'.mono hB.out.size)); clear hb')
      | (go_at_call 17; refine (lives_any _).mono ?_; rintro e w' ⟨rfl, hb'⟩; have hB := Lib.hid (hB.out.trans (hb'.mono hB.out.size)); clear hb'))
  all_goals go_wp2_with fail
  all_goals go_ret
  all_goals exact ⟨rfl, hbw3.trans (hB.out.mono (by omega))⟩
end Go.Proofs.Ytaefhfldgemcnaa
