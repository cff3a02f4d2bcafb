/- What nodes weigh, walked. -/
import Derived.Test.YtghlodpbbghcoaaDoorD6
import Derived.Test.YtghlodpbbghcoaaDoorBlk
import Derived.Test.YtghlodpbbghcoaaDoorSD
import Derived.LoopN
import Derived.Deep.AppendLies
import Derived.Deep.RegionHeld3
import Derived.Deep.RegionLaw
import Derived.Test.YtghlodpbbghcoaaDoorShelf
import Derived.Test.YtghlodpbbghcoaaDoorSC
import Derived.Lib.AppendStr
import Derived.Lib.Builder
namespace Go.Proofs.YtghlodpbbghcoaaDoor
open Go.Lib Go.RowKit Go.Shelf

attribute [local go_sem] Oper.semAt_some

def Dt.weight (d : Dt) : Nat := 1 + d.attrs.length
def sumW (l : List Dt) : Nat := (l.map Dt.weight).sum
theorem sumW_prefix {a b : List Dt} (h : a <+: b) : sumW a ≤ sumW b := by
  obtain ⟨t, rfl⟩ := h
  simp [sumW]

set_option maxRecDepth 100000 in
set_option maxHeartbeats 6400000 in
theorem weight_any (A : Option Addr) (cap : Nat) (f : Fo) (hf : f.Ok) (hs : f.size ≤ 1000000) (hh : f.height < 1000) (hcap : f.len ≤ cap) (B : Nat) (w : World) (hBw : B ≤ w.heap.size) (hrow : 0 < f.len → ∃ b o, A = some ⟨b, o, none⟩ ∧ RowAt w B b o f) :
    Calls Tryd.prog 29 #[.slice A f.len cap] w fun e w' => e = .returned (.int .i64 (sumW (nodesOf false f))) ∧ Below w.heap.size w w' := by
  obtain ⟨L, hL⟩ : ∃ L, f.len = L := ⟨_, rfl⟩
  have hst := each_stops ((w.alloc (.cells #[.int .i64 0] 3)).alloc (.cells #[.slice A f.len cap] 23)) (w.heap.size + 1) B A cap f hf hs hh hcap (by simp) (by simp; omega)
    (by have := (cell_new_l (w.alloc (.cells #[.int .i64 0] 3)) (.slice A f.len cap) 23).1; rw [World.size_alloc] at this; exact this)
    (fun h => by obtain ⟨b, o, e, hr⟩ := hrow h; exact ⟨b, o, e, hr.below (((Below.refl B w).alloc hBw _).alloc (by simp; omega) _)⟩)
  rw [hL] at hst hcap ⊢
  replace hL := Lib.hid hL
  refine (callsIn_wide (n := 4)).1 ?_
  refine callsIn_of_wp_marks Tryd.func29 rfl trivial ?_ rfl
  simp only [Tryd.ntmps29, List.size_toArray, List.length_cons, List.length_nil, Nat.reduceAdd, Nat.reduceSub, Array.replicate_succ, Array.replicate_zero, List.push_toArray, List.append_toArray, List.nil_append, List.cons_append]
  gi_wp2_with (refine ⟨trivial, ?_⟩; gi_at_call 24; refine (callsIn_wide.2 (each_any _ _ _ _)).mono ?_; rintro e w' ⟨rfl, rfl⟩)
  have hs0 := cell_new_l w (.int .i64 0) 3
  have hB0 : Below w.heap.size w ((w.alloc (.cells #[.int .i64 0] 3)).alloc (.cells #[.slice A L cap] 23)) := ((Below.refl _ w).alloc (Nat.le_refl _) _).alloc (by simp) _
  obtain ⟨w2, hw2⟩ : ∃ w2, (w.alloc (.cells #[.int .i64 0] 3)).alloc (.cells #[.slice A L cap] 23) = w2 := ⟨_, rfl⟩
  have hsz2 : w2.heap.size = w.heap.size + 2 := by rw [← hw2]; simp
  have hc0 : w2.cell? ⟨w.heap.size, 0, none⟩ = some (.int .i64 0) := by rw [← hw2]; exact cell_alloc_l _ hs0.1
  have hf0 : w2.frozen? ⟨w.heap.size, 0, none⟩ = false := by rw [← hw2]; exact frozen_alloc_l _ hs0.1 hs0.2
  rw [hw2] at hst hB0 ⊢
  clear hw2 hs0
  refine wpIn_rangeFunc_ownF rfl (by decide) (gf := 44) (lb := #[.pointer (some ⟨w.heap.size + 1, 0, none⟩)]) rfl trivial (enters_of Tryd.func44 (by kernel_rfl) rfl)
    hst belowK_t (belowK_b (by omega)) (Below.refl _ _) (fun _ => rfl)
    (fun pre W => ((W.cell? ⟨w.heap.size, 0, none⟩ = some (.int .i64 (sumW (pre.map Item.dt))) ∧ W.frozen? ⟨w.heap.size, 0, none⟩ = false) ∧ sumW (pre.map Item.dt) ≤ 1000001 * pre.length) ∧ Below w.heap.size w W ∧ Below B w2 W)
    (fun _ _ _ => False)
    (OwnFrom.and (Own.from (fun s A B row hs hg hr => ⟨⟨cell_kept hs.1.1 hg hr, (frozen_kept hs.1.1 hg hr).trans hs.1.2⟩, hs.2⟩) _) (OwnFrom.and (ownFrom_below (Nat.le_refl _) (by omega)) (ownFrom_below (by omega) (by omega))))
    (fun _ _ _ _ _ hs _ _ => hs)
    ⟨⟨⟨hc0, hf0⟩, Nat.le_refl _⟩, hB0, Below.refl _ _⟩
    (fun x => { tmps := #[.slice A L cap, undef, .int .i64 0, .pointer (some ⟨w.heap.size, 0, none⟩), .slice (some ⟨x.b, x.o, none⟩) x.f.len x.cap, .int .i64 x.i, .slice A L cap, .func (.func 44) #[] #[.pointer (some ⟨w.heap.size + 1, 0, none⟩)], .slice (some ⟨x.b, x.o, none⟩) x.f.len x.cap, .int .i64 x.i, undef, undef, undef, undef, undef, undef, undef, undef, undef, undef], defers := [] }) ?assign ?body ?done ?stop
  case assign =>
    intro l x W K hK
    simp only [Item.encs]
    gi_wp2
    exact hK
  case body =>
    rintro l pre x W ⟨⟨⟨hc, hfz⟩, hsum⟩, hB, hB2⟩ hlen
    obtain ⟨y, hy⟩ : ∃ y, y = x := ⟨_, rfl⟩
    have hfuel := Fo.drop_len x.f x.i false
    have hrowx := x.row.drop x.i false
    have hokx := x.ok.drop x.i false
    have hix := x.hi
    cases hg : Fo.drop false x.f x.i with
    | mk p g =>
    rw [hg] at hfuel hrowx hokx
    cases g with
    | nil => exfalso; simp [Fo.len] at hfuel; omega
    | node k nm al tx kids rest =>
    have hdt : x.dt = ⟨p, k, nm, al, tx, kids.len⟩ := by unfold Item.dt; rw [hg]; rfl
    have hw : Hid (sumW ((pre ++ [x]).map Item.dt) = sumW (pre.map Item.dt) + (1 + al.length)) := Lib.hid (by simp [sumW, hdt, Dt.weight])
    clear hfuel hdt
    obtain ⟨hbB, _, _, ⟨va, c2, c2'⟩, _, _, _⟩ := hrowx
    obtain ⟨_, _, o3, _, _, _⟩ := hokx
    obtain ⟨A2, cap2, rfl, hcap2, _⟩ := c2'
    obtain ⟨S, hS⟩ : ∃ S, sumW (pre.map Item.dt) = S := ⟨_, rfl⟩
    rw [hS] at hc hsum hw
    obtain ⟨an, han⟩ : ∃ n, al.length = n := ⟨_, rfl⟩
    rw [han] at c2 o3 hcap2 hw
    have c2W := (hB2.cell (p := ⟨x.b, _, none⟩) hbB).trans c2
    have hcap5 := x.hcap
    have hbig5 := x.hbig
    obtain ⟨xb, hxb⟩ : ∃ n, x.b = n := ⟨_, rfl⟩
    obtain ⟨xo, hxo⟩ : ∃ n, x.o = n := ⟨_, rfl⟩
    obtain ⟨xi, hxi⟩ : ∃ n, x.i = n := ⟨_, rfl⟩
    obtain ⟨xc, hxc⟩ : ∃ n, x.cap = n := ⟨_, rfl⟩
    obtain ⟨xl, hxl⟩ : ∃ n, x.f.len = n := ⟨_, rfl⟩
    rw [hxb, hxo, hxi] at c2W
    rw [hxi] at hix
    rw [hxl] at hix hbig5 hcap5
    rw [hxc] at hcap5
    rw [hxb, hxo, hxi, hxc, hxl]
    clear hxb hxo hxi hxc hxl hg hst hrow c2 han hS
    have hi1 : (xi : Int) < (xl : Int) := by omega
    have hi0 : (0 : Int) ≤ (xi : Int) := by omega
    have hS2 : S ≤ 1000001 * 1000000 := Nat.le_trans hsum (Nat.mul_le_mul_left _ (by omega))
    have mixed : Tryd.prog.follows Departure.mixedOrders = true := by kernel_rfl
    have hlt0 : w.heap.size < W.heap.size := by have := hB2.size; omega
    have k1 : Hid (KeepsOthers W (W.setCell ⟨w.heap.size, 0, none⟩ (.int .i64 ((S : Int) + (1 + (an : Int))))).drew ∧ Below B W (W.setCell ⟨w.heap.size, 0, none⟩ (.int .i64 ((S : Int) + (1 + (an : Int))))).drew ∧
        (((W.setCell ⟨w.heap.size, 0, none⟩ (.int .i64 ((S : Int) + (1 + (an : Int))))).drew.cell? ⟨w.heap.size, 0, none⟩ = some (.int .i64 (sumW ((pre ++ [x]).map Item.dt))) ∧ (W.setCell ⟨w.heap.size, 0, none⟩ (.int .i64 ((S : Int) + (1 + (an : Int))))).drew.frozen? ⟨w.heap.size, 0, none⟩ = false) ∧
          sumW ((pre ++ [x]).map Item.dt) ≤ 1000001 * (pre ++ [x]).length) ∧ Below w.heap.size w (W.setCell ⟨w.heap.size, 0, none⟩ (.int .i64 ((S : Int) + (1 + (an : Int))))).drew ∧ Below B w2 (W.setCell ⟨w.heap.size, 0, none⟩ (.int .i64 ((S : Int) + (1 + (an : Int))))).drew) := Lib.hid (by
      refine ⟨(KeepsOthers.setCell _ _ _).trans (KeepsOthers.drew _), ((Below.refl B W).setCell (p := ⟨w.heap.size, 0, none⟩) hBw _).drew, ⟨⟨?_, ?_⟩, ?_⟩, (hB.setCell (p := ⟨w.heap.size, 0, none⟩) (Nat.le_refl _) _).drew, (hB2.setCell (p := ⟨w.heap.size, 0, none⟩) hBw _).drew⟩
      · show World.cell? (W.setCell _ _) _ = _
        rw [World.cell?_setCell_same' _ _ _ (by rw [hc]; rfl), hw.out]
        simp
      · show World.frozen? (W.setCell _ _) _ = _
        rw [World.frozen?_setCell]
        exact hfz
      · rw [hw.out]; simp; omega)
    gi_wp2
    gi_region_o
    all_goals gi_wp2
    all_goals (try go_bits)
    all_goals exact k1.out
  case done =>
    rintro D ys W hD hys ⟨⟨⟨hc, hfz⟩, hsum⟩, hB, hB2⟩ hK
    rw [hys] at hc
    gi_wp2
    refine ⟨by simp, .inl ⟨_, _, rfl, run_takeDeferred hK, ?_⟩⟩
    exact ⟨_, results_tmp rfl _ _ _, rfl, hB.trans (belowK_b (w := w) (Nat.le_refl _) W D _ _ (by omega) hK rfl rfl)⟩
  case stop =>
    rintro D c pre W _ _ h
    exact h.elim
end Go.Proofs.YtghlodpbbghcoaaDoor

/- The document's example of layer 3. -/
namespace Go.Proofs.YtghlodpbbghcoaaDoor
open Go.Lib Go.RowKit Go.Shelf

def brB : ByteArray := ⟨#[98, 114]⟩
def styleB : ByteArray := ⟨#[115, 116, 121, 108, 101]⟩
set_option maxHeartbeats 800000 in
theorem void_br (w : World) : Calls Tryd.prog 30 #[.string ⟨#[98, 114]⟩] w fun e w' => e = .returned (.bool true) ∧ w' = w := by
  go_enter Tryd.func30, Tryd.ntmps30
  go_wp2
  go_ret
  exact ⟨rfl, rfl⟩
set_option maxHeartbeats 800000 in
theorem raw_style (w : World) : Calls Tryd.prog 31 #[.string ⟨#[115, 116, 121, 108, 101]⟩] w fun e w' => e = .returned (.bool true) ∧ w' = w := by
  go_enter Tryd.func31, Tryd.ntmps31
  go_wp2
  go_ret
  exact ⟨rfl, rfl⟩

/-- The example's nodes. -/
def exF : Fo := .node 1 ⟨#[97]⟩ [(⟨#[105, 100]⟩, ⟨#[49]⟩)] ⟨#[]⟩ (.node 2 ⟨#[]⟩ [] ⟨#[120]⟩ .nil .nil) .nil
theorem exF_may : mayB exF = true := by decide +kernel
theorem exF_ok : exF.Ok := by
  refine ⟨by decide, ?_, by decide, by decide, ⟨by decide, ?_, by decide, by decide, trivial, trivial⟩, trivial⟩
  · intro a ha
    simp at ha
    subst ha
    exact ⟨by decide, by decide⟩
  · intro a ha
    cases ha
theorem exF_row (w : World) (W : World) (h : W = ((w.alloc (.cells #[.string ⟨#[105, 100]⟩, .string ⟨#[49]⟩] 56)).alloc (.cells #[.int .i64 2, .string ⟨#[]⟩, .slice none 0 0, .string ⟨#[120]⟩, .slice none 0 0] 28)).alloc
      (.cells #[.int .i64 1, .string ⟨#[97]⟩, .slice (some ⟨w.heap.size, 0, none⟩) 1 1, .string ⟨#[]⟩, .slice (some ⟨w.heap.size + 1, 0, none⟩) 1 1] 28)) : RowAt W W.heap.size (w.heap.size + 2) 0 exF := by
  have s1 : W.heap.size = w.heap.size + 3 := by rw [h]; simp
  have e2 : ∀ j, W.cell? ⟨w.heap.size + 2, j, none⟩ = (#[.int .i64 1, .string ⟨#[97]⟩, .slice (some ⟨w.heap.size, 0, none⟩) 1 1, .string ⟨#[]⟩, .slice (some ⟨w.heap.size + 1, 0, none⟩) 1 1] : Array Value)[j]? := fun j => by
    rw [h, World.cell?_alloc_at _ _ _ _ (by simp)]
  have e1 : ∀ j, W.cell? ⟨w.heap.size + 1, j, none⟩ = (#[.int .i64 2, .string ⟨#[]⟩, .slice none 0 0, .string ⟨#[120]⟩, .slice none 0 0] : Array Value)[j]? := fun j => by
    rw [h, World.cell?_alloc_past _ _ _ (by simp), World.cell?_alloc_at _ _ _ _ (by simp)]
  have e0 : ∀ j, W.cell? ⟨w.heap.size, j, none⟩ = (#[.string ⟨#[105, 100]⟩, .string ⟨#[49]⟩] : Array Value)[j]? := fun j => by
    rw [h, World.cell?_alloc_past _ _ _ (by simp; omega), World.cell?_alloc_past _ _ _ (by simp), World.cell?_alloc_at _ _ _ _ rfl]
  refine ⟨by omega, e2 0, e2 1, ⟨_, e2 2, some ⟨w.heap.size, 0, none⟩, 1, rfl, Nat.le_refl _, fun j hj => ?_⟩, e2 3, ⟨some ⟨w.heap.size + 1, 0, none⟩, 1, e2 4, Nat.le_refl _, fun _ => ⟨w.heap.size + 1, 0, rfl, ?_⟩⟩, trivial⟩
  · have : j = 0 := by simp at hj; omega
    subst this
    exact ⟨w.heap.size, 0, rfl, by omega, e0 0, e0 1⟩
  · exact ⟨by omega, e1 0, e1 1, ⟨_, e1 2, none, 0, rfl, Nat.le_refl _, fun j hj => absurd hj (Nat.not_lt_zero _)⟩, e1 3, ⟨none, 0, e1 4, Nat.le_refl _, fun h => absurd h (by decide)⟩, trivial⟩

set_option maxRecDepth 8192 in
set_option maxHeartbeats 1600000 in
theorem lives3_any (w : World) (hT : Tabs w) :
    Calls Tryd.prog 10 #[] w fun e w' => e = .returned (.bool true) ∧ Below w.heap.size w w' := by
  obtain ⟨W, hW⟩ : ∃ W, ((w.alloc (.cells #[.string ⟨#[105, 100]⟩, .string ⟨#[49]⟩] 56)).alloc (.cells #[.int .i64 2, .string ⟨#[]⟩, .slice none 0 0, .string ⟨#[120]⟩, .slice none 0 0] 28)).alloc
      (.cells #[.int .i64 1, .string ⟨#[97]⟩, .slice (some ⟨w.heap.size, 0, none⟩) 1 1, .string ⟨#[]⟩, .slice (some ⟨w.heap.size + 1, 0, none⟩) 1 1] 28) = W := ⟨_, rfl⟩
  have hrow := exF_row w W hW.symm
  have hB0 : Below w.heap.size w W := by rw [← hW]; exact (((Below.refl _ w).alloc (Nat.le_refl _) _).alloc (by simp) _).alloc (by simp; omega) _
  have hwt := weight_any (some ⟨w.heap.size + 2, 0, none⟩) 1 exF exF_ok (by decide) (by decide) (by decide) W.heap.size W (Nat.le_refl _) (fun _ => ⟨_, _, rfl, hrow⟩)
  have hmay : ∀ w1, Below W.heap.size W w1 → Calls Tryd.prog 8 #[.slice (some ⟨w.heap.size + 2, 0, none⟩) 1 1] w1 (ErrPost (mayB exF) w1) := fun w1 hb =>
    may_any (some ⟨w.heap.size + 2, 0, none⟩) 1 exF exF_ok (by decide) (by decide) (by decide) W.heap.size w1 (tabs_below (tabs_below hT hB0) hb) hb.size (fun _ => ⟨_, _, rfl, hrow.below hb⟩)
  rw [exF_may] at hmay
  have hsum : sumW (nodesOf false exF) = 3 := by decide
  rw [hsum] at hwt
  change Calls Tryd.prog 29 #[.slice (some ⟨w.heap.size + 2, 0, none⟩) 1 1] W _ at hwt
  clear hrow hsum
  go_enter Tryd.func10, Tryd.ntmps10
  go_upto_region 2 with fail
  clear hW
  replace hB0 := Lib.hid hB0
  go_wp2_with (first
    | (go_at_call 29; refine hwt.mono ?_; rintro e w1 ⟨rfl, hB1⟩)
    | (go_at_call 8; refine (hmay _ hB1).mono ?_; rintro e w2 ⟨x, rfl, hx, hB2⟩; obtain rfl : x = 0 := of_decide_eq_true hx)
    | (go_at_call 30; refine (void_br _).mono ?_; rintro e w3 ⟨rfl, rfl⟩)
    | (go_at_call 31; refine (raw_style _).mono ?_; rintro e w3 ⟨rfl, rfl⟩))
  go_ret
  exact ⟨rfl, (hB0.out.trans (hB1.mono hB0.out.size)).trans (hB2.mono (hB0.out.trans (hB1.mono hB0.out.size)).size)⟩
end Go.Proofs.YtghlodpbbghcoaaDoor

/- A flat node cloned, walked. -/
namespace Go.Proofs.YtghlodpbbghcoaaDoor
open Go.Lib Go.RowKit

theorem info78 : (Tryd.prog.info? 78).map (fun i => (i.zero, i.size, i.bytes)) = some (some (.agg #[.slice none 0 0, .pointer none]), 2, 32) := by kernel_rfl

theorem make_one (w : World) : (Instr.makeSlice 23 (.int .i64 1) (.int .i64 1)).run Tryd.prog w = .ok (.slice (some ⟨w.heap.size, 0, none⟩) 1 1) (w.alloc (.cells #[.int .i64 0, .string ⟨#[]⟩, .slice none 0 0, .string ⟨#[]⟩, .slice none 0 0] 28)) := by kernel_rfl

set_option maxRecDepth 100000 in
set_option maxHeartbeats 6400000 in
theorem clone_flat (b o cap : Nat) (k : Int) (nm tx : ByteArray) (w : World) (hb : b < w.heap.size)
    (c0 : w.cell? ⟨b, o, none⟩ = some (.int .i64 k)) (c1 : w.cell? ⟨b, o + 1, none⟩ = some (.string nm)) (c2 : w.cell? ⟨b, o + 2, none⟩ = some (.slice none 0 0)) (c3 : w.cell? ⟨b, o + 3, none⟩ = some (.string tx)) (c4 : w.cell? ⟨b, o + 4, none⟩ = some (.slice none 0 0)) :
    Calls Tryd.prog 26 #[.slice (some ⟨b, o, none⟩) 1 cap] w fun e w' => ∃ g, e = .returned (.slice (some ⟨g, 0, none⟩) 1 1) ∧ w.heap.size ≤ g ∧ w'.heap[g]? = some (.cells #[.int .i64 k, .string nm, .slice none 0 0, .string tx, .slice none 0 0] 28 (0, 0)) ∧ Below w.heap.size w w' := by
  obtain ⟨i0, hi, hz0, hz1, hz2⟩ := info_parts info78
  go_enter Tryd.func26, Tryd.ntmps26
  go_wp2
  refine wp_loop_rounds 3 ?_
  rw [rounds_succ]
  have hmk := make_one
  have hb1 : b < w.heap.size + 1 := by omega
  have hb2 : b < w.heap.size + 1 + 1 := by omega
  have hb3 : b < w.heap.size + 1 + 1 + 1 := by omega
  have hb4 : b < w.heap.size + 1 + 1 + 1 + 1 := by omega
  go_upto_region 9 with fail
  refine wp_loop_rounds 2 ?_
  rw [rounds_succ]
  go_upto_region 11 with fail
  obtain ⟨W5, hW5⟩ : ∃ W5, ((((w.alloc (.cells #[.slice none 0 0] 23)).alloc (.cells #[.slice (some ⟨b, o, none⟩) 1 cap, .pointer (some ⟨w.heap.size, 0, none⟩)] 78)).alloc (.cells #[.slice (some ⟨b, o, none⟩) 1 cap, .pointer (some ⟨w.heap.size, 0, none⟩)] 78)).alloc
    (.cells #[.int .i64 0, .string ⟨#[]⟩, .slice none 0 0, .string ⟨#[]⟩, .slice none 0 0] 28)).alloc (.cells #[.int .i64 k, .string nm, .slice none 0 0, .string tx, .slice none 0 0] 28) = W5 := ⟨_, rfl⟩
  have hz5 : W5.heap.size = w.heap.size + 5 := by rw [← hW5]; simp
  have X0 : W5.heap[w.heap.size]? = some (.cells #[.slice none 0 0] 23) := by rw [← hW5]; exact blk_alloc (blk_alloc (blk_alloc (blk_alloc (blk_new _ _) _) _) _) _
  have X2 : W5.heap[w.heap.size + 1 + 1]? = some (.cells #[.slice (some ⟨b, o, none⟩) 1 cap, .pointer (some ⟨w.heap.size, 0, none⟩)] 78) := by rw [← hW5]; exact blk_alloc (blk_alloc (blk_new' (by simp)) _) _
  have X3 : W5.heap[w.heap.size + 1 + 1 + 1]? = some (.cells #[.int .i64 0, .string ⟨#[]⟩, .slice none 0 0, .string ⟨#[]⟩, .slice none 0 0] 28) := by rw [← hW5]; exact blk_alloc (blk_new' (by simp)) _
  have X4 : W5.heap[w.heap.size + 1 + 1 + 1 + 1]? = some (.cells #[.int .i64 k, .string nm, .slice none 0 0, .string tx, .slice none 0 0] 28) := by rw [← hW5]; exact blk_new' (by simp)
  have X1 : W5.heap[w.heap.size + 1]? = some (.cells #[.slice (some ⟨b, o, none⟩) 1 cap, .pointer (some ⟨w.heap.size, 0, none⟩)] 78) := by rw [← hW5]; exact blk_alloc (blk_alloc (blk_alloc (blk_new' (by simp)) _) _) _
  have hB5 : Below w.heap.size w W5 := by rw [← hW5]; exact (((((Below.refl _ w).alloc (Nat.le_refl _) _).alloc (by simp) _).alloc (by simp; omega) _).alloc (by simp; omega) _).alloc (by simp; omega) _
  rw [hW5]
  clear hW5
  replace hz5 := Lib.hid hz5
  replace X0 := Lib.hid X0
  replace X2 := Lib.hid X2
  replace X3 := Lib.hid X3
  replace X4 := Lib.hid X4
  replace hB5 := Lib.hid hB5
  replace X1 := Lib.hid X1
  have hl4 : W5.cell? ⟨w.heap.size + 1 + 1 + 1 + 1, 4, none⟩ = some (.slice none 0 0) := blk_cell X4.out 4
  have hl4' : ∀ c, (W5.alloc c).cell? ⟨w.heap.size + 1 + 1 + 1 + 1, 4, none⟩ = some (.slice none 0 0) := fun c => blk_cell (blk_alloc X4.out _) 4
  go_region_law
    (refine step_append_room (by rfl) _ _ 79 (by rfl) 78 i0 2 Tryd.underlying79 hi hz1 (w.heap.size + 1) 0 0 1 (by rfl) ⟨_, 0, none⟩ 1 1 [.slice none 0 0, .pointer (some ⟨w.heap.size + 1 + 1 + 1, 4, none⟩)] (by rfl) (by rfl) (cells_new _ _ _) (by intro u hu; simp at hu; rcases hu with rfl | rfl <;> rfl) (by decide)
      (by intro j hj; have hj' : j < 2 := hj; refine ⟨?_, ?_⟩; (show (World.cell? (W5.alloc _) _).isSome = true; rw [blk_cell (blk_alloc X1.out _)]; rcases j with _ | _ | j; rfl; rfl; omega); exact blk_frozen (blk_alloc X1.out _) _) ?_)
  obtain ⟨W6, hW6⟩ : ∃ W6, (W5.alloc (.cells #[.slice none 0 0, .pointer (some ⟨w.heap.size + 1 + 1 + 1, 4, none⟩)] 78)).drew.setCells (w.heap.size + 1) 0 [.slice none 0 0, .pointer (some ⟨w.heap.size + 1 + 1 + 1, 4, none⟩)] = W6 := ⟨_, rfl⟩
  have e6 : W6 = ((W5.alloc (.cells #[.slice none 0 0, .pointer (some ⟨w.heap.size + 1 + 1 + 1, 4, none⟩)] 78)).drew.setCell ⟨w.heap.size + 1, 0, none⟩ (.slice none 0 0)).setCell ⟨w.heap.size + 1, 1, none⟩ (.pointer (some ⟨w.heap.size + 1 + 1 + 1, 4, none⟩)) := by rw [← hW6]; rfl
  rw [hW6]
  have Z0 : W6.heap[w.heap.size]? = some (.cells #[.slice none 0 0] 23) := by rw [e6]; exact blk_set (blk_set (blk_drew (blk_alloc X0.out _)) (by dsimp only; omega) _) (by dsimp only; omega) _
  have Z2 : W6.heap[w.heap.size + 1 + 1]? = some (.cells #[.slice (some ⟨b, o, none⟩) 1 cap, .pointer (some ⟨w.heap.size, 0, none⟩)] 78) := by rw [e6]; exact blk_set (blk_set (blk_drew (blk_alloc X2.out _)) (by dsimp only; omega) _) (by dsimp only; omega) _
  have Z3 : W6.heap[w.heap.size + 1 + 1 + 1]? = some (.cells #[.int .i64 0, .string ⟨#[]⟩, .slice none 0 0, .string ⟨#[]⟩, .slice none 0 0] 28) := by rw [e6]; exact blk_set (blk_set (blk_drew (blk_alloc X3.out _)) (by dsimp only; omega) _) (by dsimp only; omega) _
  have Z4 : W6.heap[w.heap.size + 1 + 1 + 1 + 1]? = some (.cells #[.int .i64 k, .string nm, .slice none 0 0, .string tx, .slice none 0 0] 28) := by rw [e6]; exact blk_set (blk_set (blk_drew (blk_alloc X4.out _)) (by dsimp only; omega) _) (by dsimp only; omega) _
  have Z1 : W6.heap[w.heap.size + 1]? = some (.cells #[.slice none 0 0, .pointer (some ⟨w.heap.size + 1 + 1 + 1, 4, none⟩)] 78) := by rw [e6]; exact blk_set_self (blk_set_self (blk_drew (blk_alloc X1.out _)) 0 _) 1 _
  have hB6 : Below w.heap.size w W6 := by
    rw [e6]
    exact (((hB5.out.alloc hB5.out.size _).drew).setCell (p := ⟨w.heap.size + 1, 0, none⟩) (by simp) _).setCell (p := ⟨w.heap.size + 1, 1, none⟩) (by simp) _
  clear e6 hW6 hl4 hl4' X0 X1 X2 X3 X4 hB5
  have a40 := blk_cell Z4 0
  have a41 := blk_cell Z4 1
  have a42 := blk_cell Z4 2
  have a43 := blk_cell Z4 3
  have a44 := blk_cell Z4 4
  have f42 := blk_frozen Z4 2
  have f44 := blk_frozen Z4 4
  have a30 := blk_cell Z3 0
  have a31 := blk_cell Z3 1
  have a32 := blk_cell Z3 2
  have a33 := blk_cell Z3 3
  have a34 := blk_cell Z3 4
  have f30 := blk_frozen Z3 0
  have f31 := blk_frozen Z3 1
  have f32 := blk_frozen Z3 2
  have f33 := blk_frozen Z3 3
  have f34 := blk_frozen Z3 4
  replace Z0 := Lib.hid Z0
  replace Z1 := Lib.hid Z1
  replace Z2 := Lib.hid Z2
  replace Z3 := Lib.hid Z3
  replace Z4 := Lib.hid Z4
  replace hB6 := Lib.hid hB6
  simp only [List.getElem?_toArray, List.getElem?_cons_zero, List.getElem?_cons_succ] at a40 a41 a42 a43 a44 a30 a31 a32 a33 a34
  go_upto_region 15 with fail
  obtain ⟨W7, hW7⟩ : ∃ W7, ((((((W6.setCell ⟨w.heap.size + 1 + 1 + 1 + 1, 2, none⟩ (.slice none 0 0)).setCell ⟨w.heap.size + 1 + 1 + 1 + 1, 4, none⟩ (.slice none 0 0)).setCell ⟨w.heap.size + 1 + 1 + 1, 0, none⟩ (.int .i64 k)).setCell ⟨w.heap.size + 1 + 1 + 1, 1, none⟩ (.string nm)).setCell ⟨w.heap.size + 1 + 1 + 1, 2, none⟩ (.slice none 0 0)).setCell ⟨w.heap.size + 1 + 1 + 1, 3, none⟩ (.string tx)).setCell ⟨w.heap.size + 1 + 1 + 1, 4, none⟩ (.slice none 0 0) = W7 := ⟨_, rfl⟩
  have Y0 : W7.heap[w.heap.size]? = some (.cells #[.slice none 0 0] 23) := by rw [← hW7]; exact blk_set (blk_set (blk_set (blk_set (blk_set (blk_set (blk_set (Z0.out) (by dsimp only; omega) _) (by dsimp only; omega) _) (by dsimp only; omega) _) (by dsimp only; omega) _) (by dsimp only; omega) _) (by dsimp only; omega) _) (by dsimp only; omega) _
  have Y1 : W7.heap[w.heap.size + 1]? = some (.cells #[.slice none 0 0, .pointer (some ⟨w.heap.size + 1 + 1 + 1, 4, none⟩)] 78) := by rw [← hW7]; exact blk_set (blk_set (blk_set (blk_set (blk_set (blk_set (blk_set (Z1.out) (by dsimp only; omega) _) (by dsimp only; omega) _) (by dsimp only; omega) _) (by dsimp only; omega) _) (by dsimp only; omega) _) (by dsimp only; omega) _) (by dsimp only; omega) _
  have Y2 : W7.heap[w.heap.size + 1 + 1]? = some (.cells #[.slice (some ⟨b, o, none⟩) 1 cap, .pointer (some ⟨w.heap.size, 0, none⟩)] 78) := by rw [← hW7]; exact blk_set (blk_set (blk_set (blk_set (blk_set (blk_set (blk_set (Z2.out) (by dsimp only; omega) _) (by dsimp only; omega) _) (by dsimp only; omega) _) (by dsimp only; omega) _) (by dsimp only; omega) _) (by dsimp only; omega) _) (by dsimp only; omega) _
  have Y3 : W7.heap[w.heap.size + 1 + 1 + 1]? = some (.cells #[.int .i64 k, .string nm, .slice none 0 0, .string tx, .slice none 0 0] 28) := by
    rw [← hW7]
    exact blk_set_self (blk_set_self (blk_set_self (blk_set_self (blk_set_self (blk_set (blk_set Z3.out (by dsimp only; omega) _) (by dsimp only; omega) _) 0 _) 1 _) 2 _) 3 _) 4 _
  have hB7 : Below w.heap.size w W7 := by
    rw [← hW7]
    exact ((((((hB6.out.setCell (p := ⟨w.heap.size + 1 + 1 + 1 + 1, 2, none⟩) (by dsimp only; omega) _).setCell (p := ⟨w.heap.size + 1 + 1 + 1 + 1, 4, none⟩) (by dsimp only; omega) _).setCell (p := ⟨w.heap.size + 1 + 1 + 1, 0, none⟩) (by dsimp only; omega) _).setCell (p := ⟨w.heap.size + 1 + 1 + 1, 1, none⟩) (by dsimp only; omega) _).setCell (p := ⟨w.heap.size + 1 + 1 + 1, 2, none⟩) (by dsimp only; omega) _).setCell (p := ⟨w.heap.size + 1 + 1 + 1, 3, none⟩) (by dsimp only; omega) _).setCell (p := ⟨w.heap.size + 1 + 1 + 1, 4, none⟩) (by dsimp only; omega) _
  rw [hW7]
  clear hW7 a40 a41 a42 a43 a44 f42 f44 a30 a31 a32 a33 a34 f30 f31 f32 f33 f34 Z0 Z1 Z2 Z3 Z4 hB6
  have y00 := blk_cell Y0 0
  have g00 := blk_frozen Y0 0
  have y10 := blk_cell Y1 0
  have y11 := blk_cell Y1 1
  have y20 := blk_cell Y2 0
  have y21 := blk_cell Y2 1
  simp only [List.getElem?_toArray, List.getElem?_cons_zero, List.getElem?_cons_succ] at y00 y10 y11 y20 y21
  have hlt : w.heap.size + 1 < W7.heap.size := blk_lt Y1
  replace Y0 := Lib.hid Y0
  replace Y1 := Lib.hid Y1
  replace Y2 := Lib.hid Y2
  replace Y3 := Lib.hid Y3
  replace hB7 := Lib.hid hB7
  go_wp2
  rw [rounds_succ]
  go_wp2
  rw [rounds_succ]
  go_wp2
  have hfin : ∀ o1, ((W7.setCell ⟨w.heap.size, 0, none⟩ (.slice (some ⟨w.heap.size + 1 + 1 + 1, 0, none⟩) 1 1)).alloc o1).cell? ⟨w.heap.size, 0, none⟩ = some (.slice (some ⟨w.heap.size + 1 + 1 + 1, 0, none⟩) 1 1) := fun o1 => blk_cell (blk_alloc (blk_set_self Y0.out 0 _) o1) 0
  rw [rounds_succ]
  go_wp2
  go_ret
  refine ⟨w.heap.size + 1 + 1 + 1, rfl, by omega, ?_, ?_⟩
  · exact blk_alloc (blk_set Y3.out (by dsimp only; omega) _) _
  · exact (hB7.out.setCell (p := ⟨w.heap.size, 0, none⟩) (Nat.le_refl _) _).alloc (by have := hB7.out.size; simpa using this) _
end Go.Proofs.YtghlodpbbghcoaaDoor

/- A builder's writing, walked. -/
namespace Go.Proofs.YtghlodpbbghcoaaDoor
open Go.Lib Go.RowKit

theorem size49 : (Tryd.prog.info? 49).map (·.size) = some 2 := by kernel_rfl
theorem lies49 : liesAt Tryd.prog Tryd.prog.depth 49 (2 / Tryd.prog.cellsOf 49) 0 49 1 = true := by kernel_rfl

set_option maxHeartbeats 1000000 in
set_option maxRecDepth 100000 in
theorem copyCheck_used (b : Nat) (w : World) (h0 : w.cell? ⟨b, 0, none⟩ = some (.pointer (some ⟨b, 0, none⟩))) :
    Calls Tryd.prog 48 #[.pointer (some ⟨b, 0, none⟩)] w fun e w' => e = .returned (.tuple #[]) ∧ w' = w := by
  obtain ⟨j, hj, _⟩ := Option.map_eq_some_iff.1 size49
  go_enter Tryd.func48, Tryd.ntmps48
  go_wp2
  try rw [Lib.run_neq_ptr_same w _ Tryd.underlying47 hj]
  go_wp2
  go_end0
  exact ⟨rfl, rfl⟩

set_option maxHeartbeats 1000000 in
set_option maxRecDepth 100000 in
theorem copyCheck_fresh (b : Nat) (w : World) (h0 : w.cell? ⟨b, 0, none⟩ = some (.pointer none)) (hsh : w.shape? b = some (49, 2)) (hfz : w.frozen? ⟨b, 0, none⟩ = false) :
    Calls Tryd.prog 48 #[.pointer (some ⟨b, 0, none⟩)] w fun e w' => e = .returned (.tuple #[]) ∧ w' = w.setCell ⟨b, 0, none⟩ (.pointer (some ⟨b, 0, none⟩)) := by
  obtain ⟨j, hj, hjs⟩ := Option.map_eq_some_iff.1 size49
  go_enter Tryd.func48, Tryd.ntmps48
  go_wp2
  rw [Lib.run_to_unsafe w ⟨b, 0, none⟩ Tryd.underlying47 Tryd.underlying94 hj (by rw [hjs]; decide) hsh (Nat.zero_lt_succ 1)]
  simp only [Result.andThen]
  rw [Oper.upon_value]
  go_wp2
  rw [run_callFunc_extern Tryd.func70 (by kernel_rfl) (by kernel_rfl) (by kernel_rfl) (e := Extern.AbiNoEscape.same) (by kernel_rfl)]
  rw [Lib.run_noEscape]
  simp only [Result.andThen]
  rw [Oper.upon_value]
  go_wp2
  rw [Lib.run_from_unsafe w ⟨b, 0, none⟩ Tryd.underlying94 Tryd.underlying47 hj hsh lies49]
  simp only [Result.andThen]
  rw [Oper.upon_value]
  go_wp2
  go_end0
  exact ⟨rfl, rfl⟩

theorem copyCheck_any (B b : Nat) (bs : List Value) (w : World) (h : Lib.IsBuilder 49 5 B b bs w) :
    Calls Tryd.prog 48 #[.pointer (some ⟨b, 0, none⟩)] w fun e w' => e = .returned (.tuple #[]) ∧ (Lib.BuilderAt 49 5 B b (.pointer (some ⟨b, 0, none⟩)) bs w' ∧ Below B w w') := by
  rcases h with h | h
  · refine (copyCheck_fresh b w h.cell0 h.shape h.frozen0).mono ?_
    rintro e w' ⟨rfl, rfl⟩
    exact ⟨rfl, h.used _, (Below.refl B w).setCell (p := ⟨b, 0, none⟩) h.1 _⟩
  · refine (copyCheck_used b w h.cell0).mono ?_
    rintro e w' ⟨rfl, rfl⟩
    exact ⟨rfl, h, Below.refl B _⟩

set_option maxHeartbeats 2000000 in
set_option maxRecDepth 100000 in
/-- A BUILDER'S WRITING OF A TEXT. -/
theorem writeString_any (B b : Nat) (bs : List Value) (s : ByteArray) (w : World) (h : Lib.IsBuilder 49 5 B b bs w) (hlen : bs.length + s.size ≤ 1000000) (hBw : B ≤ w.heap.size) :
    Calls Tryd.prog 27 #[.pointer (some ⟨b, 0, none⟩), .string s] w fun e w' => (∃ v, e = .returned v) ∧ (Lib.BuilderAt 49 5 B b (.pointer (some ⟨b, 0, none⟩)) (bs ++ strCells s) w' ∧ Below B w w') := by
  obtain ⟨i0, hi, hz0, hz1, hz2⟩ := info_parts info5
  go_enter Tryd.func27, Tryd.ntmps27
  go_wp2_with (go_at_call 48; refine (copyCheck_any B b bs _ h).mono ?_)
  rintro e w1 ⟨rfl, h1, hb1⟩
  obtain ⟨hB, v, hbk, hown, hne⟩ := h1
  have hsz := Lib.hid hb1.size
  have c1 : w1.cell? ⟨b, 1, none⟩ = some v := by rw [blk_cell hbk]; rfl
  have f1 : w1.frozen? ⟨b, 1, none⟩ = false := blk_frozen hbk 1
  go_wp2_with (at_builtin; refine wpList_append_own_string _ rfl _ _ 25 9 rfl B 5 i0 Tryd.underlying25 Tryd.underlying9 hi hz0 hz1 hz2 _ bs.length bs rfl hown s rfl (by unfold maxLen; omega) (by omega) (by have := hsz.out; omega) ?_; intro v' w2 hown2 hg2 hnil2; have hbk2 := blk_grown hbk hg2 hne; have c2 : w2.cell? ⟨b, 1, none⟩ = some v := blk_cell hbk2 1; have f2 : w2.frozen? ⟨b, 1, none⟩ = false := blk_frozen hbk2 1; obtain ⟨A2, cap2, rfl, hcap2, hc2⟩ := own_cell hown2)
  go_ret2
  refine ⟨⟨_, rfl⟩, ?_, ?_⟩
  · exact Lib.BuilderAt.put (T := 49) (e := 5) hB hbk2 (bs' := bs ++ strCells s) (by simpa [strCells_length] using hown2) (by decide)
  · exact (hb1.trans ((Below.refl B w1).grown hg2 (by have := hsz.out; omega) (fun j hj => (hown.lt j hj).1))).setCell (p := ⟨b, 1, none⟩) hB _
end Go.Proofs.YtghlodpbbghcoaaDoor

/- Texts side by side merged: the plain part; words for flat nodes. -/
namespace Go.Proofs.YtghlodpbbghcoaaDoor
open Go.Lib Go.RowKit

abbrev Fl := Int × ByteArray
def flatCells (l : List Fl) : List Value := l.flatMap fun p => [.int .i64 p.1, .string ⟨#[]⟩, .slice none 0 0, .string p.2, .slice none 0 0]
theorem flatCells_length : ∀ l : List Fl, (flatCells l).length = l.length * 5
  | [] => rfl
  | p :: t => by
    have := flatCells_length t
    simp only [flatCells, List.flatMap_cons, List.length_append, List.length_cons, List.length_nil] at this ⊢
    omega
/-- Flat nodes in memory: no name, no attributes, no kids. -/
def FlatAt (w : World) (b o : Nat) (ns : List Fl) : Prop :=
  ∀ i (h : i < ns.length), w.cell? ⟨b, o + i * 5, none⟩ = some (.int .i64 ns[i].1) ∧ w.cell? ⟨b, o + i * 5 + 1, none⟩ = some (.string ⟨#[]⟩) ∧ w.cell? ⟨b, o + i * 5 + 2, none⟩ = some (.slice none 0 0) ∧ w.cell? ⟨b, o + i * 5 + 3, none⟩ = some (.string ns[i].2) ∧ w.cell? ⟨b, o + i * 5 + 4, none⟩ = some (.slice none 0 0)
theorem FlatAt.below {w w' : World} {b o : Nat} {ns : List Fl} (h : FlatAt w b o ns) (hb : b < w.heap.size) (hB : Below w.heap.size w w') : FlatAt w' b o ns := fun i hi => by
  obtain ⟨h0, h1, h2, h3, h4⟩ := h i hi
  exact ⟨(hB.cell (p := ⟨b, _, none⟩) hb).trans h0, (hB.cell (p := ⟨b, _, none⟩) hb).trans h1, (hB.cell (p := ⟨b, _, none⟩) hb).trans h2, (hB.cell (p := ⟨b, _, none⟩) hb).trans h3, (hB.cell (p := ⟨b, _, none⟩) hb).trans h4⟩
/-- Is a node one that may come in? -/
def fineIn (p : Fl) : Prop := (p.1 = 2 ∨ p.1 = 3) ∧ isL p.2.data.toList = true ∧ p.2.size ≤ 1000
/-- Nodes that may be (was there a text ahead?). -/
def goodRow : Bool → List Fl → Prop
  | _, [] => True
  | p, x :: r => (x.1 = 2 ∨ x.1 = 3) ∧ isL x.2.data.toList = true ∧ x.2.size ≤ 100000 ∧ (x.1 = 2 → x.2.toList.isEmpty = false ∧ p = false) ∧ goodRow (decide (x.1 = 2)) r
def lastT : Bool → List Fl → Bool
  | p, [] => p
  | _, x :: r => lastT (decide (x.1 = 2)) r
theorem goodRow_snoc : ∀ (p : Bool) (l : List Fl) (x : Fl), goodRow p l → (x.1 = 2 ∨ x.1 = 3) → isL x.2.data.toList = true → x.2.size ≤ 100000 → (x.1 = 2 → x.2.toList.isEmpty = false ∧ lastT p l = false) → goodRow p (l ++ [x])
  | p, [], x, _, h1, h2, h3, h4 => ⟨h1, h2, h3, h4, trivial⟩
  | p, y :: r, x, h, h1, h2, h3, h4 => ⟨h.1, h.2.1, h.2.2.1, h.2.2.2.1, goodRow_snoc _ r x h.2.2.2.2 h1 h2 h3 h4⟩
theorem lastT_snoc : ∀ (p : Bool) (l : List Fl) (x : Fl), lastT p (l ++ [x]) = decide (x.1 = 2)
  | p, [], x => rfl
  | p, y :: r, x => lastT_snoc _ r x
theorem textL_append (a b : List Int) : textL (a ++ b) = textL a ++ textL b := by simp [textL]
theorem isL_append {a b : List UInt8} (ha : isL a = true) (hb : isL b = true) : isL (a ++ b) = true := by
  have h1 := right_same a ha
  have h2 := right_same b hb
  have e : a ++ b = textL (rightR false (runesL a) ++ rightR false (runesL b)) := by
    rw [textL_append]
    exact congr (congrArg _ h1.symm) h2.symm
  rw [e]
  refine isL_text _ (fun r hr => ?_)
  rcases List.mem_append.1 hr with h | h
  · exact rightR_fine _ _ r h
  · exact rightR_fine _ _ r h
theorem own_below {w w' : World} {base : Nat} {e : TypeId} {size n : Nat} {v : Value} {xs : List Value} (h : w.ownsRow base e size v n xs) (hb : Below w.heap.size w w') : w'.ownsRow base e size v n xs := by
  obtain ⟨h1, h2⟩ := h
  refine ⟨h1, ?_⟩
  rcases h2 with h2 | ⟨g, cap, cur, h3, h4, h5, h6⟩
  · exact Or.inl h2
  · exact Or.inr ⟨g, cap, cur, h3, h4, blk_below h5 hb (blk_lt h5), h6⟩
theorem info28 : (Tryd.prog.info? 28).map (fun i => (i.zero, i.size, i.bytes)) = some (some (.agg #[.int .i64 0, .string ⟨#[]⟩, .slice none 0 0, .string ⟨#[]⟩, .slice none 0 0]), 5, 88) := by kernel_rfl
end Go.Proofs.YtghlodpbbghcoaaDoor
