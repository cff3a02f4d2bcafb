/- What nodes weigh, walked. -/
import Derived.Test.YtghlodpbbghcoaaDoorD6
namespace Go.Proofs.YtghlodpbbghcoaaDoor
open Go.Lib Go.RowKit Go.Shelf

attribute [local go_sem] Oper.semAt_some

def Dt.weight (d : Dt) : Nat := 1 + d.attrs.length
def sumW (l : List Dt) : Nat := (l.map Dt.weight).sum
theorem sumW_prefix {a b : List Dt} (h : a <+: b) : sumW a ≤ sumW b := by
  obtain ⟨t, rfl⟩ := h
  simp [sumW]

set_option maxRecDepth 100000 in
set_option maxHeartbeats 6400000 in
theorem weight_any (A : Option Addr) (cap : Nat) (f : Fo) (hf : f.Ok) (hs : f.size ≤ 1000000) (hh : f.height < 1000) (hcap : f.len ≤ cap) (B : Nat) (w : World) (hBw : B ≤ w.heap.size) (hrow : 0 < f.len → ∃ b o, A = some ⟨b, o, none⟩ ∧ RowAt w B b o f) :
    Calls Tryd.prog 29 #[.slice A f.len cap] w fun e w' => e = .returned (.int .i64 (sumW (nodesOf false f))) ∧ Below w.heap.size w w' := by
  obtain ⟨L, hL⟩ : ∃ L, f.len = L := ⟨_, rfl⟩
  have hst := each_stops ((w.alloc (.cells #[.int .i64 0] 3)).alloc (.cells #[.slice A f.len cap] 23)) (w.heap.size + 1) B A cap f hf hs hh hcap (by simp) (by simp; omega)
    (by have := (cell_new_l (w.alloc (.cells #[.int .i64 0] 3)) (.slice A f.len cap) 23).1; rw [World.size_alloc] at this; exact this)
    (fun h => by obtain ⟨b, o, e, hr⟩ := hrow h; exact ⟨b, o, e, hr.below (((Below.refl B w).alloc hBw _).alloc (by simp; omega) _)⟩)
  rw [hL] at hst hcap ⊢
  replace hL := Lib.hid hL
  refine (callsIn_wide (n := 4)).1 ?_
  refine callsIn_of_wp_marks Tryd.func29 rfl trivial ?_ rfl
  simp only [Tryd.ntmps29, List.size_toArray, List.length_cons, List.length_nil, Nat.reduceAdd, Nat.reduceSub, Array.replicate_succ, Array.replicate_zero, List.push_toArray, List.append_toArray, List.nil_append, List.cons_append]
  gi_wp2_with (refine ⟨trivial, ?_⟩; gi_at_call 24; refine (callsIn_wide.2 (each_any _ _ _ _)).mono ?_; rintro e w' ⟨rfl, rfl⟩)
  have hs0 := cell_new_l w (.int .i64 0) 3
  have hB0 : Below w.heap.size w ((w.alloc (.cells #[.int .i64 0] 3)).alloc (.cells #[.slice A L cap] 23)) := ((Below.refl _ w).alloc (Nat.le_refl _) _).alloc (by simp) _
  obtain ⟨w2, hw2⟩ : ∃ w2, (w.alloc (.cells #[.int .i64 0] 3)).alloc (.cells #[.slice A L cap] 23) = w2 := ⟨_, rfl⟩
  have hsz2 : w2.heap.size = w.heap.size + 2 := by rw [← hw2]; simp
  have hc0 : w2.cell? ⟨w.heap.size, 0, none⟩ = some (.int .i64 0) := by rw [← hw2]; exact cell_alloc_l _ hs0.1
  have hf0 : w2.frozen? ⟨w.heap.size, 0, none⟩ = false := by rw [← hw2]; exact frozen_alloc_l _ hs0.1 hs0.2
  rw [hw2] at hst hB0 ⊢
  clear hw2 hs0
  refine wpIn_rangeFunc_ownF rfl (by decide) (gf := 44) (lb := #[.pointer (some ⟨w.heap.size + 1, 0, none⟩)]) rfl trivial (enters_of Tryd.func44 (by kernel_rfl) rfl)
    hst belowK_t (belowK_b (by omega)) (Below.refl _ _) (fun _ => rfl)
    (fun pre W => ((W.cell? ⟨w.heap.size, 0, none⟩ = some (.int .i64 (sumW (pre.map Item.dt))) ∧ W.frozen? ⟨w.heap.size, 0, none⟩ = false) ∧ sumW (pre.map Item.dt) ≤ 1000001 * pre.length) ∧ Below w.heap.size w W ∧ Below B w2 W)
    (fun _ _ _ => False)
    (OwnFrom.and (Own.from (fun s A B row hs hg hr => ⟨⟨cell_kept hs.1.1 hg hr, (frozen_kept hs.1.1 hg hr).trans hs.1.2⟩, hs.2⟩) _) (OwnFrom.and (ownFrom_below (Nat.le_refl _) (by omega)) (ownFrom_below (by omega) (by omega))))
    (fun _ _ _ _ _ hs _ _ => hs)
    ⟨⟨⟨hc0, hf0⟩, Nat.le_refl _⟩, hB0, Below.refl _ _⟩
    (fun x => { tmps := #[.slice A L cap, undef, .int .i64 0, .pointer (some ⟨w.heap.size, 0, none⟩), .slice (some ⟨x.b, x.o, none⟩) x.f.len x.cap, .int .i64 x.i, .slice A L cap, .func (.func 44) #[] #[.pointer (some ⟨w.heap.size + 1, 0, none⟩)], .slice (some ⟨x.b, x.o, none⟩) x.f.len x.cap, .int .i64 x.i, undef, undef, undef, undef, undef, undef, undef, undef, undef, undef], defers := [] }) ?assign ?body ?done ?stop
  case assign =>
    intro l x W K hK
    simp only [Item.encs]
    gi_wp2
    exact hK
  case body =>
    rintro l pre x W ⟨⟨⟨hc, hfz⟩, hsum⟩, hB, hB2⟩ hlen
    obtain ⟨y, hy⟩ : ∃ y, y = x := ⟨_, rfl⟩
    have hfuel := Fo.drop_len x.f x.i false
    have hrowx := x.row.drop x.i false
    have hokx := x.ok.drop x.i false
    have hix := x.hi
    cases hg : Fo.drop false x.f x.i with
    | mk p g =>
    rw [hg] at hfuel hrowx hokx
    cases g with
    | nil => exfalso; simp [Fo.len] at hfuel; omega
    | node k nm al tx kids rest =>
    have hdt : x.dt = ⟨p, k, nm, al, tx, kids.len⟩ := by unfold Item.dt; rw [hg]; rfl
    have hw : Hid (sumW ((pre ++ [x]).map Item.dt) = sumW (pre.map Item.dt) + (1 + al.length)) := Lib.hid (by simp [sumW, hdt, Dt.weight])
    clear hfuel hdt
    obtain ⟨hbB, _, _, ⟨va, c2, c2'⟩, _, _, _⟩ := hrowx
    obtain ⟨_, _, o3, _, _, _⟩ := hokx
    obtain ⟨A2, cap2, rfl, hcap2, _⟩ := c2'
    obtain ⟨S, hS⟩ : ∃ S, sumW (pre.map Item.dt) = S := ⟨_, rfl⟩
    rw [hS] at hc hsum hw
    obtain ⟨an, han⟩ : ∃ n, al.length = n := ⟨_, rfl⟩
    rw [han] at c2 o3 hcap2 hw
    have c2W := (hB2.cell (p := ⟨x.b, _, none⟩) hbB).trans c2
    have hcap5 := x.hcap
    have hbig5 := x.hbig
    obtain ⟨xb, hxb⟩ : ∃ n, x.b = n := ⟨_, rfl⟩
    obtain ⟨xo, hxo⟩ : ∃ n, x.o = n := ⟨_, rfl⟩
    obtain ⟨xi, hxi⟩ : ∃ n, x.i = n := ⟨_, rfl⟩
    obtain ⟨xc, hxc⟩ : ∃ n, x.cap = n := ⟨_, rfl⟩
    obtain ⟨xl, hxl⟩ : ∃ n, x.f.len = n := ⟨_, rfl⟩
    rw [hxb, hxo, hxi] at c2W
    rw [hxi] at hix
    rw [hxl] at hix hbig5 hcap5
    rw [hxc] at hcap5
    rw [hxb, hxo, hxi, hxc, hxl]
    clear hxb hxo hxi hxc hxl hg hst hrow c2 han hS
    have hi1 : (xi : Int) < (xl : Int) := by omega
    have hi0 : (0 : Int) ≤ (xi : Int) := by omega
    have hS2 : S ≤ 1000001 * 1000000 := Nat.le_trans hsum (Nat.mul_le_mul_left _ (by omega))
    have mixed : Tryd.prog.follows Departure.mixedOrders = true := by kernel_rfl
    have hlt0 : w.heap.size < W.heap.size := by have := hB2.size; omega
    have k1 : Hid (KeepsOthers W (W.setCell ⟨w.heap.size, 0, none⟩ (.int .i64 ((S : Int) + (1 + (an : Int))))).drew ∧ Below B W (W.setCell ⟨w.heap.size, 0, none⟩ (.int .i64 ((S : Int) + (1 + (an : Int))))).drew ∧
        (((W.setCell ⟨w.heap.size, 0, none⟩ (.int .i64 ((S : Int) + (1 + (an : Int))))).drew.cell? ⟨w.heap.size, 0, none⟩ = some (.int .i64 (sumW ((pre ++ [x]).map Item.dt))) ∧ (W.setCell ⟨w.heap.size, 0, none⟩ (.int .i64 ((S : Int) + (1 + (an : Int))))).drew.frozen? ⟨w.heap.size, 0, none⟩ = false) ∧
          sumW ((pre ++ [x]).map Item.dt) ≤ 1000001 * (pre ++ [x]).length) ∧ Below w.heap.size w (W.setCell ⟨w.heap.size, 0, none⟩ (.int .i64 ((S : Int) + (1 + (an : Int))))).drew ∧ Below B w2 (W.setCell ⟨w.heap.size, 0, none⟩ (.int .i64 ((S : Int) + (1 + (an : Int))))).drew) := Lib.hid (by
      refine ⟨(KeepsOthers.setCell _ _ _).trans (KeepsOthers.drew _), ((Below.refl B W).setCell (p := ⟨w.heap.size, 0, none⟩) hBw _).drew, ⟨⟨?_, ?_⟩, ?_⟩, (hB.setCell (p := ⟨w.heap.size, 0, none⟩) (Nat.le_refl _) _).drew, (hB2.setCell (p := ⟨w.heap.size, 0, none⟩) hBw _).drew⟩
      · show World.cell? (W.setCell _ _) _ = _
        rw [World.cell?_setCell_same' _ _ _ (by rw [hc]; rfl), hw.out]
        simp
      · show World.frozen? (W.setCell _ _) _ = _
        rw [World.frozen?_setCell]
        exact hfz
      · rw [hw.out]; simp; omega)
    gi_wp2
    gi_region_o
    all_goals gi_wp2
    all_goals (try go_bits)
    all_goals exact k1.out
  case done =>
    rintro D ys W hD hys ⟨⟨⟨hc, hfz⟩, hsum⟩, hB, hB2⟩ hK
    rw [hys] at hc
    gi_wp2
    refine ⟨by simp, .inl ⟨_, _, rfl, run_takeDeferred hK, ?_⟩⟩
    exact ⟨_, results_tmp rfl _ _ _, rfl, hB.trans (belowK_b (w := w) (Nat.le_refl _) W D _ _ (by omega) hK rfl rfl)⟩
  case stop =>
    rintro D c pre W _ _ h
    exact h.elim
end Go.Proofs.YtghlodpbbghcoaaDoor
