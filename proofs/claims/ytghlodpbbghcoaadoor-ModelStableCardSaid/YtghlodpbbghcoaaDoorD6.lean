/- Whether nodes may be, walked. -/
import Derived.Test.YtghlodpbbghcoaaDoorD5
namespace Go.Proofs.YtghlodpbbghcoaaDoor
open Go.Lib Go.RowKit Go.Shelf

attribute [local go_sem] Oper.semAt_some

theorem tabs_below {w w' : World} (h : Tabs w) (hb : Below w.heap.size w w') : Tabs w' := Utf8Tabs_below h hb
theorem ko_below {W W' : World} (h : Below W.heap.size W W') : KeepsOthers W W' := ⟨h.size, fun k _ hk _ => (h.block k (Array.getElem?_eq_some_iff.1 hk).1).trans hk⟩
def Dt.good (d : Dt) : Bool := checkB d.kind d.name d.attrs d.text d.kids d.behind
/-- May nodes be? -/
def mayB (f : Fo) : Bool := (nodesOf false f).all Dt.good
theorem Fo.drop_behind {f : Fo} {j : Nat} {p q : Bool} {g : Fo} (h : Fo.drop q f (j + 1) = (p, g)) (hl : j < f.len) : ∃ k nm al tx kids rest, Fo.drop q f j = ((Fo.drop q f j).1, .node k nm al tx kids rest) ∧ p = decide (k = 2) := by
  have hlen := Fo.drop_len f j q
  cases hg : Fo.drop q f j with
  | mk p' g' =>
    rw [hg] at hlen
    cases g' with
    | nil => exfalso; simp [Fo.len] at hlen; omega
    | node k nm al tx kids rest =>
      have := Fo.drop_node hg
      rw [h] at this
      cases this
      exact ⟨k, nm, al, tx, kids, _, rfl, rfl⟩

set_option maxRecDepth 100000 in
set_option maxHeartbeats 6400000 in
theorem may_any (A : Option Addr) (cap : Nat) (f : Fo) (hf : f.Ok) (hs : f.size ≤ 1000000) (hh : f.height < 1000) (hcap : f.len ≤ cap) (B : Nat) (w : World) (hT : Tabs w) (hBw : B ≤ w.heap.size) (hrow : 0 < f.len → ∃ b o, A = some ⟨b, o, none⟩ ∧ RowAt w B b o f) :
    Calls Tryd.prog 8 #[.slice A f.len cap] w (ErrPost (mayB f) w) := by
  obtain ⟨L, hL⟩ : ∃ L, f.len = L := ⟨_, rfl⟩
  have hst := each_stops ((w.alloc (.cells #[.int .i64 0] 29)).alloc (.cells #[.slice A f.len cap] 23)) (w.heap.size + 1) B A cap f hf hs hh hcap (by simp) (by simp; omega)
    (by have := (cell_new_l (w.alloc (.cells #[.int .i64 0] 29)) (.slice A f.len cap) 23).1; rw [World.size_alloc] at this; exact this)
    (fun h => by obtain ⟨b, o, e, hr⟩ := hrow h; exact ⟨b, o, e, hr.below (((Below.refl B w).alloc hBw _).alloc (by simp; omega) _)⟩)
  rw [hL] at hst hcap ⊢
  replace hL := Lib.hid hL
  refine (callsIn_wide (n := 4)).1 ?_
  refine callsIn_of_wp_marks Tryd.func8 rfl trivial ?_ rfl
  simp only [Tryd.ntmps8, List.size_toArray, List.length_cons, List.length_nil, Nat.reduceAdd, Nat.reduceSub, Array.replicate_succ, Array.replicate_zero, List.push_toArray, List.append_toArray, List.nil_append, List.cons_append]
  gi_wp2_with (refine ⟨trivial, ?_⟩; gi_at_call 24; refine (callsIn_wide.2 (each_any _ _ _ _)).mono ?_; rintro e w' ⟨rfl, rfl⟩)
  have hs0 := cell_new_l w (.int .i64 0) 29
  have hB0 : Below w.heap.size w ((w.alloc (.cells #[.int .i64 0] 29)).alloc (.cells #[.slice A L cap] 23)) := ((Below.refl _ w).alloc (Nat.le_refl _) _).alloc (by simp) _
  obtain ⟨w2, hw2⟩ : ∃ w2, (w.alloc (.cells #[.int .i64 0] 29)).alloc (.cells #[.slice A L cap] 23) = w2 := ⟨_, rfl⟩
  have hsz2 : w2.heap.size = w.heap.size + 2 := by rw [← hw2]; simp
  have hc0 : w2.cell? ⟨w.heap.size, 0, none⟩ = some (.int .i64 0) := by rw [← hw2]; exact cell_alloc_l _ hs0.1
  have hf0 : w2.frozen? ⟨w.heap.size, 0, none⟩ = false := by rw [← hw2]; exact frozen_alloc_l _ hs0.1 hs0.2
  rw [hw2] at hst hB0 ⊢
  clear hw2 hs0
  refine wpIn_rangeFunc_ownF rfl (by decide) (gf := 44) (lb := #[.pointer (some ⟨w.heap.size + 1, 0, none⟩)]) rfl trivial (enters_of Tryd.func44 (by kernel_rfl) rfl)
    hst belowK_t (belowK_b (by omega)) (Below.refl _ _) (fun _ => rfl)
    (fun pre W => ((W.cell? ⟨w.heap.size, 0, none⟩ = some (.int .i64 0) ∧ W.frozen? ⟨w.heap.size, 0, none⟩ = false) ∧ (pre.all fun x => x.dt.good) = true) ∧ Below w.heap.size w W ∧ Below B w2 W)
    (fun c pre W => ((c = .ret ∧ ∃ x : Int, x ≠ 0 ∧ W.cell? ⟨w.heap.size, 0, none⟩ = some (.int .i64 x)) ∧ (pre.all fun x => x.dt.good) = false) ∧ Below w.heap.size w W)
    (OwnFrom.and (Own.from (fun s A B row hs hg hr => ⟨⟨cell_kept hs.1.1 hg hr, (frozen_kept hs.1.1 hg hr).trans hs.1.2⟩, hs.2⟩) _) (OwnFrom.and (ownFrom_below (Nat.le_refl _) (by omega)) (ownFrom_below (by omega) (by omega))))
    (fun c => OwnFrom.and (Own.from (fun s A B row hs hg hr => ⟨⟨hs.1.1, by obtain ⟨x, h0, h⟩ := hs.1.2; exact ⟨x, h0, cell_kept h hg hr⟩⟩, hs.2⟩) _) (ownFrom_below (Nat.le_refl _) (by omega)))
    ⟨⟨⟨hc0, hf0⟩, rfl⟩, hB0, Below.refl _ _⟩
    (fun x => { tmps := #[.slice A L cap, undef, .pointer (some ⟨w.heap.size, 0, none⟩), .slice (some ⟨x.b, x.o, none⟩) x.f.len x.cap, .int .i64 x.i, undef, undef, .slice A L cap, .func (.func 44) #[] #[.pointer (some ⟨w.heap.size + 1, 0, none⟩)], .slice (some ⟨x.b, x.o, none⟩) x.f.len x.cap, .int .i64 x.i, undef, undef, undef, undef, undef, undef, undef, undef, undef, undef, undef, undef, undef, undef, undef, undef, undef, undef, undef], defers := [] }) ?assign ?body ?done ?stop
  case assign =>
    intro l x W K hK
    simp only [Item.encs]
    gi_wp2
    exact hK
  case body =>
    rintro l pre x W ⟨⟨⟨hc, hfz⟩, hall⟩, hB, hB2⟩ _
    obtain ⟨y, hy⟩ : ∃ y, y = x := ⟨_, rfl⟩
    have hfuel := Fo.drop_len x.f x.i false
    have hrowx := x.row.drop x.i false
    have hokx := x.ok.drop x.i false
    have hix := x.hi
    cases hg : Fo.drop false x.f x.i with
    | mk p g =>
    rw [hg] at hfuel hrowx hokx
    cases g with
    | nil => exfalso; simp [Fo.len] at hfuel; omega
    | node k nm al tx kids rest =>
    have hdt : x.dt = ⟨p, k, nm, al, tx, kids.len⟩ := by unfold Item.dt; rw [hg]; rfl
    have hgood : Hid (x.dt.good = checkB k nm al tx kids.len p) := Lib.hid (by rw [hdt]; rfl)
    have hprev : Hid (0 < x.i → ∃ k', W.cell? ⟨x.b, x.o + (x.i - 1) * 5, none⟩ = some (.int .i64 k') ∧ p = decide (k' = 2)) := Lib.hid (fun hpos => by
      obtain ⟨j, hj⟩ : ∃ j, x.i = j + 1 := ⟨x.i - 1, by omega⟩
      rw [hj] at hg hix
      obtain ⟨k', nm', al', tx', kids', rest', hg', hp⟩ := Fo.drop_behind hg (by omega)
      have hr' := x.row.drop j false
      rw [hg'] at hr'
      refine ⟨k', ?_, hp⟩
      rw [hj, Nat.add_sub_cancel]
      exact (hB2.cell (p := ⟨x.b, _, none⟩) hr'.1).trans hr'.2.1)
    have hp0 : Hid (x.i = 0 → p = false) := Lib.hid (fun h => by rw [h, Fo.drop_zero] at hg; exact (Prod.mk.inj hg).1.symm)
    clear hfuel hdt
    obtain ⟨hbB, c0, c1, ⟨va, c2, c2'⟩, c3, ⟨A4, cap4, c4, hcap4, hk4⟩, _⟩ := hrowx
    obtain ⟨o1, o2, o3, o4, _, _⟩ := hokx
    have hcap5 := x.hcap
    have hbig5 := x.hbig
    obtain ⟨xb, hxb⟩ : ∃ n, x.b = n := ⟨_, rfl⟩
    obtain ⟨xo, hxo⟩ : ∃ n, x.o = n := ⟨_, rfl⟩
    obtain ⟨xi, hxi⟩ : ∃ n, x.i = n := ⟨_, rfl⟩
    obtain ⟨xc, hxc⟩ : ∃ n, x.cap = n := ⟨_, rfl⟩
    obtain ⟨xl, hxl⟩ : ∃ n, x.f.len = n := ⟨_, rfl⟩
    rw [hxb, hxo, hxi] at hprev c0 c1 c2 c3 c4
    rw [hxb] at hbB
    rw [hxi] at hp0 hix
    rw [hxl] at hix hbig5 hcap5
    rw [hxc] at hcap5
    rw [hxb, hxo, hxi, hxc, hxl]
    clear hxb hxo hxi hxc hxl hg hk4 hst hrow
    have hBW : B ≤ W.heap.size := Nat.le_trans hBw hB.size
    have hcheck := check_any xb (xo + xi * 5) k nm va al tx A4 kids.len cap4 p B W (fun w' h => tabs_below (tabs_below hT hB) h) o1 o2 o3 o4 hBW hbB
      ((hB2.cell (p := ⟨xb, _, none⟩) hbB).trans c0) ((hB2.cell (p := ⟨xb, _, none⟩) hbB).trans c1) ((hB2.cell (p := ⟨xb, _, none⟩) hbB).trans c2) (c2'.below hB2) ((hB2.cell (p := ⟨xb, _, none⟩) hbB).trans c3) ((hB2.cell (p := ⟨xb, _, none⟩) hbB).trans c4)
    rw [← hgood.out] at hcheck
    clear c0 c1 c2 c2' c3 c4 hgood
    have hi1 : (xi : Int) < (xl : Int) := by omega
    have hlt0 : w.heap.size < W.heap.size := by have := hB2.size; omega
    by_cases hpos : 0 < xi
    · obtain ⟨k', ck, hp⟩ := hprev.out hpos
      have hkp : (k' == 2) = p := by rw [hp]; rfl
      clear hp hprev hp0
      obtain ⟨gd, hgd⟩ : ∃ gd, x.dt.good = gd := ⟨_, rfl⟩
      rw [hgd] at hcheck
      have hpall : Hid ((pre ++ [x]).all (fun x => x.dt.good) = gd) := Lib.hid (by rw [List.all_append, hall, List.all_cons, hgd]; simp)
      clear hall hgd
      cases gd with
      | true =>
        gi_wp2_with (refine ⟨trivial, ?_⟩; (try refine ⟨fun h => (by cases h), ?_⟩); gi_at_call 25; refine (CallsIn.inRound l (callsIn_wide.2 hcheck)).mono ?_; rintro e W3 ⟨ev, rfl, hev, hBk⟩; obtain rfl : ev = 0 := of_decide_eq_true hev)
        exact ⟨ko_below hBk, hBk.mono hBW, ⟨⟨(hBk.cell (p := ⟨w.heap.size, 0, none⟩) hlt0).trans hc, (hBk.frozen (p := ⟨w.heap.size, 0, none⟩) hlt0).trans hfz⟩, hpall.out⟩, hB.trans (hBk.mono hB.size), hB2.trans (hBk.mono hBW)⟩
      | false =>
        gi_wp2_with (refine ⟨trivial, ?_⟩; (try refine ⟨fun h => (by cases h), ?_⟩); gi_at_call 25; refine (CallsIn.inRound l (callsIn_wide.2 hcheck)).mono ?_; rintro e W3 ⟨ev, rfl, hev, hBk⟩; have hne : ev ≠ 0 := of_decide_eq_false hev; have hc3 := (hBk.cell (p := ⟨w.heap.size, 0, none⟩) hlt0).trans hc; have hf3 := (hBk.frozen (p := ⟨w.heap.size, 0, none⟩) hlt0).trans hfz)
        exact ⟨(ko_below hBk).trans (KeepsOthers.setCell _ _ _), ⟨⟨rfl, ev, hne, World.cell?_setCell_same' _ _ _ (by rw [hc3]; rfl)⟩, hpall.out⟩, (hB.trans (hBk.mono hB.size)).setCell (p := ⟨w.heap.size, 0, none⟩) (Nat.le_refl _) _⟩
    · have hp := hp0.out (by omega)
      subst hp
      clear hprev hp0
      obtain ⟨gd, hgd⟩ : ∃ gd, x.dt.good = gd := ⟨_, rfl⟩
      rw [hgd] at hcheck
      have hpall : Hid ((pre ++ [x]).all (fun x => x.dt.good) = gd) := Lib.hid (by rw [List.all_append, hall, List.all_cons, hgd]; simp)
      clear hall hgd
      cases gd with
      | true =>
        gi_wp2_with (refine ⟨trivial, ?_⟩; (try refine ⟨fun h => (by cases h), ?_⟩); gi_at_call 25; refine (CallsIn.inRound l (callsIn_wide.2 hcheck)).mono ?_; rintro e W3 ⟨ev, rfl, hev, hBk⟩; obtain rfl : ev = 0 := of_decide_eq_true hev)
        exact ⟨ko_below hBk, hBk.mono hBW, ⟨⟨(hBk.cell (p := ⟨w.heap.size, 0, none⟩) hlt0).trans hc, (hBk.frozen (p := ⟨w.heap.size, 0, none⟩) hlt0).trans hfz⟩, hpall.out⟩, hB.trans (hBk.mono hB.size), hB2.trans (hBk.mono hBW)⟩
      | false =>
        gi_wp2_with (refine ⟨trivial, ?_⟩; (try refine ⟨fun h => (by cases h), ?_⟩); gi_at_call 25; refine (CallsIn.inRound l (callsIn_wide.2 hcheck)).mono ?_; rintro e W3 ⟨ev, rfl, hev, hBk⟩; have hne : ev ≠ 0 := of_decide_eq_false hev; have hc3 := (hBk.cell (p := ⟨w.heap.size, 0, none⟩) hlt0).trans hc; have hf3 := (hBk.frozen (p := ⟨w.heap.size, 0, none⟩) hlt0).trans hfz)
        exact ⟨(ko_below hBk).trans (KeepsOthers.setCell _ _ _), ⟨⟨rfl, ev, hne, World.cell?_setCell_same' _ _ _ (by rw [hc3]; rfl)⟩, hpall.out⟩, (hB.trans (hBk.mono hB.size)).setCell (p := ⟨w.heap.size, 0, none⟩) (Nat.le_refl _) _⟩
  case done =>
    rintro D ys W hD hys ⟨⟨⟨hc, hfz⟩, hall⟩, hB, hB2⟩ hK
    have hmay : mayB f = true := by unfold mayB; rw [← hys, List.all_map]; exact hall
    gi_wp2
    have hK' := (KeepsOthers.setCell W ⟨w.heap.size, 0, none⟩ (.int .i64 0)).same D _ hK rfl
    refine ⟨by simp, .inl ⟨_, _, rfl, run_takeDeferred hK', ?_⟩⟩
    have hc5 := cell_kept (World.cell?_setCell_same' W ⟨w.heap.size, 0, none⟩ (.int .i64 0) (by rw [hc]; rfl)) (grownBy_putObj' _ D (.deferred none)) (fun r e => by cases e; exact ⟨_, hK', rfl⟩)
    refine ⟨.int .i64 0, ?_, 0, rfl, hmay.symm, (hB.setCell (p := ⟨w.heap.size, 0, none⟩) (by simp) _).trans (belowK_b (w := w) (Nat.le_refl _) _ D _ _ (by omega) hK' rfl rfl)⟩
    simp [results, Tryd.f8, go_sem, hc5]
  case stop =>
    rintro D c pre W hD hpre ⟨⟨⟨rfl, x, hx0, hc⟩, hbad⟩, hB⟩ hK
    have hmay : mayB f = false := by
      unfold mayB
      obtain ⟨t, ht⟩ := hpre
      rw [← ht, List.all_append, List.all_map]
      have : (pre.all (Dt.good ∘ Item.dt)) = false := hbad
      rw [this]
      rfl
    gi_wp2
    refine ⟨by simp, .inl ⟨_, _, rfl, run_takeDeferred hK, ?_⟩⟩
    have hc5 := cell_kept hc (grownBy_putObj' _ D (.deferred none)) (fun r e => by cases e; exact ⟨_, hK, rfl⟩)
    refine ⟨.int .i64 x, ?_, x, rfl, (decide_eq_false hx0).trans hmay.symm, hB.trans (belowK_b (w := w) (Nat.le_refl _) W D _ _ (by omega) hK rfl rfl)⟩
    simp [results, Tryd.f8, go_sem, hc5]
end Go.Proofs.YtghlodpbbghcoaaDoor
