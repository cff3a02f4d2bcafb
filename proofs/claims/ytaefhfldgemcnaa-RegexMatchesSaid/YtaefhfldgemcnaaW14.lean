/- Walks over nets, fourteenth part: the code's Accepts. -/
import Derived.Test.YtaefhfldgemcnaaW8
import Derived.Test.YtaefhfldgemcnaaPure3
import Derived.Deep.RegionWith
import Derived.Deep.RegionHeld3
namespace Go.Proofs.Ytaefhfldgemcnaa
open Go.RowKit

/-- What stays while a text is gone through: the net's box, the two graphs and their boxes. -/
structure AFix (w wx : World) (n : Net) (st sn fn : Nat) (A : Option Addr) (c H1 L1 H2 L2 P1 P2 : Nat) : Prop where
  box : wx.heap[w.heap.size]? = some (.cells #[.int .i64 st, .int .i64 sn, .int .i64 fn, .slice A n.edges.length c] 24 (0, 0))
  p1 : wx.heap[P1]? = some (.cells #[.slice A n.edges.length c, .slice (some ⟨H1, 0, none⟩) st st, .slice (some ⟨L1, 0, none⟩) n.edges.length n.edges.length] 61 (0, 0))
  p2 : wx.heap[P2]? = some (.cells #[.slice A n.edges.length c, .slice (some ⟨H2, 0, none⟩) st st, .slice (some ⟨L2, 0, none⟩) n.edges.length n.edges.length] 61 (0, 0))
  g1 : GraphAt wx (fun e => Edge.none_ e) n.edges st n.edges.length H1 L1
  g2 : GraphAt wx (fun e => !Edge.none_ e) n.edges st n.edges.length H2 L2
  ed : EdgesAt wx wx.heap.size A n.edges
theorem AFix.below {w wx wy : World} {n : Net} {st sn fn : Nat} {A : Option Addr} {c H1 L1 H2 L2 P1 P2 : Nat} (h : AFix w wx n st sn fn A c H1 L1 H2 L2 P1 P2) (hb : Below wx.heap.size wx wy) : AFix w wy n st sn fn A c H1 L1 H2 L2 P1 P2 :=
  ⟨blk_below h.box hb (blk_lt h.box), blk_below h.p1 hb (blk_lt h.p1), blk_below h.p2 hb (blk_lt h.p2), ⟨h.g1.head.of_block (hb.block _ h.g1.head.lt), h.g1.link.of_block (hb.block _ h.g1.link.lt)⟩,
    ⟨h.g2.head.of_block (hb.block _ h.g2.head.lt), h.g2.link.of_block (hb.block _ h.g2.link.lt)⟩, (h.ed.below hb).more hb.size⟩

/-- What graphOf hands back. -/
def GPost (by_ : Edge → Bool) (es : List Edge) (st : Nat) (A : Option Addr) (c : Nat) (w : World) (e : Ending) (w' : World) : Prop :=
  (∃ H L, e = .returned (.agg #[.slice A es.length c, .slice (some ⟨H, 0, none⟩) st st, .slice (some ⟨L, 0, none⟩) es.length es.length]) ∧ GraphAt w' by_ es st es.length H L ∧ w.heap.size ≤ H ∧ w.heap.size ≤ L) ∧ Below w.heap.size w w'

set_option maxRecDepth 8192 in
set_option maxHeartbeats 6400000 in
theorem accepts_st (n : Net) (s : ByteArray) (A : Option Addr) (c : Nat) (w : World) (st : Nat) (hst : n.st = st) (hm : n.may = true) (hne : n.edges.length ≤ 1000000) (hs : s.size ≤ 1000000)
    (hE : EdgesAt w w.heap.size A n.edges) :
    Calls Try.prog 19 #[.agg #[.int .i64 st, .int .i64 n.start, .int .i64 n.fin, .slice A n.edges.length c], .string s] w fun e w' => e = .returned (.bool (accB n s.data.toList)) ∧ Below w.heap.size w w' := by
  obtain ⟨hm1, hm2, hm3, hm4, hes⟩ := may_iff.1 hm
  have Hes := Lib.hid hes
  have Hm := Lib.hid hm
  have Hst := Lib.hid hst
  rw [hst] at hm1 hm2 hm3 hm4
  obtain ⟨sn, hsn⟩ := Int.eq_ofNat_of_zero_le hm3.1
  obtain ⟨fn, hfn⟩ := Int.eq_ofNat_of_zero_le hm4.1
  have Hsn := Lib.hid hsn
  have Hfn := Lib.hid hfn
  have hsns : sn < st := by omega
  have hfns : fn < st := by omega
  have hmk := run_make_row' (P := Try.prog) 51 4 (.bool false) 1 Try.underlying51 info4 rfl .i64 .i64 st (by omega) (by omega)
  have HC1 : Hid (∀ w1 : World, EdgesAt w1 w1.heap.size A n.edges → Calls Try.prog 14 #[.agg #[.int .i64 st, .int .i64 sn, .int .i64 fn, .slice A n.edges.length c]] w1 fun e w' => e = .returned (.int .i64 0) ∧ Below w1.heap.size w1 w') := by
    intro w1 h1
    have := may_yes n A c w1 hm hne h1
    rwa [hst, hsn, hfn] at this
  have HC2 : Hid (∀ w1 : World, EdgesAt w1 w1.heap.size A n.edges → Calls Try.prog 42 #[.agg #[.int .i64 st, .int .i64 sn, .int .i64 fn, .slice A n.edges.length c], .func (.func 43) #[] #[]] w1 (GPost (fun e => Edge.none_ e) n.edges st A c w1)) := by
    intro w1 h1
    have := graphOf_43 n A c w1 st hst hm hne h1
    rwa [hsn, hfn] at this
  have HC3 : Hid (∀ w1 : World, EdgesAt w1 w1.heap.size A n.edges → Calls Try.prog 42 #[.agg #[.int .i64 st, .int .i64 sn, .int .i64 fn, .slice A n.edges.length c], .func (.func 44) #[] #[]] w1 (GPost (fun e => !Edge.none_ e) n.edges st A c w1)) := by
    intro w1 h1
    have := graphOf_44 n A c w1 st hst hm hne h1
    rwa [hsn, hfn] at this
  rw [hsn, hfn]
  clear hm hes hst hsn hfn hm3 hm4
  have hE1 := hE.alloc (Nat.le_refl _) (.cells #[.int .i64 st, .int .i64 sn, .int .i64 fn, .slice A n.edges.length c] 24)
  go_enter Try.func19, Try.ntmps19
  go_wp2_with (go_at_call 14; refine (HC1.out _ (hE1.more (by simp))).mono ?_; rintro e w1 ⟨rfl, hb1⟩; (obtain ⟨q0, q1, q2, q3, hsz⟩ := boxed4 (by simpa using hb1)))
  have hb1' : Below (w.heap.size + 1) (w.alloc (.cells #[.int .i64 st, .int .i64 sn, .int .i64 fn, .slice A n.edges.length c] 24)) w1 := by simpa using hb1
  clear hb1 hE1
  have hE2 : EdgesAt w1 w1.heap.size A n.edges := (hE.below (unbox hb1')).more (by omega)
  refine (HC2.out w1 hE2).mono ?_
  rintro e w2 ⟨⟨H1, L1, rfl, hg1, hH1, hL1⟩, hb2⟩
  have hz2 := hb2.size
  have hb12 := hb1'.trans (hb2.mono (by omega))
  obtain ⟨r0, r1, r2, r3, hsz2⟩ := boxed4 hb12
  go_wp2_with fail
  have hE3 : EdgesAt (w2.alloc (.cells #[.slice A n.edges.length c, .slice (some ⟨H1, 0, none⟩) st st, .slice (some ⟨L1, 0, none⟩) n.edges.length n.edges.length] 61)) (w2.alloc (.cells #[.slice A n.edges.length c, .slice (some ⟨H1, 0, none⟩) st st, .slice (some ⟨L1, 0, none⟩) n.edges.length n.edges.length] 61)).heap.size A n.edges :=
    ((hE.below (unbox hb12)).more (by omega) |>.alloc (Nat.le_refl _) _).more (by simp)
  refine (HC3.out _ hE3).mono ?_
  rintro e w3 ⟨⟨H2, L2, rfl, hg2, hH2, hL2⟩, hb3⟩
  have hz3 := hb3.size
  simp only [World.size_alloc] at hz3
  rw [World.size_alloc] at hb3 hH2 hL2
  have hfix : AFix w (w3.alloc (.cells #[.slice A n.edges.length c, .slice (some ⟨H2, 0, none⟩) st st, .slice (some ⟨L2, 0, none⟩) n.edges.length n.edges.length] 61)) n st sn fn A c H1 L1 H2 L2 w2.heap.size w3.heap.size := by
    have hb2a : Below w2.heap.size w2 w3 := unbox hb3
    have hbox : w2.heap[w.heap.size]? = some (.cells #[.int .i64 st, .int .i64 sn, .int .i64 fn, .slice A n.edges.length c] 24 (0, 0)) := blk_below (blk_new _ _) hb12 (by omega)
    refine ⟨blk_alloc (blk_below hbox hb2a (by omega)) _, blk_alloc (blk_below (blk_new _ _) hb3 (by omega)) _, blk_new _ _, ⟨?_, ?_⟩, ⟨hg2.head.alloc _, hg2.link.alloc _⟩, ?_⟩
    · exact (hg1.head.of_block (hb2a.block _ hg1.head.lt)).alloc _
    · exact (hg1.link.of_block (hb2a.block _ hg1.link.lt)).alloc _
    · exact (((hE.below (unbox hb12)).below (hb2a.mono (by omega))).alloc (by omega) _).more (by simp; omega)
  have hbw3 : Below w.heap.size w w3 := (unbox hb12).trans ((unbox hb3).mono (by omega))
  have s0 : w3.cell? ⟨w.heap.size, 0, none⟩ = some (.int .i64 st) := (hb3.cell (p := ⟨w.heap.size, 0, none⟩) (by simp; omega)).trans ((World.cell?_alloc_lt _ _ _ (by simpa using hsz2)).trans r0)
  have s1 : w3.cell? ⟨w.heap.size, 1, none⟩ = some (.int .i64 sn) := (hb3.cell (p := ⟨w.heap.size, 1, none⟩) (by simp; omega)).trans ((World.cell?_alloc_lt _ _ _ (by simpa using hsz2)).trans r1)
  have hP1 : w3.heap[w2.heap.size]? = some (.cells #[.slice A n.edges.length c, .slice (some ⟨H1, 0, none⟩) st st, .slice (some ⟨L1, 0, none⟩) n.edges.length n.edges.length] 61 (0, 0)) := blk_below (blk_new _ _) hb3 (by omega)
  have t0 : w3.cell? ⟨w2.heap.size, 0, none⟩ = some (.slice A n.edges.length c) := blk_cell hP1 0
  have t1 : w3.cell? ⟨w2.heap.size, 1, none⟩ = some (.slice (some ⟨H1, 0, none⟩) st st) := blk_cell hP1 1
  have t2 : w3.cell? ⟨w2.heap.size, 2, none⟩ = some (.slice (some ⟨L1, 0, none⟩) n.edges.length n.edges.length) := blk_cell hP1 2
  have u0 : w.heap.size < w3.heap.size := by omega
  have u1 : w2.heap.size < w3.heap.size := by omega
  clear hP1 hg1 hg2 r0 r1 r2 r3 q0 q1 q2 q3
  go_upto_region 6 with fail
  generalize hw4 : w3.alloc (.cells #[.slice A n.edges.length c, .slice (some ⟨H2, 0, none⟩) st st, .slice (some ⟨L2, 0, none⟩) n.edges.length n.edges.length] 61) = w4 at hfix ⊢
  have hw4s : w4.heap.size = w3.heap.size + 1 := by rw [← hw4]; simp
  have hbw4 : Below w.heap.size w w4 := by rw [← hw4]; exact hbw3.alloc (by omega) _
  generalize hw5 : w4.alloc (.cells (madeCells #[Value.bool false] st) 4) = w5
  have hrow5 : w5.rowIs w4.heap.size 4 st (fun _ => .bool false) := by rw [← hw5]; exact World.rowIs_made _ _ _ _
  have hb5 : Below w4.heap.size w4 w5 := by rw [← hw5]; exact (Below.refl _ _).alloc (Nat.le_refl _) _
  have hs5 : w4.heap.size < w5.heap.size := hrow5.lt
  clear hw5 hw4 s0 s1 t0 t1 t2
  rw [← hw4s]
  have hfix5 := hfix.below hb5
  have s0 : w5.cell? ⟨w.heap.size, 0, none⟩ = some (.int .i64 st) := blk_cell hfix5.box 0
  have s1 : w5.cell? ⟨w.heap.size, 1, none⟩ = some (.int .i64 sn) := blk_cell hfix5.box 1
  have t0 : w5.cell? ⟨w2.heap.size, 0, none⟩ = some (.slice A n.edges.length c) := blk_cell hfix5.p1 0
  have t1 : w5.cell? ⟨w2.heap.size, 1, none⟩ = some (.slice (some ⟨H1, 0, none⟩) st st) := blk_cell hfix5.p1 1
  have t2 : w5.cell? ⟨w2.heap.size, 2, none⟩ = some (.slice (some ⟨L1, 0, none⟩) n.edges.length n.edges.length) := blk_cell hfix5.p1 2
  have hI5 := hrow5.cell hsns
  have hIf5 := hrow5.frozen sn
  have v0 : w.heap.size < w5.heap.size := by omega
  have v1 : w2.heap.size < w5.heap.size := by omega
  have v2 : w.heap.size < w4.heap.size := by omega
  have v3 : w2.heap.size < w4.heap.size := by omega
  have Hw4s := Lib.hid hw4s
  have hw34 : w3.heap.size < w4.heap.size := by omega
  clear hw4s
  go_wp2_with fail
  have hbG : Below w4.heap.size w4 ((w5.setCell ⟨w4.heap.size, sn, none⟩ (.bool true)).alloc (.cells #[.int .i64 sn] 3)) := (hb5.setCell (p := ⟨w4.heap.size, sn, none⟩) (Nat.le_refl _) _).alloc (by simp; omega) _
  have hfixG := hfix.below hbG
  have hH1l := hfix.g1.head.lt
  have hL1l := hfix.g1.link.lt
  refine (grow_any (fun e => Edge.none_ e) n.edges st H1 L1 w4.heap.size A c [(sn : Int)] _ _ (by omega) hne (by rw [← Hst.out]; exact Hes.out) (hfix.ed.below hbG) hfixG.g1 (by omega) (by omega)
    (by simp [Value.ownBlock]; omega) (by simp [Value.ownBlock]; omega) ?_ ?_ (by simp) (by simp; omega)).mono ?_
  · refine World.rowIs.congr ((hrow5.set sn (.bool true)).alloc _) (fun j _ => ?_)
    by_cases hj : j = sn
    · subst hj; simp [hasB]
    · rw [if_neg hj, hasB_no (by simp; omega)]
  · have := World.ownsRow_lit (base := w4.heap.size + 1) (e := 3) (size := 1) (w5.setCell ⟨w4.heap.size, sn, none⟩ (.bool true)) #[.int .i64 sn] 1 (by simp; omega) (by decide) rfl
    simpa using this
  rintro e w6 ⟨⟨v6, xs6, rfl, hown6, hcl6, hrow6⟩, hb6⟩
  have hset6 : ∀ q, q ∈ xs6 ↔ Run n [] (start0 n) q := by
    intro q
    rw [hcl6.done (Nat.le_refl _) q]
    have e1 : (fun x => x ∈ [(sn : Int)]) = (fun x => x = n.start) := by funext x; simp [Hsn.out]
    rw [e1]
    rfl
  have Hset6 := Lib.hid hset6
  have hxl6 : xs6.length ≤ st := by have := hcl6.length (by omega); omega
  clear hset6 hcl6
  have hbw6 : Below w4.heap.size w4 w6 := hbG.trans hb6
  clear s0 s1 t0 t1 t2 hI5 hIf5 hfixG hbG hb6 hfix5 hrow5 hb5 hs5 v0 v1
  obtain ⟨A6, c6, rfl, hown6⟩ := hown6
  go_wp2_with fail
  go_loopw [7, 8, 9] (fun vin vl i wr => ∃ (k I : Nat) (xs : List Int), i = .int .i64 k ∧ k ≤ s.size ∧ vin = .slice (some ⟨I, 0, none⟩) st st ∧ xs.length ≤ st ∧ w4.heap.size ≤ I ∧ OwnI wr (I + 1) xs vl ∧ wr.rowIs I 4 st (fun q => .bool (hasB xs (q : Int))) ∧ Hid (∀ q, q ∈ xs ↔ Run n (s.data.toList.take k) (start0 n) q) ∧
    Below w4.heap.size w4 wr) (fun _ _ i _ => s.size - (intOf i).toNat)
  case atStart => exact ⟨0, w4.heap.size, xs6, rfl, Nat.zero_le _, rfl, hxl6, Nat.le_refl _, ⟨_, _, rfl, hown6⟩, hrow6, Hset6, hbw6⟩
  case round =>
    clear hown6 hrow6 hbw6
    obtain ⟨k, I, xs, rfl, hk, rfl, hxl, hI, ⟨A7, c7, rfl, hown⟩, hrow, hset, hb⟩ := hrel
    have hfixr := hfix.below hb
    have s0 : wr.cell? ⟨w.heap.size, 0, none⟩ = some (.int .i64 st) := blk_cell hfixr.box 0
    have s1 : wr.cell? ⟨w.heap.size, 1, none⟩ = some (.int .i64 sn) := blk_cell hfixr.box 1
    have s2 : wr.cell? ⟨w.heap.size, 2, none⟩ = some (.int .i64 fn) := blk_cell hfixr.box 2
    have s3 : wr.cell? ⟨w.heap.size, 3, none⟩ = some (.slice A n.edges.length c) := blk_cell hfixr.box 3
    have hIl := hrow.lt
    have hbs := hb.size
    have hIe := hrow.cell hfns
    by_cases hlt : k < s.size
    · by_cases hpos : 0 < xs.length
      · have hxin : ∀ q ∈ xs, 0 ≤ q ∧ q < (st : Int) := fun q hq => by
          have := Run_in Hm.out ((hset.out q).1 hq)
          rwa [Hst.out] at this
        have Hxin := Lib.hid hxin
        obtain ⟨cb, hcb⟩ : ∃ cb : UInt8, s[k] = cb := ⟨_, rfl⟩
        have hgk : s.data.toList[k]? = some cb := by
          rw [← hcb, List.getElem?_eq_getElem (by simpa [Array.length_toList] using hlt)]
          rfl
        have Hgk := Lib.hid hgk
        have Hown := Lib.hid hown
        clear hxin hgk hIe
        go_wp2_with fail
        obtain ⟨wo, rfl⟩ : ∃ wo : World, wo = wr := ⟨_, rfl⟩
        have hbO : Below wo.heap.size wo (wo.alloc (.cells (madeCells #[Value.bool false] st) 4)) := (Below.refl _ _).alloc (Nat.le_refl _) _
        have hrowO : (wo.alloc (.cells (madeCells #[Value.bool false] st) 4)).rowIs wo.heap.size 4 st (fun _ => .bool false) := World.rowIs_made _ _ _ _
        go_loopw [11, 52] (fun vn i wi => ∃ (m : Nat) (ys : List Int), i = .int .i64 m ∧ m ≤ xs.length ∧ OwnI wi (wo.heap.size + 1) ys vn ∧ wi.rowIs wo.heap.size 4 st (fun q => .bool (hasB ys (q : Int))) ∧ Hid (ys.Nodup ∧ (∀ x ∈ ys, 0 ≤ x ∧ x < (st : Int)) ∧ ∀ x, x ∈ ys ↔ StepP n.edges cb.toNat (· ∈ xs.take m) x) ∧
          Below wo.heap.size wo wi) (fun _ i _ => xs.length - (intOf i).toNat)
        case atStart =>
          refine ⟨0, [], rfl, Nat.zero_le _, ⟨none, 0, rfl, World.ownsRow_nil _ _ _ _⟩, World.rowIs.congr hrowO (fun _ _ => by simp [hasB]), ⟨by simp, by simp, fun x => ?_⟩, hbO⟩
          simp [StepP]
        case round =>
          clear s0 s1 s2 s3 hbO hrowO hown
          obtain ⟨m, ys, rfl, hm, ⟨A8, c8, rfl, hown8⟩, hrow8, hys, hb8⟩ := hrel
          have hfix8 := hfixr.below hb8
          have hz8 := hb8.size
          have s0 : wr.cell? ⟨w.heap.size, 0, none⟩ = some (.int .i64 st) := blk_cell hfix8.box 0
          have s3 : wr.cell? ⟨w.heap.size, 3, none⟩ = some (.slice A n.edges.length c) := blk_cell hfix8.box 3
          have t0 : wr.cell? ⟨w2.heap.size, 0, none⟩ = some (.slice A n.edges.length c) := blk_cell hfix8.p1 0
          have t1 : wr.cell? ⟨w2.heap.size, 1, none⟩ = some (.slice (some ⟨H1, 0, none⟩) st st) := blk_cell hfix8.p1 1
          have t2 : wr.cell? ⟨w2.heap.size, 2, none⟩ = some (.slice (some ⟨L1, 0, none⟩) n.edges.length n.edges.length) := blk_cell hfix8.p1 2
          have p1 : wr.cell? ⟨w3.heap.size, 1, none⟩ = some (.slice (some ⟨H2, 0, none⟩) st st) := blk_cell hfix8.p2 1
          have p2 : wr.cell? ⟨w3.heap.size, 2, none⟩ = some (.slice (some ⟨L2, 0, none⟩) n.edges.length n.edges.length) := blk_cell hfix8.p2 2
          by_cases hmx : m < xs.length
          · obtain ⟨b9, o9, q, rfl, _, hq, hcell⟩ := int_at (CellsAt.of_own Hown.out) hb8 hmx
            have hqr := Hxin.out q (List.mem_of_getElem? hq.out)
            obtain ⟨qn, hqn⟩ := Int.eq_ofNat_of_zero_le hqr.1
            rw [hqn] at hcell
            have Hqn := Lib.hid hqn
            have hqs : qn < st := by omega
            clear hqn hqr
            have hHc := hfix8.g2.head.cell hqs
            obtain ⟨p, hp⟩ : ∃ p : Nat, p = prevIdx (fun e => !Edge.none_ e) n.edges (qn : Int) n.edges.length := ⟨_, rfl⟩
            rw [← hp] at hHc
            have Hp := Lib.hid hp
            clear hp
            go_wp2_with fail
            clear hHc hcell s0 s3 t0 t1 t2 p1 p2
            obtain ⟨wi, rfl⟩ : ∃ wi : World, wi = wr := ⟨_, rfl⟩
            go_loopw [11, 14] (fun vn at_ wj => ∃ (a i' : Nat) (zs : List Int), at_ = .int .i64 a ∧ Hid (a = prevIdx (fun e => !Edge.none_ e) n.edges (qn : Int) i') ∧ OwnI wj (wo.heap.size + 1) zs vn ∧ wj.rowIs wo.heap.size 4 st (fun q => .bool (hasB zs (q : Int))) ∧ Hid (NInv n.edges st cb.toNat (xs.take m) (qn : Int) i' zs) ∧
              Below wo.heap.size wo wj) (fun _ at_ _ => (intOf at_).toNat)
            case atStart => exact ⟨p, n.edges.length, ys, rfl, Hp, ⟨_, _, rfl, hown8⟩, hrow8, NInv.start hys.out.1 hys.out.2.1 hys.out.2.2, hb8⟩
            case round =>
              clear hfix8 hown8 hrow8 hb8
              obtain ⟨a, i', zs, rfl, ha, ⟨A9, c9, rfl, hown9⟩, hrow9, hN, hb9⟩ := hrel
              have hfix9 := hfixr.below hb9
              have hz9 := hb9.size
              rcases Nat.eq_zero_or_pos a with h0 | h0
              · have hz : ((a : Int) != 0) = false := by simp [h0]
                have hend := hN.out.end_ (by rw [← ha.out]; exact h0)
                have Hend := Lib.hid hend
                clear hend h0
                go_wp2_with fail
                go_roundw
                case rel =>
                  refine ⟨m + 1, zs, by go_num, by omega, ⟨_, _, rfl, hown9⟩, hrow9, ⟨hN.out.nodup, hN.out.rng, fun x => ?_⟩, hb9⟩
                  rw [take_snoc hq.out, Hqn.out]
                  exact Hend.out x
                case measure => simp [intOf]; omega
              · obtain ⟨j, rfl⟩ : ∃ j, a = j + 1 := ⟨a - 1, by omega⟩
                rw [show ((j + 1 : Nat) : Int) = (j : Int) + 1 from by omega]
                have hz : ((j : Int) + 1 != 0) = true := by simp; omega
                obtain ⟨e, he, hby, hf, hji, _⟩ := prevIdx_some ha.out.symm
                have hj : j < n.edges.length := (List.getElem?_eq_some_iff.1 he).1
                obtain ⟨bb, o, e', rfl, hbb, he', e0, e1, e2, e3⟩ := edge_at hfixr.ed hb9 hj
                have hee : e' = e := by
                  have := he'.out
                  rw [he] at this
                  injection this with this
                  exact this.symm
                subst hee
                have Hok := Lib.hid (Hes.out e' (List.mem_of_getElem? he))
                obtain ⟨_, ht0, ht1⟩ := ok_iff.1 Hok.out
                rw [Hst.out] at ht1
                obtain ⟨tn, htn⟩ := Int.eq_ofNat_of_zero_le ht0
                rw [htn] at e1 ht1
                have Htn := Lib.hid htn
                have hts : tn < st := by omega
                have He := Lib.hid he
                have hlk : linkF (fun e => !Edge.none_ e) n.edges n.edges.length j = prevIdx (fun e => !Edge.none_ e) n.edges (qn : Int) j := by
                  unfold linkF
                  rw [if_pos hj, he]
                  simp only [hby, hf, if_true]
                clear htn ht0 he hby hf
                have hIc := hrow9.cell hts
                have hIf := hrow9.frozen tn
                have hLc := hfix9.g2.link.cell hj
                rw [hlk] at hLc
                obtain ⟨p', hp'⟩ : ∃ p' : Nat, p' = prevIdx (fun e => !Edge.none_ e) n.edges (qn : Int) j := ⟨_, rfl⟩
                rw [← hp'] at hLc
                have Hlk := Lib.hid hlk
                have Hp' := Lib.hid hp'
                have hpj := prevIdx_le (fun e => !Edge.none_ e) n.edges (qn : Int) j
                rw [← hp'] at hpj
                clear hlk hp'
                have s3 : wr.cell? ⟨w.heap.size, 3, none⟩ = some (.slice (some ⟨bb, o, none⟩) n.edges.length c) := blk_cell hfix9.box 3
                have p2 : wr.cell? ⟨w3.heap.size, 2, none⟩ = some (.slice (some ⟨L2, 0, none⟩) n.edges.length n.edges.length) := blk_cell hfix9.p2 2
                have y0 : w.heap.size < wr.heap.size := by omega
                have y1 : w3.heap.size < wr.heap.size := by omega
                have y2 : wo.heap.size < wr.heap.size := hrow9.lt
                have y3 : L2 < wr.heap.size := hfix9.g2.link.lt
                have hz9l := hrow9.lt
                have Hskip : Hid ((Edge.takes ⟨e'.frm, (tn : Int), e'.low, e'.high⟩ cb.toNat = true → (tn : Int) ∈ zs) → Hid (NInv n.edges st cb.toNat (xs.take m) (qn : Int) j zs)) := fun hs => by
                  refine hN.out.skip ha.out.symm (fun e'' he'' htk => ?_)
                  rw [He.out] at he''
                  injection he'' with he''
                  subst he''
                  rw [Htn.out]
                  refine hs ?_
                  rw [← Htn.out]
                  exact htk
                cases htk : Edge.takes ⟨e'.frm, (tn : Int), e'.low, e'.high⟩ cb.toNat with
                | false =>
                  go_upto_region 20 with fail
                  first | go_region_with (go_at_call 46; refine (takes_any _ _ _ _ _ _).mono ?_; rintro e w' ⟨rfl, rfl⟩) | fail
                  all_goals go_wp2_with fail
                  all_goals go_roundw
                  all_goals first
                    | (with_reducible show _ < _; simp [intOf]; omega)
                    | (refine ⟨p', j, zs, rfl, Hp', ⟨_, _, rfl, (hown9.alloc _).alloc _⟩, (hrow9.alloc _).alloc _, ?_, (((hb9.alloc (by omega) _).alloc (by simp; omega) _).drew)⟩; exact Hskip.out (fun h => by rw [htk] at h; cases h))
                | true =>
                  cases hm9 : hasB zs tn with
                  | true =>
                    rw [hm9] at hIc
                    go_upto_region 20 with fail
                    go_region_held3 (fun w' => w'.cell? ⟨wr.heap.size, 0, none⟩ = some (.int .i64 e'.frm) ∧ w'.cell? ⟨wr.heap.size, 1, none⟩ = some (.int .i64 tn) ∧ w'.cell? ⟨wr.heap.size, 2, none⟩ = some (.int .u8 e'.low) ∧ w'.cell? ⟨wr.heap.size, 3, none⟩ = some (.int .u8 e'.high) ∧ w'.cell? ⟨wo.heap.size, tn, none⟩ = some (.bool true)) (simp [go_sem, World.cell?_alloc_lt, hz9l, hIc])
                      (first | (go_at_call 46; refine (takes_any _ _ _ _ _ _).mono ?_; rintro e w' ⟨rfl, rfl⟩))
                    go_wp2_with fail
                    go_roundw
                    case rel =>
                      refine ⟨p', j, zs, rfl, Hp', ⟨_, _, rfl, (hown9.alloc _).alloc _⟩, (hrow9.alloc _).alloc _, ?_, (((hb9.alloc (by omega) _).alloc (by simp; omega) _).drew)⟩
                      exact Hskip.out (fun _ => hasB_iff.1 hm9)
                    case measure => simp [intOf]; omega
                  | false =>
                    rw [hm9] at hIc
                    go_upto_region 20 with fail
                    go_region_held3 (fun w' => w'.cell? ⟨wr.heap.size, 0, none⟩ = some (.int .i64 e'.frm) ∧ w'.cell? ⟨wr.heap.size, 1, none⟩ = some (.int .i64 tn) ∧ w'.cell? ⟨wr.heap.size, 2, none⟩ = some (.int .u8 e'.low) ∧ w'.cell? ⟨wr.heap.size, 3, none⟩ = some (.int .u8 e'.high) ∧ w'.cell? ⟨wo.heap.size, tn, none⟩ = some (.bool false)) (simp [go_sem, World.cell?_alloc_lt, hz9l, hIc])
                      (first | (go_at_call 46; refine (takes_any _ _ _ _ _ _).mono ?_; rintro e w' ⟨rfl, rfl⟩))
                    have hown20 := ((hown9.alloc (.cells #[.int .i64 e'.frm, .int .i64 tn, .int .u8 e'.low, .int .u8 e'.high] 35)).alloc (.cells #[.int .i64 e'.frm, .int .i64 tn, .int .u8 e'.low, .int .u8 e'.high] 35)).drew
                    have hrow20 : (((wr.alloc (.cells #[.int .i64 e'.frm, .int .i64 tn, .int .u8 e'.low, .int .u8 e'.high] 35)).alloc (.cells #[.int .i64 e'.frm, .int .i64 tn, .int .u8 e'.low, .int .u8 e'.high] 35)).drew).rowIs wo.heap.size 4 st (fun q => .bool (hasB zs (q : Int))) := (hrow9.alloc _).alloc _
                    have hb20 := ((hb9.alloc (by omega) (.cells #[.int .i64 e'.frm, .int .i64 tn, .int .u8 e'.low, .int .u8 e'.high] 35)).alloc (by simp; omega) (.cells #[.int .i64 e'.frm, .int .i64 tn, .int .u8 e'.low, .int .u8 e'.high] 35)).drew
                    have hblk20 : (((wr.alloc (.cells #[.int .i64 e'.frm, .int .i64 tn, .int .u8 e'.low, .int .u8 e'.high] 35)).alloc (.cells #[.int .i64 e'.frm, .int .i64 tn, .int .u8 e'.low, .int .u8 e'.high] 35)).drew).heap[wr.heap.size]? = some (.cells #[.int .i64 e'.frm, .int .i64 tn, .int .u8 e'.low, .int .u8 e'.high] 35 (0, 0)) := blk_alloc (blk_new _ _) _
                    generalize World.drew _ = W at hown20 hrow20 hb20 hblk20 ⊢
                    clear hIc hIf hLc s3 p2 e0 e1 e2 e3 hrow9 hown9 hb9 hfix9
                    have hIc := hrow20.cell hts
                    rw [hm9] at hIc
                    have hIf := hrow20.frozen tn
                    have b1 : W.cell? ⟨wr.heap.size, 1, none⟩ = some (.int .i64 tn) := blk_cell hblk20 1
                    have hlt20 := blk_lt hblk20
                    have HF : Hid (∀ wx, Below wo.heap.size wo wx → AFix w wx n st sn fn (some ⟨bb, o, none⟩) c H1 L1 H2 L2 w2.heap.size w3.heap.size) := fun wx hg => hfixr.below hg
                    have HL : Hid (∀ wx, AFix w wx n st sn fn (some ⟨bb, o, none⟩) c H1 L1 H2 L2 w2.heap.size w3.heap.size → wx.cell? ⟨L2, j, none⟩ = some (.int .i64 p')) := fun wx hx => by
                      have := hx.g2.link.cell hj
                      rw [Hlk.out, ← Hp'.out] at this
                      exact this
                    have hbs9 := hb20.setCell (p := ⟨wo.heap.size, tn, none⟩) (Nat.le_refl _) (.bool true)
                    have hzn : zs.length ≤ st := nodup_range st hN.out.nodup hN.out.rng
                    go_wp2_with (at_builtin; refine wpList_append_new info3 Try.underlying36 rfl (by decide) (by decide) _ (ownsRow_setCell_below hown20 (a := ⟨wo.heap.size, tn, none⟩) (by simp) _) 1 rfl _ _ rfl rfl rfl (by simp) rfl rfl (by omega) ?_ ?_; (simp; omega); intro v' w' hown' hbel' hgt hgrow; have f' := HF.out w' (hbs9.trans (hbel'.mono (by omega))); have p2' := blk_cell f'.p2 2; have hL' := HL.out w' f')
                    go_roundw
                    case rel =>
                      refine ⟨p', j, zs ++ [(tn : Int)], rfl, Hp', ownI_of (by simpa using hown') (Nat.le_refl _), ?_, ?_, hbs9.trans (hbel'.mono (by omega))⟩
                      · refine World.rowIs.congr (rowIs_grown (hrow20.set tn _) hgrow (own_ne_lt hown20 (by omega))) ?_
                        intro x hx
                        by_cases hxt : x = tn
                        · subst hxt
                          rw [if_pos rfl, hasB_yes (by simp)]
                        · rw [if_neg hxt]
                          congr 1
                          rw [Bool.eq_iff_iff, hasB_iff, hasB_iff]
                          simp only [List.mem_append, List.mem_singleton]
                          constructor
                          · exact Or.inl
                          · rintro (h | h)
                            · exact h
                            · exact absurd (by omega) hxt
                      · have := hN.out.push ha.out.symm He.out (by rw [← Hst.out]; exact Hok.out) (by rw [← Htn.out] at htk; exact htk) (fun h => by rw [Htn.out, ← hasB_iff, hm9] at h; cases h)
                        rw [Htn.out] at this
                        exact this
                    case measure => simp [intOf]; omega
          · have hmm : m = xs.length := by omega
            subst hmm
            have hyl : ys.length ≤ st := by
              exact nodup_range st hys.out.1 hys.out.2.1
            have Hys := Lib.hid hys.out
            have HC4 := Lib.hid (grow_any (fun e => Edge.none_ e) n.edges st H1 L1 wo.heap.size A c ys (.slice A8 ys.length c8) wr (by omega) hne (by rw [← Hst.out]; exact Hes.out) (hfixr.ed.below hb8) hfix8.g1 (by omega) (by omega)
              (own_ne_lt hown8 (by omega)) (own_ne_lt hown8 (by omega)) hrow8 hown8 Hys.out.1 Hys.out.2.1)
            clear hown8 hrow8 s0 s3 p1 p2 hys hm hmx
            go_upto_region 24 with fail
            go_wp2_with (go_at_call 45; refine HC4.out.mono ?_; rintro e w7 ⟨⟨v7, xs7, rfl, hown7, hcl7, hrow7⟩, hb7⟩; have Hcl7 := Lib.hid hcl7; have Hrow7 := Lib.hid hrow7; have Hown7 := Lib.hid hown7; have Hb7 := Lib.hid hb7; clear hcl7 hrow7 hown7 hb7)
            have hset7 : ∀ q, q ∈ xs7 ↔ Run n (s.data.toList.take (k + 1)) (start0 n) q := by
              intro q
              rw [take_snoc Hgk.out]
              refine Run_next hset.out (fun q => ?_) (Hcl7.out.done (Nat.le_refl _)) q
              have := Hys.out.2.2 q
              rw [List.take_length] at this
              exact this
            have hxl7 : xs7.length ≤ st := by have := Hcl7.out.length (by omega); omega
            go_roundw
            case rel => exact ⟨k + 1, wo.heap.size, xs7, by go_num, by omega, rfl, hxl7, by omega, Hown7.out, Hrow7.out, hset7, hb.trans ((hb8.trans Hb7.out).mono (by omega))⟩
            case measure => simp [intOf]; omega
      · have hx0 : xs = [] := List.eq_nil_of_length_eq_zero (by omega)
        have hpos' : ¬ (0 : Int) < (xs.length : Int) := by omega
        have hval : hasB xs fn = accB n s.data.toList := by
          have h1 : accB n s.data.toList = false := accB_no fun h => by
            unfold AccP at h
            rw [← List.take_append_drop k s.data.toList, Run_append] at h
            refine Run_empty (fun q hq => ?_) _ h
            have := (hset.out q).2 hq
            rw [hx0] at this
            cases this
          rw [h1, hx0]
          rfl
        rw [hval] at hIe
        have hb0 : decide ((0 : Int) < (xs.length : Int)) = false := decide_eq_false hpos'
        clear hx0 hval
        go_wp2_with fail
        go_ret
        exact ⟨rfl, hbw4.trans (hb.mono (by omega))⟩
    · have hval : hasB xs fn = accB n s.data.toList := by
        have ht : s.data.toList.take k = s.data.toList := List.take_of_length_le (by simp [Array.length_toList]; have : s.data.size = s.size := rfl; omega)
        have h1 := hset.out n.fin
        rw [ht, Hfn.out] at h1
        cases hB : hasB xs fn with
        | true => exact (accB_yes (by unfold AccP; rw [Hfn.out]; exact h1.1 (hasB_iff.1 hB))).symm
        | false => exact (accB_no (fun h => by unfold AccP at h; rw [Hfn.out] at h; rw [hasB_yes (h1.2 h)] at hB; cases hB)).symm
      rw [hval] at hIe
      clear hval
      go_wp2_with fail
      go_ret
      exact ⟨rfl, hbw4.trans (hb.mono (by omega))⟩
end Go.Proofs.Ytaefhfldgemcnaa
