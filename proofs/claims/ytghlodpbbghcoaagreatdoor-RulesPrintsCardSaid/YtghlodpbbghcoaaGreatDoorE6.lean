/- stepsOf of package dfa: walked. -/
import Derived.Test.YtghlodpbbghcoaaGreatDoorEA
import Derived.StillTailTactics
namespace Go.Proofs.YtghlodpbbghcoaaGreatDoor
open Go.RowKit
theorem closed_in (n : Rx.Net) (l : List Int) (N : Nat) (hN : n.st = (N : Int)) : ∀ q ∈ Rx.rising n.st (Rx.Eps Rx.Edge.none_ n.edges (Rx.S0 n.st l)), 0 ≤ q ∧ q < (N : Int) := by
  intro q hq
  unfold Rx.rising at hq
  obtain ⟨h1, _⟩ := List.mem_filter.1 hq
  obtain ⟨j, hj, rfl⟩ := List.mem_map.1 h1
  rw [List.mem_range] at hj
  have : (Int.ofNat j : Int) = (j : Int) := rfl
  omega
theorem closed_len (n : Rx.Net) (l : List Int) (N : Nat) (hN : n.st = (N : Int)) : (Rx.rising n.st (Rx.Eps Rx.Edge.none_ n.edges (Rx.S0 n.st l))).length ≤ N := by
  rw [hN]
  exact Rx.rising_length N _

/-- What is reached by none from one state. -/
theorem closedN_any (n : Rx.Net) (N B q c : Nat) (A : Option Addr) (w : World) (hN : n.st = (N : Int)) (hm : n.may = true) (hne : n.edges.length ≤ 1000000) (hE : Rx.EdgesAt w w.heap.size A n.edges)
    (hB : w.heap[B]? = some (.cells #[.int .i64 q] 3 (0, 0))) :
    Calls Tryz.prog 127 #[.agg #[.int .i64 (N : Int), .int .i64 n.start, .int .i64 n.fin, .slice A n.edges.length c], .slice (some ⟨B, 0, none⟩) 1 1] w fun e w' =>
      (∃ A' c' xs, e = .returned (.slice A' xs.length c') ∧ Rx.IntsAt w' w'.heap.size A' xs ∧ xs.length ≤ N ∧ ∀ q ∈ xs, 0 ≤ q ∧ q < (N : Int)) ∧ Below w.heap.size w w' := by
  have h := Rx.closed_any n [(q : Int)] A (some ⟨B, 0, none⟩) c 1 w hm hne (by simp) hE (by
    intro j hj
    simp only [List.length_map, List.length_cons, List.length_nil] at hj
    obtain rfl : j = 0 := by omega
    exact ⟨B, 0, rfl, blk_lt hB, (blk_cell hB 0).trans rfl⟩)
  have h1 := closed_len n [(q : Int)] N hN
  have h2 := closed_in n [(q : Int)] N hN
  rw [← hN]
  refine h.mono ?_
  rintro e w' ⟨⟨v, rfl, A', c', rfl, hown⟩, hb⟩
  exact ⟨⟨A', c', _, rfl, Rx.CellsAt.of_own hown, by omega, fun q hq => by have := h2 q hq; omega⟩, hb⟩

set_option maxRecDepth 8192 in
set_option maxHeartbeats 3200000 in
theorem stepsOf_any (n : Rx.Net) (N : Nat) (A : Option Addr) (c : Nat) (w : World) (hN : n.st = (N : Int)) (hN8 : N ≤ 8) (hm : n.may = true) (hne : n.edges.length ≤ 1000000) (hby : ByteEdges n.edges) (hE : Rx.EdgesAt w w.heap.size A n.edges) :
    Calls Tryz.prog 121 #[.agg #[.int .i64 n.st, .int .i64 n.start, .int .i64 n.fin, .slice A n.edges.length c]] w fun e w' =>
      (∃ g, e = .returned (.slice (some ⟨g, 0, none⟩) N N) ∧ StepsAt w' w'.heap.size (some ⟨g, 0, none⟩) N N) ∧ Below w.heap.size w w' := by
  have HE := Lib.hid hE
  have Hm := Lib.hid hm
  have hmk1 := make164 N hN8
  have hmk2 := make156 N hN8
  clear hE hm
  have eN := Lib.hid hN
  rw [hN]
  go_enter Tryz.func121, Tryz.ntmps121
  go_upto_region 2 with fail
  obtain ⟨w1, hw1⟩ : ∃ w1, w1 = (w.alloc (.cells #[.int .i64 (N : Int), .int .i64 n.start, .int .i64 n.fin, .slice A n.edges.length c] 143)).alloc (.cells (cellsF (fun _ => 0) N) 162) := ⟨_, rfl⟩
  have g0 : w1.heap[w.heap.size]? = some (.cells #[.int .i64 (N : Int), .int .i64 n.start, .int .i64 n.fin, .slice A n.edges.length c] 143 (0, 0)) := by subst hw1; exact blk_alloc (blk_new _ _) _
  have g1 : SetsBlk w1 (w.heap.size + 1) (fun _ => 0) N 162 := by subst hw1; exact blk_new' (by simp)
  have hb : Below w.heap.size w w1 := by subst hw1; exact ((Below.refl _ _).alloc (Nat.le_refl _) _).alloc (by simp) _
  rw [← hw1]
  clear hw1
  have G0 := Lib.hid g0
  have G1 := Lib.hid g1
  have HB := Lib.hid hb
  clear g0 g1 hb
  go_wp2_with fail
  go_loopw [14] (fun i wr => ∃ (k : Nat) (f : Nat → Nat), i = .int .i64 k ∧ k ≤ N ∧ Hid (∀ j, f j < 2 ^ N) ∧ Hid (wr.heap[w.heap.size]? = some (.cells #[.int .i64 (N : Int), .int .i64 n.start, .int .i64 n.fin, .slice A n.edges.length c] 143 (0, 0))) ∧ Hid (SetsBlk wr (w.heap.size + 1) f N 162) ∧ Hid (Below w.heap.size w wr)) (fun i _ => N - (intOf i).toNat)
  case atStart => exact ⟨0, fun _ => 0, rfl, by omega, fun _ => Nat.pow_pos (by omega), G0, G1, HB⟩
  case round =>
    clear G0 G1 HB
    obtain ⟨k, f, rfl, hk, hf, hg0, hg1, hb⟩ := hrel
    by_cases hlt : k < N
    · have x0 : wr.cell? ⟨w.heap.size, 0, none⟩ = some (.int .i64 (N : Int)) := blk_cell hg0.out 0
      have x1 : wr.cell? ⟨w.heap.size, 1, none⟩ = some (.int .i64 n.start) := blk_cell hg0.out 1
      have x2 : wr.cell? ⟨w.heap.size, 2, none⟩ = some (.int .i64 n.fin) := blk_cell hg0.out 2
      have x3 : wr.cell? ⟨w.heap.size, 3, none⟩ = some (.slice A n.edges.length c) := blk_cell hg0.out 3
      have hsz := hb.out.size
      clear hmk1 hmk2
      go_upto_region 5 with fail
      have hB0 : Below w.heap.size w (wr.alloc (.cells #[.int .i64 (k : Int)] 3)) := hb.out.alloc hsz _
      have Hb0 := Lib.hid hB0
      have HC := Lib.hid (closedN_any n N wr.heap.size k c A (wr.alloc (.cells #[.int .i64 (k : Int)] 3)) eN.out Hm.out hne ((HE.out.below hB0).more (by simp; omega)) (blk_new _ _))
      clear hB0
      go_wp2_with (first
        | (go_at_call 127; refine HC.out.mono ?_; rintro e w2 ⟨⟨A2, c2, xs, rfl, hI2, hl2, hin2⟩, hb2⟩; have Hin := Lib.hid hin2; have HI := Lib.hid hI2; clear hin2 hI2)
        | (go_at_call 126; refine (setOf_any N xs A2 c2 w2 hN8 (by omega) HI.out Hin.out).mono ?_; rintro e w3 ⟨⟨z, hz, rfl⟩, hb3⟩; have hb23 := Lib.hid (hb2.trans (hb3.mono hb2.size)); have hrow : Hid (SetsBlk w3 (w.heap.size + 1) f N 162) := (hb23.out.block _ (by have := blk_lt hg1.out; simp; omega)).trans (blk_alloc hg1.out _); obtain ⟨cz, hcz⟩ : ∃ cz, cz = setV z := ⟨_, rfl⟩; have hth : Hid (w3.there (w.heap.size + 1) (k * 8) cz.size) := (by rw [hcz]; exact hrow.out.there hlt z); have hi : Hid ((Tryz.prog.info? 162).map (·.size) = some cz.size) := (by rw [hcz]; exact info162 z); have h1 : Hid (cz.all (·.oneCell') = true) := (by rw [hcz]; exact setV_one z); have Hcz := Lib.hid hcz; rw [← hcz]; clear hcz hb2 hb3)
        | ((with_reducible show wpList _ _ _ (⟨none, _, _, _, _, _⟩ :: _) _ _); refine wpList_store_mid rfl 162 _ _ rfl (w.heap.size + 1) (k * 8) _ rfl rfl hth.out hi.out h1.out ?_))
      go_roundw
      case rel =>
        refine ⟨k + 1, upd f k z, by go_num, by omega, ?_, ?_, ?_, ?_⟩
        · intro j
          unfold upd
          split
          · exact hz
          · exact hf.out j
        · refine (Rx.heap_setCells_other (by omega) _ _ _).trans ((hb23.out.block _ (by have := blk_lt hg1.out; simp; omega)).trans (blk_alloc hg0.out _))
        · rw [Hcz.out]
          exact hrow.out.stored hlt z
        · exact Rx.below_setCells (by omega) _ _ _ (Hb0.out.trans (hb23.out.mono (by simp; omega)))
      case measure => simp [intOf]; omega
    · have hk' : N = k := by omega
      subst hk'
      have x3 : wr.cell? ⟨w.heap.size, 3, none⟩ = some (.slice A n.edges.length c) := blk_cell hg0.out 3
      have x0 : wr.cell? ⟨w.heap.size, 0, none⟩ = some (.int .i64 (N : Int)) := blk_cell hg0.out 0
      go_upto_region 8 with fail
      obtain ⟨G, hG⟩ : ∃ G, G = wr.heap.size := ⟨_, rfl⟩
      have hG2 : w.heap.size + 1 < G := by have := blk_lt hg1.out; omega
      have y3 : (wr.alloc (.cells (cellsF (fun _ => 0) (N * 95)) 186)).cell? ⟨w.heap.size, 3, none⟩ = some (.slice A n.edges.length c) := blk_cell (blk_alloc hg0.out _) 3
      have k1 : Hid (SetsBlk (wr.alloc (.cells (cellsF (fun _ => 0) (N * 95)) 186)) (w.heap.size + 1) f N 162) := blk_alloc hg1.out _
      have k2 : Hid (SetsBlk (wr.alloc (.cells (cellsF (fun _ => 0) (N * 95)) 186)) G (fun _ => 0) (N * 95) 186) := by rw [hG]; exact blk_new _ _
      have k3 : Hid (Below w.heap.size w (wr.alloc (.cells (cellsF (fun _ => 0) (N * 95)) 186))) := hb.out.alloc hb.out.size _
      rw [← hG]
      generalize wr.alloc (.cells (cellsF (fun _ => 0) (N * 95)) 186) = w2 at y3 k1 k2 k3 ⊢
      clear hmk1 hmk2 hg0 hg1 hb x3 x0 hG
      go_wp2_with fail
      go_loopw [32] (fun i wx => ∃ (j : Nat) (h : Nat → Nat), i = .int .i64 j ∧ j ≤ n.edges.length ∧ Hid (∀ j, h j < 2 ^ N) ∧ Hid (SetsBlk wx (w.heap.size + 1) f N 162) ∧ Hid (SetsBlk wx G h (N * 95) 186) ∧ Hid (Below w.heap.size w wx)) (fun i _ => n.edges.length - (intOf i).toNat)
      case atStart => exact ⟨0, fun _ => 0, rfl, by omega, fun _ => Nat.pow_pos (by omega), k1, k2, k3⟩
      case round =>
        clear y3 k1 k2 k3
        obtain ⟨j, h, rfl, hj, hh, hg1, hg2, hb⟩ := hrel
        by_cases hlt2 : j < n.edges.length
        · obtain ⟨b, o, ⟨ef, et, el, eh⟩, rfl, hbB, he, ce0, ce1, ce2, ce3⟩ := Rx.edge_at HE.out hb.out hlt2
          have hmem := List.mem_of_getElem? he.out
          obtain ⟨⟨hl0, hl1⟩, hh0, hh1⟩ := hby _ hmem
          obtain ⟨⟨q0, q1⟩, q2, q3⟩ := Rx.ok_iff.1 ((Rx.may_iff.1 Hm.out).2.2.2.2 _ hmem)
          simp only at ce0 ce1 ce2 ce3 hl0 hl1 hh0 hh1 q0 q1 q2 q3
          obtain ⟨F, rfl⟩ := Int.eq_ofNat_of_zero_le q0
          obtain ⟨D, rfl⟩ := Int.eq_ofNat_of_zero_le q2
          have hF : F < N := by omega
          have hD : D < N := by omega
          have hsz := hb.out.size
          clear he hmem q0 q1 q2 q3
          go_upto_region 11 with fail
          obtain ⟨E, hE⟩ : ∃ E, E = wr.heap.size := ⟨_, rfl⟩
          have k1 : Hid (SetsBlk (wr.alloc (.cells #[.int .i64 F, .int .i64 D, .int .u8 el, .int .u8 eh] 185)) (w.heap.size + 1) f N 162) := blk_alloc hg1.out _
          have k2 : Hid (SetsBlk (wr.alloc (.cells #[.int .i64 F, .int .i64 D, .int .u8 el, .int .u8 eh] 185)) G h (N * 95) 186) := blk_alloc hg2.out _
          have k3 : Hid (Below w.heap.size w (wr.alloc (.cells #[.int .i64 F, .int .i64 D, .int .u8 el, .int .u8 eh] 185))) := hb.out.alloc hsz _
          have k4 : Hid ((wr.alloc (.cells #[.int .i64 F, .int .i64 D, .int .u8 el, .int .u8 eh] 185)).heap[E]? = some (.cells #[.int .i64 F, .int .i64 D, .int .u8 el, .int .u8 eh] 185 (0, 0))) := by rw [hE]; exact blk_new _ _
          have hEG : G < E := by have := blk_lt hg2.out; omega
          rw [← hE]
          generalize wr.alloc (.cells #[.int .i64 F, .int .i64 D, .int .u8 el, .int .u8 eh] 185) = w3 at k1 k2 k3 k4 ⊢
          clear hg1 hg2 hb ce0 ce1 ce2 ce3 hE
          have x2 : w3.cell? ⟨E, 2, none⟩ = some (.int .u8 el) := blk_cell k4.out 2
          go_wp2_with fail
          have q0 : (32 : Int) ≤ max el 32 := by omega
          have q1 : max el 32 ≤ 255 := by omega
          generalize max el 32 = lo at q0 q1 ⊢
          obtain ⟨L0, hL⟩ := Int.eq_ofNat_of_zero_le (show 0 ≤ lo - 32 by omega)
          obtain rfl : lo = 32 + (L0 : Int) := by omega
          clear hL x2
          rename (j < n.edges.length) => hlt2
          have Hlt2 := Lib.hid hlt2
          clear hlt2
          go_loopw [8] (fun i wx => ∃ (L : Nat) (h : Nat → Nat), i = .int .i64 (32 + (L : Int)) ∧ L ≤ 300 ∧ Hid (∀ j, h j < 2 ^ N) ∧ Hid (SetsBlk wx (w.heap.size + 1) f N 162) ∧ Hid (SetsBlk wx G h (N * 95) 186) ∧ Hid (wx.heap[E]? = some (.cells #[.int .i64 F, .int .i64 D, .int .u8 el, .int .u8 eh] 185 (0, 0))) ∧ Hid (Below w.heap.size w wx)) (fun i _ => 400 - (intOf i).toNat)
          case atStart => exact ⟨L0, h, rfl, by omega, hh, k1, k2, k4, k3⟩
          case round =>
            clear k1 k2 k3 k4 hh
            obtain ⟨L, h, rfl, hL, hh, hg1, hg2, hg4, hb⟩ := hrel
            have x0 : wr.cell? ⟨E, 0, none⟩ = some (.int .i64 F) := blk_cell hg4.out 0
            have x1 : wr.cell? ⟨E, 1, none⟩ = some (.int .i64 D) := blk_cell hg4.out 1
            have x3 : wr.cell? ⟨E, 3, none⟩ = some (.int .u8 eh) := blk_cell hg4.out 3
            by_cases hle : 32 + (L : Int) ≤ min eh 126
            · have hL94 : L < 95 := by omega
              have e8 : (F * 95 + L) * 8 = F * 760 + L * 8 := by omega
              have hFL : F * 95 + L < N * 95 := by omega
              have s1 := Lib.hid (e8 ▸ (hg2.out.at_ hFL))
              have s2 := Lib.hid (hg1.out.at_ hD)
              have hx1 := Lib.hid (Nat.lt_trans (hh.out (F * 95 + L)) (pow64 (by omega)))
              have hx2 := Lib.hid (Nat.lt_trans (hf.out D) (pow64 (by omega)))
              have hszw := hb.out.size
              have E8 := Lib.hid e8
              clear e8
              go_upto_region 14 with fail
              have h32 : (32 : Int) + (L : Int) - 32 = (L : Int) := by omega
              have hFi : (F : Int) < (N : Int) := by omega
              have hDi : (D : Int) < (N : Int) := by omega
              have hLi : (L : Int) < 95 := by omega
              have hwL : IntKind.i64.wrap (L : Int) = (L : Int) := by rw [IntKind.wrap_i64]; omega
              go_still_tail 11, (by kernel_rfl)
              change wpList _ _ _ _ _ wr.drew
              generalize hwd : wr.drew = w4
              have G1 : Hid (SetsBlk w4 (w.heap.size + 1) f N 162) := by rw [← hwd]; exact hg1.out
              have G2 : Hid (SetsBlk w4 G h (N * 95) 186) := by rw [← hwd]; exact hg2.out
              have G4 : Hid (w4.heap[E]? = some (.cells #[.int .i64 F, .int .i64 D, .int .u8 el, .int .u8 eh] 185 (0, 0))) := by rw [← hwd]; exact hg4.out
              have GB : Hid (Below w.heap.size w w4) := by rw [← hwd]; exact hb.out.drew
              have S1 : Hid (SetAt w4 G (F * 760 + L * 8) (h (F * 95 + L))) := by rw [← hwd]; exact s1.out
              have S2 : Hid (SetAt w4 (w.heap.size + 1) (D * 8) (f D)) := by rw [← hwd]; exact s2.out
              clear hwd hg1 hg2 hg4 hb s1 s2 x0 x1 x3 hwL h32
              go_wp2_with (go_at_call 136; refine (join_any G (F * 760 + L * 8) (w.heap.size + 1) (D * 8) (h (F * 95 + L)) (f D) (cellsF h (N * 95)) 186 w4 hx1.out hx2.out (by omega) G2.out S1.out S2.out (blk_lt G1.out)).mono ?_; rintro e w5 ⟨rfl, hK5, hh5⟩)
              go_roundw
              case rel =>
                refine ⟨L + 1, upd h (F * 95 + L) (h (F * 95 + L) ||| f D), by go_num, by omega, ?_, ?_, ?_, ?_, ?_⟩
                · intro j
                  unfold upd
                  split
                  · exact Nat.or_lt_two_pow (hh.out _) (hf.out _)
                  · exact hh.out j
                · exact (hK5.block _ (blk_lt G1.out) (by omega)).trans G1.out
                · rw [← E8.out, cellsF_set _ _ hFL] at hh5
                  exact hh5
                · exact (hK5.block _ (blk_lt G4.out) (by omega)).trans G4.out
                · exact GB.out.trans ((hK5.below (Nat.le_of_lt (blk_lt G2.out))).mono (by omega))
              case measure => simp [intOf]; omega
            · go_wp2_with fail
              go_roundw
              case rel => exact ⟨j + 1, h, by go_num, Hlt2.out, hh, hg1, hg2, hb⟩
              case measure => have := Hlt2.out; simp [intOf]; omega
        · have hj' : j = n.edges.length := by omega
          subst hj'
          go_wp2_with fail
          go_ret
          refine ⟨⟨G, rfl, G, 0, rfl, blk_lt hg2.out, fun q s hq hs => ⟨h (q * 95 + s), hh.out _, ?_⟩⟩, hb.out⟩
          have := hg2.out.at_ (i := q * 95 + s) (by omega)
          rwa [show (q * 95 + s) * 8 = 0 + q * 760 + s * 8 by omega] at this
end Go.Proofs.YtghlodpbbghcoaaGreatDoor
