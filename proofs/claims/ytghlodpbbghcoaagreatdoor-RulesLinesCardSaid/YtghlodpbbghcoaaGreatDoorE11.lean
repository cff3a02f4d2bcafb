/- walk[set] of package dfa, with Of's step: walked. -/
import Derived.Test.YtghlodpbbghcoaaGreatDoorED
namespace Go.Proofs.YtghlodpbbghcoaaGreatDoor
open Go.RowKit Go.Maps
theorem made168 : (Tryz.prog.info? 168).map (fun i => (i.zero, i.size, i.bytes)) = some (some (.slice none 0 0), 1, 24) := by kernel_rfl
/-- A row of 95 numbers below m, in a block of O. -/
def RowOk (w : World) (O : Nat → Prop) (m : Nat) (v : Value) : Prop :=
  ∃ (R : Nat) (f : Nat → Nat), v = .slice (some ⟨R, 0, none⟩) 95 95 ∧ O R ∧ w.heap[R]? = some (.cells ((Array.range 95).map fun j => .int .i64 ((f j : Nat) : Int)) 3 (0, 0)) ∧ ∀ j, j < 95 → f j < m
/-- What walks[set] hands back: what was met, and of each the next ones. -/
def WalkOut (n : Nat) (w : World) (e : Ending) (w' : World) : Prop :=
  ∃ (l : List Nat) (A : Option Addr) (c : Nat) (A2 : Option Addr) (c2 : Nat) (rows : List Value),
    e = .returned (.tuple #[.slice A l.length c, .slice A2 l.length c2, .bool true]) ∧ 0 < l.length ∧ l.length ≤ 2 ^ n ∧ (∀ x ∈ l, x < 2 ^ n) ∧
    w'.ownsRow 0 162 8 (.slice A l.length c) l.length (flat setL l) ∧ w'.ownsRow 0 168 1 (.slice A2 l.length c2) l.length rows ∧
    (∀ v ∈ rows, RowOk w' (fun g => w.heap.size ≤ g) l.length v)

set_option maxRecDepth 8192 in
set_option maxHeartbeats 6400000 in
theorem walk125_any (n x y Bb Bs Bl : Nat) (m : List Bool) (A : Option Addr) (c : Nat) (w : World) (hn : n ≤ 8) (hx : x < 2 ^ n) (hT : TzTab w) (hA : StepsAt w w.heap.size A n n) (hml : m.length = 95)
    (hBb : w.heap[Bb]? = some (.cells (Rx.bcells m) 158 (0, 0))) (hBs : w.heap[Bs]? = some (.cells #[.slice A n c] 156 (0, 0))) (hBl : SetBlk w Bl y) (hy : y < 2 ^ n) :
    Calls Tryz.prog 125 #[.agg (setV x), .func (.func 123) #[] #[.pointer (some ⟨Bb, 0, none⟩), .pointer (some ⟨Bs, 0, none⟩), .pointer (some ⟨Bl, 0, none⟩)], .int .i64 500] w fun e w' =>
      WalkOut n w e w' ∧ Rx.Keep Bl w w' := by
  have hBbl := blk_lt hBb
  have hBsl := blk_lt hBs
  have hBll := blk_lt hBl
  have HT := Lib.hid hT
  have HA := Lib.hid hA
  have HBb := Lib.hid hBb
  have HBs := Lib.hid hBs
  have HBl := Lib.hid hBl
  clear hT hA hBb hBs hBl
  go_enter Tryz.func125, Tryz.ntmps125
  go_upto_region 1 with fail
  have hB256 : 2 ^ n ≤ 256 := Nat.le_trans (Nat.pow_le_pow_right (by decide) hn) (by decide)
  have hx1 := Lib.hid (blk_new w (.cells (setV x) 162))
  have hb1 := Lib.hid ((Below.refl w.heap.size w).alloc (Nat.le_refl _) (.cells (setV x) 162))
  have hs1 : (w.alloc (.cells (setV x) 162)).heap.size = w.heap.size + 1 := by simp
  generalize w.alloc (.cells (setV x) 162) = w1 at hx1 hb1 hs1 ⊢
  have Hs1 := Lib.hid hs1
  clear hs1
  unfold setV at hx1
  have b0 : w1.cell? ⟨w.heap.size, 0, none⟩ = some (.int .u64 x) := blk_cell hx1.out 0
  have b1 : w1.cell? ⟨w.heap.size, 1, none⟩ = some (.int .u64 0) := blk_cell hx1.out 1
  have b2 : w1.cell? ⟨w.heap.size, 2, none⟩ = some (.int .u64 0) := blk_cell hx1.out 2
  have b3 : w1.cell? ⟨w.heap.size, 3, none⟩ = some (.int .u64 0) := blk_cell hx1.out 3
  have b4 : w1.cell? ⟨w.heap.size, 4, none⟩ = some (.int .u64 0) := blk_cell hx1.out 4
  have b5 : w1.cell? ⟨w.heap.size, 5, none⟩ = some (.int .u64 0) := blk_cell hx1.out 5
  have b6 : w1.cell? ⟨w.heap.size, 6, none⟩ = some (.int .u64 0) := blk_cell hx1.out 6
  have b7 : w1.cell? ⟨w.heap.size, 7, none⟩ = some (.int .u64 0) := blk_cell hx1.out 7
  have hmeet := Lib.hid (meet138_any w1.heap.size (2 ^ n) x (w1.alloc (.cells (setV x) 162)) hB256 hx (blk_new _ _))
  have hb2 := Lib.hid (hb1.out.alloc hb1.out.size (.cells (setV x) 162))
  unfold setV at hmeet hb2
  go_wp2_with (go_at_call 138; refine hmeet.out.mono ?_; rintro e w2 ⟨⟨l0, M, rfl, hl0, hmet⟩, hb3⟩; have Hmet := Lib.hid hmet; have Hb3 := Lib.hid hb3; clear hmet hb3)
  go_loopw [10, 11] (fun s10 s11 wr => ∃ (i : Nat) (l : List Nat) (O : Nat → Prop) (A2 : Option Addr) (c2 : Nat) (rows : List Value) (y' : Nat), s10 = .slice A2 i c2 ∧ s11 = .int .i64 i ∧ i ≤ l.length ∧ 0 < l.length ∧ Hid (MetSet wr M O (2 ^ n) l) ∧
    Hid (∀ g, O g → w.heap.size < g ∧ g < wr.heap.size) ∧ Hid (wr.ownsRow 0 168 1 (.slice A2 i c2) i rows) ∧ Hid (∀ g, (Value.slice A2 i c2).ownBlock = some g → w.heap.size < g ∧ ¬ O g) ∧
    Hid (∀ v ∈ rows, RowOk wr (fun g => w.heap.size < g ∧ ¬ O g) l.length v) ∧ Hid (SetBlk wr Bl y') ∧ y' < 2 ^ n ∧ Hid (Rx.Keep Bl w wr)) (fun _ i _ => 2 ^ n + 1 - (intOf i).toNat)
  case atStart =>
    have h1 := hb2.out
    have h3 := Hb3.out
    refine ⟨0, l0, _, none, 0, [], y, rfl, rfl, by omega, hl0, Hmet.out, ?_, World.ownsRow_nil _ _ _ _, ?_, ?_, ?_, hy, ?_⟩
    · intro g hg
      have e1 := Hs1.out
      simp at hg
      omega
    · intro g hg
      simp [Value.ownBlock] at hg
    · intro v hv
      simp at hv
    · exact (h3.block Bl (by have := Hs1.out; simp; omega)).trans ((h1.block Bl hBll).trans HBl.out)
    · exact Rx.Keep.of_below (h1.trans (h3.mono (by have := Hs1.out; simp; omega)))
  case round =>
    clear hmeet hb2 Hmet Hb3 b0 b1 b2 b3 b4 b5 b6 b7
    obtain ⟨i, l, O, A2, c2, rows, y', rfl, rfl, hi, hl0, hmet, hO, hrow2, hown2, hrows, hbl, hy', hK⟩ := hrel
    obtain ⟨Mb, AL, cL, D, hM, hOM, hOMb, hmap, hrow, hAO, hD⟩ := hmet.out.met
    have c1 : wr.cell? ⟨M, 1, none⟩ = some (.slice AL l.length cL) := blk_cell hM 1
    have hlen := hmet.out.len
    by_cases hlt : i < l.length
    · have Hmap := Lib.hid hmap
      have Hrow := Lib.hid hrow
      have HM := Lib.hid hM
      have HAO := Lib.hid hAO
      have HD := Lib.hid hD
      clear hmap hrow hM hAO hD
      obtain ⟨g, cg, xi, hcg, hli, hxi, hat, hcg1, hcg2⟩ := hmet.out.cells hlt
      have e2 : AL = some ⟨g, 0, none⟩ ∧ cL = cg := by
        have := hcg.symm.trans c1
        simp at this
        exact ⟨this.1.symm, this.2.symm⟩
      obtain ⟨rfl, rfl⟩ := e2
      have Hat := Lib.hid hat
      have hmk := make95
      clear hat hcg
      go_upto_region 7 with fail
      clear hmk
      have hRl : Hid (∀ G, O G → w.heap.size < G ∧ G < wr.heap.size) := hO
      have hwS := Lib.hid hK.out.size
      have hR0 : Hid (((wr.alloc (.cells (nums95 fun _ => 0) 3)).heap[wr.heap.size]?) = some (.cells (nums95 fun _ => 0) 3 (0, 0))) := blk_new _ _
      have hm3 := Lib.hid (hmet.out.alloc (.cells (nums95 fun _ => 0) 3))
      have hat3 : Hid (SetAt (wr.alloc (.cells (nums95 fun _ => 0) 3)) g (i * 8) xi) := Hat.out.keep (Below.heap_alloc _ _ _ (by have := (hO.out g (HAO.out g rfl)).2; omega))
      have hk3 : Hid (KeepO (fun _ => False) wr (wr.alloc (.cells (nums95 fun _ => 0) 3))) := KeepO.of_below ((Below.refl _ _).alloc (Nat.le_refl _) _)
      have c3 : (wr.alloc (.cells (nums95 fun _ => 0) 3)).cell? ⟨M, 1, none⟩ = some (.slice (some ⟨g, 0, none⟩) l.length cL) := blk_cell (blk_alloc HM.out _) 1
      have hs3 : Hid ((wr.alloc (.cells (nums95 fun _ => 0) 3)).heap.size = wr.heap.size + 1) := by show _ = _; simp
      obtain ⟨R, hR⟩ : ∃ R, R = wr.heap.size := ⟨_, rfl⟩
      rw [← hR] at hR0 hs3 ⊢
      have HR := Lib.hid hR
      clear hR c1
      generalize wr.alloc (.cells (nums95 fun _ => 0) 3) = w3 at hR0 hm3 hat3 hk3 c3 hs3 ⊢
      have b0 : w3.cell? ⟨g, i * 8, none⟩ = some (.int .u64 xi) := hat3.out.1
      have b1 : w3.cell? ⟨g, i * 8 + 1, none⟩ = some (.int .u64 0) := hat3.out.2 1 (by decide) (by decide)
      have b2 : w3.cell? ⟨g, i * 8 + 2, none⟩ = some (.int .u64 0) := hat3.out.2 2 (by decide) (by decide)
      have b3 : w3.cell? ⟨g, i * 8 + 3, none⟩ = some (.int .u64 0) := hat3.out.2 3 (by decide) (by decide)
      have b4 : w3.cell? ⟨g, i * 8 + 4, none⟩ = some (.int .u64 0) := hat3.out.2 4 (by decide) (by decide)
      have b5 : w3.cell? ⟨g, i * 8 + 5, none⟩ = some (.int .u64 0) := hat3.out.2 5 (by decide) (by decide)
      have b6 : w3.cell? ⟨g, i * 8 + 6, none⟩ = some (.int .u64 0) := hat3.out.2 6 (by decide) (by decide)
      have b7 : w3.cell? ⟨g, i * 8 + 7, none⟩ = some (.int .u64 0) := hat3.out.2 7 (by decide) (by decide)
      go_upto_region 8 with fail
      have hX4 : Hid (SetBlk (w3.alloc (.cells (setV xi) 162)) (R + 1) xi) := by
        have := blk_new w3 (.cells (setV xi) 162)
        rw [hs3.out] at this
        exact this
      have hR4 := Lib.hid (blk_alloc hR0.out (.cells (setV xi) 162))
      have hm4 := Lib.hid (hm3.out.alloc (.cells (setV xi) 162))
      have hk4 := Lib.hid (hk3.out.alloc (.cells (setV xi) 162))
      have hs4 : Hid ((w3.alloc (.cells (setV xi) 162)).heap.size = R + 2) := by
        show _ = _
        rw [World.size_alloc, hs3.out]
      unfold setV at hX4 hR4 hm4 hk4 hs4
      have hs3' : w3.heap.size = R + 1 := hs3.out
      rw [hs3']
      clear hs3' b0 b1 b2 b3 b4 b5 b6 b7 c3
      generalize w3.alloc (.cells #[.int .u64 xi, .int .u64 0, .int .u64 0, .int .u64 0, .int .u64 0, .int .u64 0, .int .u64 0, .int .u64 0] 162) = w4 at hX4 hR4 hm4 hk4 hs4 ⊢
      clear hs3 hk3 hm3 hat3 hR0 hwS hRl Hat hli hcg1 hcg2
      obtain ⟨wo, rfl⟩ : ∃ wo : World, wo = wr := ⟨_, rfl⟩
      go_wp2_with fail
      go_loopw [14, 40] (fun s14 s40 wr => ∃ (s k : Nat) (l2 : List Nat) (O2 : Nat → Prop) (f : Nat → Nat) (x2 y2 : Nat), s14 = .int .i64 k ∧ s40 = .int .i64 s ∧ s ≤ 95 ∧ k < l2.length ∧ Hid (l <+: l2) ∧ Hid (MetSet wr M O2 (2 ^ n) l2) ∧
        Hid (∀ h, O2 h → O h ∨ (R + 2 ≤ h ∧ h < wr.heap.size)) ∧ Hid (wr.heap[R]? = some (.cells (nums95 f) 3 (0, 0))) ∧ Hid (∀ j, j < 95 → f j < l2.length) ∧ Hid (SetBlk wr (R + 1) x2) ∧ x2 < 2 ^ n ∧ Hid (SetBlk wr Bl y2) ∧ y2 < 2 ^ n ∧
        Hid (KeepO (fun h => O h ∨ h = Bl) wo wr) ∧ Hid (R + 2 ≤ wr.heap.size)) (fun _ s _ => 95 - (intOf s).toNat)
      case atStart =>
        refine ⟨0, i, l, O, _, xi, y', rfl, rfl, by omega, hlt, List.prefix_rfl, hm4.out, fun h hh => .inl hh, hR4.out, fun _ _ => hl0, hX4.out, hxi, ?_, hy', ?_, ?_⟩
        · exact (hk4.out.block Bl (by have := hK.out.size; omega) (fun e => e)).trans hbl.out
        · exact ⟨hk4.out.os, hk4.out.tape, hk4.out.output, hk4.out.size, fun g hg _ => hk4.out.block g hg (fun e => e)⟩
        · exact Nat.le_of_eq hs4.out.symm
      case round =>
        clear hX4 hR4 hm4 hk4 hs4
        obtain ⟨s, k, l2, O2, f, x2, y2, rfl, rfl, hs, hk, hpre, hmet2, hO2, hRb, hf, hX, hx2, hbl2, hy2, hK2, hsz⟩ := hrel
        by_cases hs95 : s < 95
        · have hpl := hpre.out.length_le
          obtain ⟨g2, cg2, xi2, hcg2, hli2, hxi2, hat2, hcgl, hcgm⟩ := hmet2.out.cells (show i < l2.length by omega)
          have b0 : wr.cell? ⟨g2, i * 8, none⟩ = some (.int .u64 xi2) := hat2.1
          have b1 : wr.cell? ⟨g2, i * 8 + 1, none⟩ = some (.int .u64 0) := hat2.2 1 (by decide) (by decide)
          have b2 : wr.cell? ⟨g2, i * 8 + 2, none⟩ = some (.int .u64 0) := hat2.2 2 (by decide) (by decide)
          have b3 : wr.cell? ⟨g2, i * 8 + 3, none⟩ = some (.int .u64 0) := hat2.2 3 (by decide) (by decide)
          have b4 : wr.cell? ⟨g2, i * 8 + 4, none⟩ = some (.int .u64 0) := hat2.2 4 (by decide) (by decide)
          have b5 : wr.cell? ⟨g2, i * 8 + 5, none⟩ = some (.int .u64 0) := hat2.2 5 (by decide) (by decide)
          have b6 : wr.cell? ⟨g2, i * 8 + 6, none⟩ = some (.int .u64 0) := hat2.2 6 (by decide) (by decide)
          have b7 : wr.cell? ⟨g2, i * 8 + 7, none⟩ = some (.int .u64 0) := hat2.2 7 (by decide) (by decide)
          have hil2 : (i : Int) < (l2.length : Int) := by omega
          have hKw : ∀ h, h < w.heap.size → h ≠ Bl → wr.heap[h]? = w.heap[h]? := fun h hh hn => (hK2.out.block h (by have := hK.out.size; omega) (fun e => by rcases e with e | e; exact absurd (hO.out h e).1 (by omega); exact hn e)).trans (hK.out.block h hh hn)
          have hfr := step_frame HT.out HA.out HBl.out hKw (by have := hK.out.size; have := hK2.out.size; omega)
          have hBb2 : wr.heap[Bb]? = some (.cells (Rx.bcells m) 158 (0, 0)) := (hKw Bb hBbl (fun e => by have h1 := HBb.out; have h2 := HBl.out; unfold SetBlk at h2; rw [e, h2] at h1; injection h1 with h1; injection h1 with _ h1; cases h1)).trans HBb.out
          have hBs2 : wr.heap[Bs]? = some (.cells #[.slice A n c] 156 (0, 0)) := (hKw Bs hBsl (fun e => by have h1 := HBs.out; have h2 := HBl.out; unfold SetBlk at h2; rw [e, h2] at h1; injection h1 with h1; injection h1 with _ h1; cases h1)).trans HBs.out
          have HC := Lib.hid (step123_any n xi2 s y2 Bb Bs Bl m A c wr hn hxi2 hs95 hfr.1 hfr.2 hml hBb2 hBs2 hbl2.out hy2)
          clear hKw hfr hBb2 hBs2 hat2 hli2 hcgl hcgm
          unfold setV at HC
          go_upto_region 12 with (go_at_call 123; refine HC.out.mono ?_; rintro e w5 ⟨⟨z, hz, rfl, hl5⟩, hk5⟩; have Hl5 := Lib.hid hl5; have Hk5 := Lib.hid hk5; clear hl5 hk5; unfold setV)
          have hBlR : Bl < R := by have := hK.out.size; have := HR.out; omega
          have hRlt : R + 1 < wr.heap.size := hsz.out
          have hOl : ∀ h, O2 h → h < wr.heap.size ∧ h ≠ Bl ∧ h ≠ R ∧ h ≠ R + 1 := fun h hh => by
            have e1 := hK2.out.size
            have e2 := HR.out
            rcases hO2.out h hh with e | e
            · have := hO.out h e
              omega
            · omega
          have hZ : Hid (SetBlk (w5.alloc (.cells (setV z) 162)) w5.heap.size z) := Lib.hid (blk_new _ _)
          have hR6 : Hid ((w5.alloc (.cells (setV z) 162)).heap[R]? = some (.cells (nums95 f) 3 (0, 0))) := blk_alloc ((Hk5.out.block R (by omega) (by omega)).trans hRb.out) _
          have hX6 : Hid (SetBlk (w5.alloc (.cells (setV z) 162)) (R + 1) x2) := blk_alloc ((Hk5.out.block (R + 1) (by omega) (by omega)).trans hX.out) _
          have hbl6 : Hid (SetBlk (w5.alloc (.cells (setV z) 162)) Bl z) := blk_alloc Hl5.out _
          have hm6 : Hid (MetSet (w5.alloc (.cells (setV z) 162)) M O2 (2 ^ n) l2) := (hmet2.out.keep (fun h hh => Hk5.out.block h (hOl h hh).1 (hOl h hh).2.1) (fun _ hh => hh)).alloc _
          have hk6 : Hid (KeepO (fun h => O h ∨ h = Bl) wo (w5.alloc (.cells (setV z) 162))) := KeepO.alloc (hK2.out.trans (KeepO.of_keep (O := fun h => h = Bl) Hk5.out rfl) (fun h _ hh => Or.inr hh)) _
          have hs6 : Hid (R + 2 ≤ w5.heap.size ∧ (w5.alloc (.cells (setV z) 162)).heap.size = w5.heap.size + 1 ∧ wr.heap.size ≤ w5.heap.size) := Lib.hid ⟨by have := Hk5.out.size; omega, World.size_alloc _ _, Hk5.out.size⟩
          have hOZ : Hid (∀ h, O2 h → h ≠ w5.heap.size ∧ h ≠ R ∧ h ≠ R + 1 ∧ h ≠ Bl) := Lib.hid (fun h hh => by have := hOl h hh; have := Hk5.out.size; omega)
          obtain ⟨Z, hZe⟩ : ∃ Z, w5.heap.size = Z := ⟨_, rfl⟩
          rw [hZe] at hZ hs6 hOZ ⊢
          unfold setV at hZ hR6 hX6 hbl6 hm6 hk6 hs6
          clear hZe Hl5 Hk5 HC b0 b1 b2 b3 b4 b5 b6 b7 hcg2 hRb hX hbl2 hmet2 hsz hOl
          generalize w5.alloc (.cells #[.int .u64 z, .int .u64 0, .int .u64 0, .int .u64 0, .int .u64 0, .int .u64 0, .int .u64 0, .int .u64 0] 162) = w6 at hZ hR6 hX6 hbl6 hm6 hk6 hs6 ⊢
          have hE : ∀ wx, (Op.equalIn 10000 162 (.agg (setV z)) (.agg (setV x2))).run Tryz.prog wx = .ok (decide (z = x2)) wx := eq162 z x2
          obtain ⟨bq, hbq⟩ : ∃ bq, decide (z = x2) = bq := ⟨_, rfl⟩
          rw [hbq] at hE
          have Hbq := Lib.hid hbq
          clear hbq
          unfold setV at hE
          unfold SetBlk setV at hZ hX6
          have b0 : w6.cell? ⟨Z, 0, none⟩ = some (.int .u64 z) := blk_cell hZ.out 0
          have b1 : w6.cell? ⟨Z, 1, none⟩ = some (.int .u64 0) := blk_cell hZ.out 1
          have b2 : w6.cell? ⟨Z, 2, none⟩ = some (.int .u64 0) := blk_cell hZ.out 2
          have b3 : w6.cell? ⟨Z, 3, none⟩ = some (.int .u64 0) := blk_cell hZ.out 3
          have b4 : w6.cell? ⟨Z, 4, none⟩ = some (.int .u64 0) := blk_cell hZ.out 4
          have b5 : w6.cell? ⟨Z, 5, none⟩ = some (.int .u64 0) := blk_cell hZ.out 5
          have b6 : w6.cell? ⟨Z, 6, none⟩ = some (.int .u64 0) := blk_cell hZ.out 6
          have b7 : w6.cell? ⟨Z, 7, none⟩ = some (.int .u64 0) := blk_cell hZ.out 7
          have x0 : w6.cell? ⟨R + 1, 0, none⟩ = some (.int .u64 x2) := blk_cell hX6.out 0
          have x1 : w6.cell? ⟨R + 1, 1, none⟩ = some (.int .u64 0) := blk_cell hX6.out 1
          have x2' : w6.cell? ⟨R + 1, 2, none⟩ = some (.int .u64 0) := blk_cell hX6.out 2
          have x3 : w6.cell? ⟨R + 1, 3, none⟩ = some (.int .u64 0) := blk_cell hX6.out 3
          have x4 : w6.cell? ⟨R + 1, 4, none⟩ = some (.int .u64 0) := blk_cell hX6.out 4
          have x5 : w6.cell? ⟨R + 1, 5, none⟩ = some (.int .u64 0) := blk_cell hX6.out 5
          have x6 : w6.cell? ⟨R + 1, 6, none⟩ = some (.int .u64 0) := blk_cell hX6.out 6
          have x7 : w6.cell? ⟨R + 1, 7, none⟩ = some (.int .u64 0) := blk_cell hX6.out 7
          go_upto_if 55 with fail
          clear hE x0 x1 x2' x3 x4 x5 x6 x7
          go_cut [14] (fun s14 wx => ∃ (k' x3 : Nat) (l3 : List Nat) (O3 : Nat → Prop), s14 = .int .i64 k' ∧ k' < l3.length ∧ Hid (l <+: l3) ∧ Hid (l2.length ≤ l3.length) ∧ Hid (MetSet wx M O3 (2 ^ n) l3) ∧ Hid (∀ h, O3 h → O h ∨ (R + 2 ≤ h ∧ h < wx.heap.size)) ∧
            Hid (wx.heap[R]? = some (.cells (nums95 f) 3 (0, 0))) ∧ Hid (SetBlk wx (R + 1) x3) ∧ x3 < 2 ^ n ∧ Hid (SetBlk wx Bl z) ∧ Hid (KeepO (fun h => O h ∨ h = Bl) wo wx) ∧ Hid (R + 2 ≤ wx.heap.size))
          case first =>
            cases bq with
            | true =>
              go_wp2_with fail
              go_meet
              refine ⟨k, x2, l2, O2, rfl, hk, hpre, Nat.le_refl _, hm6, fun h hh => ?_, hR6, hX6, hx2, hbl6, hk6, ?_⟩
              · have e6 := hs6.out
                have e7 := hk6.out.size
                have e8 := HR.out
                rcases hO2.out h hh with e | e
                · exact .inl e
                · exact .inr ⟨e.1, by omega⟩
              · have := hs6.out
                show _ ≤ _
                omega
            | false =>
              have hb6 : Hid (KeepO (fun h => O2 h ∨ h = R + 1) w6 w6.drew) := Lib.hid ((KeepO.refl _ _).drew)
              have hS : Hid (∀ W, KeepO (fun h => O2 h ∨ h = R + 1) w6 W → W.cell? ⟨Z, 0, none⟩ = some (.int .u64 z) ∧ W.cell? ⟨Z, 1, none⟩ = some (.int .u64 0) ∧ W.cell? ⟨Z, 2, none⟩ = some (.int .u64 0) ∧ W.cell? ⟨Z, 3, none⟩ = some (.int .u64 0) ∧ W.cell? ⟨Z, 4, none⟩ = some (.int .u64 0) ∧ W.cell? ⟨Z, 5, none⟩ = some (.int .u64 0) ∧ W.cell? ⟨Z, 6, none⟩ = some (.int .u64 0) ∧ W.cell? ⟨Z, 7, none⟩ = some (.int .u64 0)) := Lib.hid (fun W hW => by
                have hz := (hW.block Z (blk_lt hZ.out) (fun e => by rcases e with e | e; exact (hOZ.out Z e).1 rfl; have := hs6.out; omega)).trans hZ.out
                exact ⟨blk_cell hz 0, blk_cell hz 1, blk_cell hz 2, blk_cell hz 3, blk_cell hz 4, blk_cell hz 5, blk_cell hz 6, blk_cell hz 7⟩)
              have hadd : Hid (Calls Tryz.prog 139 #[.pointer (some ⟨M, 0, none⟩), .agg (setV z)] w6.drew fun e w' => (∃ (l' : List Nat) (j : Nat), e = .returned (.int .i64 j) ∧ j < l'.length ∧ l2 <+: l' ∧ MetSet w' M (fun g => O2 g ∨ (w6.drew.heap.size ≤ g ∧ g < w'.heap.size)) (2 ^ n) l') ∧ KeepO O2 w6.drew w') :=
                Lib.hid (add139_any M (2 ^ n) z O2 l2 w6.drew hB256 hz (by have := hm6.out.len; omega) (hm6.out.keep (fun _ _ => rfl) (fun _ hh => hh)))
              unfold setV at hadd
              clear b0 b1 b2 b3 b4 b5 b6 b7
              go_upto_region 13 with fail
              go_region_held3 (fun W => W.cell? ⟨Z, 0, none⟩ = some (.int .u64 z) ∧ W.cell? ⟨Z, 1, none⟩ = some (.int .u64 0) ∧ W.cell? ⟨Z, 2, none⟩ = some (.int .u64 0) ∧ W.cell? ⟨Z, 3, none⟩ = some (.int .u64 0) ∧ W.cell? ⟨Z, 4, none⟩ = some (.int .u64 0) ∧ W.cell? ⟨Z, 5, none⟩ = some (.int .u64 0) ∧ W.cell? ⟨Z, 6, none⟩ = some (.int .u64 0) ∧ W.cell? ⟨Z, 7, none⟩ = some (.int .u64 0))
                (first | with_reducible exact hS.out _ hb6.out | with_reducible exact hS.out _ hb8.out | with_reducible exact hS.out _ hb8.out.drew | exact hS.out _ ((((((((hb8.out.setCell (p := ⟨R + 1, 0, none⟩) (Or.inr rfl) _).setCell (p := ⟨R + 1, 1, none⟩) (Or.inr rfl) _).setCell (p := ⟨R + 1, 2, none⟩) (Or.inr rfl) _).setCell (p := ⟨R + 1, 3, none⟩) (Or.inr rfl) _).setCell (p := ⟨R + 1, 4, none⟩) (Or.inr rfl) _).setCell (p := ⟨R + 1, 5, none⟩) (Or.inr rfl) _).setCell (p := ⟨R + 1, 6, none⟩) (Or.inr rfl) _).setCell (p := ⟨R + 1, 7, none⟩) (Or.inr rfl) _) | fail)
                (first
                | (go_at_call 139; refine Calls.mono hadd.out ?_; rintro e w8 ⟨⟨l3, j3, rfl, hj3, hp3, hm8⟩, hk8⟩; have Hm8 := Lib.hid hm8; have Hk8 := Lib.hid hk8; have Hp3 := Lib.hid hp3; have hb8 : Hid (KeepO (fun h => O2 h ∨ h = R + 1) w6 w8) := Lib.hid (hb6.out.trans hk8 (fun h _ hh => Or.inl hh)); have hX8 : w8.heap[R + 1]? = some (.cells #[.int .u64 x2, .int .u64 0, .int .u64 0, .int .u64 0, .int .u64 0, .int .u64 0, .int .u64 0, .int .u64 0] 162 (0, 0)) := (hk8.block (R + 1) (blk_lt hX6.out) (fun e => (hOZ.out _ e).2.2.1 rfl)).trans hX6.out; have x0 := blk_cell hX8 0; have x1 := blk_cell hX8 1; have x2' := blk_cell hX8 2; have x3 := blk_cell hX8 3; have x4 := blk_cell hX8 4; have x5 := blk_cell hX8 5; have x6 := blk_cell hX8 6; have x7 := blk_cell hX8 7; have f0 := blk_frozen hX8 0; have f1 := blk_frozen hX8 1; have f2 := blk_frozen hX8 2; have f3 := blk_frozen hX8 3; have f4 := blk_frozen hX8 4; have f5 := blk_frozen hX8 5; have f6 := blk_frozen hX8 6; have f7 := blk_frozen hX8 7; have HX8 := Lib.hid hX8; clear hm8 hk8 hp3 hX8))
              obtain ⟨W, hW, hkS, hS8, hne3⟩ := stored8 z HX8.out
              rw [hW]
              have e1 := hs6.out
              have hlt8 : Z + 1 ≤ w8.heap.size := by
                have := Hk8.out.size
                have e2 : w6.heap.size ≤ w8.heap.size := this
                omega
              have hW8 := hkS.size
              have hK8 : KeepO (fun h => O h ∨ h = Bl) wo W := by
                have hq : KeepO (fun h => O h ∨ h = Bl) wo w8 := hk6.out.drew.trans Hk8.out (fun h hl hh => by
                  rcases hO2.out h hh with e | e
                  · exact Or.inl e
                  · have := HR.out
                    omega)
                refine ⟨hkS.os.trans hq.os, hkS.tape.trans hq.tape, hkS.output.trans hq.output, Nat.le_trans hq.size hW8, fun h hh hn => (hne3 h ?_).trans (hq.block h hh hn)⟩
                have := HR.out
                omega
              have HW := Lib.hid (⟨hkS, hS8, hne3⟩ : KeepO (fun h => h = R + 1) w8 W ∧ SetBlk W (R + 1) z ∧ ∀ h, h ≠ R + 1 → W.heap[h]? = w8.heap[h]?)
              have HlW := Lib.hid (⟨hlt8, hW8, e1⟩ : Z + 1 ≤ w8.heap.size ∧ w8.heap.size ≤ W.heap.size ∧ _)
              have HK8 := Lib.hid hK8
              clear hW x0 x1 x2' x3 x4 x5 x6 x7 f0 f1 f2 f3 f4 f5 f6 f7 hkS hS8 hne3 hlt8 hW8 hK8 e1
              go_wp2_with fail
              go_meet
              obtain ⟨hkS, hS8, hne3⟩ := HW.out
              obtain ⟨hlt8, hW8, e1⟩ := HlW.out
              refine ⟨j3, z, l3, _, rfl, hj3, hpre.out.trans Hp3.out, Hp3.out.length_le, Hm8.out.keep (fun h hh => hne3 h ?_) (fun _ hh => hh), fun h hh => ?_, ?_, hS8, hz, ?_, HK8.out, ?_⟩
              · rcases hh with e | e
                · exact (hOZ.out h e).2.2.1
                · have e2 : w6.heap.size ≤ h := e.1
                  omega
              · rcases hh with e | e
                · rcases hO2.out h e with e | e
                  · exact .inl e
                  · exact .inr ⟨e.1, by omega⟩
                · have e3 : w6.heap.size ≤ h := e.1
                  exact .inr ⟨by omega, Nat.lt_of_lt_of_le e.2 hW8⟩
              · exact (hne3 R (by omega)).trans ((Hk8.out.block R (blk_lt hR6.out) (fun e => (hOZ.out R e).2.1 rfl)).trans hR6.out)
              · exact (hne3 Bl (by omega)).trans ((Hk8.out.block Bl (blk_lt hbl6.out) (fun e => (hOZ.out Bl e).2.2.2 rfl)).trans hbl6.out)
              · show _ ≤ _
                omega
          case rest =>
            obtain ⟨k', x3, l3, O3, rfl, hk3, hp3, hl23, hm3, hO3, hR3, hX3, hx3, hbl3, hK3, hs3⟩ := hcut
            have r0 : wc.cell? ⟨R, s, none⟩ = some (.int .i64 ((f s : Nat) : Int)) := (blk_cell hR3.out s).trans (nums95_get f hs95)
            have q0 : wc.frozen? ⟨R, s, none⟩ = false := blk_frozen hR3.out s
            have hs95' : (s : Int) < 95 := by omega
            go_wp2_with fail
            go_roundw
            case rel =>
              (repeat apply Exists.intro)
              refine ⟨?_, rfl⟩
              have hb : ∀ h, h ≠ R → (wc.setCell ⟨R, s, none⟩ (.int .i64 (k' : Int))).heap[h]? = wc.heap[h]? := fun h hh => Below.heap_setCell wc ⟨R, s, none⟩ _ h hh
              have hOR : ∀ h, O3 h → h ≠ R := fun h hh => by
                have e1 := HR.out
                rcases hO3.out h hh with e | e
                · have := hO.out h e
                  omega
                · omega
              refine ⟨s + 1, k', l3, O3, upd f s k', x3, z, rfl, by go_num, by omega, hk3, hp3, hm3.out.keep (fun h hh => hb h (hOR h hh)) (fun _ hh => hh), fun h hh => ?_, ?_, fun j hj => ?_, (hb (R + 1) (by omega)).trans hX3.out, hx3, (hb Bl (by omega)).trans hbl3.out, hz, ?_, ?_⟩
              · have := hO3.out h hh
                simpa using this
              · have := blk_set_self hR3.out s (.int .i64 (k' : Int))
                rwa [nums95_set] at this
              · have e1 := hf.out j hj
                have e2 := hl23.out
                show upd f s k' j < l3.length
                unfold upd
                split <;> omega
              · exact KeepO.setCells [.int .i64 (k' : Int)] wc s hK3.out (Or.inr (by have := HR.out; omega))
              · have := hs3.out
                show _ ≤ _
                simpa using this
            case measure => simp [intOf]; omega
        · have hs9 : s = 95 := by omega
          subst hs9
          have hpl := hpre.out.length_le
          obtain ⟨g2, cg2, xi2, hcg2, hli2, hxi2, hat2, hcgl, hcgm⟩ := hmet2.out.cells (show i < l2.length by omega)
          have hlen2 := hmet2.out.len
          have h500 : ¬ (500 : Int) < (l2.length : Int) := by omega
          have hil3 : i ≤ l2.length := by omega
          clear hli2 hat2 hcgl hcgm
          obtain ⟨i0, hi0, hz0, hz1, hz2⟩ := info_parts made168
          have hkw : ∀ h, h < wo.heap.size → ¬ O h → h ≠ Bl → wr.heap[h]? = wo.heap[h]? := fun h hh hn hb => hK2.out.block h hh (fun e => by rcases e with e | e; exact hn e; exact hb e)
          have hrow3 : Hid (wr.ownsRow 0 168 1 (.slice A2 i c2) i rows) := row_keep_own hrow2.out (fun g hg => hkw g (hrow2.out.lt g hg).2 (hown2.out g hg).2 (by have := (hown2.out g hg).1; omega))
          have hrowA : Hid ((wr.alloc (.cells #[.slice (some ⟨R, 0, none⟩) 95 95] 168)).ownsRow 0 168 1 (.slice A2 i c2) i rows) := hrow3.out.alloc _
          have hBlR : Bl < R := by have := hK.out.size; have := HR.out; omega
          have hRlt : R + 1 < wr.heap.size := hsz.out
          have hOR : ∀ h, O2 h → h < wr.heap.size ∧ h ≠ Bl ∧ h ≠ R ∧ w.heap.size < h := fun h hh => by
            have e1 := hK2.out.size
            have e2 := HR.out
            have e3 := hK.out.size
            rcases hO2.out h hh with e | e
            · have := hO.out h e
              omega
            · omega
          have HOR := Lib.hid hOR
          have Hkw := Lib.hid hkw
          clear hOR hkw
          go_wp2_with (at_builtin; refine wpList_append_own_at _ rfl _ _ 136 rfl 0 168 i0 (.slice none 0 0) 1 24 Tryz.underlying136 hi0 hz0 hz1 hz2 rfl (by decide) (.slice A2 i c2) i rows rfl hrowA.out ⟨wr.heap.size, 0, none⟩ 1 1 [.slice (some ⟨R, 0, none⟩) 95 95] rfl rfl (cells_blk (blk_new wr _)) (by intro u hu; simp at hu; subst hu; rfl) (by unfold maxLen; omega) (by omega) (Nat.zero_le _) ?_; intro v7 w7 hown7 hg7 hnil7 hloc7; have Hg7 := Lib.hid hg7; have Hloc7 := Lib.hid hloc7; obtain ⟨A7, c8, rfl, hown8⟩ := own_form hown7; have Hown8 := Lib.hid hown8; clear hown7 hown8 hg7 hloc7 hnil7)
          have hg7 : ∀ h, h < wr.heap.size → (h : Nat) ∉ (Value.slice A2 i c2).ownBlock → w7.heap[h]? = wr.heap[h]? := fun h hh hn => (Hg7.out.block h (by simp; omega) (fun e => hn e.symm)).trans (Below.heap_alloc wr _ h hh)
          have hne7 : ∀ h, h ≤ w.heap.size → (h : Nat) ∉ (Value.slice A2 i c2).ownBlock := fun h hh e => by have := (hown2.out h e).1; omega
          have hOn : ∀ h, O2 h → (h : Nat) ∉ (Value.slice A2 i c2).ownBlock := fun h hh e => by
            have e1 := (hrow2.out.lt h e).2
            have e3 := HR.out
            rcases hO2.out h hh with e2 | e2
            · exact (hown2.out h e).2 e2
            · omega
          have hRn : (R : Nat) ∉ (Value.slice A2 i c2).ownBlock := fun e => by
            have e1 := (hrow2.out.lt R e).2
            have e3 := HR.out
            omega
          have hsz7 : wr.heap.size < w7.heap.size := by
            have := Hg7.out.size
            simp at this
            omega
          have hnO2 : ∀ h, h < wo.heap.size → ¬ O h → ¬ O2 h := fun h hh hn e => by
            have e3 := HR.out
            rcases hO2.out h e with e2 | e2
            · exact hn e2
            · omega
          have hwR : w.heap.size < R := by
            have e1 := hO.out M hOM
            have e2 := HR.out
            omega
          have hRow : RowOk w7 (fun g => w.heap.size < g ∧ ¬ O2 g) l2.length (.slice (some ⟨R, 0, none⟩) 95 95) := ⟨R, f, rfl, ⟨hwR, fun e => (HOR.out R e).2.2.1 rfl⟩, (hg7 R (by omega) hRn).trans hRb.out, hf.out⟩
          have hown9 := Hown8
          refine ⟨⟨i + 1, l2, O2, A7, c8, rows ++ [.slice (some ⟨R, 0, none⟩) 95 95], y2, rfl, rfl, by omega, by omega, hmet2.out.keep (fun h hh => hg7 h (HOR.out h hh).1 (hOn h hh)) (fun _ hh => hh), fun h hh => ⟨(HOR.out h hh).2.2.2, by have := (HOR.out h hh).1; omega⟩, hown9, fun h hh => ?_, fun v hv => ?_, (hg7 Bl (by omega) (hne7 Bl (by omega))).trans hbl2.out, hy2, ?_⟩, ?_⟩
          · have hk' : (Value.slice A7 (i + 1) c8).ownBlock = some h := hh
            rcases Hloc7.out with h1 | h1
            · have h2 := hown2.out h (h1 ▸ hk')
              exact ⟨h2.1, hnO2 h (hrow2.out.lt h (h1 ▸ hk')).2 h2.2⟩
            · have e : h = (wr.alloc (.cells #[.slice (some ⟨R, 0, none⟩) 95 95] 168)).heap.size := Option.some.inj (hk'.symm.trans h1)
              simp at e
              exact ⟨by omega, fun e2 => by have := (HOR.out h e2).1; omega⟩
          · rcases List.mem_append.1 hv with h1 | h1
            · obtain ⟨R', f', rfl, ⟨hR1, hR2⟩, hRb', hRf⟩ := hrows.out v h1
              have hRl := blk_lt hRb'
              have hne : R' ∉ (Value.slice A2 i c2).ownBlock := fun e => own_ne hrow2.out hRb' (by decide) e
              exact ⟨R', f', rfl, ⟨hR1, hnO2 R' hRl hR2⟩, (hg7 R' (by have := hK2.out.size; omega) hne).trans ((Hkw.out R' hRl hR2 (by omega)).trans hRb'), fun j hj => by have := hRf j hj; omega⟩
            · simp at h1
              subst h1
              exact hRow
          · exact ⟨by rw [Hg7.out.os]; exact hK2.out.os.trans hK.out.os, by rw [Hg7.out.tape]; exact hK2.out.tape.trans hK.out.tape, by rw [Hg7.out.output]; exact hK2.out.output.trans hK.out.output, by have := hK.out.size; have := hK2.out.size; omega, fun h hh hb => by
              have e1 := hK.out.size
              have e2 := hK2.out.size
              exact (hg7 h (by omega) (hne7 h (by omega))).trans ((Hkw.out h (by omega) (fun e => by have := (hO.out h e).1; omega) hb).trans (hK.out.block h hh hb))⟩
          · simp [intOf]
            omega
    · have hil : i = l.length := by omega
      subst hil
      go_wp2_with fail
      go_ret3
      refine ⟨⟨l, AL, cL, A2, c2, rows, rfl, hl0, hlen, hD.all, hrow, hrow2.out, ?_⟩, hK.out⟩
      intro v hv
      obtain ⟨R, f, rfl, hR, hRb, hRf⟩ := hrows.out v hv
      exact ⟨R, f, rfl, by omega, hRb, hRf⟩
end Go.Proofs.YtghlodpbbghcoaaGreatDoor
