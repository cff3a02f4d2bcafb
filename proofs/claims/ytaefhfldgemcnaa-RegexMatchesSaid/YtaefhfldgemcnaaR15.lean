/- Walks over expressions, fifteenth part: Match. -/
import Derived.Test.YtaefhfldgemcnaaR14
import Derived.Deep.RegionWith
import Derived.Deep.RegionHeld3
import Derived.Deep.AppendLies
import Derived.Deep.RegionLaw
namespace Go.Proofs.Ytaefhfldgemcnaa
open Go.RowKit

theorem ret_match {n : Net} {s : List UInt8} {b : Bool} (h : (b = true ↔ AccP n s)) : b = accB n s := by
  cases hb : b with
  | true => exact (accB_yes (h.1 hb)).symm
  | false => exact (accB_no (fun h' => by have := h.2 h'; rw [hb] at this; cases this)).symm

theorem own_same (A : Option Addr) (n c m d : Nat) : (Value.slice A n c).ownBlock = (Value.slice A m d).ownBlock := by cases A <;> rfl

set_option maxRecDepth 8192 in
set_option maxHeartbeats 12800000 in
theorem match_any (g : Nat) (ty : TypeId) (u : Value) (t : T) (s : ByteArray) (w : World) (hg : w.heap[g]? = some (.cells #[.iface ty u] 80 (0, 0))) (hp : PartAt w (· < w.heap.size) (.iface ty u) t) (hts : t.size ≤ 1000) (hs : s.size ≤ 1000) :
    Calls Try.prog 32 #[.pointer (some ⟨g, 0, none⟩), .string s] w fun e w' => e = .returned (.bool (accB (netN t) s.data.toList)) ∧ Below w.heap.size w w' := by
  have HN := Lib.hid (net_any g ty u t w hg hp hts)
  have hf := netT_facts t
  obtain ⟨st, hst⟩ : ∃ st, (netT t).1 = st := ⟨_, rfl⟩
  obtain ⟨es, hes⟩ : ∃ es, (netT t).2 = es := ⟨_, rfl⟩
  have HNet : Hid (netN t = ⟨(st : Int), 0, 1, es⟩) := by show _ = _; unfold netN; rw [hst, hes]
  unfold NetGot at HN
  rw [hst, hes] at hf HN
  obtain ⟨h2, hst2, hein, hel⟩ := hf
  have hesl : es.length ≤ 95000 := by omega
  have hstl : st ≤ 2001 := by omega
  have Hein := Lib.hid hein
  have Hes : Hid (∀ e ∈ es, e.ok (st : Int) = true) := fun e he => (hein e he).1
  clear hst hes hp hg hein hel hst2 hts
  have hmk := run_make_row' (P := Try.prog) 85 22 (.slice none 0 0) 24 Try.underlying85 info22 rfl .i64 .i64 st (by omega) (by omega)
  go_enter Try.func32, Try.ntmps32
  go_wp2_with fail
  refine HN.out.mono ?_
  rintro e w1 ⟨⟨A, c, rfl, hE⟩, hb1⟩
  have hz1 := hb1.size
  go_upto_region 3 with fail
  have hOr : ((w1.alloc (.cells #[.int .i64 st, .int .i64 0, .int .i64 1, .slice A es.length c] 24)).alloc (.cells (madeCells #[.slice none 0 0] st) 22)).rowIs (w1.heap.size + 1) 22 st (fun _ => .slice none 0 0) := by
    have := World.rowIs_made (w1.alloc (.cells #[.int .i64 st, .int .i64 0, .int .i64 1, .slice A es.length c] 24)) (.slice none 0 0) st 22
    simpa using this
  have hbx0 : ((w1.alloc (.cells #[.int .i64 st, .int .i64 0, .int .i64 1, .slice A es.length c] 24)).alloc (.cells (madeCells #[.slice none 0 0] st) 22)).heap[w1.heap.size]? = some (.cells #[.int .i64 st, .int .i64 0, .int .i64 1, .slice A es.length c] 24 (0, 0)) := blk_alloc (blk_new _ _) _
  have hb2 : Below (w1.heap.size + 1) (w1.alloc (.cells #[.int .i64 st, .int .i64 0, .int .i64 1, .slice A es.length c] 24)) ((w1.alloc (.cells #[.int .i64 st, .int .i64 0, .int .i64 1, .slice A es.length c] 24)).alloc (.cells (madeCells #[.slice none 0 0] st) 22)) := (Below.refl _ _).alloc (by simp) _
  have hb3 : Below w1.heap.size w1 ((w1.alloc (.cells #[.int .i64 st, .int .i64 0, .int .i64 1, .slice A es.length c] 24)).alloc (.cells (madeCells #[.slice none 0 0] st) 22)) := ((Below.refl _ _).alloc (Nat.le_refl _) _).alloc (by simp) _
  have hz2 : ((w1.alloc (.cells #[.int .i64 st, .int .i64 0, .int .i64 1, .slice A es.length c] 24)).alloc (.cells (madeCells #[.slice none 0 0] st) 22)).heap.size = w1.heap.size + 2 := by simp
  clear hmk
  generalize (w1.alloc _).alloc _ = W2 at hOr hbx0 hb2 hb3 hz2 ⊢
  have HE : Hid (EdgesAt W2 w1.heap.size A es) := hE.below hb3
  have HW2 : Hid (Below w.heap.size w W2) := hb1.trans (hb3.mono hz1)
  have HBX := Lib.hid hbx0
  have HOB := Lib.hid (OutB.start hOr)
  have m3 : W2.cell? ⟨w1.heap.size, 3, none⟩ = some (.slice A es.length c) := blk_cell hbx0 3
  obtain ⟨B, hB⟩ : ∃ B, w1.heap.size = B := ⟨_, rfl⟩
  obtain ⟨N, hN⟩ : ∃ N, w.heap.size = N := ⟨_, rfl⟩
  rw [hB] at HE HBX HOB m3 hz2 hz1 ⊢
  rw [hN] at HW2 hz1
  have HNw := Lib.hid hN
  clear hOr hbx0 hb2 hb3 hE hb1 HN hB hN
  go_wp2_with fail
  go_loopg [26] es.length (fun q x wr => ∃ (k : Nat) (R : Nat → Value), x = .int .i64 k ∧ q = es.length - k ∧ k ≤ es.length ∧ Hid (OutB wr (B + 1) st (es.take k) R) ∧ Hid (Below (B + 1) W2 wr))
  case atStart => exact ⟨0, _, rfl, rfl, Nat.zero_le _, HOB, Below.refl _ _⟩
  case round =>
    clear HOB m3
    obtain ⟨k, R, rfl, rfl, hk, hob, hb⟩ := hrel
    have hzb := hb.out.size
    by_cases hlt : k < es.length
    · have hlti : (k : Int) < (es.length : Int) := by omega
      obtain ⟨bb, o, e, rfl, hbb, he, e0, e1, e2, e3⟩ := edge_at HE.out (hb.out.mono (by omega)) hlt
      have hok := ok_iff.1 (Hes.out e (List.mem_of_getElem? he.out))
      obtain ⟨fn, hfn⟩ := Int.eq_ofNat_of_zero_le hok.1.1
      have hfs : fn < st := by omega
      rw [hfn] at e0
      obtain ⟨AR, cR, hRf, hRo⟩ := hob.out.row fn hfs
      have hoc : wr.cell? ⟨B + 1, fn, none⟩ = some (.slice AR (rowQ (es.take k) fn).length cR) := by rw [← hRf]; exact hob.out.out.cell hfs
      have hof := hob.out.out.frozen fn
      have hOl := hob.out.out.lt
      have hrl : (rowQ (es.take k) fn).length ≤ 95000 := by
        have := rowQ_length (es.take k) fn
        rw [List.length_take] at this
        omega
      obtain ⟨nR, hnR⟩ : ∃ nR, (rowQ (es.take k) fn).length = nR := ⟨_, rfl⟩
      rw [hnR] at hRf hRo hoc hrl
      have HnR := Lib.hid hnR
      have HRf := Lib.hid hRf
      have HT := Lib.hid (take_snoc he.out)
      have Hfn := Lib.hid hfn
      clear hok hfn hRf he hnR
      go_upto_region 6 with fail
      have hbxe : (wr.alloc (.cells #[.int .i64 fn, .int .i64 e.to, .int .u8 e.low, .int .u8 e.high] 35)).heap[wr.heap.size]? = some (.cells #[.int .i64 fn, .int .i64 e.to, .int .u8 e.low, .int .u8 e.high] 35 (0, 0)) := blk_new _ _
      have HRo := Lib.hid (hRo.alloc (.cells #[.int .i64 fn, .int .i64 e.to, .int .u8 e.low, .int .u8 e.high] 35))
      have HOB := Lib.hid (hob.out.alloc (.cells #[.int .i64 fn, .int .i64 e.to, .int .u8 e.low, .int .u8 e.high] 35))
      have HBW := Lib.hid (hb.out.alloc (by omega) (.cells #[.int .i64 fn, .int .i64 e.to, .int .u8 e.low, .int .u8 e.high] 35))
      have hbz : (wr.alloc (.cells #[.int .i64 fn, .int .i64 e.to, .int .u8 e.low, .int .u8 e.high] 35)).heap.size = wr.heap.size + 1 := by simp
      have hlO : (Value.slice AR nR cR).ownBlock ≠ some (B + 1) := own_ne_lt hRo (Nat.lt_succ_self _)
      have hlX : (Value.slice AR nR cR).ownBlock ≠ some wr.heap.size := fun h => by have := hRo.lt _ h; omega
      clear e0 e1 e2 e3 hoc hof hRo hob hb
      generalize wr.alloc _ = Wb at hbxe HRo HOB HBW hbz ⊢
      have hoc : Wb.cell? ⟨B + 1, fn, none⟩ = some (.slice AR nR cR) := by rw [← HRf.out]; exact HOB.out.out.cell hfs
      have hof : Wb.frozen? ⟨B + 1, fn, none⟩ = false := HOB.out.out.frozen fn
      have p0 : Wb.cell? ⟨wr.heap.size, 0, none⟩ = some (.int .i64 fn) := blk_cell hbxe 0
      have p1 : Wb.cell? ⟨wr.heap.size, 1, none⟩ = some (.int .i64 e.to) := blk_cell hbxe 1
      have p2 : Wb.cell? ⟨wr.heap.size, 2, none⟩ = some (.int .u8 e.low) := blk_cell hbxe 2
      have p3 : Wb.cell? ⟨wr.heap.size, 3, none⟩ = some (.int .u8 e.high) := blk_cell hbxe 3
      obtain ⟨i0, hi0, hz0, hz1, hzz2⟩ := info_parts info35
      have hx0 : wr.heap.size < Wb.heap.size := by omega
      have hx1 : B + 1 < Wb.heap.size := by omega
      have hfi0 : (0 : Int) ≤ (fn : Int) := by omega
      have hfi1 : (fn : Int) < (st : Int) := by omega
      have hQ : ∀ o : Obj, (Wb.alloc o).cell? ⟨B + 1, fn, none⟩ = some (.slice AR nR cR) ∧ (Wb.alloc o).frozen? ⟨B + 1, fn, none⟩ = false := fun o =>
        ⟨by rw [← HRf.out]; exact (HOB.out.alloc o).out.cell hfs, (HOB.out.alloc o).out.frozen fn⟩
      have HQ := Lib.hid hQ
      have hQ1 := fun o => (HQ.out o).1
      have hQ2 := fun o => (HQ.out o).2
      have hQ0 : ∀ o : Obj, (Wb.alloc o).cell? ⟨wr.heap.size, 0, none⟩ = some (.int .i64 fn) := fun o => (World.cell?_alloc_lt _ _ _ (by simpa using hx0)).trans p0
      have HAN : Hid (∀ o : Obj, (Wb.alloc o).heap[wr.heap.size + 1]? = some o) := fun o => by rw [← hbz]; exact blk_new Wb o
      clear hbxe hQ
      have hEC : edgeCells e = [.int .i64 fn, .int .i64 e.to, .int .u8 e.low, .int .u8 e.high] := by unfold edgeCells; rw [Hfn.out]
      have HEC := Lib.hid hEC
      clear hEC
      have hk1 : k + 1 ≤ es.length := by omega
      have hms : es.length - (k + 1) < es.length - k := by omega
      have HKK : Hid (Value.int .i64 ((k : Int) + 1) = .int .i64 ((k + 1 : Nat) : Int)) := by show _ = _; go_num
      have HPUSH : Hid (∀ (gg cap : Nat) (w5 : World), w5.ownsRow (B + 1 + 1) 35 4 (.slice (some ⟨gg, 0, none⟩) (nR + 1) cap) (nR + 1) (flat edgeCells (rowQ (es.take k) fn) ++ [.int .i64 fn, .int .i64 e.to, .int .u8 e.low, .int .u8 e.high]) →
          (Wb.alloc (.cells #[.int .i64 fn, .int .i64 e.to, .int .u8 e.low, .int .u8 e.high] 35)).grownBy w5 (Value.slice AR nR cR).ownBlock → ((Value.slice AR nR cR).ownBlock = some gg ∨ gg = wr.heap.size + 1 + 1) →
          Hid (OutB (w5.setCell ⟨B + 1, fn, none⟩ (.slice (some ⟨gg, 0, none⟩) (nR + 1) cap)) (B + 1) st (es.take (k + 1)) (fun x => if x = fn then .slice (some ⟨gg, 0, none⟩) (nR + 1) cap else R x)) ∧
          Hid (Below (B + 1) W2 (w5.setCell ⟨B + 1, fn, none⟩ (.slice (some ⟨gg, 0, none⟩) (nR + 1) cap)))) := fun gg cap w5 hown5 hg5 hat => by
        refine ⟨?_, ?_⟩
        · show OutB _ _ _ _ _
          rw [HT.out]
          exact OutB.push (HOB.out.alloc _) e Hfn.out hfs HRf.out (by rw [HEC.out]; exact hown5) hg5 (fun x hx => by
            have hx' : gg = x := by simpa [Value.ownBlock] using hx
            rw [← hx']
            rcases hat with h1 | h1
            · exact .inl h1
            · exact .inr (by simp; omega))
        · exact (HBW.out.trans (((Below.refl _ _).alloc (by omega) _).trans (grown_below hg5 (by simp; omega) (fun g hg => by have := HRo.out.lt g hg; omega)))).setCell (p := ⟨B + 1, fn, none⟩) (Nat.le_refl _) _
      go_region_law
        ((refine step_append_lies _ (by rfl) _ _ _ (by rfl) (B + 1 + 1) 35 i0 _ 4 24 Try.underlying22 hi0 hz0 hz1 hzz2 rfl (by omega) (.slice AR nR cR) nR _ (by rfl) ((HRo.out.alloc _).drew)
            ⟨wr.heap.size + 1, 0, none⟩ 1 1 [.int .i64 fn, .int .i64 e.to, .int .u8 e.low, .int .u8 e.high] (by rfl) (by rfl) (World.news_of_block (cs := #[.int .i64 fn, .int .i64 e.to, .int .u8 e.low, .int .u8 e.high]) (t := 35) (fr := (0, 0)) (HAN.out _)) (by simp [Value.oneCell'])
            (by omega) (by unfold maxLen; omega) (by omega) (by simp; omega) (wr.heap.size + 1 + 1) (by simp; omega) ?_; intro gg cap w5 hown5 hgrow hat hlt5; have hc5 : w5.cell? ⟨B + 1, fn, none⟩ = some (.slice AR nR cR) := (hgrow.cell_far _ (by simp; omega) (Ne.symm hlO)).trans (HQ.out _).1; have hp5 : w5.cell? ⟨wr.heap.size, 0, none⟩ = some (.int .i64 fn) := (hgrow.cell_far _ (by simp; omega) (Ne.symm hlX)).trans (hQ0 _); have hf5 : w5.frozen? ⟨B + 1, fn, none⟩ = false := (hgrow.frozen_far _ (by simp; omega) (Ne.symm hlO)).trans (HQ.out _).2))
      all_goals
        go_wp2_with fail
        go_roundg (es.length - (k + 1))
        case rel => exact ⟨k + 1, _, HKK.out, rfl, hk1, HPUSH.out _ _ _ hown5 ⟨hgrow.os, hgrow.tape, hgrow.output, hgrow.size, hgrow.block⟩ hat⟩
        case measure => exact hms
    · obtain rfl : k = es.length := by omega
      have HO1 : Hid (OutAt wr (B + 1) st es R) := by have := hob.out.at_; rwa [List.take_length] at this
      have hmk2 := run_make_row' (P := Try.prog) 36 3 (.int .i64 0) 8 Try.underlying36 info3 rfl .i64 .i64 st (by omega) (by omega)
      have hbxr := blk_below HBX.out hb.out (Nat.lt_succ_self B)
      have m0 : wr.cell? ⟨B, 0, none⟩ = some (.int .i64 st) := blk_cell hbxr 0
      have hbse : MBase N B (B + 1) st es R A c w wr := ⟨HW2.out.trans (hb.out.mono (by omega)), hbxr, HO1.out⟩
      have Hbse := Lib.hid hbse
      clear hbse hob hb hbxr
      obtain ⟨S, hS⟩ : ∃ S, wr.heap.size = S := ⟨_, rfl⟩
      have hNS : N ≤ S := by omega
      go_upto_region 9 with fail
      have hSr : (wr.alloc (.cells (madeCells #[.int .i64 0] st) 3)).rowIs wr.heap.size 3 st (fun _ => .int .i64 0) := World.rowIs_made _ _ _ _
      have hB3 := Hbse.out.alloc (by omega) (.cells (madeCells #[.int .i64 0] st) 3)
      have hz3 : wr.heap.size < (wr.alloc (.cells (madeCells #[.int .i64 0] st) 3)).heap.size := by simp
      rw [hS] at hSr hz3
      have HS := Lib.hid hS
      clear hmk2 m0 Hbse hS
      generalize wr.alloc _ = W3 at hSr hB3 hz3 ⊢
      have m1 : W3.cell? ⟨B, 1, none⟩ = some (.int .i64 0) := blk_cell hB3.box 1
      have s0 : W3.cell? ⟨S, 0, none⟩ = some (.int .i64 0) := hSr.cell (by omega)
      have sf : W3.frozen? ⟨S, 0, none⟩ = false := hSr.frozen 0
      have hst0 : (0 : Int) < (st : Int) := by omega
      have HSr := Lib.hid hSr
      have HB3 := Lib.hid hB3
      clear hSr hB3
      go_upto_region 10 with fail
      have hr4 : (W3.setCell ⟨S, 0, none⟩ (.int .i64 1)).rowIs S 3 st (fun q => .int .i64 ((fun q => if q = 0 then 1 else 0 : Nat → Int) q)) := by
        refine World.rowIs.congr (HSr.out.set 0 (.int .i64 1)) ?_
        intro x _
        by_cases hx : x = 0 <;> simp [hx]
      have hB4 := HB3.out.set HSr.out hNS 0 (.int .i64 1)
      have hz4 : S < (W3.setCell ⟨S, 0, none⟩ (.int .i64 1)).heap.size := by simpa using hz3
      clear s0 sf m1 HSr HB3 hz3
      generalize World.setCell W3 _ _ = W4 at hr4 hB4 hz4 ⊢
      have m1 : W4.cell? ⟨B, 1, none⟩ = some (.int .i64 0) := blk_cell hB4.box 1
      have hl5 : (W4.alloc (.cells #[.int .i64 0] 3)).ownsRow 0 3 1 (.slice (some ⟨W4.heap.size, 0, none⟩) 1 1) 1 (ints [0]) := ⟨rfl, .inr ⟨W4.heap.size, 1, _, rfl, Nat.zero_le _, blk_new _ _, Nat.le_refl _, by unfold maxLen; omega, rfl, rfl⟩⟩
      have hneS : (Value.slice (some ⟨W4.heap.size, 0, none⟩) 1 1).ownBlock ≠ some S := by simp [Value.ownBlock]; omega
      have hv5 : OwnV (W4.alloc (.cells #[.int .i64 0] 3)) N S (.slice (some ⟨W4.heap.size, 0, none⟩) 1 1) [0] := ⟨hl5, fun g hg => by simp [Value.ownBlock] at hg; omega, hneS⟩
      have hB5 := hB4.alloc (by omega) (.cells #[.int .i64 0] 3)
      have hr5 := rowIs_alloc hr4 (.cells #[.int .i64 0] 3)
      have hC := rxClosed_any (B + 1) S st 1 st 1 es R 1 _ [0] _ _ rfl hB5.out hr5 hl5 hneS (by
        intro q hq
        by_cases h0 : q = 0
        · subst h0; simp
        · simp [h0]) (by simp) (by intro q hq; simp at hq; omega) Hes.out (by omega) (by omega)
      have HC := Lib.hid hC
      have HB5 := Lib.hid hB5
      have Hv5 := Lib.hid hv5
      have Hr5 := Lib.hid hr5
      have hz5 : (W4.alloc (.cells #[.int .i64 0] 3)).heap.size = W4.heap.size + 1 := by simp
      clear hC hB5 hv5 hr5 hl5 hr4 hB4 hneS
      go_wp2_with fail
      generalize W4.alloc _ = W5 at HC HB5 Hv5 Hr5 hz5 ⊢
      refine HC.out.mono ?_
      rintro e w6 ⟨A6, ys6, c6, sv6, rfl, ho6, hr6, hs6, hci6, hne6, hnw6, ht6, hO6⟩
      have hz6 := ht6.out.size
      have HB6 := Lib.hid (HB5.out.touch Hr5.out Hv5.out ht6.out (by omega) hNS hO6.out)
      have Hv6 : Hid (OwnV w6 N S (.slice A6 ys6.length c6) ys6) := ⟨ho6.out, fun g hg => by
        rcases hnw6.out g hg with h1 | h1
        · exact Hv5.out.ge g h1
        · omega, hne6.out⟩
      have Hset6 : Hid (∀ q, q ∈ ys6 ↔ Run (netN t) (s.data.toList.take 0) (start0 (netN t)) q) := fun q => by
        rw [hci6.out.done (Nat.le_refl _) q, HNet.out]
        show _ ↔ Eps Edge.none_ es (fun q => q = 0) q
        exact ⟨Eps_mono (fun q h => by simpa using h), Eps_mono (fun q h => by simpa using h)⟩
      have Hnr6 : Hid (ys6.Nodup ∧ ∀ q ∈ ys6, 0 ≤ q ∧ q < (st : Int)) := ⟨hci6.out.nodup, hci6.out.rng⟩
      have Hs6 : Hid (SeenOk st sv6 (((0 : Nat) : Int) + 1) ys6) := by show SeenOk _ _ _ _; simpa using hs6.out
      have hx6 : Hid (OwnV w6 N S (.slice none 0 0) []) := ⟨World.ownsRow_nil _ _ _ _, fun g hg => by simp [Value.ownBlock] at hg, by simp [Value.ownBlock]⟩
      have hNw6 : N ≤ w6.heap.size := by omega
      have HSl : S < w6.heap.size := by omega
      clear HC HB5 Hv5 Hr5 ho6 hs6 hci6 hne6 hnw6 ht6 hO6 hz5 hz6 hz4 m1
      go_wp2_with fail
      go_loopg [10, 11, 12] s.size (fun q nv xv iv wr => ∃ (k : Nat) (ys zs : List Int) (sv : Nat → Int), iv = .int .i64 k ∧ q = s.size - k ∧ k ≤ s.size ∧ N ≤ wr.heap.size ∧ S < wr.heap.size ∧ Hid (MBase N B (B + 1) st es R A c w wr) ∧ Hid (OwnV wr N S nv ys) ∧ Hid (OwnV wr N S xv zs) ∧
          Hid (∀ g, nv.ownBlock = some g → xv.ownBlock ≠ some g) ∧ Hid (wr.rowIs S 3 st (fun q => .int .i64 (sv q))) ∧ Hid (SeenOk st sv ((k : Int) + 1) ys) ∧ Hid (∀ q, q ∈ ys ↔ Run (netN t) (s.data.toList.take k) (start0 (netN t)) q) ∧ Hid (ys.Nodup ∧ ∀ q ∈ ys, 0 ≤ q ∧ q < (st : Int)))
      case atStart => exact ⟨0, ys6, [], sv6, rfl, rfl, Nat.zero_le _, hNw6, HSl, HB6, Hv6, hx6, fun g _ hg => by simp [Value.ownBlock] at hg, hr6, Hs6, Hset6, Hnr6⟩
      case round =>
        clear HB6 Hv6 Hset6 Hnr6 Hs6 hx6 hr6 hNw6 HSl HBX HE HO1 hzb hlt HS
        obtain ⟨k, ys, zs0, sv0, rfl, rfl, hk, hNr, hSr, hbs, hnow, hnext, hdis, hrow, hsn, hset, hnr⟩ := hrel
        obtain ⟨An, cn, rfl, hnow'⟩ := hnow.out.form
        obtain ⟨Ax, cx, rfl, hnext'⟩ := hnext.out.form
        have Hnow := Lib.hid hnow'
        have Hnext := Lib.hid hnext'
        clear hnow hnext hnow' hnext'
        have hyl : ys.length ≤ st := nodup_range st hnr.out.1 hnr.out.2
        by_cases hlt : k < s.size
        · have hlti : (k : Int) < (s.size : Int) := by omega
          rcases Nat.eq_zero_or_pos ys.length with h0 | h0
          · have hval : accB (netN t) s.data.toList = false := accB_no fun h => by
              unfold AccP at h
              rw [← List.take_append_drop k s.data.toList, Run_append] at h
              refine Run_empty (fun q hq => ?_) _ h
              have := (hset.out q).2 hq
              rw [List.eq_nil_of_length_eq_zero h0] at this
              cases this
            have Hval := Lib.hid hval
            clear hval
            go_wp2_with fail
            go_ret
            exact ⟨ret_bool Hval.out.symm, by rw [HNw.out]; exact hbs.out.below⟩
          · have hd0 : ((ys.length : Int) == 0) = false := beq_eq_false_iff_ne.2 (by omega)
            obtain ⟨cb, hcb⟩ : ∃ cb : UInt8, s[k] = cb := ⟨_, rfl⟩
            have hgk : s.data.toList[k]? = some cb := by rw [← hcb]; exact Lib.data_getElem? s k hlt
            have Hgk := Lib.hid hgk
            have hx0 : Hid (OwnV wr N S (.slice Ax 0 cx) []) := ⟨by have := own_take Hnext.out.own (Nat.zero_le _); simpa using this, fun g hg => Hnext.out.ge g ((own_same _ _ _ _ _).trans hg), fun hg => Hnext.out.neS ((own_same _ _ _ _ _).trans hg)⟩
            have hsk2 : (k : Int) + 1 < (k : Int) + 2 := by omega
            have hs0 : Hid (SeenOk st sv0 ((k : Int) + 2) []) := hsn.out.fresh hsk2
            have hd00 : Hid (∀ g, (Value.slice An ys.length cn).ownBlock = some g → (Value.slice Ax 0 cx).ownBlock ≠ some g) := fun g h1 h2 => hdis.out g h1 ((own_same _ _ _ _ _).trans h2)
            have hst00 : Hid (∀ x, x ∈ ([] : List Int) ↔ StepP es cb.toNat (· ∈ ys.take 0) x) := fun x => by unfold StepP; simp
            clear hgk
            clear Hnext hdis hsn
            go_wp2_with fail
            obtain ⟨wo, rfl⟩ : ∃ wo : World, wo = wr := ⟨_, rfl⟩
            go_loopg [11, 71] ys.length (fun q xv mv wr => ∃ (m : Nat) (zs : List Int) (sv : Nat → Int), mv = .int .i64 m ∧ q = ys.length - m ∧ m ≤ ys.length ∧ N ≤ wr.heap.size ∧ S < wr.heap.size ∧ Hid (MBase N B (B + 1) st es R A c w wr) ∧ Hid (OwnV wr N S (.slice An ys.length cn) ys) ∧ Hid (OwnV wr N S xv zs) ∧
                Hid (∀ g, (Value.slice An ys.length cn).ownBlock = some g → xv.ownBlock ≠ some g) ∧ Hid (wr.rowIs S 3 st (fun q => .int .i64 (sv q))) ∧ Hid (SeenOk st sv ((k : Int) + 2) zs) ∧ Hid (∀ x, x ∈ zs ↔ StepP es cb.toNat (· ∈ ys.take m) x) ∧ Hid (zs.Nodup ∧ ∀ q ∈ zs, 0 ≤ q ∧ q < (st : Int)))
            case atStart => exact ⟨0, [], sv0, rfl, rfl, Nat.zero_le _, hNr, hSr, hbs, Hnow, hx0, hd00, hrow, hs0, hst00, List.nodup_nil, fun q hq => by simp at hq⟩
            case round =>
              clear hx0 hd00 hrow hs0 hst00 hbs Hnow hNr hSr
              obtain ⟨m, zs1, sv1, rfl, rfl, hm, hNr, hSr, hbs, Hnow, Hnext, hdis, hrow, hsn, hstp, hznr⟩ := hrel
              by_cases hml : m < ys.length
              · have hmli : (m : Int) < (ys.length : Int) := by omega
                obtain ⟨b4, o4, q, rfl, hb4, hq, hcell⟩ := int_at (CellsAt.of_own Hnow.out.own) (Below.refl _ _) hml
                have hqr := hnr.out.2 q (List.mem_of_getElem? hq.out)
                obtain ⟨qn, rfl⟩ := Int.eq_ofNat_of_zero_le hqr.1
                have hqs : qn < st := by omega
                obtain ⟨AR, cR, hRq, hRo⟩ := hbs.out.out.row qn hqs
                have hoc : wr.cell? ⟨B + 1, qn, none⟩ = some (.slice AR (rowQ es qn).length cR) := by rw [← hRq]; exact hbs.out.out.out.cell hqs
                have hmr : MRow es st cb.toNat (ys.take m) qn 0 zs1 := MRow.start hznr.out.1 hznr.out.2 hstp.out
                have Hmr := Lib.hid hmr
                have hrl := rowQ_length es qn
                have HRq := Lib.hid hRq
                obtain ⟨rw', hrw⟩ : ∃ rw', rowQ es qn = rw' := ⟨_, rfl⟩
                rw [hrw] at hoc hrl hRo
                have Hrw := Lib.hid hrw
                clear hmr hRq hRo hrw hqr
                go_wp2_with fail
                obtain ⟨wi, rfl⟩ : ∃ wi : World, wi = wr := ⟨_, rfl⟩
                go_loopg [11, 80] rw'.length (fun q xv jv wr => ∃ (j : Nat) (zs : List Int) (sv : Nat → Int), jv = .int .i64 j ∧ q = rw'.length - j ∧ j ≤ rw'.length ∧ N ≤ wr.heap.size ∧ S < wr.heap.size ∧ Hid (MBase N B (B + 1) st es R A c w wr) ∧ Hid (OwnV wr N S (.slice (some ⟨b4, o4, none⟩) ys.length cn) ys) ∧ Hid (OwnV wr N S xv zs) ∧
                    Hid (∀ g, (Value.slice (some ⟨b4, o4, none⟩) ys.length cn).ownBlock = some g → xv.ownBlock ≠ some g) ∧ Hid (wr.rowIs S 3 st (fun q => .int .i64 (sv q))) ∧ Hid (SeenOk st sv ((k : Int) + 2) zs) ∧ Hid (MRow es st cb.toNat (ys.take m) qn j zs))
                case atStart => exact ⟨0, zs1, sv1, rfl, rfl, Nat.zero_le _, hNr, hSr, hbs, Hnow, Hnext, hdis, hrow, hsn, Hmr⟩
                case round =>
                  clear hNr hSr hbs Hnow Hnext hdis hrow hsn Hmr hstp hznr hoc hcell hb4
                  obtain ⟨j, zs, sv, rfl, rfl, hj, hNr, hSr, hbs, Hnow, Hnx, hdis, hrow, hsn, hmr⟩ := hrel
                  obtain ⟨Az, cz, rfl, hnx'⟩ := Hnx.out.form
                  have Hnext := Lib.hid hnx'
                  clear Hnx hnx'
                  have hzl : zs.length ≤ st := nodup_range st hmr.out.nodup hmr.out.rng
                  by_cases hjl : j < rw'.length
                  · have hjli : (j : Int) < (rw'.length : Int) := by omega
                    obtain ⟨AR2, cR2, hRq2, hRo2⟩ := hbs.out.out.row qn hqs
                    rw [HRq.out] at hRq2
                    simp only [Value.slice.injEq] at hRq2
                    obtain ⟨rfl, _, rfl⟩ := hRq2
                    rw [Hrw.out] at hRo2
                    obtain ⟨bb, o, e, rfl, hbb, he, e0, e1, e2, e3⟩ := edge_at (CellsAt.of_own hRo2) (Below.refl _ _) hjl
                    have he2 : (rowQ es qn)[j]? = some e := by rw [Hrw.out]; exact he.out
                    have hem := mem_rowQ.1 (List.mem_of_getElem? he2)
                    have hok := ok_iff.1 (Hes.out e hem.1)
                    have htk := (Hein.out e hem.1).takes cb.toNat
                    obtain ⟨tn, htn⟩ := Int.eq_ofNat_of_zero_le hok.2.1
                    have hts : tn < st := by omega
                    rw [htn] at e1
                    have He2 := Lib.hid he2
                    have Htn := Lib.hid htn
                    have Htk := Lib.hid htk
                    clear he2 hem hok htn he hRo2 htk
                    go_upto_region 25 with fail
                    have hbxq : (wr.alloc (.cells #[.int .i64 e.frm, .int .i64 tn, .int .u8 e.low, .int .u8 e.high] 35)).heap[wr.heap.size]? = some (.cells #[.int .i64 e.frm, .int .i64 tn, .int .u8 e.low, .int .u8 e.high] 35 (0, 0)) := blk_new _ _
                    have HBq := Lib.hid (hbs.out.alloc hNr (.cells #[.int .i64 e.frm, .int .i64 tn, .int .u8 e.low, .int .u8 e.high] 35))
                    have Hnowq := Lib.hid (Hnow.out.alloc (.cells #[.int .i64 e.frm, .int .i64 tn, .int .u8 e.low, .int .u8 e.high] 35))
                    have Hnextq := Lib.hid (Hnext.out.alloc (.cells #[.int .i64 e.frm, .int .i64 tn, .int .u8 e.low, .int .u8 e.high] 35))
                    have Hrowq := Lib.hid (rowIs_alloc hrow.out (.cells #[.int .i64 e.frm, .int .i64 tn, .int .u8 e.low, .int .u8 e.high] 35))
                    have hqz : (wr.alloc (.cells #[.int .i64 e.frm, .int .i64 tn, .int .u8 e.low, .int .u8 e.high] 35)).heap.size = wr.heap.size + 1 := by simp
                    clear e0 e1 e2 e3 hbs Hnow Hnext hrow
                    generalize wr.alloc _ = Wq at hbxq HBq Hnowq Hnextq Hrowq hqz ⊢
                    have p1 : Wq.cell? ⟨wr.heap.size, 1, none⟩ = some (.int .i64 tn) := blk_cell hbxq 1
                    have p2 : Wq.cell? ⟨wr.heap.size, 2, none⟩ = some (.int .u8 e.low) := blk_cell hbxq 2
                    have p3 : Wq.cell? ⟨wr.heap.size, 3, none⟩ = some (.int .u8 e.high) := blk_cell hbxq 3
                    have hsc : Wq.cell? ⟨S, tn, none⟩ = some (.int .i64 (sv tn)) := Hrowq.out.cell hts
                    have hsf : Wq.frozen? ⟨S, tn, none⟩ = false := Hrowq.out.frozen tn
                    have hsvt := (hsn.out tn hts).1
                    have hi0 : (0 : Int) ≤ (k : Int) := by omega
                    have hti0 : (0 : Int) ≤ (tn : Int) := by omega
                    have hti1 : (tn : Int) < (st : Int) := by omega
                    have hNq : N ≤ Wq.heap.size := by omega
                    have hSq : S < Wq.heap.size := by omega
                    clear hbxq
                    by_cases g1 : e.low ≤ (cb.toNat : Int)
                    · have d1 : decide (e.low ≤ (cb.toNat : Int)) = true := decide_eq_true g1
                      by_cases g2 : (cb.toNat : Int) ≤ e.high
                      · have d2 : decide ((cb.toNat : Int) ≤ e.high) = true := decide_eq_true g2
                        have htk : e.takes cb.toNat = true := by rw [Htk.out, d1, d2]; rfl
                        by_cases g3 : sv tn = (k : Int) + 2
                        · have d3 : (sv tn != (k : Int) + 2) = false := by simp [g3]
                          have hin : e.to ∈ zs := by rw [Htn.out]; exact hsvt.1 g3
                          have Hin := Lib.hid hin
                          clear hin hsvt htk
                          go_quiet (fail)
                          go_wp2_with fail
                          go_roundg (rw'.length - (j + 1))
                          case rel => exact ⟨j + 1, zs, sv, by go_num, rfl, by omega, hNq, hSq, HBq.out.drewN _, Hnowq.out.drewN _, Hnextq.out.drewN _, hdis, Hrowq.out, hsn, hmr.out.skip He2.out (fun _ => Hin.out)⟩
                          case measure => omega
                        · have d3 : (sv tn != (k : Int) + 2) = true := by simp [g3]
                          have hin : ¬ e.to ∈ zs := by rw [Htn.out]; exact fun h => g3 (hsvt.2 h)
                          have Hin := Lib.hid hin
                          have HtkT := Lib.hid htk
                          clear hin hsvt htk
                          go_quiet (fail)
                          go_upto_region 27 with fail
                          have HB7 := Lib.hid ((HBq.out.drewN nq).set (w := w) (wr := Wq.drewN nq) (f := fun q => .int .i64 (sv q)) (n := st) Hrowq.out hNS tn (.int .i64 ((k : Int) + 2)))
                          have Hnow7 := Lib.hid ((Hnowq.out.drewN nq).set tn (.int .i64 ((k : Int) + 2)))
                          have Hnext7 := Lib.hid ((Hnextq.out.drewN nq).set tn (.int .i64 ((k : Int) + 2)))
                          have Hrow7 := Lib.hid (World.rowIs.set (w := Wq.drewN nq) (b := S) (t := 3) (n := st) (f := fun q => .int .i64 (sv q)) Hrowq.out tn (.int .i64 ((k : Int) + 2)))
                          have p17 : ((Wq.drewN nq).setCell ⟨S, tn, none⟩ (.int .i64 ((k : Int) + 2))).cell? ⟨wr.heap.size, 1, none⟩ = some (.int .i64 tn) := by
                            rw [World.cell?_setCell_other _ _ _ _ (by simp <;> omega)]
                            exact p1
                          have hz7 : ((Wq.drewN nq).setCell ⟨S, tn, none⟩ (.int .i64 ((k : Int) + 2))).heap.size = Wq.heap.size := by simp
                          clear p1 p2 p3 hsc hsf HBq Hnowq Hnextq Hrowq
                          generalize World.setCell (Wq.drewN nq) _ _ = W7 at HB7 Hnow7 Hnext7 Hrow7 p17 hz7 ⊢
                          have hown7 := Hnext7.out.own
                          go_wp2_with (at_builtin; refine wpList_append_new_at info3 Try.underlying36 rfl (by decide) (by decide) 0 hown7 1 rfl _ _ rfl rfl rfl (by omega) rfl rfl (by omega) (Nat.zero_le _) ?_; intro v' w' hown' hbel hgt hgrow hnw)
                          have hzw := hgrow.size
                          have Hnext' : Hid (OwnV w' N S v' (zs ++ [e.to])) := by
                            refine ⟨?_, fun g hg => ?_, fun h => ?_⟩
                            · show World.ownsRow _ _ _ _ _ _ _
                              rw [List.length_append, ints, List.map_append, Htn.out]
                              exact hown'
                            · rcases hnw g hg with h1 | h1
                              · exact Hnext7.out.ge g h1
                              · omega
                            · rcases hnw S h with h1 | h1
                              · exact Hnext7.out.neS h1
                              · omega
                          have Hnow' := Lib.hid (Hnow7.out.other hgrow hdis.out)
                          have Hdis' : Hid (∀ g, (Value.slice (some ⟨b4, o4, none⟩) ys.length cn).ownBlock = some g → v'.ownBlock ≠ some g) := fun g h1 h2 => by
                            rcases hnw g h2 with h3 | h3
                            · exact hdis.out g h1 h3
                            · have := Hnow7.out.lt g h1
                              omega
                          have Hrow' : Hid (w'.rowIs S 3 st (fun q => .int .i64 ((fun x => if x = tn then (k : Int) + 2 else sv x : Nat → Int) q))) := by
                            show World.rowIs _ _ _ _ _
                            refine World.rowIs.congr (rowIs_grown Hrow7.out hgrow Hnext7.out.neS) ?_
                            intro x _
                            by_cases hx : x = tn
                            · simp [hx]
                            · simp [hx]
                          have HB' := Lib.hid (HB7.out.grown Hnext7.out hgrow (by omega))
                          have Hsn' : Hid (SeenOk st (fun x => if x = tn then (k : Int) + 2 else sv x) ((k : Int) + 2) (zs ++ [e.to])) := by
                            show SeenOk _ _ _ _
                            rw [Htn.out]
                            exact hsn.out.push tn
                          clear hown' hbel hgrow hnw hown7 p17
                          go_roundg (rw'.length - (j + 1))
                          case rel => exact ⟨j + 1, zs ++ [e.to], _, by go_num, rfl, by omega, by omega, by omega, HB', Hnow', Hnext', Hdis', Hrow', Hsn', hmr.out.push Hes.out He2.out HtkT.out Hin.out⟩
                          case measure => omega
                      · have d2 : decide ((cb.toNat : Int) ≤ e.high) = false := decide_eq_false g2
                        have htk : e.takes cb.toNat = false := by rw [Htk.out, d2, Bool.and_false]
                        have HtkF := Lib.hid htk
                        clear hsvt htk
                        go_quiet (fail)
                        go_wp2_with fail
                        go_roundg (rw'.length - (j + 1))
                        case rel => exact ⟨j + 1, zs, sv, by go_num, rfl, by omega, hNq, hSq, HBq.out.drewN _, Hnowq.out.drewN _, Hnextq.out.drewN _, hdis, Hrowq.out, hsn, hmr.out.skip He2.out (fun h => by rw [HtkF.out] at h; cases h)⟩
                        case measure => omega
                    · have d1 : decide (e.low ≤ (cb.toNat : Int)) = false := decide_eq_false g1
                      have htk : e.takes cb.toNat = false := by rw [Htk.out, d1, Bool.false_and]
                      have HtkF := Lib.hid htk
                      clear hsvt htk
                      go_quiet (fail)
                      go_wp2_with fail
                      go_roundg (rw'.length - (j + 1))
                      case rel => exact ⟨j + 1, zs, sv, by go_num, rfl, by omega, hNq, hSq, HBq.out.drewN _, Hnowq.out.drewN _, Hnextq.out.drewN _, hdis, Hrowq.out, hsn, hmr.out.skip He2.out (fun h => by rw [HtkF.out] at h; cases h)⟩
                      case measure => omega
                  · have hjli : ¬ (j : Int) < (rw'.length : Int) := by omega
                    have hstp2 : Hid (∀ x, x ∈ zs ↔ StepP es cb.toNat (· ∈ ys.take (m + 1)) x) := fun x => by
                      rw [take_snoc hq.out]
                      exact hmr.out.end_ (by rw [Hrw.out]; omega) x
                    have hznr2 : Hid (zs.Nodup ∧ ∀ q ∈ zs, 0 ≤ q ∧ q < (st : Int)) := ⟨hmr.out.nodup, hmr.out.rng⟩
                    go_wp2_with fail
                    go_roundg (ys.length - (m + 1))
                    case rel => exact ⟨m + 1, zs, sv, by go_num, rfl, by omega, hNr, hSr, hbs, Hnow, Hnext, hdis, hrow, hsn, hstp2, hznr2⟩
                    case measure => omega
              · have hmli : ¬ (m : Int) < (ys.length : Int) := by omega
                have hmm : m = ys.length := by omega
                obtain ⟨Az, cz, rfl, hnx'⟩ := Hnext.out.form
                have HC := Lib.hid (rxClosed_any (B + 1) S st cz st zs1.length es R ((k : Int) + 2) sv1 zs1 Az wr rfl hbs.out.out hrow.out hnx'.own hnx'.neS hsn.out hznr.out.1 hznr.out.2 Hes.out (by omega) (by omega))
                have Hnx := Lib.hid hnx'
                have Hstp : Hid (∀ x, x ∈ zs1 ↔ StepP es cb.toNat (· ∈ ys) x) := fun x => by
                  have := hstp.out x
                  rwa [hmm, List.take_length] at this
                clear hnx' Hnext hstp hmm
                go_wp2_with fail
                refine HC.out.mono ?_
                rintro e w8 ⟨A8, ys8, c8, sv8, rfl, ho8, hr8, hs8, hci8, hne8, hnw8, ht8, hO8⟩
                have hz8 := ht8.out.size
                have HB8 := Lib.hid (hbs.out.touch hrow.out Hnx.out ht8.out hNr hNS hO8.out)
                have Hv8 : Hid (OwnV w8 N S (.slice A8 ys8.length c8) ys8) := ⟨ho8.out, fun g hg => by
                  rcases hnw8.out g hg with h1 | h1
                  · exact Hnx.out.ge g h1
                  · omega, hne8.out⟩
                have Hx8 := Lib.hid (Hnow.out.touch ht8.out hdis.out)
                have Hd8 : Hid (∀ g, (Value.slice A8 ys8.length c8).ownBlock = some g → (Value.slice An ys.length cn).ownBlock ≠ some g) := fun g h1 h2 => by
                  rcases hnw8.out g h1 with h3 | h3
                  · exact hdis.out g h2 h3
                  · have := Hnow.out.lt g h2
                    omega
                have Hset8 : Hid (∀ q, q ∈ ys8 ↔ Run (netN t) (s.data.toList.take (k + 1)) (start0 (netN t)) q) := fun q => by
                  rw [take_snoc Hgk.out]
                  refine Run_next (n := netN t) (ys := zs1) hset.out (fun q => ?_) (fun q => ?_) q
                  · exact (by rw [HNet.out]; exact Hstp.out q)
                  · exact (by rw [HNet.out]; exact hci8.out.done (Nat.le_refl _) q)
                have Hnr8 : Hid (ys8.Nodup ∧ ∀ q ∈ ys8, 0 ≤ q ∧ q < (st : Int)) := ⟨hci8.out.nodup, hci8.out.rng⟩
                have Hs8 : Hid (SeenOk st sv8 (((k + 1 : Nat) : Int) + 1) ys8) := by
                  have e1 : (((k + 1 : Nat) : Int) + 1) = (k : Int) + 2 := by omega
                  show SeenOk _ _ _ _
                  rw [e1]
                  exact hs8.out
                clear HC ho8 hs8 hci8 hne8 hnw8 ht8 hO8 Hnow Hnx hbs hrow hdis Hstp hsn
                go_wp2_with fail
                go_roundg (s.size - (k + 1))
                case rel => exact ⟨k + 1, ys8, ys, sv8, by go_num, rfl, by omega, by omega, by omega, HB8, Hv8, Hx8, Hd8, hr8, Hs8, Hset8, Hnr8⟩
                case measure => omega
        · have hlti : ¬ (k : Int) < (s.size : Int) := by omega
          obtain rfl : k = s.size := by omega
          have m2 : wr.cell? ⟨B, 2, none⟩ = some (.int .i64 1) := blk_cell hbs.out.box 2
          have hsc : wr.cell? ⟨S, 1, none⟩ = some (.int .i64 (sv0 1)) := hrow.out.cell (by omega)
          have hst1 : (1 : Int) < (st : Int) := by omega
          have hval : (sv0 1 == (s.size : Int) + 1) = accB (netN t) s.data.toList := by
            refine ret_match ?_
            rw [beq_iff_eq, (hsn.out 1 (by omega)).1, hset.out]
            rw [List.take_of_length_le (by simp)]
            unfold AccP
            rw [HNet.out]
            exact Iff.rfl
          have Hval := Lib.hid hval
          clear hval
          go_wp2_with fail
          go_ret
          exact ⟨ret_bool Hval.out, by rw [HNw.out]; exact hbs.out.below⟩
end Go.Proofs.Ytaefhfldgemcnaa
