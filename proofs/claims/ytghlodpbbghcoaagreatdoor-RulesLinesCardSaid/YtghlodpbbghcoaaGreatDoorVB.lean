/- A line printed by the document: walked; lists compared. -/
import Derived.Test.YtghlodpbbghcoaaGreatDoorVA
import Derived.Test.YtghlodpbbghcoaaGreatDoorZ54
import Derived.Test.YtghlodpbbghcoaaGreatDoorZB
import Derived.Deep.RegionHeld3
namespace Go.Proofs.YtghlodpbbghcoaaGreatDoor
open Go.RowKit
theorem tx_append (a b : List UInt8) : tx (a ++ b) = tx a ++ tx b := by
  apply ByteArray.ext
  rw [ByteArray.data_append]
  simp [tx]
theorem tx_snoc (a : List UInt8) (s : ByteArray) : tx (a ++ s.data.toList) = tx a ++ s := by rw [tx_append, tx_of]
def TxIs (l : List UInt8) (w : World) (e : Ending) (w' : World) : Prop := e = .returned (.string (tx l)) ∧ Below w.heap.size w w'
set_option maxRecDepth 8192 in
set_option maxHeartbeats 3200000 in
theorem refList_any (word : ByteArray) (vx : Value) (l : List ByteArray) (P : Nat → Prop) (w : World) (hl : StrsAt w P vx l) (hw : word.size ≤ 10) (hln : l.length ≤ 100) (hls : ∀ s ∈ l, s.size ≤ 1000) :
    Calls Tryz.prog 49 #[.string word, vx] w (TxIs (lineB word l) w) := by
  obtain ⟨A, n, cap, rfl, hn, hcap, hat⟩ := hl.form
  have hn2 : n ≤ 100 := by omega
  have hwd : Hid (word.data.toList.length = word.size) := Lib.hid (by simp)
  replace hls := Lib.hid hls
  replace hn := Lib.hid hn
  replace hat := Lib.hid hat
  clear hln hl
  go_enter Tryz.func49, Tryz.ntmps49
  go_wp2
  go_loop [5, 6] (fun x5 x6 => ∃ i : Nat, x6 = .int .i64 i ∧ i ≤ n ∧ x5 = .string (tx (word.data.toList ++ (l.take i).flatMap fun s => 32 :: s.data.toList))) (fun _ x6 => n - (intOf x6).toNat)
  case atStart => exact ⟨0, rfl, Nat.zero_le _, by simp [tx_of]⟩
  case round =>
    obtain ⟨i, rfl, hi, rfl⟩ := hrel
    have hflen := flat_size l hls.out i
    obtain ⟨M, hM⟩ : ∃ M, word.data.toList ++ ((l.take i).flatMap fun s => 32 :: s.data.toList) = M := ⟨_, rfl⟩
    have hMl : M.length ≤ 110000 := by rw [← hM, List.length_append, hwd.out]; omega
    rw [hM]
    replace hM := Lib.hid hM
    replace hflen := Lib.hid hflen
    obtain ⟨t, ht⟩ : ∃ t, tx M = t := ⟨_, rfl⟩
    have hts : t.size ≤ 110000 := by rw [← ht, tx_size]; exact hMl
    rw [ht]
    replace ht := Lib.hid ht
    by_cases hlt : i < n
    · have hil : i < l.length := by rw [← hn.out]; exact hlt
      obtain ⟨b, o, rfl, _, hcell⟩ := hat.out (by omega)
      have c0 := hcell i hil
      obtain ⟨s, hs⟩ : ∃ s, l[i] = s := ⟨_, rfl⟩
      rw [hs] at c0
      have hs1 := hls.out s (by rw [← hs]; exact List.getElem_mem hil)
      have hnext : Hid (tx (word.data.toList ++ ((l.take (i + 1)).flatMap fun s => 32 :: s.data.toList)) = t ++ ⟨#[32]⟩ ++ s) := Lib.hid (by
        have h1 : word.data.toList ++ ((l.take (i + 1)).flatMap fun s => 32 :: s.data.toList) = M ++ [32] ++ s.data.toList := by
          rw [flat_snoc hil, hs, ← hM.out]
          simp
        rw [h1, tx_snoc, tx_append, ht.out]
        rfl)
      have i0 : (0 : Int) ≤ (i : Int) := by omega
      have i1 : (i : Int) < (n : Int) := by omega
      clear hcell hs
      go_wp2
      exact ⟨⟨i + 1, by simp, by omega, by rw [hnext.out]⟩, by simp [intOf]; omega⟩
    · have i1 : ¬ (i : Int) < (n : Int) := by omega
      have hfin : Hid (tx (lineB word l) = t ++ ⟨#[10]⟩) := Lib.hid (by
        have h1 : lineB word l = M ++ [10] := by
          rw [← hM.out, List.take_of_length_le (by rw [← hn.out]; omega)]
          simp [lineB]
        rw [h1, tx_append, ht.out]
        rfl)
      go_wp2
      go_ret
      exact ⟨by rw [hfin.out]; rfl, Below.refl _ _⟩
set_option maxRecDepth 8192 in
set_option maxHeartbeats 3200000 in
theorem lists_any (v1 v2 : Value) (l : List ByteArray) (P Q : Nat → Prop) (w : World) (h1 : StrsAt w P v1 l) (h2 : StrsAt w Q v2 l) (hln : l.length ≤ 100) :
    Calls Tryz.prog 50 #[v1, v2] w fun e w' => e = .returned (.bool true) ∧ Below w.heap.size w w' := by
  obtain ⟨A1, n1, c1, rfl, hn1, -, hat1⟩ := h1.form
  obtain ⟨A2, n2, c2, rfl, hn2, -, hat2⟩ := h2.form
  obtain rfl : n1 = n2 := by omega
  have hn100 : n1 ≤ 100 := by omega
  replace hn1 := Lib.hid hn1
  replace hat1 := Lib.hid hat1
  replace hat2 := Lib.hid hat2
  clear hn2 hln h1 h2
  go_enter Tryz.func50, Tryz.ntmps50
  go_wp2
  go_loopw [5] (fun x5 wr => ∃ i : Nat, x5 = .int .i64 i ∧ i ≤ n1 ∧ Hid (Below w.heap.size w wr) ∧ Hid (∀ a v, w.cell? a = some v → wr.cell? a = some v)) (fun x5 _ => n1 - (intOf x5).toNat)
  case atStart => exact ⟨0, rfl, Nat.zero_le _, Lib.hid (Below.refl _ _), Lib.hid (fun _ _ h => h)⟩
  case round =>
    obtain ⟨i, rfl, hi, hB, hc⟩ := hrel
    by_cases hlt : i < n1
    · have hil : i < l.length := by rw [← hn1.out]; exact hlt
      obtain ⟨b1, o1, rfl, _, k1⟩ := hat1.out (by omega)
      obtain ⟨b2, o2, rfl, _, k2⟩ := hat2.out (by omega)
      have e1 := hc.out _ _ (k1 i hil)
      have e2 := hc.out _ _ (k2 i hil)
      obtain ⟨s, hs⟩ : ∃ s, l[i] = s := ⟨_, rfl⟩
      rw [hs] at e1 e2
      have i0 : (0 : Int) ≤ (i : Int) := by omega
      have i1 : (i : Int) < (n1 : Int) := by omega
      clear k1 k2 hs
      go_upto_region 6 with fail
      go_quiet (fail)
      go_wp2
      exact ⟨⟨i + 1, by simp, by omega, Lib.hid (hB.out.trans (below_dN _)), Lib.hid (fun a v h => hc.out a v h)⟩, by simp [intOf]; omega⟩
    · have i1 : ¬ (i : Int) < (n1 : Int) := by omega
      go_wp2
      go_ret
      exact ⟨rfl, hB.out⟩
end Go.Proofs.YtghlodpbbghcoaaGreatDoor

/- A policy's text by the document: walked. -/
namespace Go.Proofs.YtghlodpbbghcoaaGreatDoor
open Go.RowKit
def kindW (k : Int) : ByteArray := if k = 1 then ⟨#[97, 110, 121]⟩ else if k = 2 then ⟨#[101, 110, 117, 109]⟩ else if k = 3 then ⟨#[115, 99, 104, 101, 109, 101]⟩ else ⟨#[109, 97, 116, 99, 104]⟩
def reqW (q : Bool) : ByteArray := if q then ⟨#[110, 101, 101, 100]⟩ else ⟨#[97, 116, 116, 114]⟩
theorem kindB_W (k : Int) : (kindB k).data.toList = 32 :: (kindW k).data.toList := by
  unfold kindB kindW
  split
  · rfl
  · split
    · rfl
    · split <;> rfl
theorem reqB_W (q : Bool) : (reqB q).data.toList = (reqW q).data.toList ++ [32] := by cases q <;> rfl
/-- The items of a rule's line. -/
def ownL (r : Rul) : List ByteArray := r.name :: kindW r.kind :: (argsOf r).map fun s => tx (quoteL s.data.toList)
theorem ruleB_line (r : Rul) : ruleB r = lineB (reqW r.req) (ownL r) := by
  unfold ruleB lineB ownL
  rw [kindB_W, reqB_W]
  simp [List.flatMap_map, tx_data]
set_option maxRecDepth 8192 in
set_option maxHeartbeats 12800000 in
theorem refPrint_any (vt ve vu : Value) (p : Pol) (P : Nat → Prop) (w : World) (hP : ∀ k, P k → k < w.heap.size) (h : PolAt w P vt ve vu p) (hs : p.Sml) (h4 : ∀ e ∈ p.elts, ∀ r ∈ e.rules, r.kind = 4 → r.words = []) :
    Calls Tryz.prog 27 #[.agg #[vt, ve, vu]] w (TxIs (printB p) w) := by
  obtain ⟨At, nt, ct, rfl, -, -, -⟩ := h.top.form
  obtain ⟨Ae, ne, ce, rfl, hne, hce, -⟩ := h.elts.form
  obtain ⟨Au, nu, cu, rfl, -, -, -⟩ := h.unwrap.form
  obtain ⟨w1, hw1⟩ : ∃ w1, w.alloc (.cells #[.slice At nt ct, .slice Ae ne ce, .slice Au nu cu] 25) = w1 := ⟨_, rfl⟩
  have hB1 : Hid (Below w.heap.size w w1) := Lib.hid (by rw [← hw1]; exact (Below.refl _ _).alloc (Nat.le_refl _) _)
  have hG1 : Hid (w1.heap[w.heap.size]? = some (.cells #[.slice At nt ct, .slice Ae ne ce, .slice Au nu cu] 25)) := Lib.hid (by rw [← hw1]; exact blk_new _ _)
  replace h := Lib.hid h
  replace hs := Lib.hid hs
  replace hP := Lib.hid hP
  replace hne := Lib.hid hne
  replace h4 := Lib.hid h4
  have hline : Hid (∀ (wx : World) (word : ByteArray) (vx : Value) (l : List ByteArray), Below w.heap.size w wx → word.size ≤ 10 → StrsAt w P vx l → TxPrt l → Calls Tryz.prog 49 #[.string word, vx] wx (TxIs (lineB word l) wx)) := Lib.hid (fun wx word vx l hb h1 hst ht =>
    refList_any word vx l P wx (hst.move (Stays.below hb hP.out) (fun _ h => h)) h1 (by have := ht.1; omega) (fun s hs => by have := (ht.2 s hs).2; omega))
  have hct : Hid (∀ wx, Below w.heap.size w wx → Calls Tryz.prog 49 #[.string ⟨#[116, 111, 112]⟩, .slice At nt ct] wx (TxIs (lineB ⟨#[116, 111, 112]⟩ p.top) wx)) := Lib.hid (fun wx hb => hline.out wx _ _ _ hb (by decide) h.out.top hs.out.top)
  have hcu : Hid (∀ wx, Below w.heap.size w wx → Calls Tryz.prog 49 #[.string ⟨#[117, 110, 119, 114, 97, 112]⟩, .slice Au nu cu] wx (TxIs (lineB ⟨#[117, 110, 119, 114, 97, 112]⟩ p.unwrap) wx)) := Lib.hid (fun wx hb => hline.out wx _ _ _ hb (by decide) h.out.unwrap hs.out.unwrap)
  have hln1 := lineB_len (word := ⟨#[116, 111, 112]⟩) (by decide) hs.out.top
  have hln2 := lineB_len (word := ⟨#[117, 110, 119, 114, 97, 112]⟩) (by decide) hs.out.unwrap
  obtain ⟨lt, hlt⟩ : ∃ lt, lineB ⟨#[116, 111, 112]⟩ p.top = lt := ⟨_, rfl⟩
  obtain ⟨lu, hlu⟩ : ∃ lu, lineB ⟨#[117, 110, 119, 114, 97, 112]⟩ p.unwrap = lu := ⟨_, rfl⟩
  rw [hlt] at hct hln1
  rw [hlu] at hcu hln2
  have hst1 : (tx lt).size ≤ 1100 := by rw [tx_size]; exact hln1
  have hsu1 : (tx lu).size ≤ 1100 := by rw [tx_size]; exact hln2
  obtain ⟨st, hst⟩ : ∃ st, tx lt = st := ⟨_, rfl⟩
  obtain ⟨su, hsu⟩ : ∃ su, tx lu = su := ⟨_, rfl⟩
  unfold TxIs at hct hcu
  rw [hst] at hct hst1
  rw [hsu] at hcu hsu1
  replace hlt := Lib.hid hlt
  replace hlu := Lib.hid hlu
  replace hst := Lib.hid hst
  replace hsu := Lib.hid hsu
  have z1 : ¬ 9223372036854775807 < 11 + st.size := by omega
  have z2 : ¬ 9223372036854775807 < 11 + st.size + su.size := by omega
  go_enter Tryz.func27, Tryz.ntmps27
  go_upto_region 1 with fail
  try rw [hw1]
  clear hw1
  have hS : Hid (∀ W, Below w1.heap.size w1 W → W.cell? ⟨w.heap.size, 0, none⟩ = some (.slice At nt ct) ∧ W.cell? ⟨w.heap.size, 2, none⟩ = some (.slice Au nu cu)) := Lib.hid (fun W hW => ⟨blk_cell (blk_below hG1.out hW (blk_lt hG1.out)) 0, blk_cell (blk_below hG1.out hW (blk_lt hG1.out)) 2⟩)
  have hBx : Hid (Below w1.heap.size w1 w1.drew) := Lib.hid (Below.refl _ _).drew
  go_region_held3 (fun W => W.cell? ⟨w.heap.size, 0, none⟩ = some (.slice At nt ct) ∧ W.cell? ⟨w.heap.size, 2, none⟩ = some (.slice Au nu cu)) (first | with_reducible exact hS.out _ hBx.out | with_reducible exact hS.out _ hBx.out.drew | with_reducible exact hS.out _ (Below.refl _ _).drew)
    (first
      | (go_at_call_of 49 (Value.string ⟨#[116, 111, 112]⟩); refine Calls.mono (hct.out _ (hB1.out.trans (hBx.out.mono hB1.out.size))) ?_; rintro e5 w5 ⟨rfl, hB5⟩; have hBx := Lib.hid (hBx.out.trans (hB5.mono hBx.out.size)); clear hB5)
      | (go_at_call_of 49 (Value.string ⟨#[117, 110, 119, 114, 97, 112]⟩); refine Calls.mono (hcu.out _ (hB1.out.trans (hBx.out.mono hB1.out.size))) ?_; rintro e5 w5 ⟨rfl, hB5⟩; have hBx := Lib.hid (hBx.out.trans (hB5.mono hBx.out.size)); clear hB5))
  obtain ⟨H, hH⟩ : ∃ H, [115, 116, 114, 97, 105, 110, 101, 114, 32, 49, 10] ++ lt ++ lu = H := ⟨_, rfl⟩
  have hHl : H.length ≤ 2300 := by rw [← hH, List.length_append, List.length_append]; simp; omega
  have hHt : (⟨#[115, 116, 114, 97, 105, 110, 101, 114, 32, 49, 10]⟩ : ByteArray) ++ st ++ su = tx H := by
    rw [← hH, ← hst.out, ← hsu.out, tx_append, tx_append]
    rfl
  have hHp : Hid (∀ l, [115, 116, 114, 97, 105, 110, 101, 114, 32, 49, 10] ++ (lineB ⟨#[116, 111, 112]⟩ p.top ++ (lineB ⟨#[117, 110, 119, 114, 97, 112]⟩ p.unwrap ++ l)) = H ++ l) := Lib.hid (fun l => by rw [hlt.out, hlu.out, ← hH]; simp)
  rw [hHt]
  have hB5 : Hid (Below w.heap.size w w5) := Lib.hid (hB1.out.trans (hBx.out.mono hB1.out.size))
  have hG5 : Hid (w5.heap[w.heap.size]? = some (.cells #[.slice At nt ct, .slice Ae ne ce, .slice Au nu cu] 25)) := Lib.hid (blk_below hG1.out hBx.out (blk_lt hG1.out))
  clear hHt hH
  obtain ⟨w6, hw6⟩ : ∃ w6, w5.alloc (.cells #[.string ⟨#[]⟩, .string ⟨#[97, 110, 121]⟩, .string ⟨#[101, 110, 117, 109]⟩, .string ⟨#[115, 99, 104, 101, 109, 101]⟩, .string ⟨#[109, 97, 116, 99, 104]⟩] 9) = w6 := ⟨_, rfl⟩
  have hB6 : Hid (Below w.heap.size w w6) := Lib.hid (by rw [← hw6]; exact hB5.out.alloc hB5.out.size _)
  have hG6 : Hid (w6.heap[w.heap.size]? = some (.cells #[.slice At nt ct, .slice Ae ne ce, .slice Au nu cu] 25)) := Lib.hid (by rw [← hw6]; exact blk_alloc hG5.out _)
  obtain ⟨kb, hkb⟩ : ∃ kb, w5.heap.size = kb := ⟨_, rfl⟩
  have hK6 : Hid (w6.heap[kb]? = some (.cells #[.string ⟨#[]⟩, .string ⟨#[97, 110, 121]⟩, .string ⟨#[101, 110, 117, 109]⟩, .string ⟨#[115, 99, 104, 101, 109, 101]⟩, .string ⟨#[109, 97, 116, 99, 104]⟩] 9)) := Lib.hid (by rw [← hw6, ← hkb]; exact blk_new _ _)
  go_upto_region 3 with fail
  try rw [hw6]
  try rw [hkb]
  clear hw6 hkb hct hcu hlt hlu hst hsu z1 z2 hS hBx hB5 hG5 hB1 hG1 hst1 hsu1 hln1 hln2
  have hne6 : ne ≤ 6 := by have := hs.out.elts.1; have := hne.out; omega
  go_wp2
  go_loopw [3, 5] (fun x3 x5 wr => ∃ i : Nat, x5 = .int .i64 i ∧ i ≤ ne ∧ x3 = .string (tx (H ++ (p.elts.take i).flatMap eltB)) ∧ Hid (Below w6.heap.size w6 wr)) (fun _ x5 _ => ne - (intOf x5).toNat)
  case atStart => exact ⟨0, rfl, Nat.zero_le _, by simp, Lib.hid (Below.refl _ _)⟩
  case round =>
    obtain ⟨i, rfl, hi, rfl, hB⟩ := hrel
    obtain ⟨wo, hwo⟩ : ∃ wo : World, wo = wr := ⟨_, rfl⟩
    rw [← hwo] at hB ⊢
    clear hwo
    clear wr
    have hBw : Hid (Below w.heap.size w wo) := Lib.hid (hB6.out.trans (hB.out.mono hB6.out.size))
    have hGo : Hid (wo.heap[w.heap.size]? = some (.cells #[.slice At nt ct, .slice Ae ne ce, .slice Au nu cu] 25)) := Lib.hid (blk_below hG6.out hB.out (blk_lt hG6.out))
    have hKo : Hid (wo.heap[kb]? = some (.cells #[.string ⟨#[]⟩, .string ⟨#[97, 110, 121]⟩, .string ⟨#[101, 110, 117, 109]⟩, .string ⟨#[115, 99, 104, 101, 109, 101]⟩, .string ⟨#[109, 97, 116, 99, 104]⟩] 9)) := Lib.hid (blk_below hK6.out hB.out (blk_lt hK6.out))
    have g1 := blk_cell hGo.out 1
    have hlen := flat_take_len eltB 7100 (l := p.elts) (fun e he => eltB_len (hs.out.elts.2 e he)) i
    obtain ⟨N, hN⟩ : ∃ N, H ++ (p.elts.take i).flatMap eltB = N := ⟨_, rfl⟩
    have hNl : N.length ≤ 45000 := by
      rw [← hN, List.length_append]
      have h6 := hs.out.elts.1
      have : p.elts.length * 7100 ≤ 6 * 7100 := Nat.mul_le_mul_right _ h6
      omega
    rw [hN]
    replace hN := Lib.hid hN
    replace hlen := Lib.hid hlen
    obtain ⟨sN, hsN⟩ : ∃ sN, tx N = sN := ⟨_, rfl⟩
    have hsNl : sN.size ≤ 45000 := by rw [← hsN, tx_size]; exact hNl
    rw [hsN]
    replace hsN := Lib.hid hsN
    by_cases hlt : i < ne
    · have hil : i < p.elts.length := by rw [← hne.out]; exact hlt
      obtain ⟨A', n', cap', e', -, -, hat⟩ := h.out.elts.form
      simp only [Value.slice.injEq] at e'
      obtain ⟨rfl, rfl, rfl⟩ := e'
      obtain ⟨b, o, rfl, hPb, hcell⟩ := hat (by omega)
      obtain ⟨vk, vr, c0, c1, c2, hk, hrl⟩ := hcell i hil
      replace c0 := (hBw.out.cell (p := ⟨b, _, none⟩) (hP.out b hPb)).trans c0
      replace c1 := (hBw.out.cell (p := ⟨b, _, none⟩) (hP.out b hPb)).trans c1
      replace c2 := (hBw.out.cell (p := ⟨b, _, none⟩) (hP.out b hPb)).trans c2
      have hsm := hs.out.elts.2 _ (List.getElem_mem hil)
      have h4x := h4.out _ (List.getElem_mem hil)
      obtain ⟨x, hx⟩ : ∃ x, p.elts[i] = x := ⟨_, rfl⟩
      rw [hx] at c0 hk hrl hsm h4x
      obtain ⟨Ak, nk, ck, rfl, -, -, -⟩ := hk.form
      obtain ⟨Ar, nr, cr, rfl, hnr, hcr, -⟩ := hrl.form
      have hsn := hsm.name
      have hlk := lineB_len (word := ⟨#[107, 105, 100, 115]⟩) (by decide) hsm.kids
      have hck : Hid (∀ wx, Below w.heap.size w wx → Calls Tryz.prog 49 #[.string ⟨#[107, 105, 100, 115]⟩, .slice Ak nk ck] wx (TxIs (lineB ⟨#[107, 105, 100, 115]⟩ x.kids) wx)) := Lib.hid (fun wx hb => hline.out wx _ _ _ hb (by decide) hk hsm.kids)
      obtain ⟨lk, hlkd⟩ : ∃ lk, tx (lineB ⟨#[107, 105, 100, 115]⟩ x.kids) = lk := ⟨_, rfl⟩
      have hlks : lk.size ≤ 1100 := by rw [← hlkd, tx_size]; exact hlk
      unfold TxIs at hck
      rw [hlkd] at hck
      obtain ⟨xn, hxn⟩ : ∃ xn, x.name = xn := ⟨_, rfl⟩
      rw [hxn] at c0 hsn
      have hnext : Hid (H ++ (p.elts.take (i + 1)).flatMap eltB = N ++ ([101, 108, 101, 109, 101, 110, 116, 32] ++ (xn.data.toList ++ ([10] ++ (lineB ⟨#[107, 105, 100, 115]⟩ x.kids ++ x.rules.flatMap ruleB))))) := Lib.hid (by
        rw [flat_take_snoc eltB hil, hx, ← hN.out]
        simp [eltB, lineB, hxn])
      have hlE : Hid (sN ++ ⟨#[101, 108, 101, 109, 101, 110, 116, 32]⟩ ++ xn ++ ⟨#[10]⟩ ++ lk = tx (N ++ ([101, 108, 101, 109, 101, 110, 116, 32] ++ (xn.data.toList ++ ([10] ++ (lineB ⟨#[107, 105, 100, 115]⟩ x.kids)))))) := Lib.hid (by
        rw [← hsN.out, ← hlkd, tx_append, tx_append, tx_append, tx_append, tx_of, ByteArray.append_assoc, ByteArray.append_assoc, ByteArray.append_assoc]
        rfl)
      have i0 : (0 : Int) ≤ (i : Int) := by omega
      have i1 : (i : Int) < (ne : Int) := by omega
      have hr4 : nr ≤ 4 := by have := hsm.rules.1; omega
      have y1 : ¬ 9223372036854775807 < sN.size + 8 := by omega
      have y2 : ¬ 9223372036854775807 < sN.size + 8 + xn.size := by omega
      have y3 : ¬ 9223372036854775807 < sN.size + 8 + xn.size + 1 := by omega
      have y4 : ¬ 9223372036854775807 < sN.size + 8 + xn.size + 1 + lk.size := by omega
      replace hsm := Lib.hid hsm
      replace h4x := Lib.hid h4x
      replace hrl := Lib.hid hrl
      replace hnr := Lib.hid hnr
      clear hcell hat hx hxn hk hlk hlkd
      go_upto_region 7 with fail
      obtain ⟨wa, hwa⟩ : ∃ wa, wo.alloc (.cells #[.string xn, .slice Ak nk ck, .slice Ar nr cr] 30) = wa := ⟨_, rfl⟩
      have hBa : Hid (Below w6.heap.size w6 wa) := Lib.hid (by rw [← hwa]; exact hB.out.alloc hB.out.size _)
      have hBwa : Hid (Below w.heap.size w wa) := Lib.hid (by rw [← hwa]; exact hBw.out.alloc hBw.out.size _)
      have hE : Hid (wa.heap[wo.heap.size]? = some (.cells #[.string xn, .slice Ak nk ck, .slice Ar nr cr] 30)) := Lib.hid (by rw [← hwa]; exact blk_new _ _)
      rw [hwa]
      clear hwa c0 c1 c2 g1
      have hS : Hid (∀ W, Below wa.heap.size wa W → W.cell? ⟨wo.heap.size, 0, none⟩ = some (.string xn) ∧ W.cell? ⟨wo.heap.size, 1, none⟩ = some (.slice Ak nk ck)) := Lib.hid (fun W hW => ⟨blk_cell (blk_below hE.out hW (blk_lt hE.out)) 0, blk_cell (blk_below hE.out hW (blk_lt hE.out)) 1⟩)
      go_region_held3 (fun W => W.cell? ⟨wo.heap.size, 0, none⟩ = some (.string xn) ∧ W.cell? ⟨wo.heap.size, 1, none⟩ = some (.slice Ak nk ck)) (first | with_reducible exact hS.out _ (Below.refl _ _).drew | with_reducible exact hS.out _ hBx.out | with_reducible exact hS.out _ hBx.out.drew)
        (first
          | (go_at_call 49; refine Calls.mono (hck.out _ hBwa.out.drew) ?_; rintro e5 w7 ⟨rfl, hB7⟩; have hBx : Hid (Below wa.heap.size wa w7) := Lib.hid ((Below.refl wa.heap.size wa).drew.trans hB7); clear hB7))
      rw [hlE.out]
      have hB7 : Hid (Below w6.heap.size w6 w7) := Lib.hid (hBa.out.trans (hBx.out.mono hBa.out.size))
      have hBw7 : Hid (Below w.heap.size w w7) := Lib.hid (hBwa.out.trans (hBx.out.mono hBwa.out.size))
      have hE7 : Hid (w7.heap[wo.heap.size]? = some (.cells #[.string xn, .slice Ak nk ck, .slice Ar nr cr] 30)) := Lib.hid (blk_below hE.out hBx.out (blk_lt hE.out))
      have hK7 : Hid (w7.heap[kb]? = some (.cells #[.string ⟨#[]⟩, .string ⟨#[97, 110, 121]⟩, .string ⟨#[101, 110, 117, 109]⟩, .string ⟨#[115, 99, 104, 101, 109, 101]⟩, .string ⟨#[109, 97, 116, 99, 104]⟩] 9)) := Lib.hid (blk_below hK6.out hB7.out (blk_lt hK6.out))
      obtain ⟨LE, hLE⟩ : ∃ LE, N ++ ([101, 108, 101, 109, 101, 110, 116, 32] ++ (xn.data.toList ++ ([10] ++ (lineB ⟨#[107, 105, 100, 115]⟩ x.kids)))) = LE := ⟨_, rfl⟩
      have hLEl : LE.length ≤ 47000 := by
        have h1 := lineB_len (word := ⟨#[107, 105, 100, 115]⟩) (by decide) hsm.out.kids
        have h2 := szL xn
        rw [← hLE, List.length_append, List.length_append, List.length_append, List.length_append]
        simp only [List.length_cons, List.length_nil]
        omega
      have hnext2 : Hid (H ++ (p.elts.take (i + 1)).flatMap eltB = LE ++ x.rules.flatMap ruleB) := Lib.hid (by rw [hnext.out, ← hLE]; simp)
      rw [hLE]
      clear hLE hlE hnext y1 y2 y3 y4 hck hS hBx hBa hBwa hE hlks hKo hGo hBw hB
      go_wp2
      go_loopw [3, 7] (fun x3 x7 wr => ∃ j : Nat, x7 = .int .i64 j ∧ j ≤ nr ∧ x3 = .string (tx (LE ++ (x.rules.take j).flatMap ruleB)) ∧ Hid (Below w7.heap.size w7 wr)) (fun _ x7 _ => nr - (intOf x7).toNat)
      case atStart => exact ⟨0, rfl, Nat.zero_le _, by simp, Lib.hid (Below.refl _ _)⟩
      case round =>
        obtain ⟨j, rfl, hj, rfl, hB⟩ := hrel
        obtain ⟨wp, hwp⟩ : ∃ wp : World, wp = wr := ⟨_, rfl⟩
        rw [← hwp] at hB ⊢
        clear hwp
        clear wr
        have hBw : Hid (Below w.heap.size w wp) := Lib.hid (hBw7.out.trans (hB.out.mono hBw7.out.size))
        have hEp : Hid (wp.heap[wo.heap.size]? = some (.cells #[.string xn, .slice Ak nk ck, .slice Ar nr cr] 30)) := Lib.hid (blk_below hE7.out hB.out (blk_lt hE7.out))
        have hKp : Hid (wp.heap[kb]? = some (.cells #[.string ⟨#[]⟩, .string ⟨#[97, 110, 121]⟩, .string ⟨#[101, 110, 117, 109]⟩, .string ⟨#[115, 99, 104, 101, 109, 101]⟩, .string ⟨#[109, 97, 116, 99, 104]⟩] 9)) := Lib.hid (blk_below hK7.out hB.out (blk_lt hK7.out))
        have g2 := blk_cell hEp.out 2
        have hlenj := flat_take_len ruleB 1200 (l := x.rules) (fun r hr => ruleB_len (hsm.out.rules.2 r hr)) j
        obtain ⟨M, hM⟩ : ∃ M, LE ++ (x.rules.take j).flatMap ruleB = M := ⟨_, rfl⟩
        have hMl : M.length ≤ 52000 := by
          rw [← hM, List.length_append]
          have h6 := hsm.out.rules.1
          have : x.rules.length * 1200 ≤ 4 * 1200 := Nat.mul_le_mul_right _ h6
          omega
        rw [hM]
        replace hM := Lib.hid hM
        replace hlenj := Lib.hid hlenj
        obtain ⟨sM, hsM⟩ : ∃ sM, tx M = sM := ⟨_, rfl⟩
        have hsMl : sM.size ≤ 52000 := by rw [← hsM, tx_size]; exact hMl
        rw [hsM]
        replace hsM := Lib.hid hsM
        by_cases hjl : j < nr
        · have hjr : j < x.rules.length := by rw [← hnr.out]; exact hjl
          obtain ⟨A', n', cap', e', -, -, hat⟩ := hrl.out.form
          simp only [Value.slice.injEq] at e'
          obtain ⟨rfl, rfl, rfl⟩ := e'
          obtain ⟨b2, o2, rfl, hPb2, hcell⟩ := hat (by omega)
          obtain ⟨vw, k0, k1, k2, k3, k4, hw⟩ := hcell j hjr
          have hrs := hsm.out.rules.2 _ (List.getElem_mem hjr)
          have hr4x := h4x.out _ (List.getElem_mem hjr)
          obtain ⟨r, hr⟩ : ∃ r, x.rules[j] = r := ⟨_, rfl⟩
          rw [hr] at k0 k1 k3 k4 hw hrs hr4x
          have hnx : Hid (LE ++ (x.rules.take (j + 1)).flatMap ruleB = M ++ ruleB r) := Lib.hid (by
            rw [flat_take_snoc ruleB hjr, hr, ← hM.out, List.append_assoc])
          replace k0 := (hBw.out.cell (p := ⟨b2, _, none⟩) (hP.out b2 hPb2)).trans k0
          replace k1 := (hBw.out.cell (p := ⟨b2, _, none⟩) (hP.out b2 hPb2)).trans k1
          replace k2 := (hBw.out.cell (p := ⟨b2, _, none⟩) (hP.out b2 hPb2)).trans k2
          replace k3 := (hBw.out.cell (p := ⟨b2, _, none⟩) (hP.out b2 hPb2)).trans k3
          replace k4 := (hBw.out.cell (p := ⟨b2, _, none⟩) (hP.out b2 hPb2)).trans k4
          obtain ⟨Aw, nw, cw, rfl, hnw, hcw, hatw⟩ := hw.form
          obtain ⟨rn, rk, rws, rx, rq⟩ := r
          obtain ⟨⟨hk1, hk2⟩, ⟨hn1, hn2⟩, ⟨hw1, hw2⟩, hx⟩ := hrs
          simp only at k0 k1 k3 k4 hk1 hk2 hn1 hn2 hw1 hw2 hx hnw hatw hr4x
          have j0 : (0 : Int) ≤ (j : Int) := by omega
          have j1 : (j : Int) < (nr : Int) := by omega
          have hwat : Hid (0 < nw → ∃ b o, Aw = some ⟨b, o, none⟩ ∧ P b ∧ ∀ j (hj : j < rws.length), w.cell? ⟨b, o + j, none⟩ = some (.string rws[j])) := Lib.hid hatw
          have hnw10 : nw ≤ 10 := by omega
          replace hnw := Lib.hid hnw
          replace hw2 := Lib.hid hw2
          replace hr4x := Lib.hid hr4x
          clear hcell hat hr hw hatw hw1
          go_upto_region 12 with fail
          obtain ⟨wq, hwq⟩ : ∃ wq, wp.alloc (.cells #[.string rn, .int .i64 rk, .slice Aw nw cw, .string rx, .bool rq] 34) = wq := ⟨_, rfl⟩
          have hBq : Hid (Below w7.heap.size w7 wq) := Lib.hid (by rw [← hwq]; exact hB.out.alloc hB.out.size _)
          have hBwq : Hid (Below w.heap.size w wq) := Lib.hid (by rw [← hwq]; exact hBw.out.alloc hBw.out.size _)
          have hRq : Hid (wq.heap[wp.heap.size]? = some (.cells #[.string rn, .int .i64 rk, .slice Aw nw cw, .string rx, .bool rq] 34)) := Lib.hid (by rw [← hwq]; exact blk_new _ _)
          have hKq : Hid (wq.heap[kb]? = some (.cells #[.string ⟨#[]⟩, .string ⟨#[97, 110, 121]⟩, .string ⟨#[101, 110, 117, 109]⟩, .string ⟨#[115, 99, 104, 101, 109, 101]⟩, .string ⟨#[109, 97, 116, 99, 104]⟩] 9)) := Lib.hid (by rw [← hwq]; exact blk_alloc hKp.out _)
          rw [hwq]
          clear hwq k0 k1 k2 k3 k4 g2 hB hBw
          have f0 := blk_cell hRq.out 0
          have f1 := blk_cell hRq.out 1
          obtain ⟨kn, rfl⟩ : ∃ kn : Nat, (kn : Int) = rk := ⟨rk.toNat, Int.toNat_of_nonneg (by omega)⟩
          have hkc : wq.cell? ⟨kb, kn, none⟩ = some (.string (kindW kn)) := by
            rw [blk_cell hKq.out]
            rcases (show kn = 1 ∨ kn = 2 ∨ kn = 3 ∨ kn = 4 by omega) with rfl | rfl | rfl | rfl <;> rfl
          have hkz : Hid ((kindW kn).size ≤ 6) := Lib.hid (by
            rcases (show kn = 1 ∨ kn = 2 ∨ kn = 3 ∨ kn = 4 by omega) with rfl | rfl | rfl | rfl <;> decide)
          obtain ⟨kw, hkw⟩ : ∃ kw, kindW kn = kw := ⟨_, rfl⟩
          rw [hkw] at hkc hkz
          replace hkw := Lib.hid hkw
          have m0 : (0 : Int) ≤ (kn : Int) := by omega
          have m1 : (kn : Int) < 5 := by omega
          go_region
          obtain ⟨w8, hw8⟩ : ∃ w8, (wq.alloc (.cells #[.string rn, .string kw] 9)).drew = w8 := ⟨_, rfl⟩
          have hB8 : Hid (Below wq.heap.size wq w8) := Lib.hid (by rw [← hw8]; exact ((Below.refl _ _).alloc (Nat.le_refl _) _).drew)
          have hO8 : Hid (OwnS w8 wq.heap.size (.slice (some ⟨wq.heap.size, 0, none⟩) 2 2) [rn, kw]) := Lib.hid (by
            rw [← hw8]
            exact ⟨rfl, .inr ⟨wq.heap.size, 2, _, rfl, Nat.le_refl _, blk_drew (blk_new wq _), Nat.le_refl _, by decide, rfl, rfl⟩⟩)
          rw [hw8]
          clear hw8 f0 f1 hkc m0 m1 hKq hEp hKp
          go_wp2
          go_loopw [9, 10] (fun x9 x10 wr => ∃ k : Nat, x10 = .int .i64 k ∧ k ≤ nw ∧ Hid (OwnS wr wq.heap.size x9 (rn :: kw :: (rws.take k).map fun s => tx (quoteL s.data.toList))) ∧ Hid (Below wq.heap.size wq wr)) (fun _ x10 _ => nw - (intOf x10).toNat)
          case atStart => exact ⟨0, rfl, Nat.zero_le _, by simpa using hO8, hB8⟩
          case round =>
            clear hO8 hB8
            obtain ⟨k, rfl, hk, hO, hB⟩ := hrel
            obtain ⟨vo, hvo⟩ : ∃ vo, vo = u9 := ⟨_, rfl⟩
            rw [← hvo] at hO ⊢
            clear hvo
            have hBwr : Hid (Below w.heap.size w wr) := Lib.hid (hBwq.out.trans (hB.out.mono hBwq.out.size))
            have hRr : Hid (wr.heap[wp.heap.size]? = some (.cells #[.string rn, .int .i64 kn, .slice Aw nw cw, .string rx, .bool rq] 34)) := Lib.hid (blk_below hRq.out hB.out (blk_lt hRq.out))
            have f1 := blk_cell hRr.out 1
            have f2 := blk_cell hRr.out 2
            have f3 := blk_cell hRr.out 3
            have f4 := blk_cell hRr.out 4
            have hzr := hB.out.size
            have hlO : Hid ((rn :: kw :: (rws.take k).map fun s => tx (quoteL s.data.toList)).length = 2 + k) := Lib.hid (by
              have := hnw.out
              simp
              omega)
            obtain ⟨D, hD⟩ : ∃ D, (rn :: kw :: (rws.take k).map fun s => tx (quoteL s.data.toList)) = D := ⟨_, rfl⟩
            rw [hD] at hO hlO
            have hDl : D.length ≤ 12 := by rw [hlO.out]; omega
            replace hD := Lib.hid hD
            by_cases hkl : k < nw
            · have hkr : k < rws.length := by rw [← hnw.out]; exact hkl
              obtain ⟨b3, o3, rfl, hPb3, hcw⟩ := hwat.out (by omega)
              have c0 := (hBwr.out.cell (p := ⟨b3, o3 + k, none⟩) (hP.out b3 hPb3)).trans (hcw k hkr)
              obtain ⟨s, hs'⟩ : ∃ s, rws[k] = s := ⟨_, rfl⟩
              rw [hs'] at c0
              have hss := hw2.out s (by rw [← hs']; exact List.getElem_mem hkr)
              have hq := fun wx => refQuote_any s (by omega) wx
              obtain ⟨q, hqd⟩ : ∃ q, tx (quoteL s.data.toList) = q := ⟨_, rfl⟩
              unfold TextPost at hq
              rw [hqd] at hq
              have hnx2 : Hid ((rn :: kw :: (rws.take (k + 1)).map fun s => tx (quoteL s.data.toList)) = D ++ [q]) := Lib.hid (by
                rw [List.take_add_one, List.getElem?_eq_getElem hkr, hs', ← hD.out, ← hqd]
                simp)
              have j2 : (0 : Int) ≤ (k : Int) := by omega
              have j3 : (k : Int) < (nw : Int) := by omega
              clear hcw hs' hqd
              go_upto_if 68 with fail
              clear f1 f3 f4 hRr hBwr
              go_wp2_with (first
                | (go_at_call 23; refine (hq _).mono ?_; rintro e9 w9 ⟨rfl, hB9⟩; have hO9 : Hid (OwnS w9 wq.heap.size vo D) := Lib.hid (own_below hO.out hB9 (Nat.le_refl _)); have hz9 : wq.heap.size ≤ w9.heap.size := Nat.le_trans hzr hB9.size; replace hB9 := Lib.hid hB9)
                | (at_builtin; refine wpList_append_new_at info9 Tryz.underlying22 rfl (by decide) (by decide) wq.heap.size hO9.out 1 rfl _ _ rfl rfl rfl (by simp) rfl rfl (by omega) hz9 ?_; intro v10 w10 hown10 hbel10 hgt10 hgrow10 hnew10))
              refine ⟨⟨k + 1, by simp, by omega, Lib.hid ?_, Lib.hid ((hB.out.trans (hB9.out.mono hzr)).trans hbel10)⟩, by simp [intOf]; omega⟩
              rw [hnx2.out]
              unfold OwnS
              rw [List.length_append, List.length_singleton, strV_snoc]
              exact hown10
            · have j3 : ¬ (k : Int) < (nw : Int) := by omega
              have hDe : Hid (rn :: kw :: (rws.map fun s => tx (quoteL s.data.toList)) = D) := Lib.hid (by rw [← hD.out, List.take_of_length_le (by rw [← hnw.out]; omega)])
              have hq := fun wx => refQuote_any rx (by omega) wx
              obtain ⟨q, hqd⟩ : ∃ q, tx (quoteL rx.data.toList) = q := ⟨_, rfl⟩
              unfold TextPost at hq
              rw [hqd] at hq
              replace hqd := Lib.hid hqd
              have hbw2 := hBwr.out.size
              clear hBwr
              go_upto_if 84 with fail
              clear f1 f2 f4
              go_cut [9] (fun x9 wx => Hid (OwnS wx wq.heap.size x9 (ownL ⟨rn, kn, rws, rx, rq⟩)) ∧ Hid (Below wq.heap.size wq wx))
              case first =>
                by_cases h44 : kn = 4
                · subst h44
                  have hown : Hid (ownL ⟨rn, ((4 : Nat) : Int), rws, rx, rq⟩ = D ++ [q]) := Lib.hid (by
                    rw [← hDe.out, hr4x.out rfl, ← hkw.out, ← hqd.out]
                    rfl)
                  go_wp2_with (first
                    | (go_at_call 23; refine (hq _).mono ?_; rintro e9 w9 ⟨rfl, hB9⟩; have hO9 : Hid (OwnS w9 wq.heap.size vo D) := Lib.hid (own_below hO.out hB9 (Nat.le_refl _)); have hz9 : wq.heap.size ≤ w9.heap.size := Nat.le_trans hzr hB9.size; replace hB9 := Lib.hid hB9)
                    | (at_builtin; refine wpList_append_new_at info9 Tryz.underlying22 rfl (by decide) (by decide) wq.heap.size hO9.out 1 rfl _ _ rfl rfl rfl (by simp) rfl rfl (by omega) hz9 ?_; intro v10 w10 hown10 hbel10 hgt10 hgrow10 hnew10))
                  go_meet
                  refine ⟨Lib.hid ?_, Lib.hid ((hB.out.trans (hB9.out.mono hzr)).trans hbel10)⟩
                  rw [hown.out]
                  unfold OwnS
                  rw [List.length_append, List.length_singleton, strV_snoc]
                  exact hown10
                · have hk4 : ((kn : Int) == 4) = false := beq_eq_false_iff_ne.2 (by omega)
                  have hown : Hid (ownL ⟨rn, (kn : Int), rws, rx, rq⟩ = D) := Lib.hid (by
                    rw [← hDe.out, ← hkw.out]
                    unfold ownL argsOf
                    rw [if_neg (by simp; omega)])
                  clear h44
                  go_wp2
                  go_meet
                  exact ⟨Lib.hid (by rw [hown.out]; exact hO.out), hB⟩
              case rest =>
              obtain ⟨hO10, hB10⟩ := hcut
              obtain ⟨w10, hw10⟩ : ∃ w10 : World, w10 = wc := ⟨_, rfl⟩
              obtain ⟨v10, hv10⟩ : ∃ v10, v10 = u9 := ⟨_, rfl⟩
              rw [← hw10, ← hv10] at hO10
              rw [← hw10] at hB10
              rw [← hw10, ← hv10]
              clear hw10 hv10 f3
              have hR10 : Hid (w10.heap[wp.heap.size]? = some (.cells #[.string rn, .int .i64 kn, .slice Aw nw cw, .string rx, .bool rq] 34)) := Lib.hid (blk_below hRq.out hB10.out (blk_lt hRq.out))
              have f4 := blk_cell hR10.out 4
              have hrw : (reqW rq).size ≤ 10 := by cases rq <;> decide
              have hkwz : (kindW kn).size ≤ 6 := by rw [hkw.out]; exact hkz.out
              have hlc := refList_any (reqW rq) v10 (ownL ⟨rn, kn, rws, rx, rq⟩) _ w10 hO10.out.fresh hrw (by
                have h2 : (argsOf ⟨rn, kn, rws, rx, rq⟩).length ≤ 10 := by
                  unfold argsOf
                  split
                  · simp
                  · rw [← hnw.out]; exact hnw10
                unfold ownL
                rw [List.length_cons, List.length_cons, List.length_map]
                omega) (fun s hs => by
                unfold ownL argsOf at hs
                simp only [List.mem_cons, List.mem_map] at hs
                rcases hs with rfl | rfl | ⟨t, ht, rfl⟩
                · omega
                · exact Nat.le_trans hkwz (by decide)
                · rw [tx_size]
                  have h1 := quoteL_size t
                  have h2 : t.size ≤ 50 := by
                    split at ht
                    · rw [List.mem_singleton.1 ht]; exact hx
                    · exact hw2.out t ht
                  omega)
              rw [show lineB (reqW rq) (ownL ⟨rn, kn, rws, rx, rq⟩) = ruleB ⟨rn, kn, rws, rx, rq⟩ from (ruleB_line ⟨rn, kn, rws, rx, rq⟩).symm] at hlc
              have hrbl := ruleB_len (r := ⟨rn, kn, rws, rx, rq⟩) ⟨⟨hk1, hk2⟩, ⟨hn1, hn2⟩, ⟨by show rws.length ≤ 10; rw [← hnw.out]; exact hnw10, hw2.out⟩, hx⟩
              obtain ⟨tR, htR⟩ : ∃ tR, tx (ruleB ⟨rn, kn, rws, rx, rq⟩) = tR := ⟨_, rfl⟩
              have htRl : tR.size ≤ 1200 := by rw [← htR, tx_size]; exact hrbl
              unfold TxIs at hlc
              rw [htR] at hlc
              have hz5 : ¬ 9223372036854775807 < sM.size + tR.size := by omega
              have hcat : Hid (sM ++ tR = tx (LE ++ (x.rules.take (j + 1)).flatMap ruleB)) := Lib.hid (by rw [hnx.out, tx_append, hsM.out, htR])
              replace htR := Lib.hid htR
              replace hrbl := Lib.hid hrbl
              have hlc2 := hlc
              cases rq with
              | true =>
                go_wp2_with (go_at_call 49; refine hlc.mono ?_; rintro e11 w11 ⟨rfl, hB11⟩)
                exact ⟨⟨j + 1, by simp, by omega, by rw [hcat.out], Lib.hid (hBq.out.trans ((hB10.out.trans (hB11.mono hB10.out.size)).mono hBq.out.size))⟩, by simp [intOf]; omega⟩
              | false =>
                go_wp2_with (go_at_call 49; refine hlc.mono ?_; rintro e11 w11 ⟨rfl, hB11⟩)
                exact ⟨⟨j + 1, by simp, by omega, by rw [hcat.out], Lib.hid (hBq.out.trans ((hB10.out.trans (hB11.mono hB10.out.size)).mono hBq.out.size))⟩, by simp [intOf]; omega⟩
        · have j1 : ¬ (j : Int) < (nr : Int) := by omega
          have hM2 : Hid (tx (H ++ (p.elts.take (i + 1)).flatMap eltB) = sM) := Lib.hid (by
            rw [hnext2.out, ← hsM.out, ← hM.out, List.take_of_length_le (by rw [← hnr.out]; omega)])
          go_wp2
          exact ⟨⟨i + 1, by simp, by omega, by rw [hM2.out], Lib.hid (hB7.out.trans (hB.out.mono hB7.out.size))⟩, by simp [intOf]; omega⟩
    · have i1 : ¬ (i : Int) < (ne : Int) := by omega
      have hfin : Hid (tx (printB p) = sN) := Lib.hid (by
        rw [← hsN.out, ← hN.out, List.take_of_length_le (by rw [← hne.out]; omega), ← hHp.out]
        rfl)
      go_wp2
      go_ret
      exact ⟨by rw [hfin.out]; rfl, hBw.out⟩
end Go.Proofs.YtghlodpbbghcoaaGreatDoor

/- Two policies compared by the document: walked, where they are one. -/
namespace Go.Proofs.YtghlodpbbghcoaaGreatDoor
open Go.RowKit
set_option maxRecDepth 8192 in
set_option maxHeartbeats 6400000 in
theorem same13_any (vt ve vu vt2 ve2 vu2 : Value) (p : Pol) (P Q : Nat → Prop) (w : World) (hP : ∀ k, P k → k < w.heap.size) (hQ : ∀ k, Q k → k < w.heap.size) (h : PolAt w P vt ve vu p) (g : PolAt w Q vt2 ve2 vu2 p) (hs : p.Sml) :
    Calls Tryz.prog 28 #[.agg #[vt, ve, vu], .agg #[vt2, ve2, vu2]] w fun e w' => e = .returned (.bool true) ∧ Below w.heap.size w w' := by
  have hl : Hid (∀ (wx : World) (v1 v2 : Value) (l : List ByteArray), Below w.heap.size w wx → StrsAt w P v1 l → StrsAt w Q v2 l → l.length ≤ 100 → Calls Tryz.prog 50 #[v1, v2] wx fun e w' => e = .returned (.bool true) ∧ Below wx.heap.size wx w') := Lib.hid (fun wx v1 v2 l hb h1 h2 hn =>
    lists_any v1 v2 l P Q wx (h1.move (Stays.below hb hP) (fun _ h => h)) (h2.move (Stays.below hb hQ) (fun _ h => h)) hn)
  have ht1 := hs.top.1
  have hu1 := hs.unwrap.1
  have hct : Hid (∀ wx, Below w.heap.size w wx → Calls Tryz.prog 50 #[vt, vt2] wx fun e w' => e = .returned (.bool true) ∧ Below wx.heap.size wx w') := Lib.hid (fun wx hb => hl.out wx _ _ _ hb h.top g.top (by omega))
  have hcu : Hid (∀ wx, Below w.heap.size w wx → Calls Tryz.prog 50 #[vu, vu2] wx fun e w' => e = .returned (.bool true) ∧ Below wx.heap.size wx w') := Lib.hid (fun wx hb => hl.out wx _ _ _ hb h.unwrap g.unwrap (by omega))
  obtain ⟨At, nt, ct, rfl, -, -, -⟩ := h.top.form
  obtain ⟨Ae, ne, ce, rfl, hne, hce, hatE⟩ := h.elts.form
  obtain ⟨Au, nu, cu, rfl, -, -, -⟩ := h.unwrap.form
  obtain ⟨At2, nt2, ct2, rfl, -, -, -⟩ := g.top.form
  obtain ⟨Ae2, ne2, ce2, rfl, hne2, hce2, hatE2⟩ := g.elts.form
  obtain ⟨Au2, nu2, cu2, rfl, -, -, -⟩ := g.unwrap.form
  obtain rfl : ne = ne2 := by omega
  have hne6 : ne ≤ 6 := by have := hs.elts.1; omega
  obtain ⟨w1, hw1⟩ : ∃ w1, (w.alloc (.cells #[.slice At nt ct, .slice Ae ne ce, .slice Au nu cu] 25)).alloc (.cells #[.slice At2 nt2 ct2, .slice Ae2 ne ce2, .slice Au2 nu2 cu2] 25) = w1 := ⟨_, rfl⟩
  have hB1 : Hid (Below w.heap.size w w1) := Lib.hid (by rw [← hw1]; exact ((Below.refl _ _).alloc (Nat.le_refl _) _).alloc (by simp) _)
  have hG1 : Hid (w1.heap[w.heap.size]? = some (.cells #[.slice At nt ct, .slice Ae ne ce, .slice Au nu cu] 25)) := Lib.hid (by rw [← hw1]; exact blk_alloc (blk_new _ _) _)
  have hH1 : Hid (w1.heap[w.heap.size + 1]? = some (.cells #[.slice At2 nt2 ct2, .slice Ae2 ne ce2, .slice Au2 nu2 cu2] 25)) := Lib.hid (by rw [← hw1]; exact blk_new' (by simp))
  replace hne := Lib.hid hne
  replace hatE := Lib.hid hatE
  replace hatE2 := Lib.hid hatE2
  replace hs := Lib.hid hs
  replace hP := Lib.hid hP
  replace hQ := Lib.hid hQ
  clear hne2 h g ht1 hu1
  go_enter Tryz.func28, Tryz.ntmps28
  go_upto_region 1 with fail
  try rw [hw1]
  clear hw1
  have a0 := blk_cell hG1.out 0
  have b0 := blk_cell hH1.out 0
  go_upto_region 3 with (first
    | (go_at_call_of 50 (Value.slice At nt ct); refine (hct.out _ hB1.out).mono ?_; rintro e2 w2 ⟨rfl, hB2⟩; have hG2 := Lib.hid (blk_below hG1.out hB2 (blk_lt hG1.out)); have hH2 := Lib.hid (blk_below hH1.out hB2 (blk_lt hH1.out)); have a2 := blk_cell hG2.out 2; have b2 := blk_cell hH2.out 2; have hBw2 := Lib.hid (hB1.out.trans (hB2.mono hB1.out.size)); replace hB2 := Lib.hid hB2)
    | (go_at_call_of 50 (Value.slice Au nu cu); refine (hcu.out _ hBw2.out).mono ?_; rintro e3 w3 ⟨rfl, hB3⟩; have hG3 := Lib.hid (blk_below hG2.out hB3 (blk_lt hG2.out)); have hH3 := Lib.hid (blk_below hH2.out hB3 (blk_lt hH2.out)); have a1 := blk_cell hG3.out 1; have b1 := blk_cell hH3.out 1; have hBw3 := Lib.hid (hBw2.out.trans (hB3.mono hBw2.out.size)); replace hB3 := Lib.hid hB3))
  clear hct hcu hG1 hH1 hG2 hH2 a0 b0 a2 b2 a1 b1 hB1 hBw2 hB2 hB3
  go_wp2
  go_loopw [5] (fun x5 wr => ∃ i : Nat, x5 = .int .i64 i ∧ i ≤ ne ∧ Hid (Below w3.heap.size w3 wr)) (fun x5 _ => ne - (intOf x5).toNat)
  case atStart => exact ⟨0, rfl, Nat.zero_le _, Lib.hid (Below.refl _ _)⟩
  case round =>
    obtain ⟨i, rfl, hi, hB⟩ := hrel
    obtain ⟨wo, hwo⟩ : ∃ wo : World, wo = wr := ⟨_, rfl⟩
    rw [← hwo] at hB ⊢
    clear hwo
    clear wr
    have hBw : Hid (Below w.heap.size w wo) := Lib.hid (hBw3.out.trans (hB.out.mono hBw3.out.size))
    have hGo : Hid (wo.heap[w.heap.size]? = some (.cells #[.slice At nt ct, .slice Ae ne ce, .slice Au nu cu] 25)) := Lib.hid (blk_below hG3.out hB.out (blk_lt hG3.out))
    have hHo : Hid (wo.heap[w.heap.size + 1]? = some (.cells #[.slice At2 nt2 ct2, .slice Ae2 ne ce2, .slice Au2 nu2 cu2] 25)) := Lib.hid (blk_below hH3.out hB.out (blk_lt hH3.out))
    have a1 := blk_cell hGo.out 1
    have b1 := blk_cell hHo.out 1
    by_cases hlt : i < ne
    · have hil : i < p.elts.length := by rw [← hne.out]; exact hlt
      obtain ⟨b, o, rfl, hPb, hcell⟩ := hatE.out (by omega)
      obtain ⟨b', o', rfl, hPb', hcell'⟩ := hatE2.out (by omega)
      obtain ⟨vk, vr, c0, c1, c2, hk, hrl⟩ := hcell i hil
      obtain ⟨vk', vr', d0, d1, d2, hk', hrl'⟩ := hcell' i hil
      replace c0 := (hBw.out.cell (p := ⟨b, _, none⟩) (hP.out b hPb)).trans c0
      replace c1 := (hBw.out.cell (p := ⟨b, _, none⟩) (hP.out b hPb)).trans c1
      replace c2 := (hBw.out.cell (p := ⟨b, _, none⟩) (hP.out b hPb)).trans c2
      replace d0 := (hBw.out.cell (p := ⟨b', _, none⟩) (hQ.out b' hPb')).trans d0
      replace d1 := (hBw.out.cell (p := ⟨b', _, none⟩) (hQ.out b' hPb')).trans d1
      replace d2 := (hBw.out.cell (p := ⟨b', _, none⟩) (hQ.out b' hPb')).trans d2
      have hsm := hs.out.elts.2 _ (List.getElem_mem hil)
      obtain ⟨x, hx⟩ : ∃ x, p.elts[i] = x := ⟨_, rfl⟩
      rw [hx] at c0 hk hrl hsm d0 hk' hrl'
      obtain ⟨Ak, nk, ck, rfl, -, -, -⟩ := hk.form
      obtain ⟨Ar, nr, cr, rfl, hnr, hcr, hatR⟩ := hrl.form
      obtain ⟨Ak', nk', ck', rfl, -, -, -⟩ := hk'.form
      obtain ⟨Ar', nr', cr', rfl, hnr', hcr', hatR'⟩ := hrl'.form
      obtain rfl : nr = nr' := by omega
      have hkl := hsm.kids.1
      have hck : Hid (∀ wx, Below w.heap.size w wx → Calls Tryz.prog 50 #[.slice Ak nk ck, .slice Ak' nk' ck'] wx fun e w' => e = .returned (.bool true) ∧ Below wx.heap.size wx w') := Lib.hid (fun wx hb => hl.out wx _ _ _ hb hk hk' (by omega))
      obtain ⟨xn, hxn⟩ : ∃ xn, x.name = xn := ⟨_, rfl⟩
      rw [hxn] at c0 d0
      have i0 : (0 : Int) ≤ (i : Int) := by omega
      have i1 : (i : Int) < (ne : Int) := by omega
      have hr4 : nr ≤ 4 := by have := hsm.rules.1; omega
      replace hsm := Lib.hid hsm
      replace hnr := Lib.hid hnr
      replace hatR := Lib.hid hatR
      replace hatR' := Lib.hid hatR'
      clear hcell hcell' hx hxn hk hk' hrl hrl' hnr' hkl
      have z1 : ∀ oo, (wo.alloc oo).cell? ⟨w.heap.size + 1, 1, none⟩ = some (.slice (some ⟨b', o', none⟩) ne ce2) := fun oo => blk_cell (blk_alloc hHo.out oo) 1
      have hb'w : b' < wo.heap.size := Nat.lt_of_lt_of_le (hQ.out b' hPb') hBw.out.size
      have z2 : ∀ oo, (wo.alloc oo).cell? ⟨b', o' + i * 3, none⟩ = some (.string xn) := fun oo => (World.cell?_of_block (w := wo) (Below.heap_alloc wo oo b' hb'w)).trans d0
      have z3 : ∀ oo, (wo.alloc oo).cell? ⟨b', o' + i * 3 + 1, none⟩ = some (.slice Ak' nk' ck') := fun oo => (World.cell?_of_block (w := wo) (Below.heap_alloc wo oo b' hb'w)).trans d1
      have z4 : ∀ oo, (wo.alloc oo).cell? ⟨b', o' + i * 3 + 2, none⟩ = some (.slice Ar' nr cr') := fun oo => (World.cell?_of_block (w := wo) (Below.heap_alloc wo oo b' hb'w)).trans d2
      go_upto_region 8 with fail
      clear z1 z2 z3 z4
      obtain ⟨wa, hwa⟩ : ∃ wa, (wo.alloc (.cells #[.string xn, .slice Ak nk ck, .slice Ar nr cr] 30)).alloc (.cells #[.string xn, .slice Ak' nk' ck', .slice Ar' nr cr'] 30) = wa := ⟨_, rfl⟩
      have hBa : Hid (Below w3.heap.size w3 wa) := Lib.hid (by rw [← hwa]; exact (hB.out.alloc hB.out.size _).alloc (by have := hB.out.size; simp; omega) _)
      have hBwa : Hid (Below w.heap.size w wa) := Lib.hid (by rw [← hwa]; exact (hBw.out.alloc hBw.out.size _).alloc (by have := hBw.out.size; simp; omega) _)
      have hE : Hid (wa.heap[wo.heap.size]? = some (.cells #[.string xn, .slice Ak nk ck, .slice Ar nr cr] 30)) := Lib.hid (by rw [← hwa]; exact blk_alloc (blk_new _ _) _)
      have hE' : Hid (wa.heap[wo.heap.size + 1]? = some (.cells #[.string xn, .slice Ak' nk' ck', .slice Ar' nr cr'] 30)) := Lib.hid (by rw [← hwa]; exact blk_new' (by simp))
      try rw [hwa]
      clear hwa c0 c1 c2 d0 d1 d2 a1 b1 hB hBw hGo hHo
      have e0 := blk_cell hE.out 0
      have e1 := blk_cell hE.out 1
      have f0 := blk_cell hE'.out 0
      have f1 := blk_cell hE'.out 1
      go_upto_region 10 with (go_at_call 50; refine (hck.out _ hBwa.out).mono ?_; rintro e4 wb ⟨rfl, hBb⟩; have hEb := Lib.hid (blk_below hE.out hBb (blk_lt hE.out)); have hEb' := Lib.hid (blk_below hE'.out hBb (blk_lt hE'.out)); have e2 := blk_cell hEb.out 2; have f2 := blk_cell hEb'.out 2; have hBwb := Lib.hid (hBwa.out.trans (hBb.mono hBwa.out.size)); have hB3b := Lib.hid (hBa.out.trans (hBb.mono hBa.out.size)); clear hBb)
      clear e0 e1 f0 f1 e2 f2 hck hE hE' hBa hBwa
      go_wp2
      go_loopw [8] (fun x8 wr => ∃ j : Nat, x8 = .int .i64 j ∧ j ≤ nr ∧ Hid (Below wb.heap.size wb wr)) (fun x8 _ => nr - (intOf x8).toNat)
      case atStart => exact ⟨0, rfl, Nat.zero_le _, Lib.hid (Below.refl _ _)⟩
      case round =>
        obtain ⟨j, rfl, hj, hB⟩ := hrel
        have hBw : Hid (Below w.heap.size w wr) := Lib.hid (hBwb.out.trans (hB.out.mono hBwb.out.size))
        have hEr : Hid (wr.heap[wo.heap.size]? = some (.cells #[.string xn, .slice Ak nk ck, .slice Ar nr cr] 30)) := Lib.hid (blk_below hEb.out hB.out (blk_lt hEb.out))
        have hEr' : Hid (wr.heap[wo.heap.size + 1]? = some (.cells #[.string xn, .slice Ak' nk' ck', .slice Ar' nr cr'] 30)) := Lib.hid (blk_below hEb'.out hB.out (blk_lt hEb'.out))
        have e2 := blk_cell hEr.out 2
        have f2 := blk_cell hEr'.out 2
        by_cases hjl : j < nr
        · have hjr : j < x.rules.length := by rw [← hnr.out]; exact hjl
          obtain ⟨b2, o2, rfl, hPb2, hcell⟩ := hatR.out (by omega)
          obtain ⟨b2', o2', rfl, hPb2', hcell'⟩ := hatR'.out (by omega)
          obtain ⟨vw, k0, k1, k2, k3, k4, hw⟩ := hcell j hjr
          obtain ⟨vw', m0, m1, m2, m3, m4, hw'⟩ := hcell' j hjr
          have hrs := hsm.out.rules.2 _ (List.getElem_mem hjr)
          obtain ⟨r, hr⟩ : ∃ r, x.rules[j] = r := ⟨_, rfl⟩
          rw [hr] at k0 k1 k3 k4 hw hrs m0 m1 m3 m4 hw'
          replace k0 := (hBw.out.cell (p := ⟨b2, _, none⟩) (hP.out b2 hPb2)).trans k0
          replace k1 := (hBw.out.cell (p := ⟨b2, _, none⟩) (hP.out b2 hPb2)).trans k1
          replace k2 := (hBw.out.cell (p := ⟨b2, _, none⟩) (hP.out b2 hPb2)).trans k2
          replace k3 := (hBw.out.cell (p := ⟨b2, _, none⟩) (hP.out b2 hPb2)).trans k3
          replace k4 := (hBw.out.cell (p := ⟨b2, _, none⟩) (hP.out b2 hPb2)).trans k4
          replace m0 := (hBw.out.cell (p := ⟨b2', _, none⟩) (hQ.out b2' hPb2')).trans m0
          replace m1 := (hBw.out.cell (p := ⟨b2', _, none⟩) (hQ.out b2' hPb2')).trans m1
          replace m2 := (hBw.out.cell (p := ⟨b2', _, none⟩) (hQ.out b2' hPb2')).trans m2
          replace m3 := (hBw.out.cell (p := ⟨b2', _, none⟩) (hQ.out b2' hPb2')).trans m3
          replace m4 := (hBw.out.cell (p := ⟨b2', _, none⟩) (hQ.out b2' hPb2')).trans m4
          have hwl := hrs.words.1
          have hcw : Hid (∀ wx, Below w.heap.size w wx → Calls Tryz.prog 50 #[vw, vw'] wx fun e w' => e = .returned (.bool true) ∧ Below wx.heap.size wx w') := Lib.hid (fun wx hb => hl.out wx _ _ _ hb hw hw' (by omega))
          obtain ⟨Aw, nw, cw, rfl, -, -, -⟩ := hw.form
          obtain ⟨Aw', nw', cw', rfl, -, -, -⟩ := hw'.form
          obtain ⟨rn, rk, rws, rx, rq⟩ := r
          simp only at k0 k1 k3 k4 m0 m1 m3 m4
          have j0 : (0 : Int) ≤ (j : Int) := by omega
          have j1 : (j : Int) < (nr : Int) := by omega
          clear hcell hcell' hr hw hw' hrs hwl
          have z1 : ∀ oo, (wr.alloc oo).cell? ⟨wo.heap.size + 1, 2, none⟩ = some (.slice (some ⟨b2', o2', none⟩) nr cr') := fun oo => blk_cell (blk_alloc hEr'.out oo) 2
          have hb'w : b2' < wr.heap.size := Nat.lt_of_lt_of_le (hQ.out b2' hPb2') hBw.out.size
          have y0 : ∀ oo, (wr.alloc oo).cell? ⟨b2', o2' + j * 5, none⟩ = some (.string rn) := fun oo => (World.cell?_of_block (w := wr) (Below.heap_alloc wr oo b2' hb'w)).trans m0
          have y1 : ∀ oo, (wr.alloc oo).cell? ⟨b2', o2' + j * 5 + 1, none⟩ = some (.int .i64 rk) := fun oo => (World.cell?_of_block (w := wr) (Below.heap_alloc wr oo b2' hb'w)).trans m1
          have y2 : ∀ oo, (wr.alloc oo).cell? ⟨b2', o2' + j * 5 + 2, none⟩ = some (.slice Aw' nw' cw') := fun oo => (World.cell?_of_block (w := wr) (Below.heap_alloc wr oo b2' hb'w)).trans m2
          have y3 : ∀ oo, (wr.alloc oo).cell? ⟨b2', o2' + j * 5 + 3, none⟩ = some (.string rx) := fun oo => (World.cell?_of_block (w := wr) (Below.heap_alloc wr oo b2' hb'w)).trans m3
          have y4 : ∀ oo, (wr.alloc oo).cell? ⟨b2', o2' + j * 5 + 4, none⟩ = some (.bool rq) := fun oo => (World.cell?_of_block (w := wr) (Below.heap_alloc wr oo b2' hb'w)).trans m4
          go_upto_region 15 with fail
          clear z1 y0 y1 y2 y3 y4
          obtain ⟨wc, hwc⟩ : ∃ wc, (wr.alloc (.cells #[.string rn, .int .i64 rk, .slice Aw nw cw, .string rx, .bool rq] 34)).alloc (.cells #[.string rn, .int .i64 rk, .slice Aw' nw' cw', .string rx, .bool rq] 34) = wc := ⟨_, rfl⟩
          have hBc : Hid (Below wb.heap.size wb wc) := Lib.hid (by rw [← hwc]; exact (hB.out.alloc hB.out.size _).alloc (by have := hB.out.size; simp; omega) _)
          have hBwc : Hid (Below w.heap.size w wc) := Lib.hid (by rw [← hwc]; exact (hBw.out.alloc hBw.out.size _).alloc (by have := hBw.out.size; simp; omega) _)
          have hR : Hid (wc.heap[wr.heap.size]? = some (.cells #[.string rn, .int .i64 rk, .slice Aw nw cw, .string rx, .bool rq] 34)) := Lib.hid (by rw [← hwc]; exact blk_alloc (blk_new _ _) _)
          have hR' : Hid (wc.heap[wr.heap.size + 1]? = some (.cells #[.string rn, .int .i64 rk, .slice Aw' nw' cw', .string rx, .bool rq] 34)) := Lib.hid (by rw [← hwc]; exact blk_new' (by simp))
          try rw [hwc]
          clear hwc k0 k1 k2 k3 k4 m0 m1 m2 m3 m4 e2 f2
          have r0 := blk_cell hR.out 0
          have r1 := blk_cell hR.out 1
          have r2 := blk_cell hR.out 2
          have r3 := blk_cell hR.out 3
          have r4 := blk_cell hR.out 4
          have s0 := blk_cell hR'.out 0
          have s1 := blk_cell hR'.out 1
          have s2 := blk_cell hR'.out 2
          have s3 := blk_cell hR'.out 3
          have s4 := blk_cell hR'.out 4
          go_wp2_with (go_at_call 50; refine (hcw.out _ hBwc.out).mono ?_; rintro e6 wd ⟨rfl, hBd⟩)
          exact ⟨⟨j + 1, by simp, by omega, Lib.hid (hBc.out.trans (hBd.mono hBc.out.size))⟩, by simp [intOf]; omega⟩
        · have j1 : ¬ (j : Int) < (nr : Int) := by omega
          go_wp2
          exact ⟨⟨i + 1, by simp, by omega, Lib.hid (hB3b.out.trans (hB.out.mono hB3b.out.size))⟩, by simp [intOf]; omega⟩
    · have i1 : ¬ (i : Int) < (ne : Int) := by omega
      go_wp2
      go_ret
      exact ⟨rfl, hBw.out⟩
end Go.Proofs.YtghlodpbbghcoaaGreatDoor
