/- The law PolicyTop, walked. -/
import Derived.Test.YtghlodpbbghcoaaGreatDoorZ45
import Derived.Test.YtghlodpbbghcoaaGreatDoorSF
import Derived.Test.YtghlodpbbghcoaaGreatDoorZ35
import Derived.Deep.RegionHeld3
import Derived.StillTailTactics
import Derived.Deep.RegionWith
namespace Go.Proofs.YtghlodpbbghcoaaGreatDoor
open Go.Lib Go.RowKit Go.Maps
theorem okN_tag {k : Int} {nm : ByteArray} (h : Nd.okN k nm) : NoTag nm := ⟨by rw [ByteArray.toList_eq]; exact h.2.2.1, by rw [ByteArray.toList_eq]; exact h.2.2.2⟩
/-- Inside at a policy that is made of any, wherever it lies now. -/
theorem inside_at (vt ve vu : Value) (q : Pol) (hf : q.Fit) (P : Nat → Prop) (w0 : World) (hP : ∀ k, P k → k < w0.heap.size) (h : PolAt w0 P vt ve vu q) (par nm tx : ByteArray) (kd : Int) (Aa Ak : Option Addr) (na ca nk ck : Nat) (hkd : kd = 1 ∨ kd = 2 ∨ kd = 3) :
    ∀ W, Below w0.heap.size w0 W → Calls Tryz.prog 16 #[.agg #[vt, ve, vu], .string par, .agg #[.int .i64 kd, .string nm, .slice Aa na ca, .string tx, .slice Ak nk ck]] W (IsB (insideP q par kd nm) W) := fun W hW =>
  inside16_any vt ve vu q par nm tx kd Aa Ak na ca nk ck P W (fun k hk => Nat.lt_of_lt_of_le (hP k hk) hW.size) (h.move (Stays.below hW hP) (fun _ h => h)) hf hkd

set_option maxRecDepth 16384 in
set_option maxHeartbeats 6400000 in
theorem policyTop_any (vt ve vu : Value) (p : Pol) (A : Option Addr) (cap : Nat) (f : Nd.Fo) (w : World) (h : PolAt w (fun k => k < w.heap.size) vt ve vu p) (hin : p.In)
    (hf : f.In) (hc : f.len ≤ cap) (hl : f.len ≤ maxLen) (hr : 0 < f.len → ∃ b o, A = some ⟨b, o, none⟩ ∧ Nd.RowAt w w.heap.size b o f) :
    Calls Tryz.prog 5 #[.agg #[vt, ve, vu], .slice A f.len cap] w (IsB true w) := by
  obtain ⟨At, nt, ct, rfl, -, -, -⟩ := h.top.form
  obtain ⟨Ae, ne, ce, rfl, -, -, -⟩ := h.elts.form
  obtain ⟨Au, nu, cu, rfl, -, -, -⟩ := h.unwrap.form
  obtain ⟨w1, hw1⟩ : ∃ w1, w.alloc (.cells #[.slice At nt ct, .slice Ae ne ce, .slice Au nu cu] 25) = w1 := ⟨_, rfl⟩
  have hB1 : Hid (Below w.heap.size w w1) := Lib.hid (by rw [← hw1]; exact (Below.refl _ _).alloc (Nat.le_refl _) _)
  have hbx : Hid (w1.heap[w.heap.size]? = some (.cells #[.slice At nt ct, .slice Ae ne ce, .slice Au nu cu] 25)) := Lib.hid (by rw [← hw1]; exact blk_new _ _)
  have hgood : Hid (∀ W, Below w1.heap.size w1 W → Calls Tryz.prog 10 #[.agg #[.slice At nt ct, .slice Ae ne ce, .slice Au nu cu]] W (GoodPost p W)) := Lib.hid (fun W hW => by
    have hb := hB1.out.trans (hW.mono hB1.out.size)
    exact good10_any (.slice At nt ct) (.slice Ae ne ce) (.slice Au nu cu) p (fun k => k < w.heap.size) W (fun k hk => Nat.lt_of_lt_of_le hk hb.size) (h.move (Stays.below hb (fun _ h => h)) (fun _ h => h)) hin)
  have hnod : Hid (∀ W, Below w1.heap.size w1 W → Calls Tryz.prog 15 #[.slice A f.len cap] W (Nd.Good12Post W)) := Lib.hid (fun W hW => by
    have hb := hB1.out.trans (hW.mono hB1.out.size)
    exact Nd.good12_any f A cap w.heap.size W hf hc hl hb.size (fun hp => by obtain ⟨b, o, e, hr⟩ := hr hp; exact ⟨b, o, e, Nd.RowAt.below hb hr⟩))
  obtain ⟨fl, hfl⟩ : ∃ fl, f.len = fl := ⟨_, rfl⟩
  rw [hfl] at hnod ⊢
  clear h hin hf hc hl hr hfl
  have d0 := blk_cell hbx.out 0
  have d1 := blk_cell hbx.out 1
  have d2 := blk_cell hbx.out 2
  go_enter Tryz.func5, Tryz.ntmps5
  go_upto_region 2 with (go_at_call 10; refine (hgood.out _ (Below.refl _ _)).mono ?_; rintro e6 w6 ⟨vt', ve', vu', q, rfl, hq, hok, hB6⟩; obtain ⟨A1, n1, c1, rfl, -, -, -⟩ := hq.top.form; obtain ⟨A2, n2, c2, rfl, hn2, -, hat⟩ := hq.elts.form; obtain ⟨A3, n3, c3, rfl, -, -, -⟩ := hq.unwrap.form; replace hn2 := Lib.hid hn2; replace hat := Lib.hid hat; replace hq := Lib.hid hq; replace hok := Lib.hid hok; replace hB6 := Lib.hid hB6)
  obtain ⟨wg, hwg⟩ : ∃ wg, w6.alloc (.cells #[.slice A1 n1 c1, .slice A2 n2 c2, .slice A3 n3 c3] 25) = wg := ⟨_, rfl⟩
  have hBg : Hid (Below w6.heap.size w6 wg) := Lib.hid (by rw [← hwg]; exact (Below.refl _ _).alloc (Nat.le_refl _) _)
  have hgb : Hid (wg.heap[w6.heap.size]? = some (.cells #[.slice A1 n1 c1, .slice A2 n2 c2, .slice A3 n3 c3] 25)) := Lib.hid (by rw [← hwg]; exact blk_new _ _)
  rw [hwg]
  clear hwg hw1 d0 d1 d2
  have hB1g : Hid (Below w1.heap.size w1 wg) := Lib.hid (hB6.out.trans (hBg.out.mono hB6.out.size))
  go_upto_region 3 with (go_at_call 15; refine (hnod.out _ hB1g.out).mono ?_; rintro e7 w7 ⟨wn, vn, out, rfl, hBn, hinv, hokn, -, hszn⟩; replace hBn := Lib.hid hBn; replace hinv := Lib.hid hinv; replace hokn := Lib.hid hokn)
  have hBg7 : Hid (Below wg.heap.size wg w7) := Lib.hid (hBn.out.trans (hinv.out.below.mono hBn.out.size))
  have hrow7 : Hid (RowI nodK 44 (fun _ => True) w7 vn out) := Lib.hid ((nodRow hinv.out).allow (fun _ _ _ => trivial))
  have hnl : out.length ≤ 40 := by have := Nd.Fo.len_size (Nd.nFo out); have := Nd.nFo_len out; omega
  obtain ⟨An, cn, hvn, -⟩ := own_form hrow7.out.own
  subst hvn
  obtain ⟨nn, hnn⟩ : ∃ nn, out.length = nn := ⟨_, rfl⟩
  rw [hnn] at hrow7 hnl ⊢
  clear hinv hszn
  have hB17 : Hid (Below w1.heap.size w1 w7) := Lib.hid (hB1g.out.trans (hBg7.out.mono hB1g.out.size))
  have hbx7 : Hid (w7.heap[w.heap.size]? = some (.cells #[.slice At nt ct, .slice Ae ne ce, .slice Au nu cu] 25)) := Lib.hid (blk_below hbx.out hB17.out (blk_lt hbx.out))
  have d0 := blk_cell hbx7.out 0
  have d1 := blk_cell hbx7.out 1
  have d2 := blk_cell hbx7.out 2
  go_upto_region 4 with (go_at_call 10; refine (hgood.out _ hB17.out).mono ?_; rintro e8 w8 ⟨vt2, ve2, vu2, r, rfl, hqr, hokr, hB8⟩; obtain ⟨A4, n4, c4, rfl, -, -, -⟩ := hqr.top.form; obtain ⟨A5, n5, c5, rfl, -, -, -⟩ := hqr.elts.form; obtain ⟨A6, n6, c6, rfl, -, -, -⟩ := hqr.unwrap.form; replace hqr := Lib.hid hqr; replace hokr := Lib.hid hokr; replace hB8 := Lib.hid hB8)
  have e0 : (w8.alloc (.cells #[.slice A4 n4 c4, .slice A5 n5 c5, .slice A6 n6 c6] 25)).cell? ⟨w8.heap.size, 0, none⟩ = some (.slice A4 n4 c4) := blk_cell (blk_new _ _) 0
  have f0 : (w8.alloc (.cells #[.slice A4 n4 c4, .slice A5 n5 c5, .slice A6 n6 c6] 25)).frozen? ⟨w8.heap.size, 0, none⟩ = false := blk_frozen (blk_new _ _) 0
  go_upto_region 5 with fail
  obtain ⟨wz, hwz⟩ : ∃ wz, w8.alloc (.cells #[.slice none 0 0, .slice A5 n5 c5, .slice A6 n6 c6] 25) = wz := ⟨_, rfl⟩
  have hBz : Hid (Below w8.heap.size w8 wz) := Lib.hid (by rw [← hwz]; exact (Below.refl _ _).alloc (Nat.le_refl _) _)
  have hzb : Hid (wz.heap[w8.heap.size]? = some (.cells #[.slice none 0 0, .slice A5 n5 c5, .slice A6 n6 c6] 25)) := Lib.hid (by rw [← hwz]; exact blk_new _ _)
  rw [hwz]
  clear hwz e0 f0 d0 d1 d2 hgood hnod
  have hB7z : Hid (Below w7.heap.size w7 wz) := Lib.hid (hB8.out.trans (hBz.out.mono hB8.out.size))
  have hB6z : Hid (Below w6.heap.size w6 wz) := Lib.hid ((hBg.out.trans (hBg7.out.mono hBg.out.size)).trans (hB7z.out.mono (Nat.le_trans hBg.out.size hBg7.out.size)))
  have hgz : Hid (wz.heap[w6.heap.size]? = some (.cells #[.slice A1 n1 c1, .slice A2 n2 c2, .slice A3 n3 c3] 25)) := Lib.hid (blk_below (blk_below hgb.out hBg7.out (blk_lt hgb.out)) hB7z.out (Nat.lt_of_lt_of_le (blk_lt hgb.out) hBg7.out.size))
  have hBwz : Hid (Below w.heap.size w wz) := Lib.hid ((hB1.out.trans (hB17.out.mono hB1.out.size)).trans (hB7z.out.mono (Nat.le_trans hB1.out.size hB17.out.size)))
  have hrowz : Hid (RowI nodK 44 (fun _ => True) wz (.slice An nn cn) out) := Lib.hid (hrow7.out.carry hB7z.out)
  have hI1 : Hid (∀ (par nm tx : ByteArray) (kd : Int) (Aa Ak : Option Addr) (na ca nk ck : Nat), (kd = 1 ∨ kd = 2 ∨ kd = 3) → ∀ W, Below wz.heap.size wz W → Calls Tryz.prog 16 #[.agg #[.slice A1 n1 c1, .slice A2 n2 c2, .slice A3 n3 c3], .string par, .agg #[.int .i64 kd, .string nm, .slice Aa na ca, .string tx, .slice Ak nk ck]] W (IsB (insideP q par kd nm) W)) := Lib.hid (fun par nm tx kd Aa Ak na ca nk ck hkd W hW =>
    inside_at _ _ _ q hok.out.fit _ w6 (fun k hk => hk.2) hq.out par nm tx kd Aa Ak na ca nk ck hkd W (hB6z.out.trans (hW.mono hB6z.out.size)))
  have hI2 : Hid (∀ (par nm tx : ByteArray) (kd : Int) (Aa Ak : Option Addr) (na ca nk ck : Nat), (kd = 1 ∨ kd = 2 ∨ kd = 3) → ∀ W, Below wz.heap.size wz W → Calls Tryz.prog 16 #[.agg #[.slice none 0 0, .slice A5 n5 c5, .slice A6 n6 c6], .string par, .agg #[.int .i64 kd, .string nm, .slice Aa na ca, .string tx, .slice Ak nk ck]] W (IsB (insideP ⟨[], r.elts, r.unwrap⟩ par kd nm) W)) := Lib.hid (fun par nm tx kd Aa Ak na ca nk ck hkd W hW =>
    inside_at _ _ _ ⟨[], r.elts, r.unwrap⟩ ⟨⟨Nat.zero_le _, fun s hs => absurd hs (by simp)⟩, hokr.out.fit.unwrap, hokr.out.fit.elts⟩ _ w8 (fun k hk => hk.2) ⟨CRow.nil _ _ _, hqr.out.elts, hqr.out.unwrap⟩ par nm tx kd Aa Ak na ca nk ck hkd W (hBz.out.trans (hW.mono hBz.out.size)))
  have hn25 : n2 ≤ 5 := by
    have h1 := congrArg List.length hok.out.names
    rw [List.length_map] at h1
    have := (gNm_len p.elts 5).1
    have := hn2.out
    omega
  clear hB1g hBg7 hB17 hbx7 hbx hB1 hrow7
  replace hnn := Lib.hid hnn
  go_wp2
  go_loopw [8] (fun x8 wr => ∃ i : Nat, i ≤ nn ∧ x8 = .int .i64 i ∧ Hid (Below wz.heap.size wz wr)) (fun x8 _ => nn - (RowKit.intOf x8).toNat)
  case atStart => exact ⟨0, Nat.zero_le _, rfl, Lib.hid (Below.refl _ _)⟩
  case round =>
    obtain ⟨i, hi, rfl, hB⟩ := hrel
    by_cases hlt : i < nn
    · have hil : i < out.length := by have := hnn.out; omega
      have hrow := hrowz.out.carry hB.out
      obtain ⟨gn, rfl⟩ : ∃ gn, An = some ⟨gn, 0, none⟩ := by
        rcases hrow.form with ⟨e, -⟩ | ⟨g, cap, hv, -⟩
        · rw [e] at hil; simp at hil
        · simp only [Value.slice.injEq] at hv
          exact ⟨g, hv.1⟩
      obtain ⟨Aa, na, ca, Ak, nk, ck, hva, hvk⟩ := nod_slices (hrow.fineAll _ (List.getElem_mem hil))
      obtain ⟨hkn, -⟩ := (hokn.out _ (List.getElem_mem hil)).1
      have c0 : wr.cell? ⟨gn, i * 5, none⟩ = some (.int .i64 out[i].kind) := hrow.cell rfl hil (j := 0) (by decide)
      have c1' : wr.cell? ⟨gn, i * 5 + 1, none⟩ = some (.string out[i].name) := hrow.cell rfl hil (j := 1) (by decide)
      have c2' : wr.cell? ⟨gn, i * 5 + 2, none⟩ = some out[i].va := hrow.cell rfl hil (j := 2) (by decide)
      have c3' : wr.cell? ⟨gn, i * 5 + 3, none⟩ = some (.string out[i].text) := hrow.cell rfl hil (j := 3) (by decide)
      have c4' : wr.cell? ⟨gn, i * 5 + 4, none⟩ = some out[i].vk := hrow.cell rfl hil (j := 4) (by decide)
      have hgn : gn < wz.heap.size := (hrowz.out.own.lt gn rfl).2
      rw [hva] at c2'
      rw [hvk] at c4'
      obtain ⟨kd, hkd⟩ : ∃ x, out[i].kind = x := ⟨_, rfl⟩
      obtain ⟨nm, hnm⟩ : ∃ x, out[i].name = x := ⟨_, rfl⟩
      obtain ⟨tx, htx⟩ : ∃ x, out[i].text = x := ⟨_, rfl⟩
      rw [hkd] at c0 hkn
      rw [hnm] at c1' hkn
      rw [htx] at c3'
      have hkd3 := hkn.2.1
      have hz' := blk_below hzb.out hB.out (blk_lt hzb.out)
      have e0 := blk_cell hz' 0
      have e1 := blk_cell hz' 1
      have e2 := blk_cell hz' 2
      have hin0 := hI2.out ⟨#[]⟩ nm tx kd Aa Ak na ca nk ck hkd3 wr.drew hB.out.drew
      rw [inside_none _ rfl] at hin0
      have hS0 : Hid (∀ W, Below wz.heap.size wz W → W.cell? ⟨gn, i * 5, none⟩ = some (.int .i64 kd) ∧ W.cell? ⟨gn, i * 5 + 1, none⟩ = some (.string nm) ∧ W.cell? ⟨gn, i * 5 + 2, none⟩ = some (.slice Aa na ca) ∧ W.cell? ⟨gn, i * 5 + 3, none⟩ = some (.string tx) ∧ W.cell? ⟨gn, i * 5 + 4, none⟩ = some (.slice Ak nk ck)) := Lib.hid (fun W hW => by
        have hbk : ∀ j, wr.cell? ⟨gn, j, none⟩ = wz.cell? ⟨gn, j, none⟩ := fun j => hB.out.cell (p := ⟨gn, j, none⟩) hgn
        have hbk2 : ∀ j, W.cell? ⟨gn, j, none⟩ = wz.cell? ⟨gn, j, none⟩ := fun j => hW.cell (p := ⟨gn, j, none⟩) hgn
        rw [hbk2, hbk2, hbk2, hbk2, hbk2, ← hbk, ← hbk, ← hbk, ← hbk, ← hbk]
        exact ⟨c0, c1', c2', c3', c4'⟩)
      have hi0 : (0 : Int) ≤ (i : Int) := by omega
      have hi1 : (i : Int) < (nn : Int) := by omega
      clear hrow hva hvk hkd hnm htx hkn hz'
      go_upto_region 8 with fail
      go_still_tail 5, (by kernel_rfl)
      change wpList _ _ _ _ _ wr.drew
      generalize hwq : wr.drew = wq at hin0 ⊢
      have hBq : Hid (Below wz.heap.size wz wq) := Lib.hid (by rw [← hwq]; exact hB.out.drew)
      clear hwq hB c0 c1' c2' c3' c4' e0 e1 e2
      go_upto_region 10 with (go_at_call 16; refine hin0.mono ?_; rintro e5 w5 ⟨rfl, hB5⟩; replace hB5 := Lib.hid (hBq.out.trans (hB5.mono hBq.out.size)))
      clear hin0 hBq
      obtain ⟨w4, hw4⟩ : ∃ w4 : World, w4 = w5 := ⟨_, rfl⟩
      rw [← hw4] at hB5 ⊢
      clear hw4
      go_wp2
      go_loopw [9] (fun x9 wr => ∃ k : Nat, k ≤ n2 ∧ x9 = .int .i64 k ∧ Hid (Below wz.heap.size wz wr)) (fun x9 _ => n2 - (RowKit.intOf x9).toNat)
      case atStart => exact ⟨0, Nat.zero_le _, rfl, hB5⟩
      case round =>
        obtain ⟨k, hk, rfl, hB⟩ := hrel
        clear hB5
        have hz' := blk_below hzb.out hB.out (blk_lt hzb.out)
        have hg' := blk_below hgz.out hB.out (blk_lt hgz.out)
        have d1 := blk_cell hg' 1
        by_cases hlk : k < n2
        · have hkl : k < q.elts.length := by have := hn2.out; omega
          obtain ⟨b, o, rfl, hPb, hc⟩ := hat.out (by omega)
          obtain ⟨vk, vr, h0, -⟩ := hc k hkl
          have hpn := plain_ne (hok.out.elt_plain (List.getElem_mem hkl))
          obtain ⟨s, hs⟩ : ∃ s, q.elts[k].name = s := ⟨_, rfl⟩
          rw [hs] at h0 hpn
          have hsame := inside_same hok.out hokr.out hpn kd nm
          have hc1 : Hid (∀ W, Below wz.heap.size wz W → _) := Lib.hid (hI1.out s nm tx kd Aa Ak na ca nk ck hkd3)
          have hc2 : Hid (∀ W, Below wz.heap.size wz W → _) := Lib.hid (hI2.out s nm tx kd Aa Ak na ca nk ck hkd3)
          rw [hsame] at hc2
          obtain ⟨bb, hbb⟩ : ∃ bb, insideP q s kd nm = bb := ⟨_, rfl⟩
          rw [hbb] at hc1 hc2
          have hb6 : b < w6.heap.size := hPb.2
          have hS : Hid (∀ W, Below wz.heap.size wz W → (W.cell? ⟨w6.heap.size, 0, none⟩ = some (.slice A1 n1 c1) ∧ W.cell? ⟨w6.heap.size, 1, none⟩ = some (.slice (some ⟨b, o, none⟩) n2 c2) ∧ W.cell? ⟨w6.heap.size, 2, none⟩ = some (.slice A3 n3 c3)) ∧ (W.cell? ⟨w8.heap.size, 0, none⟩ = some (.slice none 0 0) ∧ W.cell? ⟨w8.heap.size, 1, none⟩ = some (.slice A5 n5 c5) ∧ W.cell? ⟨w8.heap.size, 2, none⟩ = some (.slice A6 n6 c6)) ∧ W.cell? ⟨gn, i * 5, none⟩ = some (.int .i64 kd) ∧ W.cell? ⟨gn, i * 5 + 1, none⟩ = some (.string nm) ∧ W.cell? ⟨gn, i * 5 + 2, none⟩ = some (.slice Aa na ca) ∧ W.cell? ⟨gn, i * 5 + 3, none⟩ = some (.string tx) ∧ W.cell? ⟨gn, i * 5 + 4, none⟩ = some (.slice Ak nk ck)) := Lib.hid (fun W hW => by
            have e1 := blk_below hgz.out hW (blk_lt hgz.out)
            have e2 := blk_below hzb.out hW (blk_lt hzb.out)
            exact ⟨⟨blk_cell e1 0, blk_cell e1 1, blk_cell e1 2⟩, ⟨blk_cell e2 0, blk_cell e2 1, blk_cell e2 2⟩, hS0.out W hW⟩)
          have c0 := ((hB6z.out.trans (hB.out.mono hB6z.out.size)).cell (p := ⟨b, o + k * 3, none⟩) hb6).trans h0
          have hk0 : (0 : Int) ≤ (k : Int) := by omega
          have hk1 : (k : Int) < (n2 : Int) := by omega
          clear hc h0 hs hsame hbb hz' hg' hpn
          go_upto_region 14 with fail
          clear c0 d1
          have hBx : Hid (Below wz.heap.size wz wr.drew) := Lib.hid hB.out.drew
          go_region_held3 (fun W => (W.cell? ⟨w6.heap.size, 0, none⟩ = some (.slice A1 n1 c1) ∧ W.cell? ⟨w6.heap.size, 1, none⟩ = some (.slice (some ⟨b, o, none⟩) n2 c2) ∧ W.cell? ⟨w6.heap.size, 2, none⟩ = some (.slice A3 n3 c3)) ∧ (W.cell? ⟨w8.heap.size, 0, none⟩ = some (.slice none 0 0) ∧ W.cell? ⟨w8.heap.size, 1, none⟩ = some (.slice A5 n5 c5) ∧ W.cell? ⟨w8.heap.size, 2, none⟩ = some (.slice A6 n6 c6)) ∧ W.cell? ⟨gn, i * 5, none⟩ = some (.int .i64 kd) ∧ W.cell? ⟨gn, i * 5 + 1, none⟩ = some (.string nm) ∧ W.cell? ⟨gn, i * 5 + 2, none⟩ = some (.slice Aa na ca) ∧ W.cell? ⟨gn, i * 5 + 3, none⟩ = some (.string tx) ∧ W.cell? ⟨gn, i * 5 + 4, none⟩ = some (.slice Ak nk ck))
            (first | with_reducible exact hS.out _ hBx.out | with_reducible exact hS.out _ hBx.out.drew)
            (first
              | (go_at_call_of 16 (Value.slice A1 n1 c1); refine Calls.mono (hc1.out _ hBx.out) ?_; rintro e5 w5 ⟨rfl, hB5⟩; have hBx := Lib.hid (hBx.out.trans (hB5.mono hBx.out.size)); clear hB5)
              | (go_at_call_of 16 (Value.slice A5 n5 c5); refine Calls.mono (hc2.out _ hBx.out) ?_; rintro e5 w5 ⟨rfl, hB5⟩; have hBx := Lib.hid (hBx.out.trans (hB5.mono hBx.out.size)); clear hB5))
          all_goals go_wp2_with fail
          all_goals exact ⟨⟨k + 1, by omega, by simp, hBx⟩, by simp [RowKit.intOf]; omega⟩
        · have hkn : k = n2 := by omega
          subst hkn
          go_wp2_with fail
          exact ⟨⟨i + 1, by omega, by simp, hB⟩, by simp [RowKit.intOf]; omega⟩
    · have hlv := lives_any wr
      go_wp2_with (go_at_call 14; refine hlv.mono ?_; rintro e7 w9 ⟨rfl, hB9⟩)
      go_ret
      exact ⟨rfl, (hBwz.out.trans (hB.out.mono hBwz.out.size)).trans (hB9.mono (Nat.le_trans hBwz.out.size hB.out.size))⟩
end Go.Proofs.YtghlodpbbghcoaaGreatDoor

/- The law PolicyInside, walked. -/
namespace Go.Proofs.YtghlodpbbghcoaaGreatDoor
open Go.Lib Go.RowKit Go.Maps
theorem info44f : (Tryz.prog.info? 44).map (fun i => (i.zero, i.size, i.bytes)) = some (some (.agg #[.int .i64 0, .string ⟨#[]⟩, .slice none 0 0, .string ⟨#[]⟩, .slice none 0 0]), 5, 88) := by kernel_rfl
/-- What a node must be that is asked about. -/
def nodOk (c : Nd.NCells) : Prop := (c.kind = 1 ∨ c.kind = 2 ∨ c.kind = 3) ∧ NoTag c.name
/-- The document's Inside at a policy that is made of any, wherever it lies now. -/
theorem inside13_at (vt ve vu : Value) (q : Pol) (hf : q.Fit) (P : Nat → Prop) (w0 : World) (hP : ∀ k, P k → k < w0.heap.size) (h : PolAt w0 P vt ve vu q) (par nm tx : ByteArray) (kd : Int) (Aa Ak : Option Addr) (na ca nk ck : Nat) (hkd : kd = 1 ∨ kd = 2 ∨ kd = 3) :
    ∀ W, Below w0.heap.size w0 W → Calls Tryz.prog 18 #[.agg #[vt, ve, vu], .string par, .agg #[.int .i64 kd, .string nm, .slice Aa na ca, .string tx, .slice Ak nk ck]] W (IsB (Lib.containsS (listP q par) (kindN kd nm)) W) := fun W hW =>
  inside18_any vt ve vu q par nm tx kd Aa Ak na ca nk ck P W (fun k hk => Nat.lt_of_lt_of_le (hP k hk) hW.size) (h.move (Stays.below hW hP) (fun _ h => h)) hf hkd
theorem find17_at (vt ve vu : Value) (q : Pol) (hf : q.Fit) (P : Nat → Prop) (w0 : World) (hP : ∀ k, P k → k < w0.heap.size) (h : PolAt w0 P vt ve vu q) (nm : ByteArray) :
    ∀ W, Below w0.heap.size w0 W → Calls Tryz.prog 17 #[.agg #[vt, ve, vu], .string nm] W (fun e w' => ∃ x A n c A' n' c', e = .returned (.tuple #[.agg #[.string x, .slice A n c, .slice A' n' c'], .bool (findP q.elts nm).isSome]) ∧ Below W.heap.size W w') := fun W hW => by
  have h' := h.move (Stays.below hW hP) (fun _ h => h)
  refine (find_kids vt ve vu q nm P W (fun k hk => Nat.lt_of_lt_of_le (hP k hk) hW.size) h'.elts (by obtain ⟨A, n, c, e, -⟩ := h.top.form; exact ⟨A, n, c, e⟩) (by obtain ⟨A, n, c, e, -⟩ := h.unwrap.form; exact ⟨A, n, c, e⟩) hf.elts.1).mono ?_
  rintro e w' ⟨x, A, n, c, A', n', c', he, _, hB⟩
  exact ⟨x, A, n, c, A', n', c', he, hB⟩

set_option maxRecDepth 16384 in
set_option maxHeartbeats 12800000 in
theorem policyInside_any (vt ve vu : Value) (p : Pol) (par0 : ByteArray) (A : Option Addr) (cap : Nat) (f : Nd.Fo) (w : World) (h : PolAt w (fun k => k < w.heap.size) vt ve vu p) (hin : p.In)
    (hf : f.In) (hc : f.len ≤ cap) (hl : f.len ≤ maxLen) (hr : 0 < f.len → ∃ b o, A = some ⟨b, o, none⟩ ∧ Nd.RowAt w w.heap.size b o f) :
    Calls Tryz.prog 4 #[.agg #[vt, ve, vu], .string par0, .slice A f.len cap] w (IsB true w) := by
  obtain ⟨At, nt, ct, rfl, -, -, -⟩ := h.top.form
  obtain ⟨Ae, ne, ce, rfl, -, -, -⟩ := h.elts.form
  obtain ⟨Au, nu, cu, rfl, -, -, -⟩ := h.unwrap.form
  obtain ⟨w1, hw1⟩ : ∃ w1, w.alloc (.cells #[.slice At nt ct, .slice Ae ne ce, .slice Au nu cu] 25) = w1 := ⟨_, rfl⟩
  have hB1 : Hid (Below w.heap.size w w1) := Lib.hid (by rw [← hw1]; exact (Below.refl _ _).alloc (Nat.le_refl _) _)
  have hbx : Hid (w1.heap[w.heap.size]? = some (.cells #[.slice At nt ct, .slice Ae ne ce, .slice Au nu cu] 25)) := Lib.hid (by rw [← hw1]; exact blk_new _ _)
  have hgood := good10_any (.slice At nt ct) (.slice Ae ne ce) (.slice Au nu cu) p (fun k => k < w.heap.size) w1 (fun k hk => Nat.lt_of_lt_of_le hk hB1.out.size) (h.move (Stays.below hB1.out (fun _ h => h)) (fun _ h => h)) hin
  have hnod : Hid (∀ W, Below w1.heap.size w1 W → Calls Tryz.prog 15 #[.slice A f.len cap] W (Nd.Good12Post W)) := Lib.hid (fun W hW => by
    have hb := hB1.out.trans (hW.mono hB1.out.size)
    exact Nd.good12_any f A cap w.heap.size W hf hc hl hb.size (fun hp => by obtain ⟨b, o, e, hr⟩ := hr hp; exact ⟨b, o, e, Nd.RowAt.below hb hr⟩))
  obtain ⟨fl, hfl⟩ : ∃ fl, f.len = fl := ⟨_, rfl⟩
  rw [hfl] at hnod ⊢
  clear h hin hf hc hl hr hfl
  have d0 := blk_cell hbx.out 0
  have d1 := blk_cell hbx.out 1
  have d2 := blk_cell hbx.out 2
  go_enter Tryz.func4, Tryz.ntmps4
  go_upto_region 2 with (go_at_call 10; refine hgood.mono ?_; rintro e6 w6 ⟨vt', ve', vu', q, rfl, hq, hok, hB6⟩; obtain ⟨A1, n1, c1, rfl, -, -, -⟩ := hq.top.form; obtain ⟨A2, n2, c2, rfl, hn2, -, hat⟩ := hq.elts.form; obtain ⟨A3, n3, c3, rfl, -, -, -⟩ := hq.unwrap.form; replace hn2 := Lib.hid hn2; replace hat := Lib.hid hat; replace hq := Lib.hid hq; replace hok := Lib.hid hok; replace hB6 := Lib.hid hB6)
  obtain ⟨wg, hwg⟩ : ∃ wg, w6.alloc (.cells #[.slice A1 n1 c1, .slice A2 n2 c2, .slice A3 n3 c3] 25) = wg := ⟨_, rfl⟩
  have hBg : Hid (Below w6.heap.size w6 wg) := Lib.hid (by rw [← hwg]; exact (Below.refl _ _).alloc (Nat.le_refl _) _)
  have hgb : Hid (wg.heap[w6.heap.size]? = some (.cells #[.slice A1 n1 c1, .slice A2 n2 c2, .slice A3 n3 c3] 25)) := Lib.hid (by rw [← hwg]; exact blk_new _ _)
  rw [hwg]
  clear hwg hw1 d0 d1 d2
  have hB1g : Hid (Below w1.heap.size w1 wg) := Lib.hid (hB6.out.trans (hBg.out.mono hB6.out.size))
  have hBwg : Hid (Below w.heap.size w wg) := Lib.hid (hB1.out.trans (hB1g.out.mono hB1.out.size))
  go_upto_region 3 with (go_at_call 15; refine (hnod.out _ hB1g.out).mono ?_; rintro e7 w7 ⟨wn, vn, out, rfl, hBn, hinv, hokn, -, hszn⟩; replace hBn := Lib.hid hBn; replace hinv := Lib.hid hinv; replace hokn := Lib.hid hokn)
  have hBg7 : Hid (Below wg.heap.size wg w7) := Lib.hid (hBn.out.trans (hinv.out.below.mono hBn.out.size))
  have hrow7 : Hid (RowI nodK 44 (fun b => wg.heap.size ≤ b) w7 vn out) := Lib.hid ((nodRow hinv.out).allow (fun b hb _ => Nat.le_trans hBn.out.size hb))
  have hnl : out.length ≤ 40 := by have := Nd.Fo.len_size (Nd.nFo out); have := Nd.nFo_len out; omega
  have hno : Hid (∀ c ∈ out, nodOk c) := Lib.hid (fun c hc => ⟨(hokn.out c hc).1.1.2.1, okN_tag (hokn.out c hc).1.1⟩)
  clear hinv hszn hokn hB1 hB1g hnod hgood
  have hn25 : n2 ≤ 5 := by
    have h1 := congrArg List.length hok.out.names
    rw [List.length_map] at h1
    have := (gNm_len p.elts 5).1
    have := hn2.out
    omega
  go_upto_region 4 with (go_at_call 11; refine (few30_any par0 _).mono ?_; rintro e8 w8 ⟨rfl, e6⟩; obtain rfl := e6.symm)
  obtain ⟨par1, hpar1⟩ : ∃ x, cut30 par0 = x := ⟨_, rfl⟩
  rw [hpar1]
  clear hpar1
  obtain ⟨w9, hw9⟩ : ∃ w9, w7.alloc (.cells #[.string par1, .string ⟨#[]⟩] 9) = w9 := ⟨_, rfl⟩
  have hBg9 : Hid (Below wg.heap.size wg w9) := Lib.hid (by rw [← hw9]; exact hBg7.out.alloc hBg7.out.size _)
  have hnm9 : Hid (OwnS w9 wg.heap.size (.slice (some ⟨w7.heap.size, 0, none⟩) 2 2) [par1, ⟨#[]⟩]) := Lib.hid (by
    rw [← hw9]
    exact World.ownsRow_lit w7 _ 2 hBg7.out.size (by unfold maxLen; omega) rfl)
  have hrow9 : Hid (RowI nodK 44 (fun b => wg.heap.size ≤ b ∧ (Value.slice (some ⟨w7.heap.size, 0, none⟩) 2 2).ownBlock ≠ some b) w9 vn out) := Lib.hid (by
    rw [← hw9]
    refine (hrow7.out.allow (fun b hb hbl => ⟨hb, fun e => ?_⟩)).carry ((Below.refl _ _).alloc (Nat.le_refl _) _)
    have e2 : w7.heap.size = b := by simpa [Value.ownBlock] using e
    omega)
  rw [hw9]
  obtain ⟨vs, hvs⟩ : ∃ vs, Value.slice (some ⟨w7.heap.size, 0, none⟩) 2 2 = vs := ⟨_, rfl⟩
  rw [hvs] at hnm9 hrow9 ⊢
  clear hw9 hrow7 hBg7 hvs
  go_wp2
  go_loopw [8, 9, 10] (fun x8 x9 x10 wr => ∃ (i : Nat) (ol : List Nd.NCells) (nl : List ByteArray), x10 = .int .i64 i ∧ i ≤ n2 ∧ ol.length ≤ 40 + i ∧ nl.length = 2 + i ∧ Hid (∀ c ∈ ol, nodOk c) ∧ Hid (RowI nodK 44 (fun b => wg.heap.size ≤ b ∧ x9.ownBlock ≠ some b) wr x8 ol) ∧ Hid (OwnS wr wg.heap.size x9 nl) ∧ Hid (Below wg.heap.size wg wr)) (fun _ _ x10 _ => n2 - (RowKit.intOf x10).toNat)
  case atStart => exact ⟨0, out, [par1, ⟨#[]⟩], rfl, Nat.zero_le _, hnl, rfl, hno, hrow9, hnm9, hBg9⟩
  case round =>
    obtain ⟨i, ol, nl, rfl, hi, hol, hnll, hno, hrow, hnm, hB⟩ := hrel
    clear hrow9 hnm9 hBg9
    have hgr : Hid (wr.heap[w6.heap.size]? = some (.cells #[.slice A1 n1 c1, .slice A2 n2 c2, .slice A3 n3 c3] 25)) := Lib.hid (blk_below hgb.out hB.out (blk_lt hgb.out))
    have d1 : wr.cell? ⟨w6.heap.size, 1, none⟩ = some (.slice A2 n2 c2) := blk_cell hgr.out 1
    have hB6r : Hid (Below w6.heap.size w6 wr) := Lib.hid (hBg.out.trans (hB.out.mono hBg.out.size))
    by_cases hlt : i < n2
    · have hil : i < q.elts.length := by have := hn2.out; omega
      obtain ⟨b, o, rfl, hPb, hc⟩ := hat.out (by omega)
      obtain ⟨vk, vr, h0, -⟩ := hc i hil
      have hcell : Hid (∀ W, Below wg.heap.size wg W → W.cell? ⟨b, o + i * 3, none⟩ = some (.string q.elts[i].name) ∧ W.cell? ⟨w6.heap.size, 1, none⟩ = some (.slice (some ⟨b, o, none⟩) n2 c2)) := Lib.hid (fun W hW =>
        ⟨((hBg.out.trans (hW.mono hBg.out.size)).cell (p := ⟨b, o + i * 3, none⟩) hPb.2).trans h0, blk_cell (blk_below hgb.out hW (blk_lt hgb.out)) 1⟩)
      have hpl : Hid (plainP q.elts[i].name = true) := Lib.hid (hok.out.elt_plain (List.getElem_mem hil))
      obtain ⟨s, hs⟩ : ∃ s, q.elts[i].name = s := ⟨_, rfl⟩
      rw [hs] at hcell hpl
      have c0 := (hcell.out wr hB.out).1
      have hi0 : (0 : Int) ≤ (i : Int) := by omega
      have hi1 : (i : Int) < (n2 : Int) := by omega
      have hbase : wg.heap.size ≤ wr.heap.size := hB.out.size
      clear hc h0 hs
      go_upto_region 8 with (at_builtin; refine wpList_append_new_at info9 Tryz.underlying22 rfl (by decide) (by decide) wg.heap.size hnm.out 1 rfl _ _ rfl rfl rfl (by simp) rfl rfl (by omega) hbase ?_; intro v6 w4 hown6 hbel6 hgt6 hgrow6 hnew6; replace hown6 := Lib.hid hown6; replace hbel6 := Lib.hid hbel6; replace hgrow6 := Lib.hid hgrow6; replace hnew6 := Lib.hid hnew6)
      have hB4 : Hid (Below wg.heap.size wg w4) := Lib.hid (hB.out.trans hbel6.out)
      have hrA : Hid (RowI nodK 44 (fun b => wg.heap.size ≤ b ∧ v6.ownBlock ≠ some b) w4 u8 ol) := Lib.hid (((hrow.out.allow (A' := fun b => (wg.heap.size ≤ b ∧ u9.ownBlock ≠ some b) ∧ v6.ownBlock ≠ some b) (fun b hb hbl => ⟨hb, fun e => by rcases hnew6.out b e with h | h; exact hb.2 h; omega⟩)).grown hgrow6.out (fun b hb => hb.1.2)).allow (fun b hb _ => ⟨hb.1.1, hb.2⟩))
      obtain ⟨c0', d1'⟩ := hcell.out w4 hB4.out
      clear c0 d1
      go_wp2_with (at_builtin; refine wpList_append_new_at info44f Tryz.underlying40 rfl (by decide) (by decide) 0 hrA.out.own 1 rfl _ _ rfl rfl rfl (by simp) rfl rfl (by omega) (Nat.zero_le _) ?_; intro v8 w8 hown8 hbel8 hgt8 hgrow8 hnew8)
      refine ⟨⟨i + 1, ol ++ [⟨1, s, [], ⟨#[]⟩, .nil, .slice none 0 0, .slice none 0 0⟩], nl ++ [s], by simp, by omega, by rw [List.length_append]; simp; omega, by rw [List.length_append]; simp; omega, Lib.hid ?_, Lib.hid ?_, Lib.hid ?_, Lib.hid ?_⟩, by simp [RowKit.intOf]; omega⟩
      · intro c hc
        rcases List.mem_append.1 hc with hc | hc
        · exact hno.out c hc
        · rw [List.mem_singleton.1 hc]
          exact ⟨.inl rfl, plain_noTag hpl.out⟩
      · have hfi : nodK.fine (⟨1, s, [], ⟨#[]⟩, .nil, .slice none 0 0, .slice none 0 0⟩ : Nd.NCells) w4 (fun _ => False) := ⟨⟨none, 0, rfl, Nat.le_refl _, fun j hj => absurd hj (Nat.not_lt_zero _)⟩, none, 0, rfl, Nat.le_refl _, fun hp => absurd hp (Nat.lt_irrefl _)⟩
        refine hrA.out.push hfi (fun b hb => hb.elim) ?_ hown8 hgrow8 (fun b hb => (hnew8 b hb).imp id Nat.le_of_lt)
        intro b hb
        refine ⟨Nat.le_trans hB4.out.size hb, fun e => ?_⟩
        have := (hown6.out.lt b e).2
        omega
      · have h9 := hown6.out.kept hgrow8 (own_apart hown6.out hrA.out.own (by decide))
        unfold OwnS
        rw [List.length_append, strV_snoc]
        exact h9
      · exact hB4.out.grown hgrow8 hB4.out.size (fun b hb => (hrA.out.mine b hb).1)
    · have hin2 : n2 = i := by omega
      subst hin2
      obtain ⟨wz, hwz⟩ : ∃ wz : World, wz = wr := ⟨_, rfl⟩
      rw [← hwz] at hrow hnm hB hgr d1 hB6r ⊢
      clear hwz
      obtain ⟨An, cn, hvn, -⟩ := own_form hrow.out.own
      subst hvn
      obtain ⟨Am, cm, hvm, -⟩ := own_form hnm.out
      subst hvm
      have hBwz : Hid (Below w.heap.size w wz) := Lib.hid (hBwg.out.trans (hB.out.mono hBwg.out.size))
      have hI1 : Hid (∀ (par nm tx : ByteArray) (kd : Int) (Aa Ak : Option Addr) (na ca nk ck : Nat), (kd = 1 ∨ kd = 2 ∨ kd = 3) → ∀ W, Below wz.heap.size wz W → Calls Tryz.prog 16 #[.agg #[.slice A1 n1 c1, .slice A2 n2 c2, .slice A3 n3 c3], .string par, .agg #[.int .i64 kd, .string nm, .slice Aa na ca, .string tx, .slice Ak nk ck]] W (IsB (insideP q par kd nm) W)) := Lib.hid (fun par nm tx kd Aa Ak na ca nk ck hkd W hW =>
        inside_at _ _ _ q hok.out.fit _ w6 (fun k hk => hk.2) hq.out par nm tx kd Aa Ak na ca nk ck hkd W (hB6r.out.trans (hW.mono hB6r.out.size)))
      have hI2 : Hid (∀ (par nm tx : ByteArray) (kd : Int) (Aa Ak : Option Addr) (na ca nk ck : Nat), (kd = 1 ∨ kd = 2 ∨ kd = 3) → ∀ W, Below wz.heap.size wz W → Calls Tryz.prog 18 #[.agg #[.slice A1 n1 c1, .slice A2 n2 c2, .slice A3 n3 c3], .string par, .agg #[.int .i64 kd, .string nm, .slice Aa na ca, .string tx, .slice Ak nk ck]] W (IsB (Lib.containsS (listP q par) (kindN kd nm)) W)) := Lib.hid (fun par nm tx kd Aa Ak na ca nk ck hkd W hW =>
        inside13_at _ _ _ q hok.out.fit _ w6 (fun k hk => hk.2) hq.out par nm tx kd Aa Ak na ca nk ck hkd W (hB6r.out.trans (hW.mono hB6r.out.size)))
      have hI3 : Hid (∀ (nm : ByteArray), ∀ W, Below wz.heap.size wz W → Calls Tryz.prog 17 #[.agg #[.slice A1 n1 c1, .slice A2 n2 c2, .slice A3 n3 c3], .string nm] W (fun e w' => ∃ x A n c A' n' c', e = .returned (.tuple #[.agg #[.string x, .slice A n c, .slice A' n' c'], .bool (findP q.elts nm).isSome]) ∧ Below W.heap.size W w')) := Lib.hid (fun nm W hW =>
        find17_at _ _ _ q hok.out.fit _ w6 (fun k hk => hk.2) hq.out nm W (hB6r.out.trans (hW.mono hB6r.out.size)))
      obtain ⟨no, hno2⟩ : ∃ no, ol.length = no := ⟨_, rfl⟩
      obtain ⟨nmn, hnmn⟩ : ∃ nmn, nl.length = nmn := ⟨_, rfl⟩
      rw [hno2] at hol hrow ⊢
      rw [hnmn] at hnll ⊢
      have hno45 : no ≤ 45 := by omega
      have hnm7 : nmn ≤ 7 := by omega
      replace hno2 := Lib.hid hno2
      replace hnmn := Lib.hid hnmn
      clear hat hq hB6r hn2 hol hnll hi hn25
      go_wp2
      clear d1 hlt
      go_loopw [11] (fun x11 wr => ∃ a : Nat, a ≤ nmn ∧ x11 = .int .i64 a ∧ Hid (Below wz.heap.size wz wr)) (fun x11 _ => nmn - (RowKit.intOf x11).toNat)
      case atStart => exact ⟨0, Nat.zero_le _, rfl, Lib.hid (Below.refl _ _)⟩
      case round =>
        obtain ⟨a, ha, rfl, hBa⟩ := hrel
        by_cases hla : a < nmn
        · have hal : a < nl.length := by have := hnmn.out; omega
          obtain ⟨gm, rfl⟩ : ∃ gm, Am = some ⟨gm, 0, none⟩ := by
            rcases OwnS.form hnm.out with ⟨e, -⟩ | ⟨g, cap, hv, -⟩
            · rw [e] at hal; simp at hal
            · simp only [Value.slice.injEq] at hv
              exact ⟨g, hv.1⟩
          obtain ⟨par, hpar⟩ : ∃ par, nl[a] = par := ⟨_, rfl⟩
          have hpz : wz.cell? ⟨gm, a, none⟩ = some (.string par) := by
            have h1 := World.ownsRow.cells hnm.out (g := gm) rfl a (.string par) (by rw [← hpar]; simp [strV])
            rw [show (⟨gm, 0, none⟩ : Addr).add a = ⟨gm, a, none⟩ by unfold Addr.add; split <;> simp_all] at h1
            exact h1
          have hgm : gm < wz.heap.size := (World.ownsRow.lt hnm.out gm rfl).2
          have ha0 : (0 : Int) ≤ (a : Int) := by omega
          have ha1 : (a : Int) < (nmn : Int) := by omega
          clear hpar hal
          obtain ⟨wa, hwa⟩ : ∃ wa : World, wa = wr := ⟨_, rfl⟩
          rw [← hwa] at hBa ⊢
          clear hwa
          go_wp2
          go_loopw [12] (fun x12 wr => ∃ k : Nat, k ≤ no ∧ x12 = .int .i64 k ∧ Hid (Below wz.heap.size wz wr)) (fun x12 _ => no - (RowKit.intOf x12).toNat)
          case atStart => exact ⟨0, Nat.zero_le _, rfl, hBa⟩
          case round =>
            obtain ⟨k, hk, rfl, hBk⟩ := hrel
            by_cases hlk : k < no
            · have hkl : k < ol.length := by have := hno2.out; omega
              obtain ⟨gn, rfl⟩ : ∃ gn, An = some ⟨gn, 0, none⟩ := by
                rcases hrow.out.form with ⟨e, -⟩ | ⟨g, cap, hv, -⟩
                · rw [e] at hkl; simp at hkl
                · simp only [Value.slice.injEq] at hv
                  exact ⟨g, hv.1⟩
              obtain ⟨Aa, na, ca, Ak, nk, ck, hva, hvk⟩ := nod_slices (hrow.out.fineAll _ (List.getElem_mem hkl))
              obtain ⟨hkd3, htag⟩ := hno.out _ (List.getElem_mem hkl)
              have c0 : wz.cell? ⟨gn, k * 5, none⟩ = some (.int .i64 ol[k].kind) := hrow.out.cell rfl hkl (j := 0) (by decide)
              have c1' : wz.cell? ⟨gn, k * 5 + 1, none⟩ = some (.string ol[k].name) := hrow.out.cell rfl hkl (j := 1) (by decide)
              have c2' : wz.cell? ⟨gn, k * 5 + 2, none⟩ = some ol[k].va := hrow.out.cell rfl hkl (j := 2) (by decide)
              have c3' : wz.cell? ⟨gn, k * 5 + 3, none⟩ = some (.string ol[k].text) := hrow.out.cell rfl hkl (j := 3) (by decide)
              have c4' : wz.cell? ⟨gn, k * 5 + 4, none⟩ = some ol[k].vk := hrow.out.cell rfl hkl (j := 4) (by decide)
              have hgn : gn < wz.heap.size := (hrow.out.own.lt gn rfl).2
              rw [hva] at c2'
              rw [hvk] at c4'
              obtain ⟨kd, hkd⟩ : ∃ x, ol[k].kind = x := ⟨_, rfl⟩
              obtain ⟨nm, hnmx⟩ : ∃ x, ol[k].name = x := ⟨_, rfl⟩
              obtain ⟨tx, htx⟩ : ∃ x, ol[k].text = x := ⟨_, rfl⟩
              rw [hkd] at c0 hkd3
              rw [hnmx] at c1' htag
              rw [htx] at c3'
              have hlaw := hok.out.inside par hkd3 htag
              have hI1k : Hid (∀ W, Below wz.heap.size wz W → _) := Lib.hid (hI1.out par nm tx kd Aa Ak na ca nk ck hkd3)
              have hI2k : Hid (∀ W, Below wz.heap.size wz W → _) := Lib.hid (hI2.out par nm tx kd Aa Ak na ca nk ck hkd3)
              have hI3k : Hid (∀ W, Below wz.heap.size wz W → _) := Lib.hid (hI3.out nm)
              have hfnd : Hid (insideP q par kd nm = true → kd = 1 → (findP q.elts nm).isSome = true) := Lib.hid (fun h1 h2 => by subst h2; exact inside_found h1)
              rw [← hlaw] at hI2k
              obtain ⟨bb, hbb⟩ : ∃ bb, insideP q par kd nm = bb := ⟨_, rfl⟩
              obtain ⟨fd, hfd⟩ : ∃ fd, (findP q.elts nm).isSome = fd := ⟨_, rfl⟩
              rw [hbb] at hI1k hI2k hfnd
              rw [hfd] at hI3k hfnd
              have hS : Hid (∀ W, Below wz.heap.size wz W → (W.cell? ⟨w6.heap.size, 0, none⟩ = some (.slice A1 n1 c1) ∧ W.cell? ⟨w6.heap.size, 1, none⟩ = some (.slice A2 n2 c2) ∧ W.cell? ⟨w6.heap.size, 2, none⟩ = some (.slice A3 n3 c3)) ∧ W.cell? ⟨gm, a, none⟩ = some (.string par) ∧ W.cell? ⟨gn, k * 5, none⟩ = some (.int .i64 kd) ∧ W.cell? ⟨gn, k * 5 + 1, none⟩ = some (.string nm) ∧ W.cell? ⟨gn, k * 5 + 2, none⟩ = some (.slice Aa na ca) ∧ W.cell? ⟨gn, k * 5 + 3, none⟩ = some (.string tx) ∧ W.cell? ⟨gn, k * 5 + 4, none⟩ = some (.slice Ak nk ck)) := Lib.hid (fun W hW => by
                have e1 := blk_below hgr.out hW (blk_lt hgr.out)
                exact ⟨⟨blk_cell e1 0, blk_cell e1 1, blk_cell e1 2⟩, (hW.cell (p := ⟨gm, a, none⟩) hgm).trans hpz, (hW.cell (p := ⟨gn, k * 5, none⟩) hgn).trans c0, (hW.cell (p := ⟨gn, k * 5 + 1, none⟩) hgn).trans c1', (hW.cell (p := ⟨gn, k * 5 + 2, none⟩) hgn).trans c2', (hW.cell (p := ⟨gn, k * 5 + 3, none⟩) hgn).trans c3', (hW.cell (p := ⟨gn, k * 5 + 4, none⟩) hgn).trans c4'⟩)
              have hk0 : (0 : Int) ≤ (k : Int) := by omega
              have hk1 : (k : Int) < (no : Int) := by omega
              have hkd3H := Lib.hid hkd3
              clear hva hvk hkd hnmx htx hlaw hbb hfd c0 c1' c2' c3' c4' hkd3 htag hkl
              obtain ⟨⟨g0, g1, g2⟩, p0, c0, c1', c2', c3', c4'⟩ := hS.out wr hBk.out
              have hin1 := hI1k.out wr.drew hBk.out.drew
              go_upto_region 15 with fail
              go_still_tail 9, (by kernel_rfl)
              change wpList _ _ _ _ _ wr.drew
              generalize hwq : wr.drew = wq at hin1 ⊢
              have hBq : Hid (Below wz.heap.size wz wq) := Lib.hid (by rw [← hwq]; exact hBk.out.drew)
              clear hwq hBk g0 g1 g2 p0 c0 c1' c2' c3' c4'
              go_upto_region 16 with (go_at_call 16; refine hin1.mono ?_; rintro e5 w5 ⟨rfl, hB5⟩; replace hB5 := Lib.hid (hBq.out.trans (hB5.mono hBq.out.size)))
              clear hin1 hBq hI1k
              go_cut [15] (fun x wx => x = .bool fd ∧ Hid (Below wz.heap.size wz wx))
              case first =>
                have hz5 : wz.heap.size ≤ w5.heap.size := hB5.out.size
                have hBd : Hid (Below wz.heap.size wz w5.drew) := Lib.hid hB5.out.drew
                have hBe : Hid (Below wz.heap.size wz (w5.alloc (.cells #[.string ⟨#[]⟩, .slice none 0 0, .slice none 0 0] 30)).drew) := Lib.hid (hB5.out.alloc hB5.out.size _).drew
                clear hI2k hfnd
                go_region_held3 (fun W => (W.cell? ⟨w6.heap.size, 0, none⟩ = some (.slice A1 n1 c1) ∧ W.cell? ⟨w6.heap.size, 1, none⟩ = some (.slice A2 n2 c2) ∧ W.cell? ⟨w6.heap.size, 2, none⟩ = some (.slice A3 n3 c3)) ∧ W.cell? ⟨gm, a, none⟩ = some (.string par) ∧ W.cell? ⟨gn, k * 5, none⟩ = some (.int .i64 kd) ∧ W.cell? ⟨gn, k * 5 + 1, none⟩ = some (.string nm) ∧ W.cell? ⟨gn, k * 5 + 2, none⟩ = some (.slice Aa na ca) ∧ W.cell? ⟨gn, k * 5 + 3, none⟩ = some (.string tx) ∧ W.cell? ⟨gn, k * 5 + 4, none⟩ = some (.slice Ak nk ck))
                  (first | with_reducible exact hS.out _ hBd.out | with_reducible exact hS.out _ hBe.out | with_reducible exact hS.out _ hB7.out | with_reducible exact hS.out _ hB7.out.drew | with_reducible exact hS.out _ (hB7.out.alloc hB7.out.size _) | with_reducible exact hS.out _ ((hB7.out.alloc hB7.out.size _).drew) | exact hS.out _ (((hB7.out.setCell (p := ⟨w5.heap.size, 0, none⟩) hz5 _).setCell (p := ⟨w5.heap.size, 1, none⟩) hz5 _).setCell (p := ⟨w5.heap.size, 2, none⟩) hz5 _) | fail)
                  (first
                    | (go_at_call 17; refine Calls.mono (hI3k.out _ ?_) ?_; exact hBd.out; rintro e7 w7 ⟨x7, A7, n7, c7, A8, n8, c8, rfl, hB7⟩; have hB7 := Lib.hid (hBd.out.trans (hB7.mono hBd.out.size)))
                    | (go_at_call 17; refine Calls.mono (hI3k.out _ ?_) ?_; exact hBe.out; rintro e7 w7 ⟨x7, A7, n7, c7, A8, n8, c8, rfl, hB7'⟩; have hX : w7.heap[w5.heap.size]? = some (.cells #[.string ⟨#[]⟩, .slice none 0 0, .slice none 0 0] 30) := blk_below (blk_drew (blk_new w5 _)) hB7' (by simp); have r0 := blk_cell hX 0; have r1 := blk_cell hX 1; have r2 := blk_cell hX 2; have f0 := blk_frozen hX 0; have f1 := blk_frozen hX 1; have f2 := blk_frozen hX 2; replace hX := Lib.hid hX; have hB7 := Lib.hid (hBe.out.trans (hB7'.mono hBe.out.size)); clear hB7'))
                all_goals go_wp2_with fail
                all_goals go_meet
                · exact ⟨rfl, Lib.hid (hB7.out.alloc hB7.out.size _)⟩
                · exact ⟨rfl, Lib.hid (((hB7.out.setCell (p := ⟨w5.heap.size, 0, none⟩) hz5 _).setCell (p := ⟨w5.heap.size, 1, none⟩) hz5 _).setCell (p := ⟨w5.heap.size, 2, none⟩) hz5 _)⟩
              case rest =>
              obtain ⟨rfl, hBc⟩ := hcut
              clear hI3k hB5
              have hBx : Hid (Below wz.heap.size wz wc.drew) := Lib.hid hBc.out.drew
              have hc2 := hI2k.out wc.drew hBx.out
              obtain ⟨⟨g0, g1, g2⟩, p0, c0, c1', c2', c3', c4'⟩ := hS.out wc hBc.out
              cases bb with
              | false =>
                clear hfnd hI2k
                go_upto_region 17 with fail
                refine wp_region_held_drew (S := (fun W => (W.cell? ⟨w6.heap.size, 0, none⟩ = some (.slice A1 n1 c1) ∧ W.cell? ⟨w6.heap.size, 1, none⟩ = some (.slice A2 n2 c2) ∧ W.cell? ⟨w6.heap.size, 2, none⟩ = some (.slice A3 n3 c3)) ∧ W.cell? ⟨gm, a, none⟩ = some (.string par) ∧ W.cell? ⟨gn, k * 5, none⟩ = some (.int .i64 kd) ∧ W.cell? ⟨gn, k * 5 + 1, none⟩ = some (.string nm) ∧ W.cell? ⟨gn, k * 5 + 2, none⟩ = some (.slice Aa na ca) ∧ W.cell? ⟨gn, k * 5 + 3, none⟩ = some (.string tx) ∧ W.cell? ⟨gn, k * 5 + 4, none⟩ = some (.slice Ak nk ck))) (by kernel_rfl) ?_ (fun hHeld => ?_)
                · exact hS.out _ hBx.out
                refine wpAnyH_take (i := 0) (v := ?_) rfl (by kernel_rfl) (by kernel_rfl) (by kernel_rfl) (fun _ _ _ h => h) (Or.inl ⟨by rfl, ?_⟩) (by assumption) ?_
                rotate_left
                · (intro W hSw; (try dsimp only at hSw); go_simp; try with_reducible rfl)
                (try simp only [Act.put, List.getElem_toArray, List.getElem_cons_zero, List.getElem_cons_succ, List.setIfInBounds_toArray, List.set_cons_zero, List.set_cons_succ])
                refine wpAnyH_take (i := 1) (v := ?_) rfl (by kernel_rfl) (by kernel_rfl) (by kernel_rfl) (fun _ _ _ h => h) (Or.inl ⟨by rfl, ?_⟩) (by assumption) ?_
                rotate_left
                · (intro W hSw; (try dsimp only at hSw); go_simp; try with_reducible rfl)
                (try simp only [Act.put, List.getElem_toArray, List.getElem_cons_zero, List.getElem_cons_succ, List.setIfInBounds_toArray, List.set_cons_zero, List.set_cons_succ])
                refine wpAnyH_take (i := 2) (v := ?_) rfl (by kernel_rfl) (by kernel_rfl) (by kernel_rfl) (fun _ _ _ h => h) (Or.inl ⟨by rfl, ?_⟩) (by assumption) ?_
                rotate_left
                · (intro W hSw; (try dsimp only at hSw); go_simp; try with_reducible rfl)
                (try simp only [Act.put, List.getElem_toArray, List.getElem_cons_zero, List.getElem_cons_succ, List.setIfInBounds_toArray, List.set_cons_zero, List.set_cons_succ])
                refine wpAnyH_take (i := 3) (v := ?_) rfl (by kernel_rfl) (by kernel_rfl) (by kernel_rfl) (fun _ _ _ h => h) (Or.inl ⟨by rfl, ?_⟩) (by assumption) ?_
                rotate_left
                · (intro W hSw; (try dsimp only at hSw); go_simp; try with_reducible rfl)
                (try simp only [Act.put, List.getElem_toArray, List.getElem_cons_zero, List.getElem_cons_succ, List.setIfInBounds_toArray, List.set_cons_zero, List.set_cons_succ])
                refine wpAnyH_take (i := 4) (v := ?_) rfl (by kernel_rfl) (by kernel_rfl) (by kernel_rfl) (fun _ _ _ h => h) (Or.inl ⟨by rfl, ?_⟩) (by assumption) ?_
                rotate_left
                · (intro W hSw; (try dsimp only at hSw); go_simp; try with_reducible rfl)
                (try simp only [Act.put, List.getElem_toArray, List.getElem_cons_zero, List.getElem_cons_succ, List.setIfInBounds_toArray, List.set_cons_zero, List.set_cons_succ])
                refine wpAnyH_take (i := 5) (v := ?_) rfl (by kernel_rfl) (by kernel_rfl) (by kernel_rfl) (fun _ _ _ h => h) (Or.inl ⟨by rfl, ?_⟩) (by assumption) ?_
                rotate_left
                · (intro W hSw; (try dsimp only at hSw); go_simp; try with_reducible rfl)
                (try simp only [Act.put, List.getElem_toArray, List.getElem_cons_zero, List.getElem_cons_succ, List.setIfInBounds_toArray, List.set_cons_zero, List.set_cons_succ])
                refine wpAnyH_take (i := 6) (v := ?_) rfl (by kernel_rfl) (by kernel_rfl) (by kernel_rfl) (fun _ _ _ h => h) (Or.inl ⟨by rfl, ?_⟩) (by assumption) ?_
                rotate_left
                · (intro W hSw; (try dsimp only at hSw); go_simp; try with_reducible rfl)
                (try simp only [Act.put, List.getElem_toArray, List.getElem_cons_zero, List.getElem_cons_succ, List.setIfInBounds_toArray, List.set_cons_zero, List.set_cons_succ])
                refine wpAnyH_take (i := 7) (v := ?_) rfl (by kernel_rfl) (by kernel_rfl) (by kernel_rfl) (fun _ _ _ h => h) (Or.inl ⟨by rfl, ?_⟩) (by assumption) ?_
                rotate_left
                · (intro W hSw; (try dsimp only at hSw); go_simp; try with_reducible rfl)
                (try simp only [Act.put, List.getElem_toArray, List.getElem_cons_zero, List.getElem_cons_succ, List.setIfInBounds_toArray, List.set_cons_zero, List.set_cons_succ])
                refine wpAnyH_take (i := 8) (v := ?_) rfl (by kernel_rfl) (by kernel_rfl) (by kernel_rfl) (fun _ _ _ h => h) (Or.inl ⟨by rfl, ?_⟩) (by assumption) ?_
                rotate_left
                · (intro W hSw; (try dsimp only at hSw); go_simp; try with_reducible rfl)
                (try simp only [Act.put, List.getElem_toArray, List.getElem_cons_zero, List.getElem_cons_succ, List.setIfInBounds_toArray, List.set_cons_zero, List.set_cons_succ])
                refine wpAnyH_take (i := 9) (v := ?_) rfl (by kernel_rfl) (by kernel_rfl) (by kernel_rfl) (fun _ _ _ h => h) (Or.inl ⟨by rfl, ?_⟩) (by assumption) ?_
                rotate_left
                · (intro W hSw; (try dsimp only at hSw); go_simp; try with_reducible rfl)
                (try simp only [Act.put, List.getElem_toArray, List.getElem_cons_zero, List.getElem_cons_succ, List.setIfInBounds_toArray, List.set_cons_zero, List.set_cons_succ])
                refine wpAnyH_ready (rs := [10]) (by kernel_rfl) (by simp) ?_
                refine AllReadyH.cons rfl (fun K hK => ?_) AllReadyH.nil
                go_simp
                (go_at_call 18; refine Calls.mono hc2 ?_; rintro e7 w7 ⟨rfl, hB7⟩; replace hB7 := Lib.hid (hBx.out.trans (hB7.mono hBx.out.size)))
                (try go_wp2_with fail)
                refine hK.out _ _ ?_ (fun hHeld => ?_)
                · (try dsimp only)
                  with_reducible exact hS.out _ hB7.out
                clear hK K
                (try simp only [Act.put, List.getElem_toArray, List.getElem_cons_zero, List.getElem_cons_succ, List.setIfInBounds_toArray, List.set_cons_zero, List.set_cons_succ])
                refine wpAnyH_take (i := 11) (v := ?_) rfl (by kernel_rfl) (by kernel_rfl) (by kernel_rfl) (fun _ _ _ h => h) (Or.inl ⟨by rfl, ?_⟩) (by assumption) ?_
                rotate_left
                · (intro W hSw; (try dsimp only at hSw); go_simp; try with_reducible rfl)
                (try simp only [Act.put, List.getElem_toArray, List.getElem_cons_zero, List.getElem_cons_succ, List.setIfInBounds_toArray, List.set_cons_zero, List.set_cons_succ])
                refine wpAnyH_take (i := 12) (v := ?_) rfl (by kernel_rfl) (by kernel_rfl) (by kernel_rfl) (fun _ _ _ h => h) (Or.inl ⟨by rfl, ?_⟩) (by assumption) ?_
                rotate_left
                · (intro W hSw; (try dsimp only at hSw); go_simp; try with_reducible rfl)
                (try simp only [Act.put, List.getElem_toArray, List.getElem_cons_zero, List.getElem_cons_succ, List.setIfInBounds_toArray, List.set_cons_zero, List.set_cons_succ])
                refine wpAnyH_take (i := 13) (v := ?_) rfl (by kernel_rfl) (by kernel_rfl) (by kernel_rfl) (fun _ _ _ h => h) (Or.inl ⟨by rfl, ?_⟩) (by assumption) ?_
                rotate_left
                · (intro W hSw; (try dsimp only at hSw); go_simp; try with_reducible rfl)
                (try simp only [Act.put, List.getElem_toArray, List.getElem_cons_zero, List.getElem_cons_succ, List.setIfInBounds_toArray, List.set_cons_zero, List.set_cons_succ])
                refine wpAnyH_take (i := 14) (v := ?_) rfl (by kernel_rfl) (by kernel_rfl) (by kernel_rfl) (fun _ _ _ h => h) (Or.inl ⟨by rfl, ?_⟩) (by assumption) ?_
                rotate_left
                · (intro W hSw; (try dsimp only at hSw); go_simp; try with_reducible rfl)
                (try simp only [Act.put, List.getElem_toArray, List.getElem_cons_zero, List.getElem_cons_succ, List.setIfInBounds_toArray, List.set_cons_zero, List.set_cons_succ])
                refine wpAnyH_take (i := 15) (v := undef) rfl (by kernel_rfl) (by kernel_rfl) (by kernel_rfl) (fun _ _ _ h => h) (Or.inr ⟨by rfl, rfl⟩) (by assumption) ?_
                (try simp only [Act.put, List.getElem_toArray, List.getElem_cons_zero, List.getElem_cons_succ, List.setIfInBounds_toArray, List.set_cons_zero, List.set_cons_succ])
                refine wpAnyH_take (i := 16) (v := undef) rfl (by kernel_rfl) (by kernel_rfl) (by kernel_rfl) (fun _ _ _ h => h) (Or.inr ⟨by rfl, rfl⟩) (by assumption) ?_
                (try simp only [Act.put, List.getElem_toArray, List.getElem_cons_zero, List.getElem_cons_succ, List.setIfInBounds_toArray, List.set_cons_zero, List.set_cons_succ])
                refine wpAnyH_take (i := 17) (v := undef) rfl (by kernel_rfl) (by kernel_rfl) (by kernel_rfl) (fun _ _ _ h => h) (Or.inr ⟨by rfl, rfl⟩) (by assumption) ?_
                (try simp only [Act.put, List.getElem_toArray, List.getElem_cons_zero, List.getElem_cons_succ, List.setIfInBounds_toArray, List.set_cons_zero, List.set_cons_succ])
                refine wpAnyH_take (i := 18) (v := undef) rfl (by kernel_rfl) (by kernel_rfl) (by kernel_rfl) (fun _ _ _ h => h) (Or.inr ⟨by rfl, rfl⟩) (by assumption) ?_
                (try simp only [Act.put, List.getElem_toArray, List.getElem_cons_zero, List.getElem_cons_succ, List.setIfInBounds_toArray, List.set_cons_zero, List.set_cons_succ])
                refine wpAnyH_take (i := 19) (v := undef) rfl (by kernel_rfl) (by kernel_rfl) (by kernel_rfl) (fun _ _ _ h => h) (Or.inr ⟨by rfl, rfl⟩) (by assumption) ?_
                (try simp only [Act.put, List.getElem_toArray, List.getElem_cons_zero, List.getElem_cons_succ, List.setIfInBounds_toArray, List.set_cons_zero, List.set_cons_succ])
                refine wpAnyH_take (i := 20) (v := undef) rfl (by kernel_rfl) (by kernel_rfl) (by kernel_rfl) (fun _ _ _ h => h) (Or.inr ⟨by rfl, rfl⟩) (by assumption) ?_
                (try simp only [Act.put, List.getElem_toArray, List.getElem_cons_zero, List.getElem_cons_succ, List.setIfInBounds_toArray, List.set_cons_zero, List.set_cons_succ])
                refine wpAnyH_take (i := 21) (v := ?_) rfl (by kernel_rfl) (by kernel_rfl) (by kernel_rfl) (fun _ _ _ h => h) (Or.inl ⟨by rfl, ?_⟩) (by assumption) ?_
                rotate_left
                · (intro W hSw; (try dsimp only at hSw); go_simp; try with_reducible rfl)
                (try simp only [Act.put, List.getElem_toArray, List.getElem_cons_zero, List.getElem_cons_succ, List.setIfInBounds_toArray, List.set_cons_zero, List.set_cons_succ])
                refine wpAnyH_take (i := 22) (v := ?_) rfl (by kernel_rfl) (by kernel_rfl) (by kernel_rfl) (fun _ _ _ h => h) (Or.inl ⟨by rfl, ?_⟩) (by assumption) ?_
                rotate_left
                · (intro W hSw; (try dsimp only at hSw); go_simp; try with_reducible rfl)
                (try simp only [Act.put, List.getElem_toArray, List.getElem_cons_zero, List.getElem_cons_succ, List.setIfInBounds_toArray, List.set_cons_zero, List.set_cons_succ])
                refine wpAnyH_take (i := 23) (v := undef) rfl (by kernel_rfl) (by kernel_rfl) (by kernel_rfl) (fun _ _ _ h => h) (Or.inr ⟨by rfl, rfl⟩) (by assumption) ?_
                (try simp only [Act.put, List.getElem_toArray, List.getElem_cons_zero, List.getElem_cons_succ, List.setIfInBounds_toArray, List.set_cons_zero, List.set_cons_succ])
                refine wpAnyH_take (i := 24) (v := undef) rfl (by kernel_rfl) (by kernel_rfl) (by kernel_rfl) (fun _ _ _ h => h) (Or.inr ⟨by rfl, rfl⟩) (by assumption) ?_
                (try simp only [Act.put, List.getElem_toArray, List.getElem_cons_zero, List.getElem_cons_succ, List.setIfInBounds_toArray, List.set_cons_zero, List.set_cons_succ])
                refine wpAnyH_take (i := 25) (v := ?_) rfl (by kernel_rfl) (by kernel_rfl) (by kernel_rfl) (fun _ _ _ h => h) (Or.inl ⟨by rfl, ?_⟩) (by assumption) ?_
                rotate_left
                · (intro W hSw; (try dsimp only at hSw); go_simp; try with_reducible rfl)
                (try simp only [Act.put, List.getElem_toArray, List.getElem_cons_zero, List.getElem_cons_succ, List.setIfInBounds_toArray, List.set_cons_zero, List.set_cons_succ])
                refine wpAnyH_take (i := 26) (v := ?_) rfl (by kernel_rfl) (by kernel_rfl) (by kernel_rfl) (fun _ _ _ h => h) (Or.inl ⟨by rfl, ?_⟩) (by assumption) ?_
                rotate_left
                · (intro W hSw; (try dsimp only at hSw); go_simp; try with_reducible rfl)
                (try simp only [Act.put, List.getElem_toArray, List.getElem_cons_zero, List.getElem_cons_succ, List.setIfInBounds_toArray, List.set_cons_zero, List.set_cons_succ])
                refine wpAnyH_done (by kernel_rfl) ?_ _
                clear hHeld hS hc2 g0 g1 g2 p0 c0 c1' c2' c3' c4' hBx
                go_wp2_with fail
                exact ⟨⟨k + 1, by omega, by simp, hB7⟩, by simp [RowKit.intOf]; omega⟩
              | true =>
                by_cases h1 : kd = 1
                · have h2 : (kd == 1) = true := by simpa using h1
                  have hfd1 : fd = true := hfnd.out rfl h1
                  subst hfd1
                  replace h1 := Lib.hid h1
                  clear hfnd hI2k
                  go_upto_region 17 with fail
                  refine wp_region_held_drew (S := (fun W => (W.cell? ⟨w6.heap.size, 0, none⟩ = some (.slice A1 n1 c1) ∧ W.cell? ⟨w6.heap.size, 1, none⟩ = some (.slice A2 n2 c2) ∧ W.cell? ⟨w6.heap.size, 2, none⟩ = some (.slice A3 n3 c3)) ∧ W.cell? ⟨gm, a, none⟩ = some (.string par) ∧ W.cell? ⟨gn, k * 5, none⟩ = some (.int .i64 kd) ∧ W.cell? ⟨gn, k * 5 + 1, none⟩ = some (.string nm) ∧ W.cell? ⟨gn, k * 5 + 2, none⟩ = some (.slice Aa na ca) ∧ W.cell? ⟨gn, k * 5 + 3, none⟩ = some (.string tx) ∧ W.cell? ⟨gn, k * 5 + 4, none⟩ = some (.slice Ak nk ck))) (by kernel_rfl) ?_ (fun hHeld => ?_)
                  · exact hS.out _ hBx.out
                  refine wpAnyH_take (i := 0) (v := ?_) rfl (by kernel_rfl) (by kernel_rfl) (by kernel_rfl) (fun _ _ _ h => h) (Or.inl ⟨by rfl, ?_⟩) (by assumption) ?_
                  rotate_left
                  · (intro W hSw; (try dsimp only at hSw); go_simp; try with_reducible rfl)
                  (try simp only [Act.put, List.getElem_toArray, List.getElem_cons_zero, List.getElem_cons_succ, List.setIfInBounds_toArray, List.set_cons_zero, List.set_cons_succ])
                  refine wpAnyH_take (i := 1) (v := ?_) rfl (by kernel_rfl) (by kernel_rfl) (by kernel_rfl) (fun _ _ _ h => h) (Or.inl ⟨by rfl, ?_⟩) (by assumption) ?_
                  rotate_left
                  · (intro W hSw; (try dsimp only at hSw); go_simp; try with_reducible rfl)
                  (try simp only [Act.put, List.getElem_toArray, List.getElem_cons_zero, List.getElem_cons_succ, List.setIfInBounds_toArray, List.set_cons_zero, List.set_cons_succ])
                  refine wpAnyH_take (i := 2) (v := ?_) rfl (by kernel_rfl) (by kernel_rfl) (by kernel_rfl) (fun _ _ _ h => h) (Or.inl ⟨by rfl, ?_⟩) (by assumption) ?_
                  rotate_left
                  · (intro W hSw; (try dsimp only at hSw); go_simp; try with_reducible rfl)
                  (try simp only [Act.put, List.getElem_toArray, List.getElem_cons_zero, List.getElem_cons_succ, List.setIfInBounds_toArray, List.set_cons_zero, List.set_cons_succ])
                  refine wpAnyH_take (i := 3) (v := ?_) rfl (by kernel_rfl) (by kernel_rfl) (by kernel_rfl) (fun _ _ _ h => h) (Or.inl ⟨by rfl, ?_⟩) (by assumption) ?_
                  rotate_left
                  · (intro W hSw; (try dsimp only at hSw); go_simp; try with_reducible rfl)
                  (try simp only [Act.put, List.getElem_toArray, List.getElem_cons_zero, List.getElem_cons_succ, List.setIfInBounds_toArray, List.set_cons_zero, List.set_cons_succ])
                  refine wpAnyH_take (i := 4) (v := ?_) rfl (by kernel_rfl) (by kernel_rfl) (by kernel_rfl) (fun _ _ _ h => h) (Or.inl ⟨by rfl, ?_⟩) (by assumption) ?_
                  rotate_left
                  · (intro W hSw; (try dsimp only at hSw); go_simp; try with_reducible rfl)
                  (try simp only [Act.put, List.getElem_toArray, List.getElem_cons_zero, List.getElem_cons_succ, List.setIfInBounds_toArray, List.set_cons_zero, List.set_cons_succ])
                  refine wpAnyH_take (i := 5) (v := ?_) rfl (by kernel_rfl) (by kernel_rfl) (by kernel_rfl) (fun _ _ _ h => h) (Or.inl ⟨by rfl, ?_⟩) (by assumption) ?_
                  rotate_left
                  · (intro W hSw; (try dsimp only at hSw); go_simp; try with_reducible rfl)
                  (try simp only [Act.put, List.getElem_toArray, List.getElem_cons_zero, List.getElem_cons_succ, List.setIfInBounds_toArray, List.set_cons_zero, List.set_cons_succ])
                  refine wpAnyH_take (i := 6) (v := ?_) rfl (by kernel_rfl) (by kernel_rfl) (by kernel_rfl) (fun _ _ _ h => h) (Or.inl ⟨by rfl, ?_⟩) (by assumption) ?_
                  rotate_left
                  · (intro W hSw; (try dsimp only at hSw); go_simp; try with_reducible rfl)
                  (try simp only [Act.put, List.getElem_toArray, List.getElem_cons_zero, List.getElem_cons_succ, List.setIfInBounds_toArray, List.set_cons_zero, List.set_cons_succ])
                  refine wpAnyH_take (i := 7) (v := ?_) rfl (by kernel_rfl) (by kernel_rfl) (by kernel_rfl) (fun _ _ _ h => h) (Or.inl ⟨by rfl, ?_⟩) (by assumption) ?_
                  rotate_left
                  · (intro W hSw; (try dsimp only at hSw); go_simp; try with_reducible rfl)
                  (try simp only [Act.put, List.getElem_toArray, List.getElem_cons_zero, List.getElem_cons_succ, List.setIfInBounds_toArray, List.set_cons_zero, List.set_cons_succ])
                  refine wpAnyH_take (i := 8) (v := ?_) rfl (by kernel_rfl) (by kernel_rfl) (by kernel_rfl) (fun _ _ _ h => h) (Or.inl ⟨by rfl, ?_⟩) (by assumption) ?_
                  rotate_left
                  · (intro W hSw; (try dsimp only at hSw); go_simp; try with_reducible rfl)
                  (try simp only [Act.put, List.getElem_toArray, List.getElem_cons_zero, List.getElem_cons_succ, List.setIfInBounds_toArray, List.set_cons_zero, List.set_cons_succ])
                  refine wpAnyH_take (i := 9) (v := ?_) rfl (by kernel_rfl) (by kernel_rfl) (by kernel_rfl) (fun _ _ _ h => h) (Or.inl ⟨by rfl, ?_⟩) (by assumption) ?_
                  rotate_left
                  · (intro W hSw; (try dsimp only at hSw); go_simp; try with_reducible rfl)
                  (try simp only [Act.put, List.getElem_toArray, List.getElem_cons_zero, List.getElem_cons_succ, List.setIfInBounds_toArray, List.set_cons_zero, List.set_cons_succ])
                  refine wpAnyH_ready (rs := [10]) (by kernel_rfl) (by simp) ?_
                  refine AllReadyH.cons rfl (fun K hK => ?_) AllReadyH.nil
                  go_simp
                  (go_at_call 18; refine Calls.mono hc2 ?_; rintro e7 w7 ⟨rfl, hB7⟩; replace hB7 := Lib.hid (hBx.out.trans (hB7.mono hBx.out.size)))
                  (try go_wp2_with fail)
                  refine hK.out _ _ ?_ (fun hHeld => ?_)
                  · (try dsimp only)
                    with_reducible exact hS.out _ hB7.out
                  clear hK K
                  (try simp only [Act.put, List.getElem_toArray, List.getElem_cons_zero, List.getElem_cons_succ, List.setIfInBounds_toArray, List.set_cons_zero, List.set_cons_succ])
                  refine wpAnyH_take (i := 11) (v := ?_) rfl (by kernel_rfl) (by kernel_rfl) (by kernel_rfl) (fun _ _ _ h => h) (Or.inl ⟨by rfl, ?_⟩) (by assumption) ?_
                  rotate_left
                  · (intro W hSw; (try dsimp only at hSw); go_simp; try with_reducible rfl)
                  (try simp only [Act.put, List.getElem_toArray, List.getElem_cons_zero, List.getElem_cons_succ, List.setIfInBounds_toArray, List.set_cons_zero, List.set_cons_succ])
                  refine wpAnyH_take (i := 12) (v := ?_) rfl (by kernel_rfl) (by kernel_rfl) (by kernel_rfl) (fun _ _ _ h => h) (Or.inl ⟨by rfl, ?_⟩) (by assumption) ?_
                  rotate_left
                  · (intro W hSw; (try dsimp only at hSw); go_simp; try with_reducible rfl)
                  (try simp only [Act.put, List.getElem_toArray, List.getElem_cons_zero, List.getElem_cons_succ, List.setIfInBounds_toArray, List.set_cons_zero, List.set_cons_succ])
                  refine wpAnyH_take (i := 13) (v := ?_) rfl (by kernel_rfl) (by kernel_rfl) (by kernel_rfl) (fun _ _ _ h => h) (Or.inl ⟨by rfl, ?_⟩) (by assumption) ?_
                  rotate_left
                  · (intro W hSw; (try dsimp only at hSw); go_simp; try with_reducible rfl)
                  (try simp only [Act.put, List.getElem_toArray, List.getElem_cons_zero, List.getElem_cons_succ, List.setIfInBounds_toArray, List.set_cons_zero, List.set_cons_succ])
                  refine wpAnyH_take (i := 14) (v := ?_) rfl (by kernel_rfl) (by kernel_rfl) (by kernel_rfl) (fun _ _ _ h => h) (Or.inl ⟨by rfl, ?_⟩) (by assumption) ?_
                  rotate_left
                  · (intro W hSw; (try dsimp only at hSw); go_simp; try with_reducible rfl)
                  (try simp only [Act.put, List.getElem_toArray, List.getElem_cons_zero, List.getElem_cons_succ, List.setIfInBounds_toArray, List.set_cons_zero, List.set_cons_succ])
                  refine wpAnyH_take (i := 15) (v := ?_) rfl (by kernel_rfl) (by kernel_rfl) (by kernel_rfl) (fun _ _ _ h => h) (Or.inl ⟨by rfl, ?_⟩) (by assumption) ?_
                  rotate_left
                  · (intro W hSw; (try dsimp only at hSw); go_simp; try with_reducible rfl)
                  (try simp only [Act.put, List.getElem_toArray, List.getElem_cons_zero, List.getElem_cons_succ, List.setIfInBounds_toArray, List.set_cons_zero, List.set_cons_succ])
                  refine wpAnyH_take (i := 16) (v := ?_) rfl (by kernel_rfl) (by kernel_rfl) (by kernel_rfl) (fun _ _ _ h => h) (Or.inl ⟨by rfl, ?_⟩) (by assumption) ?_
                  rotate_left
                  · (intro W hSw; (try dsimp only at hSw); go_simp; try with_reducible rfl)
                  (try simp only [Act.put, List.getElem_toArray, List.getElem_cons_zero, List.getElem_cons_succ, List.setIfInBounds_toArray, List.set_cons_zero, List.set_cons_succ])
                  refine wpAnyH_take (i := 17) (v := ?_) rfl (by kernel_rfl) (by kernel_rfl) (by kernel_rfl) (fun _ _ _ h => h) (Or.inl ⟨by rfl, ?_⟩) (by assumption) ?_
                  rotate_left
                  · (intro W hSw; (try dsimp only at hSw); go_simp; try with_reducible rfl)
                  (try simp only [Act.put, List.getElem_toArray, List.getElem_cons_zero, List.getElem_cons_succ, List.setIfInBounds_toArray, List.set_cons_zero, List.set_cons_succ])
                  refine wpAnyH_take (i := 18) (v := ?_) rfl (by kernel_rfl) (by kernel_rfl) (by kernel_rfl) (fun _ _ _ h => h) (Or.inl ⟨by rfl, ?_⟩) (by assumption) ?_
                  rotate_left
                  · (intro W hSw; (try dsimp only at hSw); go_simp; try with_reducible rfl)
                  (try simp only [Act.put, List.getElem_toArray, List.getElem_cons_zero, List.getElem_cons_succ, List.setIfInBounds_toArray, List.set_cons_zero, List.set_cons_succ])
                  refine wpAnyH_take (i := 19) (v := ?_) rfl (by kernel_rfl) (by kernel_rfl) (by kernel_rfl) (fun _ _ _ h => h) (Or.inl ⟨by rfl, ?_⟩) (by assumption) ?_
                  rotate_left
                  · (intro W hSw; (try dsimp only at hSw); go_simp; try with_reducible rfl)
                  (try simp only [Act.put, List.getElem_toArray, List.getElem_cons_zero, List.getElem_cons_succ, List.setIfInBounds_toArray, List.set_cons_zero, List.set_cons_succ])
                  refine wpAnyH_take (i := 20) (v := ?_) rfl (by kernel_rfl) (by kernel_rfl) (by kernel_rfl) (fun _ _ _ h => h) (Or.inl ⟨by rfl, ?_⟩) (by assumption) ?_
                  rotate_left
                  · (intro W hSw; (try dsimp only at hSw); go_simp; try with_reducible rfl)
                  (try simp only [Act.put, List.getElem_toArray, List.getElem_cons_zero, List.getElem_cons_succ, List.setIfInBounds_toArray, List.set_cons_zero, List.set_cons_succ])
                  refine wpAnyH_take (i := 21) (v := ?_) rfl (by kernel_rfl) (by kernel_rfl) (by kernel_rfl) (fun _ _ _ h => h) (Or.inl ⟨by rfl, ?_⟩) (by assumption) ?_
                  rotate_left
                  · (intro W hSw; (try dsimp only at hSw); go_simp; try with_reducible rfl)
                  (try simp only [Act.put, List.getElem_toArray, List.getElem_cons_zero, List.getElem_cons_succ, List.setIfInBounds_toArray, List.set_cons_zero, List.set_cons_succ])
                  refine wpAnyH_take (i := 22) (v := ?_) rfl (by kernel_rfl) (by kernel_rfl) (by kernel_rfl) (fun _ _ _ h => h) (Or.inl ⟨by rfl, ?_⟩) (by assumption) ?_
                  rotate_left
                  · (intro W hSw; (try dsimp only at hSw); go_simp; try with_reducible rfl)
                  (try simp only [Act.put, List.getElem_toArray, List.getElem_cons_zero, List.getElem_cons_succ, List.setIfInBounds_toArray, List.set_cons_zero, List.set_cons_succ])
                  refine wpAnyH_take (i := 23) (v := ?_) rfl (by kernel_rfl) (by kernel_rfl) (by kernel_rfl) (fun _ _ _ h => h) (Or.inl ⟨by rfl, ?_⟩) (by assumption) ?_
                  rotate_left
                  · (intro W hSw; (try dsimp only at hSw); go_simp; try with_reducible rfl)
                  (try simp only [Act.put, List.getElem_toArray, List.getElem_cons_zero, List.getElem_cons_succ, List.setIfInBounds_toArray, List.set_cons_zero, List.set_cons_succ])
                  refine wpAnyH_take (i := 24) (v := ?_) rfl (by kernel_rfl) (by kernel_rfl) (by kernel_rfl) (fun _ _ _ h => h) (Or.inl ⟨by rfl, ?_⟩) (by assumption) ?_
                  rotate_left
                  · (intro W hSw; (try dsimp only at hSw); go_simp; try with_reducible rfl)
                  (try simp only [Act.put, List.getElem_toArray, List.getElem_cons_zero, List.getElem_cons_succ, List.setIfInBounds_toArray, List.set_cons_zero, List.set_cons_succ])
                  refine wpAnyH_take (i := 25) (v := ?_) rfl (by kernel_rfl) (by kernel_rfl) (by kernel_rfl) (fun _ _ _ h => h) (Or.inl ⟨by rfl, ?_⟩) (by assumption) ?_
                  rotate_left
                  · (intro W hSw; (try dsimp only at hSw); go_simp; try with_reducible rfl)
                  (try simp only [Act.put, List.getElem_toArray, List.getElem_cons_zero, List.getElem_cons_succ, List.setIfInBounds_toArray, List.set_cons_zero, List.set_cons_succ])
                  refine wpAnyH_take (i := 26) (v := ?_) rfl (by kernel_rfl) (by kernel_rfl) (by kernel_rfl) (fun _ _ _ h => h) (Or.inl ⟨by rfl, ?_⟩) (by assumption) ?_
                  rotate_left
                  · (intro W hSw; (try dsimp only at hSw); go_simp; try with_reducible rfl)
                  (try simp only [Act.put, List.getElem_toArray, List.getElem_cons_zero, List.getElem_cons_succ, List.setIfInBounds_toArray, List.set_cons_zero, List.set_cons_succ])
                  refine wpAnyH_done (by kernel_rfl) ?_ _
                  clear hHeld hS hc2 g0 g1 g2 p0 c0 c1' c2' c3' c4' hBx
                  go_wp2_with fail
                  exact ⟨⟨k + 1, by omega, by simp, hB7⟩, by simp [RowKit.intOf]; omega⟩
                · have h2 : (kd == 1) = false := by simpa using h1
                  clear hfnd hI2k
                  go_upto_region 17 with fail
                  refine wp_region_held_drew (S := (fun W => (W.cell? ⟨w6.heap.size, 0, none⟩ = some (.slice A1 n1 c1) ∧ W.cell? ⟨w6.heap.size, 1, none⟩ = some (.slice A2 n2 c2) ∧ W.cell? ⟨w6.heap.size, 2, none⟩ = some (.slice A3 n3 c3)) ∧ W.cell? ⟨gm, a, none⟩ = some (.string par) ∧ W.cell? ⟨gn, k * 5, none⟩ = some (.int .i64 kd) ∧ W.cell? ⟨gn, k * 5 + 1, none⟩ = some (.string nm) ∧ W.cell? ⟨gn, k * 5 + 2, none⟩ = some (.slice Aa na ca) ∧ W.cell? ⟨gn, k * 5 + 3, none⟩ = some (.string tx) ∧ W.cell? ⟨gn, k * 5 + 4, none⟩ = some (.slice Ak nk ck))) (by kernel_rfl) ?_ (fun hHeld => ?_)
                  · exact hS.out _ hBx.out
                  refine wpAnyH_take (i := 0) (v := ?_) rfl (by kernel_rfl) (by kernel_rfl) (by kernel_rfl) (fun _ _ _ h => h) (Or.inl ⟨by rfl, ?_⟩) (by assumption) ?_
                  rotate_left
                  · (intro W hSw; (try dsimp only at hSw); go_simp; try with_reducible rfl)
                  (try simp only [Act.put, List.getElem_toArray, List.getElem_cons_zero, List.getElem_cons_succ, List.setIfInBounds_toArray, List.set_cons_zero, List.set_cons_succ])
                  refine wpAnyH_take (i := 1) (v := ?_) rfl (by kernel_rfl) (by kernel_rfl) (by kernel_rfl) (fun _ _ _ h => h) (Or.inl ⟨by rfl, ?_⟩) (by assumption) ?_
                  rotate_left
                  · (intro W hSw; (try dsimp only at hSw); go_simp; try with_reducible rfl)
                  (try simp only [Act.put, List.getElem_toArray, List.getElem_cons_zero, List.getElem_cons_succ, List.setIfInBounds_toArray, List.set_cons_zero, List.set_cons_succ])
                  refine wpAnyH_take (i := 2) (v := ?_) rfl (by kernel_rfl) (by kernel_rfl) (by kernel_rfl) (fun _ _ _ h => h) (Or.inl ⟨by rfl, ?_⟩) (by assumption) ?_
                  rotate_left
                  · (intro W hSw; (try dsimp only at hSw); go_simp; try with_reducible rfl)
                  (try simp only [Act.put, List.getElem_toArray, List.getElem_cons_zero, List.getElem_cons_succ, List.setIfInBounds_toArray, List.set_cons_zero, List.set_cons_succ])
                  refine wpAnyH_take (i := 3) (v := ?_) rfl (by kernel_rfl) (by kernel_rfl) (by kernel_rfl) (fun _ _ _ h => h) (Or.inl ⟨by rfl, ?_⟩) (by assumption) ?_
                  rotate_left
                  · (intro W hSw; (try dsimp only at hSw); go_simp; try with_reducible rfl)
                  (try simp only [Act.put, List.getElem_toArray, List.getElem_cons_zero, List.getElem_cons_succ, List.setIfInBounds_toArray, List.set_cons_zero, List.set_cons_succ])
                  refine wpAnyH_take (i := 4) (v := ?_) rfl (by kernel_rfl) (by kernel_rfl) (by kernel_rfl) (fun _ _ _ h => h) (Or.inl ⟨by rfl, ?_⟩) (by assumption) ?_
                  rotate_left
                  · (intro W hSw; (try dsimp only at hSw); go_simp; try with_reducible rfl)
                  (try simp only [Act.put, List.getElem_toArray, List.getElem_cons_zero, List.getElem_cons_succ, List.setIfInBounds_toArray, List.set_cons_zero, List.set_cons_succ])
                  refine wpAnyH_take (i := 5) (v := ?_) rfl (by kernel_rfl) (by kernel_rfl) (by kernel_rfl) (fun _ _ _ h => h) (Or.inl ⟨by rfl, ?_⟩) (by assumption) ?_
                  rotate_left
                  · (intro W hSw; (try dsimp only at hSw); go_simp; try with_reducible rfl)
                  (try simp only [Act.put, List.getElem_toArray, List.getElem_cons_zero, List.getElem_cons_succ, List.setIfInBounds_toArray, List.set_cons_zero, List.set_cons_succ])
                  refine wpAnyH_take (i := 6) (v := ?_) rfl (by kernel_rfl) (by kernel_rfl) (by kernel_rfl) (fun _ _ _ h => h) (Or.inl ⟨by rfl, ?_⟩) (by assumption) ?_
                  rotate_left
                  · (intro W hSw; (try dsimp only at hSw); go_simp; try with_reducible rfl)
                  (try simp only [Act.put, List.getElem_toArray, List.getElem_cons_zero, List.getElem_cons_succ, List.setIfInBounds_toArray, List.set_cons_zero, List.set_cons_succ])
                  refine wpAnyH_take (i := 7) (v := ?_) rfl (by kernel_rfl) (by kernel_rfl) (by kernel_rfl) (fun _ _ _ h => h) (Or.inl ⟨by rfl, ?_⟩) (by assumption) ?_
                  rotate_left
                  · (intro W hSw; (try dsimp only at hSw); go_simp; try with_reducible rfl)
                  (try simp only [Act.put, List.getElem_toArray, List.getElem_cons_zero, List.getElem_cons_succ, List.setIfInBounds_toArray, List.set_cons_zero, List.set_cons_succ])
                  refine wpAnyH_take (i := 8) (v := ?_) rfl (by kernel_rfl) (by kernel_rfl) (by kernel_rfl) (fun _ _ _ h => h) (Or.inl ⟨by rfl, ?_⟩) (by assumption) ?_
                  rotate_left
                  · (intro W hSw; (try dsimp only at hSw); go_simp; try with_reducible rfl)
                  (try simp only [Act.put, List.getElem_toArray, List.getElem_cons_zero, List.getElem_cons_succ, List.setIfInBounds_toArray, List.set_cons_zero, List.set_cons_succ])
                  refine wpAnyH_take (i := 9) (v := ?_) rfl (by kernel_rfl) (by kernel_rfl) (by kernel_rfl) (fun _ _ _ h => h) (Or.inl ⟨by rfl, ?_⟩) (by assumption) ?_
                  rotate_left
                  · (intro W hSw; (try dsimp only at hSw); go_simp; try with_reducible rfl)
                  (try simp only [Act.put, List.getElem_toArray, List.getElem_cons_zero, List.getElem_cons_succ, List.setIfInBounds_toArray, List.set_cons_zero, List.set_cons_succ])
                  refine wpAnyH_ready (rs := [10]) (by kernel_rfl) (by simp) ?_
                  refine AllReadyH.cons rfl (fun K hK => ?_) AllReadyH.nil
                  go_simp
                  (go_at_call 18; refine Calls.mono hc2 ?_; rintro e7 w7 ⟨rfl, hB7⟩; replace hB7 := Lib.hid (hBx.out.trans (hB7.mono hBx.out.size)))
                  (try go_wp2_with fail)
                  refine hK.out _ _ ?_ (fun hHeld => ?_)
                  · (try dsimp only)
                    with_reducible exact hS.out _ hB7.out
                  clear hK K
                  (try simp only [Act.put, List.getElem_toArray, List.getElem_cons_zero, List.getElem_cons_succ, List.setIfInBounds_toArray, List.set_cons_zero, List.set_cons_succ])
                  refine wpAnyH_take (i := 11) (v := ?_) rfl (by kernel_rfl) (by kernel_rfl) (by kernel_rfl) (fun _ _ _ h => h) (Or.inl ⟨by rfl, ?_⟩) (by assumption) ?_
                  rotate_left
                  · (intro W hSw; (try dsimp only at hSw); go_simp; try with_reducible rfl)
                  (try simp only [Act.put, List.getElem_toArray, List.getElem_cons_zero, List.getElem_cons_succ, List.setIfInBounds_toArray, List.set_cons_zero, List.set_cons_succ])
                  refine wpAnyH_take (i := 12) (v := ?_) rfl (by kernel_rfl) (by kernel_rfl) (by kernel_rfl) (fun _ _ _ h => h) (Or.inl ⟨by rfl, ?_⟩) (by assumption) ?_
                  rotate_left
                  · (intro W hSw; (try dsimp only at hSw); go_simp; try with_reducible rfl)
                  (try simp only [Act.put, List.getElem_toArray, List.getElem_cons_zero, List.getElem_cons_succ, List.setIfInBounds_toArray, List.set_cons_zero, List.set_cons_succ])
                  refine wpAnyH_take (i := 13) (v := ?_) rfl (by kernel_rfl) (by kernel_rfl) (by kernel_rfl) (fun _ _ _ h => h) (Or.inl ⟨by rfl, ?_⟩) (by assumption) ?_
                  rotate_left
                  · (intro W hSw; (try dsimp only at hSw); go_simp; try with_reducible rfl)
                  (try simp only [Act.put, List.getElem_toArray, List.getElem_cons_zero, List.getElem_cons_succ, List.setIfInBounds_toArray, List.set_cons_zero, List.set_cons_succ])
                  refine wpAnyH_take (i := 14) (v := ?_) rfl (by kernel_rfl) (by kernel_rfl) (by kernel_rfl) (fun _ _ _ h => h) (Or.inl ⟨by rfl, ?_⟩) (by assumption) ?_
                  rotate_left
                  · (intro W hSw; (try dsimp only at hSw); go_simp; try with_reducible rfl)
                  (try simp only [Act.put, List.getElem_toArray, List.getElem_cons_zero, List.getElem_cons_succ, List.setIfInBounds_toArray, List.set_cons_zero, List.set_cons_succ])
                  refine wpAnyH_take (i := 15) (v := ?_) rfl (by kernel_rfl) (by kernel_rfl) (by kernel_rfl) (fun _ _ _ h => h) (Or.inl ⟨by rfl, ?_⟩) (by assumption) ?_
                  rotate_left
                  · (intro W hSw; (try dsimp only at hSw); go_simp; try with_reducible rfl)
                  (try simp only [Act.put, List.getElem_toArray, List.getElem_cons_zero, List.getElem_cons_succ, List.setIfInBounds_toArray, List.set_cons_zero, List.set_cons_succ])
                  refine wpAnyH_take (i := 16) (v := ?_) rfl (by kernel_rfl) (by kernel_rfl) (by kernel_rfl) (fun _ _ _ h => h) (Or.inl ⟨by rfl, ?_⟩) (by assumption) ?_
                  rotate_left
                  · (intro W hSw; (try dsimp only at hSw); go_simp; try with_reducible rfl)
                  (try simp only [Act.put, List.getElem_toArray, List.getElem_cons_zero, List.getElem_cons_succ, List.setIfInBounds_toArray, List.set_cons_zero, List.set_cons_succ])
                  refine wpAnyH_take (i := 17) (v := ?_) rfl (by kernel_rfl) (by kernel_rfl) (by kernel_rfl) (fun _ _ _ h => h) (Or.inl ⟨by rfl, ?_⟩) (by assumption) ?_
                  rotate_left
                  · (intro W hSw; (try dsimp only at hSw); go_simp; try with_reducible rfl)
                  (try simp only [Act.put, List.getElem_toArray, List.getElem_cons_zero, List.getElem_cons_succ, List.setIfInBounds_toArray, List.set_cons_zero, List.set_cons_succ])
                  refine wpAnyH_take (i := 18) (v := ?_) rfl (by kernel_rfl) (by kernel_rfl) (by kernel_rfl) (fun _ _ _ h => h) (Or.inl ⟨by rfl, ?_⟩) (by assumption) ?_
                  rotate_left
                  · (intro W hSw; (try dsimp only at hSw); go_simp; try with_reducible rfl)
                  (try simp only [Act.put, List.getElem_toArray, List.getElem_cons_zero, List.getElem_cons_succ, List.setIfInBounds_toArray, List.set_cons_zero, List.set_cons_succ])
                  refine wpAnyH_take (i := 19) (v := ?_) rfl (by kernel_rfl) (by kernel_rfl) (by kernel_rfl) (fun _ _ _ h => h) (Or.inl ⟨by rfl, ?_⟩) (by assumption) ?_
                  rotate_left
                  · (intro W hSw; (try dsimp only at hSw); go_simp; try with_reducible rfl)
                  (try simp only [Act.put, List.getElem_toArray, List.getElem_cons_zero, List.getElem_cons_succ, List.setIfInBounds_toArray, List.set_cons_zero, List.set_cons_succ])
                  refine wpAnyH_take (i := 20) (v := ?_) rfl (by kernel_rfl) (by kernel_rfl) (by kernel_rfl) (fun _ _ _ h => h) (Or.inl ⟨by rfl, ?_⟩) (by assumption) ?_
                  rotate_left
                  · (intro W hSw; (try dsimp only at hSw); go_simp; try with_reducible rfl)
                  (try simp only [Act.put, List.getElem_toArray, List.getElem_cons_zero, List.getElem_cons_succ, List.setIfInBounds_toArray, List.set_cons_zero, List.set_cons_succ])
                  refine wpAnyH_take (i := 21) (v := ?_) rfl (by kernel_rfl) (by kernel_rfl) (by kernel_rfl) (fun _ _ _ h => h) (Or.inl ⟨by rfl, ?_⟩) (by assumption) ?_
                  rotate_left
                  · (intro W hSw; (try dsimp only at hSw); go_simp; try with_reducible rfl)
                  (try simp only [Act.put, List.getElem_toArray, List.getElem_cons_zero, List.getElem_cons_succ, List.setIfInBounds_toArray, List.set_cons_zero, List.set_cons_succ])
                  refine wpAnyH_take (i := 22) (v := ?_) rfl (by kernel_rfl) (by kernel_rfl) (by kernel_rfl) (fun _ _ _ h => h) (Or.inl ⟨by rfl, ?_⟩) (by assumption) ?_
                  rotate_left
                  · (intro W hSw; (try dsimp only at hSw); go_simp; try with_reducible rfl)
                  (try simp only [Act.put, List.getElem_toArray, List.getElem_cons_zero, List.getElem_cons_succ, List.setIfInBounds_toArray, List.set_cons_zero, List.set_cons_succ])
                  refine wpAnyH_take (i := 23) (v := undef) rfl (by kernel_rfl) (by kernel_rfl) (by kernel_rfl) (fun _ _ _ h => h) (Or.inr ⟨by rfl, rfl⟩) (by assumption) ?_
                  (try simp only [Act.put, List.getElem_toArray, List.getElem_cons_zero, List.getElem_cons_succ, List.setIfInBounds_toArray, List.set_cons_zero, List.set_cons_succ])
                  refine wpAnyH_take (i := 24) (v := undef) rfl (by kernel_rfl) (by kernel_rfl) (by kernel_rfl) (fun _ _ _ h => h) (Or.inr ⟨by rfl, rfl⟩) (by assumption) ?_
                  (try simp only [Act.put, List.getElem_toArray, List.getElem_cons_zero, List.getElem_cons_succ, List.setIfInBounds_toArray, List.set_cons_zero, List.set_cons_succ])
                  refine wpAnyH_take (i := 25) (v := ?_) rfl (by kernel_rfl) (by kernel_rfl) (by kernel_rfl) (fun _ _ _ h => h) (Or.inl ⟨by rfl, ?_⟩) (by assumption) ?_
                  rotate_left
                  · (intro W hSw; (try dsimp only at hSw); go_simp; try with_reducible rfl)
                  (try simp only [Act.put, List.getElem_toArray, List.getElem_cons_zero, List.getElem_cons_succ, List.setIfInBounds_toArray, List.set_cons_zero, List.set_cons_succ])
                  refine wpAnyH_take (i := 26) (v := ?_) rfl (by kernel_rfl) (by kernel_rfl) (by kernel_rfl) (fun _ _ _ h => h) (Or.inl ⟨by rfl, ?_⟩) (by assumption) ?_
                  rotate_left
                  · (intro W hSw; (try dsimp only at hSw); go_simp; try with_reducible rfl)
                  (try simp only [Act.put, List.getElem_toArray, List.getElem_cons_zero, List.getElem_cons_succ, List.setIfInBounds_toArray, List.set_cons_zero, List.set_cons_succ])
                  refine wpAnyH_done (by kernel_rfl) ?_ _
                  clear hHeld hS hc2 g0 g1 g2 p0 c0 c1' c2' c3' c4' hBx
                  go_wp2_with fail
                  exact ⟨⟨k + 1, by omega, by simp, hB7⟩, by simp [RowKit.intOf]; omega⟩
            · have hkn : k = no := by omega
              subst hkn
              go_wp2_with fail
              exact ⟨⟨a + 1, by omega, by simp, hBk⟩, by simp [RowKit.intOf]; omega⟩
        · have hlv := lives_any wr
          go_wp2_with (go_at_call 14; refine hlv.mono ?_; rintro e7 w9 ⟨rfl, hB9⟩)
          go_ret
          exact ⟨rfl, (hBwz.out.trans (hBa.out.mono hBwz.out.size)).trans (hB9.mono (Nat.le_trans hBwz.out.size hBa.out.size))⟩
end Go.Proofs.YtghlodpbbghcoaaGreatDoor
