/- The law PolicyTop, walked. -/
import Derived.Test.YtghlodpbbghcoaaGreatDoorZ45
import Derived.Test.YtghlodpbbghcoaaGreatDoorSF
import Derived.Test.YtghlodpbbghcoaaGreatDoorZ35
import Derived.Deep.RegionHeld3
import Derived.StillTailTactics
namespace Go.Proofs.YtghlodpbbghcoaaGreatDoor
open Go.Lib Go.RowKit Go.Maps
theorem okN_tag {k : Int} {nm : ByteArray} (h : Nd.okN k nm) : NoTag nm := ⟨by rw [ByteArray.toList_eq]; exact h.2.2.1, by rw [ByteArray.toList_eq]; exact h.2.2.2⟩
/-- Inside at a policy that is made of any, wherever it lies now. -/
theorem inside_at (vt ve vu : Value) (q : Pol) (hf : q.Fit) (P : Nat → Prop) (w0 : World) (hP : ∀ k, P k → k < w0.heap.size) (h : PolAt w0 P vt ve vu q) (par nm tx : ByteArray) (kd : Int) (Aa Ak : Option Addr) (na ca nk ck : Nat) (hkd : kd = 1 ∨ kd = 2 ∨ kd = 3) :
    ∀ W, Below w0.heap.size w0 W → Calls Tryz.prog 16 #[.agg #[vt, ve, vu], .string par, .agg #[.int .i64 kd, .string nm, .slice Aa na ca, .string tx, .slice Ak nk ck]] W (IsB (insideP q par kd nm) W) := fun W hW =>
  inside16_any vt ve vu q par nm tx kd Aa Ak na ca nk ck P W (fun k hk => Nat.lt_of_lt_of_le (hP k hk) hW.size) (h.move (Stays.below hW hP) (fun _ h => h)) hf hkd

set_option maxRecDepth 16384 in
set_option maxHeartbeats 6400000 in
theorem policyTop_any (vt ve vu : Value) (p : Pol) (A : Option Addr) (cap : Nat) (f : Nd.Fo) (w : World) (h : PolAt w (fun k => k < w.heap.size) vt ve vu p) (hin : p.In)
    (hf : f.In) (hc : f.len ≤ cap) (hl : f.len ≤ maxLen) (hr : 0 < f.len → ∃ b o, A = some ⟨b, o, none⟩ ∧ Nd.RowAt w w.heap.size b o f) :
    Calls Tryz.prog 5 #[.agg #[vt, ve, vu], .slice A f.len cap] w (IsB true w) := by
  obtain ⟨At, nt, ct, rfl, -, -, -⟩ := h.top.form
  obtain ⟨Ae, ne, ce, rfl, -, -, -⟩ := h.elts.form
  obtain ⟨Au, nu, cu, rfl, -, -, -⟩ := h.unwrap.form
  obtain ⟨w1, hw1⟩ : ∃ w1, w.alloc (.cells #[.slice At nt ct, .slice Ae ne ce, .slice Au nu cu] 25) = w1 := ⟨_, rfl⟩
  have hB1 : Hid (Below w.heap.size w w1) := Lib.hid (by rw [← hw1]; exact (Below.refl _ _).alloc (Nat.le_refl _) _)
  have hbx : Hid (w1.heap[w.heap.size]? = some (.cells #[.slice At nt ct, .slice Ae ne ce, .slice Au nu cu] 25)) := Lib.hid (by rw [← hw1]; exact blk_new _ _)
  have hgood : Hid (∀ W, Below w1.heap.size w1 W → Calls Tryz.prog 10 #[.agg #[.slice At nt ct, .slice Ae ne ce, .slice Au nu cu]] W (GoodPost p W)) := Lib.hid (fun W hW => by
    have hb := hB1.out.trans (hW.mono hB1.out.size)
    exact good10_any (.slice At nt ct) (.slice Ae ne ce) (.slice Au nu cu) p (fun k => k < w.heap.size) W (fun k hk => Nat.lt_of_lt_of_le hk hb.size) (h.move (Stays.below hb (fun _ h => h)) (fun _ h => h)) hin)
  have hnod : Hid (∀ W, Below w1.heap.size w1 W → Calls Tryz.prog 15 #[.slice A f.len cap] W (Nd.Good12Post W)) := Lib.hid (fun W hW => by
    have hb := hB1.out.trans (hW.mono hB1.out.size)
    exact Nd.good12_any f A cap w.heap.size W hf hc hl hb.size (fun hp => by obtain ⟨b, o, e, hr⟩ := hr hp; exact ⟨b, o, e, Nd.RowAt.below hb hr⟩))
  obtain ⟨fl, hfl⟩ : ∃ fl, f.len = fl := ⟨_, rfl⟩
  rw [hfl] at hnod ⊢
  clear h hin hf hc hl hr hfl
  have d0 := blk_cell hbx.out 0
  have d1 := blk_cell hbx.out 1
  have d2 := blk_cell hbx.out 2
  go_enter Tryz.func5, Tryz.ntmps5
  go_upto_region 2 with (go_at_call 10; refine (hgood.out _ (Below.refl _ _)).mono ?_; rintro e6 w6 ⟨vt', ve', vu', q, rfl, hq, hok, hB6⟩; obtain ⟨A1, n1, c1, rfl, -, -, -⟩ := hq.top.form; obtain ⟨A2, n2, c2, rfl, hn2, -, hat⟩ := hq.elts.form; obtain ⟨A3, n3, c3, rfl, -, -, -⟩ := hq.unwrap.form; replace hn2 := Lib.hid hn2; replace hat := Lib.hid hat; replace hq := Lib.hid hq; replace hok := Lib.hid hok; replace hB6 := Lib.hid hB6)
  obtain ⟨wg, hwg⟩ : ∃ wg, w6.alloc (.cells #[.slice A1 n1 c1, .slice A2 n2 c2, .slice A3 n3 c3] 25) = wg := ⟨_, rfl⟩
  have hBg : Hid (Below w6.heap.size w6 wg) := Lib.hid (by rw [← hwg]; exact (Below.refl _ _).alloc (Nat.le_refl _) _)
  have hgb : Hid (wg.heap[w6.heap.size]? = some (.cells #[.slice A1 n1 c1, .slice A2 n2 c2, .slice A3 n3 c3] 25)) := Lib.hid (by rw [← hwg]; exact blk_new _ _)
  rw [hwg]
  clear hwg hw1 d0 d1 d2
  have hB1g : Hid (Below w1.heap.size w1 wg) := Lib.hid (hB6.out.trans (hBg.out.mono hB6.out.size))
  go_upto_region 3 with (go_at_call 15; refine (hnod.out _ hB1g.out).mono ?_; rintro e7 w7 ⟨wn, vn, out, rfl, hBn, hinv, hokn, -, hszn⟩; replace hBn := Lib.hid hBn; replace hinv := Lib.hid hinv; replace hokn := Lib.hid hokn)
  have hBg7 : Hid (Below wg.heap.size wg w7) := Lib.hid (hBn.out.trans (hinv.out.below.mono hBn.out.size))
  have hrow7 : Hid (RowI nodK 44 (fun _ => True) w7 vn out) := Lib.hid ((nodRow hinv.out).allow (fun _ _ _ => trivial))
  have hnl : out.length ≤ 40 := by have := Nd.Fo.len_size (Nd.nFo out); have := Nd.nFo_len out; omega
  obtain ⟨An, cn, hvn, -⟩ := own_form hrow7.out.own
  subst hvn
  obtain ⟨nn, hnn⟩ : ∃ nn, out.length = nn := ⟨_, rfl⟩
  rw [hnn] at hrow7 hnl ⊢
  clear hinv hszn
  have hB17 : Hid (Below w1.heap.size w1 w7) := Lib.hid (hB1g.out.trans (hBg7.out.mono hB1g.out.size))
  have hbx7 : Hid (w7.heap[w.heap.size]? = some (.cells #[.slice At nt ct, .slice Ae ne ce, .slice Au nu cu] 25)) := Lib.hid (blk_below hbx.out hB17.out (blk_lt hbx.out))
  have d0 := blk_cell hbx7.out 0
  have d1 := blk_cell hbx7.out 1
  have d2 := blk_cell hbx7.out 2
  go_upto_region 4 with (go_at_call 10; refine (hgood.out _ hB17.out).mono ?_; rintro e8 w8 ⟨vt2, ve2, vu2, r, rfl, hqr, hokr, hB8⟩; obtain ⟨A4, n4, c4, rfl, -, -, -⟩ := hqr.top.form; obtain ⟨A5, n5, c5, rfl, -, -, -⟩ := hqr.elts.form; obtain ⟨A6, n6, c6, rfl, -, -, -⟩ := hqr.unwrap.form; replace hqr := Lib.hid hqr; replace hokr := Lib.hid hokr; replace hB8 := Lib.hid hB8)
  have e0 : (w8.alloc (.cells #[.slice A4 n4 c4, .slice A5 n5 c5, .slice A6 n6 c6] 25)).cell? ⟨w8.heap.size, 0, none⟩ = some (.slice A4 n4 c4) := blk_cell (blk_new _ _) 0
  have f0 : (w8.alloc (.cells #[.slice A4 n4 c4, .slice A5 n5 c5, .slice A6 n6 c6] 25)).frozen? ⟨w8.heap.size, 0, none⟩ = false := blk_frozen (blk_new _ _) 0
  go_upto_region 5 with fail
  obtain ⟨wz, hwz⟩ : ∃ wz, w8.alloc (.cells #[.slice none 0 0, .slice A5 n5 c5, .slice A6 n6 c6] 25) = wz := ⟨_, rfl⟩
  have hBz : Hid (Below w8.heap.size w8 wz) := Lib.hid (by rw [← hwz]; exact (Below.refl _ _).alloc (Nat.le_refl _) _)
  have hzb : Hid (wz.heap[w8.heap.size]? = some (.cells #[.slice none 0 0, .slice A5 n5 c5, .slice A6 n6 c6] 25)) := Lib.hid (by rw [← hwz]; exact blk_new _ _)
  rw [hwz]
  clear hwz e0 f0 d0 d1 d2 hgood hnod
  have hB7z : Hid (Below w7.heap.size w7 wz) := Lib.hid (hB8.out.trans (hBz.out.mono hB8.out.size))
  have hB6z : Hid (Below w6.heap.size w6 wz) := Lib.hid ((hBg.out.trans (hBg7.out.mono hBg.out.size)).trans (hB7z.out.mono (Nat.le_trans hBg.out.size hBg7.out.size)))
  have hgz : Hid (wz.heap[w6.heap.size]? = some (.cells #[.slice A1 n1 c1, .slice A2 n2 c2, .slice A3 n3 c3] 25)) := Lib.hid (blk_below (blk_below hgb.out hBg7.out (blk_lt hgb.out)) hB7z.out (Nat.lt_of_lt_of_le (blk_lt hgb.out) hBg7.out.size))
  have hBwz : Hid (Below w.heap.size w wz) := Lib.hid ((hB1.out.trans (hB17.out.mono hB1.out.size)).trans (hB7z.out.mono (Nat.le_trans hB1.out.size hB17.out.size)))
  have hrowz : Hid (RowI nodK 44 (fun _ => True) wz (.slice An nn cn) out) := Lib.hid (hrow7.out.carry hB7z.out)
  have hI1 : Hid (∀ (par nm tx : ByteArray) (kd : Int) (Aa Ak : Option Addr) (na ca nk ck : Nat), (kd = 1 ∨ kd = 2 ∨ kd = 3) → ∀ W, Below wz.heap.size wz W → Calls Tryz.prog 16 #[.agg #[.slice A1 n1 c1, .slice A2 n2 c2, .slice A3 n3 c3], .string par, .agg #[.int .i64 kd, .string nm, .slice Aa na ca, .string tx, .slice Ak nk ck]] W (IsB (insideP q par kd nm) W)) := Lib.hid (fun par nm tx kd Aa Ak na ca nk ck hkd W hW =>
    inside_at _ _ _ q hok.out.fit _ w6 (fun k hk => hk.2) hq.out par nm tx kd Aa Ak na ca nk ck hkd W (hB6z.out.trans (hW.mono hB6z.out.size)))
  have hI2 : Hid (∀ (par nm tx : ByteArray) (kd : Int) (Aa Ak : Option Addr) (na ca nk ck : Nat), (kd = 1 ∨ kd = 2 ∨ kd = 3) → ∀ W, Below wz.heap.size wz W → Calls Tryz.prog 16 #[.agg #[.slice none 0 0, .slice A5 n5 c5, .slice A6 n6 c6], .string par, .agg #[.int .i64 kd, .string nm, .slice Aa na ca, .string tx, .slice Ak nk ck]] W (IsB (insideP ⟨[], r.elts, r.unwrap⟩ par kd nm) W)) := Lib.hid (fun par nm tx kd Aa Ak na ca nk ck hkd W hW =>
    inside_at _ _ _ ⟨[], r.elts, r.unwrap⟩ ⟨⟨Nat.zero_le _, fun s hs => absurd hs (by simp)⟩, hokr.out.fit.unwrap, hokr.out.fit.elts⟩ _ w8 (fun k hk => hk.2) ⟨CRow.nil _ _ _, hqr.out.elts, hqr.out.unwrap⟩ par nm tx kd Aa Ak na ca nk ck hkd W (hBz.out.trans (hW.mono hBz.out.size)))
  have hn25 : n2 ≤ 5 := by
    have h1 := congrArg List.length hok.out.names
    rw [List.length_map] at h1
    have := (gNm_len p.elts 5).1
    have := hn2.out
    omega
  clear hB1g hBg7 hB17 hbx7 hbx hB1 hrow7
  replace hnn := Lib.hid hnn
  go_wp2
  go_loopw [8] (fun x8 wr => ∃ i : Nat, i ≤ nn ∧ x8 = .int .i64 i ∧ Hid (Below wz.heap.size wz wr)) (fun x8 _ => nn - (RowKit.intOf x8).toNat)
  case atStart => exact ⟨0, Nat.zero_le _, rfl, Lib.hid (Below.refl _ _)⟩
  case round =>
    obtain ⟨i, hi, rfl, hB⟩ := hrel
    by_cases hlt : i < nn
    · have hil : i < out.length := by have := hnn.out; omega
      have hrow := hrowz.out.carry hB.out
      obtain ⟨gn, rfl⟩ : ∃ gn, An = some ⟨gn, 0, none⟩ := by
        rcases hrow.form with ⟨e, -⟩ | ⟨g, cap, hv, -⟩
        · rw [e] at hil; simp at hil
        · simp only [Value.slice.injEq] at hv
          exact ⟨g, hv.1⟩
      obtain ⟨Aa, na, ca, Ak, nk, ck, hva, hvk⟩ := nod_slices (hrow.fineAll _ (List.getElem_mem hil))
      obtain ⟨hkn, -⟩ := (hokn.out _ (List.getElem_mem hil)).1
      have c0 : wr.cell? ⟨gn, i * 5, none⟩ = some (.int .i64 out[i].kind) := hrow.cell rfl hil (j := 0) (by decide)
      have c1' : wr.cell? ⟨gn, i * 5 + 1, none⟩ = some (.string out[i].name) := hrow.cell rfl hil (j := 1) (by decide)
      have c2' : wr.cell? ⟨gn, i * 5 + 2, none⟩ = some out[i].va := hrow.cell rfl hil (j := 2) (by decide)
      have c3' : wr.cell? ⟨gn, i * 5 + 3, none⟩ = some (.string out[i].text) := hrow.cell rfl hil (j := 3) (by decide)
      have c4' : wr.cell? ⟨gn, i * 5 + 4, none⟩ = some out[i].vk := hrow.cell rfl hil (j := 4) (by decide)
      have hgn : gn < wz.heap.size := (hrowz.out.own.lt gn rfl).2
      rw [hva] at c2'
      rw [hvk] at c4'
      obtain ⟨kd, hkd⟩ : ∃ x, out[i].kind = x := ⟨_, rfl⟩
      obtain ⟨nm, hnm⟩ : ∃ x, out[i].name = x := ⟨_, rfl⟩
      obtain ⟨tx, htx⟩ : ∃ x, out[i].text = x := ⟨_, rfl⟩
      rw [hkd] at c0 hkn
      rw [hnm] at c1' hkn
      rw [htx] at c3'
      have hkd3 := hkn.2.1
      have hz' := blk_below hzb.out hB.out (blk_lt hzb.out)
      have e0 := blk_cell hz' 0
      have e1 := blk_cell hz' 1
      have e2 := blk_cell hz' 2
      have hin0 := hI2.out ⟨#[]⟩ nm tx kd Aa Ak na ca nk ck hkd3 wr.drew hB.out.drew
      rw [inside_none _ rfl] at hin0
      have hS0 : Hid (∀ W, Below wz.heap.size wz W → W.cell? ⟨gn, i * 5, none⟩ = some (.int .i64 kd) ∧ W.cell? ⟨gn, i * 5 + 1, none⟩ = some (.string nm) ∧ W.cell? ⟨gn, i * 5 + 2, none⟩ = some (.slice Aa na ca) ∧ W.cell? ⟨gn, i * 5 + 3, none⟩ = some (.string tx) ∧ W.cell? ⟨gn, i * 5 + 4, none⟩ = some (.slice Ak nk ck)) := Lib.hid (fun W hW => by
        have hbk : ∀ j, wr.cell? ⟨gn, j, none⟩ = wz.cell? ⟨gn, j, none⟩ := fun j => hB.out.cell (p := ⟨gn, j, none⟩) hgn
        have hbk2 : ∀ j, W.cell? ⟨gn, j, none⟩ = wz.cell? ⟨gn, j, none⟩ := fun j => hW.cell (p := ⟨gn, j, none⟩) hgn
        rw [hbk2, hbk2, hbk2, hbk2, hbk2, ← hbk, ← hbk, ← hbk, ← hbk, ← hbk]
        exact ⟨c0, c1', c2', c3', c4'⟩)
      have hi0 : (0 : Int) ≤ (i : Int) := by omega
      have hi1 : (i : Int) < (nn : Int) := by omega
      clear hrow hva hvk hkd hnm htx hkn hz'
      go_upto_region 8 with fail
      go_still_tail 5, (by kernel_rfl)
      change wpList _ _ _ _ _ wr.drew
      generalize hwq : wr.drew = wq at hin0 ⊢
      have hBq : Hid (Below wz.heap.size wz wq) := Lib.hid (by rw [← hwq]; exact hB.out.drew)
      clear hwq hB c0 c1' c2' c3' c4' e0 e1 e2
      go_upto_region 10 with (go_at_call 16; refine hin0.mono ?_; rintro e5 w5 ⟨rfl, hB5⟩; replace hB5 := Lib.hid (hBq.out.trans (hB5.mono hBq.out.size)))
      clear hin0 hBq
      obtain ⟨w4, hw4⟩ : ∃ w4 : World, w4 = w5 := ⟨_, rfl⟩
      rw [← hw4] at hB5 ⊢
      clear hw4
      go_wp2
      go_loopw [9] (fun x9 wr => ∃ k : Nat, k ≤ n2 ∧ x9 = .int .i64 k ∧ Hid (Below wz.heap.size wz wr)) (fun x9 _ => n2 - (RowKit.intOf x9).toNat)
      case atStart => exact ⟨0, Nat.zero_le _, rfl, hB5⟩
      case round =>
        obtain ⟨k, hk, rfl, hB⟩ := hrel
        clear hB5
        have hz' := blk_below hzb.out hB.out (blk_lt hzb.out)
        have hg' := blk_below hgz.out hB.out (blk_lt hgz.out)
        have d1 := blk_cell hg' 1
        by_cases hlk : k < n2
        · have hkl : k < q.elts.length := by have := hn2.out; omega
          obtain ⟨b, o, rfl, hPb, hc⟩ := hat.out (by omega)
          obtain ⟨vk, vr, h0, -⟩ := hc k hkl
          have hpn := plain_ne (hok.out.elt_plain (List.getElem_mem hkl))
          obtain ⟨s, hs⟩ : ∃ s, q.elts[k].name = s := ⟨_, rfl⟩
          rw [hs] at h0 hpn
          have hsame := inside_same hok.out hokr.out hpn kd nm
          have hc1 : Hid (∀ W, Below wz.heap.size wz W → _) := Lib.hid (hI1.out s nm tx kd Aa Ak na ca nk ck hkd3)
          have hc2 : Hid (∀ W, Below wz.heap.size wz W → _) := Lib.hid (hI2.out s nm tx kd Aa Ak na ca nk ck hkd3)
          rw [hsame] at hc2
          obtain ⟨bb, hbb⟩ : ∃ bb, insideP q s kd nm = bb := ⟨_, rfl⟩
          rw [hbb] at hc1 hc2
          have hb6 : b < w6.heap.size := hPb.2
          have hS : Hid (∀ W, Below wz.heap.size wz W → (W.cell? ⟨w6.heap.size, 0, none⟩ = some (.slice A1 n1 c1) ∧ W.cell? ⟨w6.heap.size, 1, none⟩ = some (.slice (some ⟨b, o, none⟩) n2 c2) ∧ W.cell? ⟨w6.heap.size, 2, none⟩ = some (.slice A3 n3 c3)) ∧ (W.cell? ⟨w8.heap.size, 0, none⟩ = some (.slice none 0 0) ∧ W.cell? ⟨w8.heap.size, 1, none⟩ = some (.slice A5 n5 c5) ∧ W.cell? ⟨w8.heap.size, 2, none⟩ = some (.slice A6 n6 c6)) ∧ W.cell? ⟨gn, i * 5, none⟩ = some (.int .i64 kd) ∧ W.cell? ⟨gn, i * 5 + 1, none⟩ = some (.string nm) ∧ W.cell? ⟨gn, i * 5 + 2, none⟩ = some (.slice Aa na ca) ∧ W.cell? ⟨gn, i * 5 + 3, none⟩ = some (.string tx) ∧ W.cell? ⟨gn, i * 5 + 4, none⟩ = some (.slice Ak nk ck)) := Lib.hid (fun W hW => by
            have e1 := blk_below hgz.out hW (blk_lt hgz.out)
            have e2 := blk_below hzb.out hW (blk_lt hzb.out)
            exact ⟨⟨blk_cell e1 0, blk_cell e1 1, blk_cell e1 2⟩, ⟨blk_cell e2 0, blk_cell e2 1, blk_cell e2 2⟩, hS0.out W hW⟩)
          have c0 := ((hB6z.out.trans (hB.out.mono hB6z.out.size)).cell (p := ⟨b, o + k * 3, none⟩) hb6).trans h0
          have hk0 : (0 : Int) ≤ (k : Int) := by omega
          have hk1 : (k : Int) < (n2 : Int) := by omega
          clear hc h0 hs hsame hbb hz' hg' hpn
          go_upto_region 14 with fail
          clear c0 d1
          have hBx : Hid (Below wz.heap.size wz wr.drew) := Lib.hid hB.out.drew
          go_region_held3 (fun W => (W.cell? ⟨w6.heap.size, 0, none⟩ = some (.slice A1 n1 c1) ∧ W.cell? ⟨w6.heap.size, 1, none⟩ = some (.slice (some ⟨b, o, none⟩) n2 c2) ∧ W.cell? ⟨w6.heap.size, 2, none⟩ = some (.slice A3 n3 c3)) ∧ (W.cell? ⟨w8.heap.size, 0, none⟩ = some (.slice none 0 0) ∧ W.cell? ⟨w8.heap.size, 1, none⟩ = some (.slice A5 n5 c5) ∧ W.cell? ⟨w8.heap.size, 2, none⟩ = some (.slice A6 n6 c6)) ∧ W.cell? ⟨gn, i * 5, none⟩ = some (.int .i64 kd) ∧ W.cell? ⟨gn, i * 5 + 1, none⟩ = some (.string nm) ∧ W.cell? ⟨gn, i * 5 + 2, none⟩ = some (.slice Aa na ca) ∧ W.cell? ⟨gn, i * 5 + 3, none⟩ = some (.string tx) ∧ W.cell? ⟨gn, i * 5 + 4, none⟩ = some (.slice Ak nk ck))
            (first | with_reducible exact hS.out _ hBx.out | with_reducible exact hS.out _ hBx.out.drew)
            (first
              | (go_at_call_of 16 (Value.slice A1 n1 c1); refine Calls.mono (hc1.out _ hBx.out) ?_; rintro e5 w5 ⟨rfl, hB5⟩; have hBx := Lib.hid (hBx.out.trans (hB5.mono hBx.out.size)); clear hB5)
              | (go_at_call_of 16 (Value.slice A5 n5 c5); refine Calls.mono (hc2.out _ hBx.out) ?_; rintro e5 w5 ⟨rfl, hB5⟩; have hBx := Lib.hid (hBx.out.trans (hB5.mono hBx.out.size)); clear hB5))
          all_goals go_wp2_with fail
          all_goals exact ⟨⟨k + 1, by omega, by simp, hBx⟩, by simp [RowKit.intOf]; omega⟩
        · have hkn : k = n2 := by omega
          subst hkn
          go_wp2_with fail
          exact ⟨⟨i + 1, by omega, by simp, hB⟩, by simp [RowKit.intOf]; omega⟩
    · have hlv := lives_any wr
      go_wp2_with (go_at_call 14; refine hlv.mono ?_; rintro e7 w9 ⟨rfl, hB9⟩)
      go_ret
      exact ⟨rfl, (hBwz.out.trans (hB.out.mono hBwz.out.size)).trans (hB9.mono (Nat.le_trans hBwz.out.size hB.out.size))⟩
end Go.Proofs.YtghlodpbbghcoaaGreatDoor
