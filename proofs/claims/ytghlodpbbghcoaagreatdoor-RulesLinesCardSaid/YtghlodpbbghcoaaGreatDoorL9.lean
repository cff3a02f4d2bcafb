/- The law RulesLines: walked. -/
import Derived.Test.YtghlodpbbghcoaaGreatDoorLP
import Derived.Test.YtghlodpbbghcoaaGreatDoorCP
namespace Go.Proofs.YtghlodpbbghcoaaGreatDoor
open Go.Lib Go.RowKit Go.Maps
theorem linesOf_le (l : List Elt) (h : ∀ e ∈ l, e.rules.length ≤ 10) : linesOf l ≤ l.length * 12 := by
  induction l with
  | nil => simp [linesOf]
  | cons e l ih =>
    have h1 := h e List.mem_cons_self
    have h2 := ih (fun x hx => h x (List.mem_cons_of_mem _ hx))
    rw [linesOf, List.length_cons]
    omega
set_option maxRecDepth 16384 in
set_option maxHeartbeats 6400000 in
theorem rulesLines_any (vt ve vu : Value) (p : Pol) (w : World) (hT : TzTab w) (h : PolAt w (fun k => k < w.heap.size) vt ve vu p) (hin : p.In) :
    Calls Tryz.prog 9 #[.agg #[vt, ve, vu]] w (IsB true w) := by
  obtain ⟨At, nt, ct, rfl, -, -, -⟩ := h.top.form
  obtain ⟨Ae, ne, ce, rfl, -, -, -⟩ := h.elts.form
  obtain ⟨Au, nu, cu, rfl, -, -, -⟩ := h.unwrap.form
  obtain ⟨w1, hw1⟩ : ∃ w1, w.alloc (.cells #[.slice At nt ct, .slice Ae ne ce, .slice Au nu cu] 25) = w1 := ⟨_, rfl⟩
  have hB1 : Hid (Below w.heap.size w w1) := Lib.hid (by rw [← hw1]; exact (Below.refl _ _).alloc (Nat.le_refl _) _)
  have hbx : Hid (w1.heap[w.heap.size]? = some (.cells #[.slice At nt ct, .slice Ae ne ce, .slice Au nu cu] 25)) := Lib.hid (by rw [← hw1]; exact blk_new _ _)
  have hgood := goodT_any (.slice At nt ct) (.slice Ae ne ce) (.slice Au nu cu) p w w1 h hin hT hB1.out
  clear h hin hT
  have d0 := blk_cell hbx.out 0
  have d1 := blk_cell hbx.out 1
  have d2 := blk_cell hbx.out 2
  go_enter Tryz.func9, Tryz.ntmps9
  go_upto_region 2 with (go_at_call 10; refine hgood.mono ?_; rintro e6 w6 ⟨vt', ve', vu', q, rfl, hq, hok, hB6, hT6⟩; obtain ⟨A1, n1, c1, rfl, -, -, -⟩ := hq.top.form; obtain ⟨A2, n2, c2, rfl, hn2, -, hat⟩ := hq.elts.form; obtain ⟨A3, n3, c3, rfl, -, -, -⟩ := hq.unwrap.form; replace hn2 := Lib.hid hn2; replace hat := Lib.hid hat; replace hq := Lib.hid hq; replace hok := Lib.hid hok; replace hB6 := Lib.hid hB6; replace hT6 := Lib.hid hT6)
  clear d0 d1 d2 hgood hw1
  obtain ⟨wg, hwg⟩ : ∃ wg, w6.alloc (.cells #[.slice A1 n1 c1, .slice A2 n2 c2, .slice A3 n3 c3] 25) = wg := ⟨_, rfl⟩
  have hBg : Hid (Below w6.heap.size w6 wg) := Lib.hid (by rw [← hwg]; exact (Below.refl _ _).alloc (Nat.le_refl _) _)
  have hgb : Hid (wg.heap[w6.heap.size]? = some (.cells #[.slice A1 n1 c1, .slice A2 n2 c2, .slice A3 n3 c3] 25)) := Lib.hid (by rw [← hwg]; exact blk_new _ _)
  rw [hwg]
  clear hwg
  obtain ⟨L, hL⟩ : ∃ L, printB q = L := ⟨_, rfl⟩
  have hLlen : L.length ≤ 100000 := by rw [← hL]; exact printB_len hok.out.sml
  have hcount : Hid (L.count 10 = 3 + linesOf q.elts) := Lib.hid (by rw [← hL]; exact count_print q hok.out.rdb)
  have hprint : Hid (∀ wx, Below w6.heap.size w6 wx → Calls Tryz.prog 25 #[.agg #[.slice A1 n1 c1, .slice A2 n2 c2, .slice A3 n3 c3]] wx fun e w' => e = .returned (.tuple #[.string (tx L), .int .i64 0]) ∧ Below wx.heap.size wx w') := Lib.hid (fun wx hb => by
    rw [← hL]
    exact printT_any (.slice A1 n1 c1) (.slice A2 n2 c2) (.slice A3 n3 c3) p q w6 wx hq.out hok.out hT6.out hb)
  obtain ⟨tp, htp⟩ : ∃ tp, tx L = tp := ⟨_, rfl⟩
  rw [htp] at hprint
  have htz : tp.size = L.length := by rw [← htp, tx_size]
  have htd : Hid (tp.data.toList = L) := Lib.hid (by rw [← htp]; exact tx_data L)
  clear hL htp
  have d0 := blk_cell hgb.out 0
  have d1 := blk_cell hgb.out 1
  have d2 := blk_cell hgb.out 2
  go_upto_region 3 with (go_at_call 25; refine (hprint.out _ hBg.out).mono ?_; rintro e7 w7 ⟨rfl, hB7⟩; replace hB7 := Lib.hid hB7)
  have hB67 : Hid (Below w6.heap.size w6 w7) := Lib.hid (hBg.out.trans (hB7.out.mono hBg.out.size))
  have hgb7 : Hid (w7.heap[w6.heap.size]? = some (.cells #[.slice A1 n1 c1, .slice A2 n2 c2, .slice A3 n3 c3] 25)) := Lib.hid (blk_below hgb.out hB7.out (blk_lt hgb.out))
  clear d0 d1 d2 hprint
  have d1 : w7.cell? ⟨w6.heap.size, 1, none⟩ = some (.slice A2 n2 c2) := blk_cell hgb7.out 1
  have hn5 : n2 ≤ 5 := by have := hok.out.len; have := hn2.out; omega
  have hrl : Hid (∀ e ∈ q.elts, e.rules.length ≤ 10) := Lib.hid (fun e he => by have := (hok.out.rules e he).len; omega)
  have hsum : Hid (∀ k, k ≤ n2 → linesOf (q.elts.take k) ≤ 100) := Lib.hid (fun k hk => by
    have h1 := linesOf_le (q.elts.take k) (fun e he => hrl.out e (List.mem_of_mem_take he))
    have h2 : (q.elts.take k).length ≤ k := by rw [List.length_take]; omega
    omega)
  obtain ⟨X, hX⟩ : ∃ X, X = w6.heap.size := ⟨_, rfl⟩
  rw [← hX] at d1 ⊢
  clear hX
  go_wp2_with fail
  go_loop [6, 7] (fun x6 x7 => ∃ k : Nat, k ≤ n2 ∧ x7 = .int .i64 k ∧ x6 = .int .i64 ((3 + linesOf (q.elts.take k) : Nat) : Int)) (fun _ x7 => n2 - (RowKit.intOf x7).toNat)
  case atStart => exact ⟨0, Nat.zero_le _, rfl, rfl⟩
  case round =>
    obtain ⟨k, hk, rfl, rfl⟩ := hrel
    by_cases hlt : k < n2
    · have hkl : k < q.elts.length := by have := hn2.out; omega
      obtain ⟨b, o, rfl, hPb, hc⟩ := hat.out (by omega)
      obtain ⟨vk, vr, h0, h1, h2, hvk, hvr⟩ := hc k hkl
      obtain ⟨Ar, m, cr, rfl, hm, -, -⟩ := hvr.form
      have c2' := (hB67.out.cell (p := ⟨b, o + k * 3 + 2, none⟩) hPb).trans h2
      have hs := hsum.out k hk
      have hstep : Hid (linesOf (q.elts.take (k + 1)) = linesOf (q.elts.take k) + (2 + m)) := Lib.hid (by rw [linesOf_take hkl, hm])
      have hm10 : m ≤ 10 := by rw [hm]; exact hrl.out _ (List.getElem_mem hkl)
      have hi0 : (0 : Int) ≤ (k : Int) := by omega
      have hi1 : (k : Int) < (n2 : Int) := by omega
      obtain ⟨S, hS⟩ : ∃ S, linesOf (q.elts.take k) = S := ⟨_, rfl⟩
      rw [hS] at hs hstep ⊢
      clear hc h0 h1 h2 hvk hvr hm hS
      go_wp2_with fail
      exact ⟨⟨k + 1, by omega, by go_num, by rw [hstep.out]; go_num⟩, by simp [RowKit.intOf]; omega⟩
    · have hkn : k = n2 := by omega
      subst hkn
      have hfull : linesOf (q.elts.take k) = linesOf q.elts := by rw [List.take_of_length_le (by have := hn2.out; omega)]
      rw [hfull]
      have hs := hsum.out k hk
      rw [hfull] at hs
      obtain ⟨S, hS⟩ : ∃ S, linesOf q.elts = S := ⟨_, rfl⟩
      rw [hS] at hs hcount ⊢
      clear hfull hS
      have hl14 := fun wx => lives14_any wx
      go_wp2_with fail
      go_loop [8, 9] (fun x8 x9 => ∃ j : Nat, j ≤ L.length ∧ x9 = .int .i64 j ∧ x8 = .int .i64 (((L.take j).count 10 : Nat) : Int)) (fun _ x9 => L.length - (RowKit.intOf x9).toNat)
      case atStart => exact ⟨0, Nat.zero_le _, rfl, rfl⟩
      case round =>
        obtain ⟨j, hj, rfl, rfl⟩ := hrel
        by_cases hlt : j < L.length
        · have hjt : j < tp.size := by omega
          have hnx := Lib.hid (count_take hlt)
          have hLj : L[j] = tp[j] := by
            have h1 : tp.data.toList[j]? = some tp[j] := str_at hjt
            rw [htd.out, List.getElem?_eq_getElem hlt] at h1
            exact Option.some.inj h1
          rw [hLj] at hnx
          obtain ⟨ch, hc⟩ : ∃ c : UInt8, tp[j] = c := ⟨_, rfl⟩
          rw [hc] at hnx
          have hcl : (L.take j).count 10 ≤ 100000 := Nat.le_trans List.count_le_length (by rw [List.length_take]; omega)
          obtain ⟨g1, hg1⟩ : ∃ g1, (L.take j).count 10 = g1 := ⟨_, rfl⟩
          rw [hg1] at hnx hcl ⊢
          have i0 : (0 : Int) ≤ (j : Int) := by omega
          have i1 : (j : Int) < (tp.size : Int) := by omega
          have HL := Lib.hid hLj
          clear hg1 hLj
          by_cases h10 : ch = 10
          · subst h10
            rw [if_pos rfl] at hnx
            go_wp2_with fail
            exact ⟨⟨j + 1, by omega, by go_num, by rw [hnx.out]; go_num⟩, by simp [RowKit.intOf]; omega⟩
          · rw [if_neg h10] at hnx
            have h11 : ¬ ((ch.toNat : Int) = 10) := fun e => h10 (by
              have e2 : ch.toNat = 10 := by omega
              exact UInt8.toNat_inj.1 e2)
            go_wp2_with fail
            exact ⟨⟨j + 1, by omega, by go_num, by rw [hnx.out]; go_num⟩, by simp [RowKit.intOf]; omega⟩
        · have hjl : j = L.length := by omega
          have hcn : (L.take j).count 10 = 3 + S := by rw [hjl, List.take_length]; exact hcount.out
          rw [hcn]
          have i1 : ¬ (j : Int) < (tp.size : Int) := by omega
          clear hcn
          go_wp2_with (go_at_call 24; refine (hl14 _).mono ?_; rintro e11 w11 ⟨rfl, hB11⟩; replace hB11 := Lib.hid hB11)
          go_ret
          have b1 := hB1.out.trans (hB6.out.mono hB1.out.size)
          have b2 := b1.trans (hB67.out.mono b1.size)
          exact ⟨rfl, b2.trans (hB11.out.mono b2.size)⟩
end Go.Proofs.YtghlodpbbghcoaaGreatDoor
