/- A constraint that may be, by the document: walked. -/
import Derived.Test.YtghlodpbbghcoaaGreatDoorZE
import Derived.Deep.DeepCutAuto
namespace Go.Proofs.YtghlodpbbghcoaaGreatDoor
open Go.Lib Go.RowKit Go.Maps
theorem info32 : (Tryz.prog.info? 32).map (·.size) = some 3 := by kernel_rfl
def pool7 : List ByteArray := [⟨#[97, 42]⟩, ⟨#[40, 97, 124, 98, 41, 43]⟩, ⟨#[91, 48, 45, 57, 93, 43]⟩, ⟨#[120, 46, 121]⟩, ⟨#[91, 94, 97, 93, 42]⟩, ⟨#[]⟩, ⟨#[97, 124, 98, 98, 124, 99]⟩]
/-- What a constraint is that may be, by the document's making. -/
structure ConOk (k : Int) (ws : List ByteArray) (rx : ByteArray) : Prop where
  len : ws.length ≤ 4
  kind : (k = 1 ∧ ws = [] ∧ rx = ⟨#[]⟩) ∨ (k = 2 ∧ ws ≠ [] ∧ wordsP (pickP false) ws = true ∧ rx = ⟨#[]⟩) ∨ (k = 3 ∧ (ws = [] ∨ wordsP (pickP true) ws = true) ∧ rx = ⟨#[]⟩) ∨ (k = 4 ∧ ws = [] ∧ rx ∈ pool7)
def ConPost (w : World) (e : Ending) (w' : World) : Prop := ∃ (k : Int) (vw : Value) (ws : List ByteArray) (rx : ByteArray), e = .returned (.agg #[.int .i64 k, vw, .string rx]) ∧ ConOk k ws rx ∧ StrsAt w' (fun b => w.heap.size ≤ b ∧ b < w'.heap.size) vw ws ∧ Below w.heap.size w w'

set_option maxRecDepth 8192 in
set_option maxHeartbeats 6400000 in
theorem con_any (k : Int) (vw : Value) (ws : List ByteArray) (rx : ByteArray) (P : Nat → Prop) (w : World) (hP : ∀ k, P k → k < w.heap.size) (h : StrsAt w P vw ws) (hl : ws.length ≤ 140737488355328) (hsz : ∀ s ∈ ws, s.size ≤ 140737488355328) (hrx : rx.size ≤ 140737488355328)
    (hk1 : -9223372036854775808 ≤ k) (hk2 : k ≤ 9223372036854775807) : Calls Tryz.prog 52 #[.agg #[.int .i64 k, vw, .string rx]] w (ConPost w) := by
  obtain ⟨A, n, cap, rfl, hn, hcap, hat⟩ := h.form
  have hn6 : n ≤ 140737488355328 := by omega
  replace hn := Lib.hid hn
  replace hat := Lib.hid hat
  replace hsz := Lib.hid hsz
  replace hP := Lib.hid hP
  clear h hl
  obtain ⟨w2, hw2⟩ : ∃ w2, (w.alloc (.cells #[.int .i64 k, .slice A n cap, .string rx] 32)).alloc (.cells #[.int .i64 0, .slice none 0 0, .string ⟨#[]⟩] 32) = w2 := ⟨_, rfl⟩
  have hB2 : Hid (Below w.heap.size w w2) := Lib.hid (by rw [← hw2]; exact ((Below.refl _ _).alloc (Nat.le_refl _) _).alloc (by simp) _)
  have hbx : Hid (w2.heap[w.heap.size]? = some (.cells #[.int .i64 k, .slice A n cap, .string rx] 32)) := Lib.hid (by rw [← hw2]; exact blk_alloc (blk_new _ _) _)
  have hR2 : Hid (w2.heap[w.heap.size + 1]? = some (.cells #[.int .i64 0, .slice none 0 0, .string ⟨#[]⟩] 32)) := Lib.hid (by rw [← hw2]; exact blk_new' (by simp))
  have hS2 : Hid (w2.heap.size = w.heap.size + 2) := Lib.hid (by rw [← hw2]; simp)
  go_enter Tryz.func52, Tryz.ntmps52
  go_upto_region 1 with fail
  have d0 : w2.cell? ⟨w.heap.size, 0, none⟩ = some (.int .i64 k) := blk_cell hbx.out 0
  have d1 : w2.cell? ⟨w.heap.size, 1, none⟩ = some (.slice A n cap) := blk_cell hbx.out 1
  have d2 : w2.cell? ⟨w.heap.size, 2, none⟩ = some (.string rx) := blk_cell hbx.out 2
  clear hw2
  go_upto_if 15 with fail
  go_cut [3] (fun x wx => (∃ k2 : Int, x = .int .i64 k2 ∧ 0 ≤ k2 ∧ k2 ≤ 9223372036854775807) ∧ wx = w2)
  case first =>
    by_cases hneg : k < 0
    · go_wp2
      go_meet
      exact ⟨⟨-(k + 1), rfl, by omega, by omega⟩, rfl⟩
    · go_wp2
      go_meet
      exact ⟨⟨k, rfl, by omega, by omega⟩, rfl⟩
  case rest =>
  obtain ⟨⟨k2, rfl, hk20, hk21⟩, e6⟩ := hcut
  obtain rfl := e6.symm
  clear hk1 hk2
  obtain ⟨m, hm⟩ : ∃ m, k2.tmod 4 = m := ⟨_, rfl⟩
  have hm0 : 0 ≤ m := by rw [← hm]; exact Int.tmod_nonneg 4 hk20
  have hm4 : m < 4 := by rw [← hm]; exact Int.tmod_lt_of_pos k2 (by decide)
  go_upto_region 5 with fail
  obtain ⟨w3, hw3⟩ : ∃ w3, w2.alloc (.cells #[.int .i64 (1 + m), .slice none 0 0, .string ⟨#[]⟩] 32) = w3 := ⟨_, rfl⟩
  obtain ⟨O, hO⟩ : ∃ O, w2.heap.size = O := ⟨_, rfl⟩
  have hOw : Hid (O = w.heap.size + 2) := Lib.hid (by rw [← hO]; exact hS2.out)
  have hB3 : Hid (Below w.heap.size w w3) := Lib.hid (by rw [← hw3]; exact hB2.out.alloc hB2.out.size _)
  have hbO : Hid (w3.heap[O]? = some (.cells #[.int .i64 (1 + m), .slice none 0 0, .string ⟨#[]⟩] 32)) := Lib.hid (by rw [← hw3]; exact blk_new' hO.symm)
  have hb1 : Hid (w3.heap[w.heap.size]? = some (.cells #[.int .i64 k, .slice A n cap, .string rx] 32)) := Lib.hid (by rw [← hw3]; exact blk_alloc hbx.out _)
  have hR3 : Hid (w3.heap[w.heap.size + 1]? = some (.cells #[.int .i64 0, .slice none 0 0, .string ⟨#[]⟩] 32)) := Lib.hid (by rw [← hw3]; exact blk_alloc hR2.out _)
  rw [hw3]
  rw [hO]
  clear hw3 hbx hR2 hB2 hS2 d0 d1 d2 hm hk20 hk21 hO
  clear e6
  clear w2
  have e0 : w3.cell? ⟨O, 0, none⟩ = some (.int .i64 (1 + m)) := blk_cell hbO.out 0
  by_cases hm3 : m = 3
  · subst hm3
    clear hm0 hm4 hat
    have e4 : (1 + 3 : Int) = 4 := rfl
    rw [e4] at hbO e0
    rw [e4]
    clear e4
    have e1 : w3.cell? ⟨w.heap.size, 2, none⟩ = some (.string rx) := blk_cell hb1.out 2
    go_upto_region 9 with fail
    go_upto_region 7 with fail
    obtain ⟨w4, hw4⟩ : ∃ w4, w3.alloc (.cells #[.string ⟨#[97, 42]⟩, .string ⟨#[40, 97, 124, 98, 41, 43]⟩, .string ⟨#[91, 48, 45, 57, 93, 43]⟩, .string ⟨#[120, 46, 121]⟩, .string ⟨#[91, 94, 97, 93, 42]⟩, .string ⟨#[]⟩, .string ⟨#[97, 124, 98, 98, 124, 99]⟩] 9) = w4 := ⟨_, rfl⟩
    have h7 : Hid (w4.heap[w3.heap.size]? = some (.cells #[.string ⟨#[97, 42]⟩, .string ⟨#[40, 97, 124, 98, 41, 43]⟩, .string ⟨#[91, 48, 45, 57, 93, 43]⟩, .string ⟨#[120, 46, 121]⟩, .string ⟨#[91, 94, 97, 93, 42]⟩, .string ⟨#[]⟩, .string ⟨#[97, 124, 98, 98, 124, 99]⟩] 9)) := Lib.hid (by rw [← hw4]; exact blk_new _ _)
    have hB4 : Hid (Below w.heap.size w w4) := Lib.hid (by rw [← hw4]; exact hB3.out.alloc hB3.out.size _)
    have hbO4 : Hid (w4.heap[O]? = some (.cells #[.int .i64 4, .slice none 0 0, .string ⟨#[]⟩] 32)) := Lib.hid (by rw [← hw4]; exact blk_alloc hbO.out _)
    have hR4 : Hid (w4.heap[w.heap.size + 1]? = some (.cells #[.int .i64 0, .slice none 0 0, .string ⟨#[]⟩] 32)) := Lib.hid (by rw [← hw4]; exact blk_alloc hR3.out _)
    have f1 : w4.cell? ⟨w.heap.size, 2, none⟩ = some (.string rx) := by rw [← hw4]; exact blk_cell (blk_alloc hb1.out _) 2
    rw [hw4]
    clear hw4 e0 e1 hb1 hR3 hbO hB3
    go_wp2
    go_loop [6, 7] (fun x6 x7 => ∃ (z : Int) (j : Nat), x6 = .int .i64 z ∧ x7 = .int .i64 j ∧ j ≤ rx.size ∧ 0 ≤ z ∧ z ≤ j * 255) (fun _ x7 => rx.size - (RowKit.intOf x7).toNat)
    case atStart => exact ⟨0, 0, rfl, rfl, Nat.zero_le _, by decide, by decide⟩
    case round =>
      obtain ⟨z, j, rfl, rfl, hj, hz0, hz1⟩ := hrel
      by_cases hlt : j < rx.size
      · obtain ⟨q, hq⟩ : ∃ q : Int, (rx[j].toNat : Int) = q := ⟨_, rfl⟩
        have hq0 : 0 ≤ q := by omega
        have hq1 : q ≤ 255 := by have := rx[j].toNat_lt; omega
        have hi0 : (0 : Int) ≤ (j : Int) := by omega
        have hi1 : (j : Int) < (rx.size : Int) := by omega
        have hz2 : z ≤ 36000000000000000 := by omega
        go_wp2
        exact ⟨⟨z + q, j + 1, by simp, by simp, by omega, by omega, by omega⟩, by simp [RowKit.intOf]; omega⟩
      · obtain ⟨q, hq⟩ : ∃ q, z.tmod 7 = q := ⟨_, rfl⟩
        have hq0 : 0 ≤ q := by rw [← hq]; exact Int.tmod_nonneg 7 hz0
        have hq7 : q < 7 := by rw [← hq]; exact Int.tmod_lt_of_pos z (by decide)
        obtain ⟨u, rfl⟩ : ∃ u : Nat, (u : Int) = q := ⟨q.toNat, Int.toNat_of_nonneg hq0⟩
        have hu7 : u < 7 := by omega
        obtain ⟨t, ht, htp⟩ : ∃ t, w4.cell? ⟨w3.heap.size, u, none⟩ = some (.string t) ∧ Hid (t ∈ pool7) := by
          rw [blk_cell h7.out]
          rcases (show u = 0 ∨ u = 1 ∨ u = 2 ∨ u = 3 ∨ u = 4 ∨ u = 5 ∨ u = 6 by omega) with rfl | rfl | rfl | rfl | rfl | rfl | rfl <;> exact ⟨_, rfl, Lib.hid (by simp [pool7])⟩
        have g2 : w4.cell? ⟨O, 2, none⟩ = some (.string ⟨#[]⟩) := blk_cell hbO4.out 2
        have g3 : w4.frozen? ⟨O, 2, none⟩ = false := blk_frozen hbO4.out 2
        go_upto_region 13 with fail
        obtain ⟨w5, hw5⟩ : ∃ w5, w4.setCell ⟨O, 2, none⟩ (.string t) = w5 := ⟨_, rfl⟩
        have hb5 : w5.heap[O]? = some (.cells #[.int .i64 4, .slice none 0 0, .string t] 32) := by rw [← hw5]; exact blk_set_self hbO4.out 2 _
        have hR5 : Hid (w5.heap[w.heap.size + 1]? = some (.cells #[.int .i64 0, .slice none 0 0, .string ⟨#[]⟩] 32)) := Lib.hid (by rw [← hw5]; exact blk_set hR4.out (by simp; have := hOw.out; omega) _)
        have hB5 : Hid (Below w.heap.size w w5) := Lib.hid (by rw [← hw5]; exact hB4.out.setCell (p := ⟨O, 2, none⟩) (by have := hOw.out; show w.heap.size ≤ O; omega) _)
        rw [hw5]
        clear hw5 g2 g3 f1 ht
        have c0 : w5.cell? ⟨O, 0, none⟩ = some (.int .i64 4) := blk_cell hb5 0
        have c1 : w5.cell? ⟨O, 1, none⟩ = some (.slice none 0 0) := blk_cell hb5 1
        have c2 : w5.cell? ⟨O, 2, none⟩ = some (.string t) := blk_cell hb5 2
        go_wp2_with ((with_reducible show wpList _ _ _ (⟨none, _, _, _, _, _⟩ :: _) _ _); refine wpList_store_mid rfl 32 _ _ rfl (w.heap.size + 1) 0 #[.int .i64 4, .slice none 0 0, .string t] rfl rfl (there_of (cs := [.int .i64 0, .slice none 0 0, .string ⟨#[]⟩]) hR5.out) info32 (by simp [Value.oneCell']) ?_)
        try simp only [Exit.inBlock, Exit.then]
        refine bodyPost_ret (results_cell_row rfl _ _ (w.heap.size + 1) 32 _ _ _ rfl (blk_stored hR5.out [.int .i64 4, .slice none 0 0, .string t] rfl) Tryz.underlying32 rfl info32) rfl ⟨4, .slice none 0 0, [], t, rfl, ⟨Nat.zero_le _, .inr (.inr (.inr ⟨rfl, rfl, htp.out⟩))⟩, CRow.nil _ _ _, ?_⟩
        exact below_setCells (B := w.heap.size) (b := w.heap.size + 1) (by omega) _ _ 0 hB5.out
  · obtain ⟨kd, hkd⟩ : ∃ kd, 1 + m = kd := ⟨_, rfl⟩
    have hk3 : kd = 1 ∨ kd = 2 ∨ kd = 3 := by omega
    have hk4 : (kd == 4) = false := by simp; omega
    have hbO' : Hid (w3.heap[O]? = some (.cells #[.int .i64 kd, .slice none 0 0, .string ⟨#[]⟩] 32)) := by rw [← hkd]; exact hbO
    rw [hkd] at e0
    rw [hkd]
    clear hbO hkd hm0 hm4 hm3
    go_upto_region 14 with fail
    clear e0
    go_wp2
    go_loopw [8] (fun x8 wr => ∃ (j : Nat) (v : Value) (l : List ByteArray), x8 = .int .i64 j ∧ j ≤ n ∧ j ≤ 4 ∧ l.length ≤ j ∧ Hid (OwnS wr (O + 1) v l) ∧ Hid (∀ s ∈ l, s.size ≤ 140737488355328) ∧ Hid (l = [] ∨ (kd ≠ 1 ∧ wordsP (pickP (kd == 3)) l = true)) ∧ Hid (wr.heap[O]? = some (.cells #[.int .i64 kd, v, .string ⟨#[]⟩] 32)) ∧ Hid (Below O w3 wr)) (fun x8 _ => n - (RowKit.intOf x8).toNat)
    case atStart => exact ⟨0, _, [], rfl, Nat.zero_le _, by decide, by decide, Lib.hid (OwnS.nil _ _), Lib.hid (by simp), Lib.hid (.inl rfl), hbO', Lib.hid (Below.refl _ _)⟩
    case round =>
      obtain ⟨j, v, l, rfl, hj, hj4, hlj, hown, hsl, hok, hbo, hB⟩ := hrel
      have hOle : Hid (w.heap.size ≤ O) := Lib.hid (by have := hOw.out; omega)
      have hOlt : Hid (O < wr.heap.size) := Lib.hid (blk_lt hbo.out)
      have hBw : Hid (Below w.heap.size w wr) := Lib.hid (hB3.out.trans (hB.out.mono hOle.out))
      have hRr : Hid (wr.heap[w.heap.size + 1]? = some (.cells #[.int .i64 0, .slice none 0 0, .string ⟨#[]⟩] 32)) := Lib.hid (blk_below hR3.out hB.out (by have := hOw.out; omega))
      have g1 : wr.cell? ⟨w.heap.size, 1, none⟩ = some (.slice A n cap) := blk_cell (blk_below hb1.out hB.out (by have := hOw.out; omega)) 1
      obtain ⟨A1, c1, hv, hown1⟩ := own_form hown.out
      subst hv
      replace hown1 := Lib.hid hown1
      have g3 : wr.cell? ⟨O, 0, none⟩ = some (.int .i64 kd) := blk_cell hbo.out 0
      have g4 : wr.cell? ⟨O, 1, none⟩ = some (.slice A1 l.length c1) := blk_cell hbo.out 1
      have g5 : wr.cell? ⟨O, 2, none⟩ = some (.string ⟨#[]⟩) := blk_cell hbo.out 2
      obtain ⟨go, hgo⟩ : ∃ go, (decide (j < n) && (decide (j < 4) && !decide (kd = 1))) = go := ⟨_, rfl⟩
      have hgo2 := Lib.hid hgo
      go_upto_region 15 with fail
      go_cut [63] (fun x wx => x = .bool go ∧ wx = wr)
      case first =>
        clear hgo2
        by_cases h1 : j < n
        · have i1 : (j : Int) < (n : Int) := by omega
          by_cases h2 : j < 4
          · have i2 : (j : Int) < 4 := by omega
            by_cases h3 : kd = 1
            · subst h3
              have e : go = false := by rw [← hgo]; simp
              subst e
              clear hgo
              go_wp2
              go_meet
              exact ⟨rfl, rfl⟩
            · have e : go = true := by rw [← hgo]; simp [h1, h2, h3]
              subst e
              clear hgo
              go_wp2
              go_meet
              exact ⟨by simp [h3], rfl⟩
          · have i2 : ¬ (j : Int) < 4 := by omega
            have e : go = false := by rw [← hgo]; simp [h2]
            subst e
            clear hgo
            go_wp2
            go_meet
            exact ⟨rfl, rfl⟩
        · have i1 : ¬ (j : Int) < (n : Int) := by omega
          have e : go = false := by rw [← hgo]; simp [h1]
          subst e
          clear hgo
          go_wp2
          go_meet
          exact ⟨rfl, rfl⟩
      case rest =>
      obtain ⟨rfl, e6⟩ := hcut
      obtain rfl := e6.symm
      clear hgo
      cases go with
      | true =>
        obtain ⟨h1, h2, h3⟩ : j < n ∧ j < 4 ∧ kd ≠ 1 := by have := hgo2.out; simpa using this
        have hjl : j < ws.length := by have := hn.out; omega
        obtain ⟨b, o, rfl, hPb, hc⟩ := hat.out (by omega)
        have c0 := (hBw.out.cell (p := ⟨b, o + j, none⟩) (hP.out b hPb)).trans (hc j hjl)
        obtain ⟨s, hs⟩ : ∃ s, ws[j] = s := ⟨_, rfl⟩
        rw [hs] at c0
        have hss := hsz.out s (by rw [← hs]; exact List.getElem_mem hjl)
        have hi0 : (0 : Int) ≤ (j : Int) := by omega
        have hi1 : (j : Int) < (n : Int) := by omega
        clear hc hs hgo2 hat
        go_upto_region 18 with fail
        have hbase : O + 1 ≤ wr.heap.size := hOlt.out
        go_cut [10] (fun x wx => Hid (OwnS wx (O + 1) x (l ++ [s])) ∧ Hid (Below wr.heap.size wr wx))
        case first =>
          obtain ⟨i0, hi, hz0, hz1, hz2⟩ := info_parts info9
          rcases OwnS.form hown1.out with ⟨rfl, hv⟩ | ⟨g, cap2, hv, hg0, hg1, hg2, hcells⟩
          · simp only [Value.slice.injEq] at hv
            obtain ⟨rfl, -, rfl⟩ := hv
            clear hi hz0 hz1 hz2 g1
            go_wp2_with (at_builtin; refine wpList_append_new_at info9 Tryz.underlying22 rfl (by decide) (by decide) (O + 1) (World.ownsRow_nil _ _ _ _) 1 rfl _ _ rfl rfl rfl (by simp) rfl rfl (by omega) hbase ?_; intro v6 w6 hown6 hbel6 hgt6 hgrow6 hnew6)
            go_meet
            exact ⟨Lib.hid hown6, Lib.hid ⟨hgrow6.os, hgrow6.tape, hgrow6.output, hgrow6.size, fun k hk => hgrow6.block k hk (by simp [Value.ownBlock])⟩⟩
          · simp only [Value.slice.injEq, true_and] at hv
            obtain ⟨rfl, rfl⟩ := hv
            have hl5 : l.length ≤ 4 := by omega
            go_wp2_with (first
              | (at_builtin; refine wpList_append_own_at _ rfl _ _ 22 rfl (O + 1) 9 i0 _ 1 16 Tryz.underlying22 hi hz0 hz1 hz2 rfl (by decide) (.slice none 0 0) 0 [] rfl (World.ownsRow_nil _ _ _ _) ⟨g, 0, none⟩ l.length c1 (strV l) rfl (by rw [strV_len, Nat.mul_one]) hcells (strV_one l) (by unfold maxLen; omega) (by omega) hbase ?_; intro v5 w5 hown5 hgr5 hnil5 hat5; have hb5 : O + 1 ≤ w5.heap.size := Nat.le_trans hbase hgr5.size; replace hown5 := Lib.hid hown5; replace hgr5 := Lib.hid hgr5; clear hnil5)
              | (at_builtin; refine wpList_append_new_at info9 Tryz.underlying22 rfl (by decide) (by decide) (O + 1) hown5.out 1 rfl _ _ rfl rfl rfl (by simp) rfl rfl (by omega) hb5 ?_; intro v6 w6 hown6 hbel6 hgt6 hgrow6 hnew6))
            go_meet
            have hbw5 : Below wr.heap.size wr w5 := ⟨hgr5.out.os, hgr5.out.tape, hgr5.out.output, hgr5.out.size, fun k hk => hgr5.out.block k hk (by simp [Value.ownBlock])⟩
            refine ⟨Lib.hid ?_, Lib.hid (hbw5.trans ⟨hgrow6.os, hgrow6.tape, hgrow6.output, hgrow6.size, fun k hk => hgrow6.block k (Nat.lt_of_lt_of_le hk hgr5.out.size) ?_⟩)⟩
            · unfold OwnS
              rw [List.length_append, strV_snoc]
              simpa using hown6
            · intro e
              rcases hat5 with h | h
              · rw [h] at e
                simp [Value.ownBlock] at e
              · rw [h] at e
                simp at e
                omega
        case rest =>
        obtain ⟨hx, hBc⟩ := hcut
        obtain ⟨A2, c2, hv, hx1⟩ := own_form hx.out
        subst hv
        replace hx := Lib.hid hx.out
        clear hx1
        have hbc : Hid (wc.heap[O]? = some (.cells #[.int .i64 kd, .slice A1 l.length c1, .string ⟨#[]⟩] 32)) := Lib.hid (blk_below hbo.out hBc.out hOlt.out)
        have q3 : wc.cell? ⟨O, 0, none⟩ = some (.int .i64 kd) := blk_cell hbc.out 0
        have hownc : Hid (OwnS wc (O + 1) (.slice A1 l.length c1) l) := Lib.hid (own_below hown.out hBc.out (Nat.le_refl _))
        have hBd : Hid (Below O w3 wc) := Lib.hid (hB.out.trans (hBc.out.mono (Nat.le_of_lt hOlt.out)))
        have hls : Hid (∀ t ∈ l ++ [s], t.size ≤ 140737488355328) := Lib.hid (by
          intro t ht
          rcases List.mem_append.1 ht with h | h
          · exact hsl.out t h
          · rw [List.mem_singleton.1 h]
            exact hss)
        have hll : Hid ((l ++ [s]).length ≤ j + 1) := Lib.hid (by rw [List.length_append]; simp; omega)
        have hwd : Hid (∀ b, Calls Tryz.prog 82 #[.slice A2 (l ++ [s]).length c2, .bool b] wc (IsB (wordsP (pickP b) (l ++ [s])) wc)) := Lib.hid (fun b =>
          words82_any _ (l ++ [s]) b _ wc (fun k hk => hk.2) (OwnS.fresh hx.out) (by have := hll.out; omega) hls.out)
        have hs3 : Hid (kd = 2 ∨ kd = 3) := Lib.hid (by omega)
        clear g1 g3 g4 g5 c0
        obtain ⟨N, hN⟩ : ∃ N, (l ++ [s]).length = N := ⟨_, rfl⟩
        rw [hN] at hwd hx hll
        rw [hN]
        replace hN := Lib.hid hN
        obtain ⟨sch, hsch⟩ : ∃ sch, (kd == 3) = sch := ⟨_, rfl⟩
        have hw2 := hwd.out sch
        obtain ⟨may, hmay⟩ : ∃ may, wordsP (pickP sch) (l ++ [s]) = may := ⟨_, rfl⟩
        rw [hmay] at hw2
        have hmayH : Hid (may = true → l ++ [s] = [] ∨ (kd ≠ 1 ∧ wordsP (pickP (kd == 3)) (l ++ [s]) = true)) := Lib.hid (fun e => .inr ⟨h3, by rw [hsch, hmay, e]⟩)
        clear hmay hwd
        go_upto_region 20 with (go_at_call 82; (try rw [hsch]); refine hw2.mono ?_; rintro e5 w5 ⟨rfl, hB5⟩)
        have hB6 : Hid (Below wc.heap.size wc w5) := Lib.hid hB5
        have hOc : Hid (O < wc.heap.size) := Lib.hid (blk_lt hbc.out)
        have hb5 : Hid (w5.heap[O]? = some (.cells #[.int .i64 kd, .slice A1 l.length c1, .string ⟨#[]⟩] 32)) := Lib.hid (blk_below hbc.out hB5 hOc.out)
        have hBe : Hid (Below O w3 w5) := Lib.hid (hBd.out.trans (hB5.mono (Nat.le_of_lt hOc.out)))
        have hx5 : Hid (w5.ownsRow (O + 1) 9 1 (.slice A2 N c2) N (strV (l ++ [s]))) := Lib.hid (own_below (by have := hx.out; unfold OwnS at this; rw [hN.out] at this; exact this) hB5 (Nat.le_refl _))
        have ho5 : Hid (OwnS w5 (O + 1) (.slice A1 l.length c1) l) := Lib.hid (own_below hownc.out hB5 (Nat.le_refl _))
        have r1 : w5.cell? ⟨O, 1, none⟩ = some (.slice A1 l.length c1) := blk_cell hb5.out 1
        have r2 : w5.frozen? ⟨O, 1, none⟩ = false := blk_frozen hb5.out 1
        clear hB5 q3 hsch hw2
        cases may with
        | true =>
          have hne : Hid ((Value.slice A2 N c2).ownBlock ≠ some O) := Lib.hid (own_ne_lt hx5.out (Nat.lt_succ_self O))
          go_wp2
          exact ⟨⟨j + 1, .slice A2 N c2, l ++ [s], by simp, by omega, by omega, by rw [hN.out]; exact hll.out, Lib.hid (by unfold OwnS; rw [hN.out]; exact ownsRow_setCell_other hx5.out (a := ⟨O, 1, none⟩) hne.out _), hls, Lib.hid (hmayH.out rfl), Lib.hid (blk_set_self hb5.out 1 _), Lib.hid (hBe.out.setCell (p := ⟨O, 1, none⟩) (Nat.le_refl _) _)⟩, by simp [RowKit.intOf]; omega⟩
        | false =>
          go_wp2
          exact ⟨⟨j + 1, .slice A1 l.length c1, l, by simp, by omega, by omega, by omega, ho5, hsl, hok, hb5, hBe⟩, by simp [RowKit.intOf]; omega⟩
      | false =>
        clear g1 hat
        by_cases hx : kd = 2 ∧ l.length = 0
        · obtain ⟨hk2, hl0⟩ := hx
          subst hk2
          have hl : l = [] := List.eq_nil_of_length_eq_zero hl0
          subst hl
          have hal : ∀ o, (wr.alloc o).cell? ⟨O, 1, none⟩ = some (.slice A1 0 c1) := fun o => (World.cell?_alloc_lt (a := ⟨O, 1, none⟩) wr o hOlt.out).trans g4
          have hal2 : ∀ o, (wr.alloc o).frozen? ⟨O, 1, none⟩ = false := fun o => blk_frozen (blk_alloc hbo.out o) 1
          go_upto_region 24 with fail
          obtain ⟨wz, hwz⟩ : ∃ wz, (wr.alloc (.cells #[.string ⟨#[120]⟩] 9)).setCell ⟨O, 1, none⟩ (.slice (some ⟨wr.heap.size, 0, none⟩) 1 1) = wz := ⟨_, rfl⟩
          have hbz : Hid (wz.heap[O]? = some (.cells #[.int .i64 2, .slice (some ⟨wr.heap.size, 0, none⟩) 1 1, .string ⟨#[]⟩] 32)) := Lib.hid (by rw [← hwz]; exact blk_set_self (blk_alloc hbo.out _) 1 _)
          have hRz : Hid (wz.heap[w.heap.size + 1]? = some (.cells #[.int .i64 0, .slice none 0 0, .string ⟨#[]⟩] 32)) := Lib.hid (by rw [← hwz]; exact blk_set (blk_alloc hRr.out _) (by simp; have := hOw.out; omega) _)
          have hBz : Hid (Below w.heap.size w wz) := Lib.hid (by rw [← hwz]; exact (hBw.out.alloc hBw.out.size _).setCell (p := ⟨O, 1, none⟩) hOle.out _)
          have hnz : Hid (StrsAt wz (fun k => O + 1 ≤ k ∧ k < wz.heap.size) (.slice (some ⟨wr.heap.size, 0, none⟩) 1 1) [⟨#[120]⟩]) := Lib.hid (by
            refine ⟨_, 1, rfl, Nat.le_refl _, fun j hj => ⟨wr.heap.size, 0, rfl, ⟨hOlt.out, by rw [← hwz]; simp⟩, fun i hi => ?_⟩⟩
            obtain rfl : i = 0 := by omega
            have hj0 : j = 0 := by simp [sCells] at hj; exact hj
            subst hj0
            have hb : wz.heap[wr.heap.size]? = some (.cells #[.string ⟨#[120]⟩] 9) := by rw [← hwz]; exact blk_set (blk_new _ _) (by simp; have := hOlt.out; omega) _
            exact blk_cell hb 0)
          rw [hwz]
          clear hwz g3 g4 g5 hal hal2
          have y0 : wz.cell? ⟨O, 0, none⟩ = some (.int .i64 2) := blk_cell hbz.out 0
          have y1 : wz.cell? ⟨O, 1, none⟩ = some (.slice (some ⟨wr.heap.size, 0, none⟩) 1 1) := blk_cell hbz.out 1
          have y2 : wz.cell? ⟨O, 2, none⟩ = some (.string ⟨#[]⟩) := blk_cell hbz.out 2
          go_wp2_with ((with_reducible show wpList _ _ _ (⟨none, _, _, _, _, _⟩ :: _) _ _); refine wpList_store_mid rfl 32 _ _ rfl (w.heap.size + 1) 0 #[.int .i64 2, .slice (some ⟨wr.heap.size, 0, none⟩) 1 1, .string ⟨#[]⟩] rfl rfl (there_of (cs := [.int .i64 0, .slice none 0 0, .string ⟨#[]⟩]) hRz.out) info32 (by simp [Value.oneCell']) ?_)
          try simp only [Exit.inBlock, Exit.then]
          refine bodyPost_ret (results_cell_row rfl _ _ (w.heap.size + 1) 32 _ _ _ rfl (blk_stored hRz.out [.int .i64 2, .slice (some ⟨wr.heap.size, 0, none⟩) 1 1, .string ⟨#[]⟩] rfl) Tryz.underlying32 rfl info32) rfl ⟨2, .slice (some ⟨wr.heap.size, 0, none⟩) 1 1, [⟨#[120]⟩], ⟨#[]⟩, rfl, ⟨by decide, .inr (.inl ⟨rfl, by simp, by kernel_rfl, rfl⟩)⟩, ?_, ?_⟩
          · refine hnz.out.move (Stays.trans (Stays.refl _ _) (fun x hx => heap_setCells_other (by have := hOw.out; have := hx.1; omega) _ _ _)) (fun x hx => ⟨by have := hOw.out; have := hx.1; omega, by rw [setCells_size]; exact hx.2⟩)
          · exact below_setCells (B := w.heap.size) (b := w.heap.size + 1) (by omega) _ _ 0 hBz.out
        · have hBz := hBw
          have hRz := hRr
          have hbz := hbo
          have hl0 : kd = 2 → ¬ l.length = 0 := fun e1 e2 => hx ⟨e1, e2⟩
          by_cases hk2 : kd = 2
          · subst hk2
            have hl1 := hl0 rfl
            have hl2 : (l.length == 0) = false := by simpa using hl1
            clear hl0 hx
            go_upto_region 24 with fail
            clear g3 g4 g5
            have y0 : wr.cell? ⟨O, 0, none⟩ = some (.int .i64 2) := blk_cell hbz.out 0
            have y1 : wr.cell? ⟨O, 1, none⟩ = some (.slice A1 l.length c1) := blk_cell hbz.out 1
            have y2 : wr.cell? ⟨O, 2, none⟩ = some (.string ⟨#[]⟩) := blk_cell hbz.out 2
            go_wp2_with ((with_reducible show wpList _ _ _ (⟨none, _, _, _, _, _⟩ :: _) _ _); refine wpList_store_mid rfl 32 _ _ rfl (w.heap.size + 1) 0 #[.int .i64 2, .slice A1 l.length c1, .string ⟨#[]⟩] rfl rfl (there_of (cs := [.int .i64 0, .slice none 0 0, .string ⟨#[]⟩]) hRz.out) info32 (by simp [Value.oneCell']) ?_)
            try simp only [Exit.inBlock, Exit.then]
            refine bodyPost_ret (results_cell_row rfl _ _ (w.heap.size + 1) 32 _ _ _ rfl (blk_stored hRz.out [.int .i64 2, .slice A1 l.length c1, .string ⟨#[]⟩] rfl) Tryz.underlying32 rfl info32) rfl ⟨2, .slice A1 l.length c1, l, ⟨#[]⟩, rfl, ⟨by omega, .inr (.inl ⟨rfl, fun e => hl1 (by rw [e]; rfl), by rcases hok.out with e | e; exact absurd (by rw [e]; rfl) hl1; exact e.2, rfl⟩)⟩, ?_, ?_⟩
            · refine (OwnS.fresh hown.out).move (Stays.trans (Stays.refl _ _) (fun x hx => heap_setCells_other (by have := hOw.out; have := hx.1; omega) _ _ _)) (fun x hx => ⟨by have := hOw.out; have := hx.1; omega, by rw [setCells_size]; exact hx.2⟩)
            · exact below_setCells (B := w.heap.size) (b := w.heap.size + 1) (by omega) _ _ 0 hBz.out
          · clear hl0 hx
            have hk5 : (kd == 2) = false := by simpa using hk2
            go_upto_region 24 with fail
            clear g3 g4 g5
            have y0 : wr.cell? ⟨O, 0, none⟩ = some (.int .i64 kd) := blk_cell hbz.out 0
            have y1 : wr.cell? ⟨O, 1, none⟩ = some (.slice A1 l.length c1) := blk_cell hbz.out 1
            have y2 : wr.cell? ⟨O, 2, none⟩ = some (.string ⟨#[]⟩) := blk_cell hbz.out 2
            go_wp2_with ((with_reducible show wpList _ _ _ (⟨none, _, _, _, _, _⟩ :: _) _ _); refine wpList_store_mid rfl 32 _ _ rfl (w.heap.size + 1) 0 #[.int .i64 kd, .slice A1 l.length c1, .string ⟨#[]⟩] rfl rfl (there_of (cs := [.int .i64 0, .slice none 0 0, .string ⟨#[]⟩]) hRz.out) info32 (by simp [Value.oneCell']) ?_)
            try simp only [Exit.inBlock, Exit.then]
            refine bodyPost_ret (results_cell_row rfl _ _ (w.heap.size + 1) 32 _ _ _ rfl (blk_stored hRz.out [.int .i64 kd, .slice A1 l.length c1, .string ⟨#[]⟩] rfl) Tryz.underlying32 rfl info32) rfl ⟨kd, .slice A1 l.length c1, l, ⟨#[]⟩, rfl, ⟨by omega, by
              rcases hk3 with e | e | e
              · rcases hok.out with h | h
                · exact .inl ⟨e, h, rfl⟩
                · exact absurd e h.1
              · exact absurd e hk2
              · subst e
                exact .inr (.inr (.inl ⟨rfl, hok.out.imp id (fun h => h.2), rfl⟩))⟩, ?_, ?_⟩
            · refine (OwnS.fresh hown.out).move (Stays.trans (Stays.refl _ _) (fun x hx => heap_setCells_other (by have := hOw.out; have := hx.1; omega) _ _ _)) (fun x hx => ⟨by have := hOw.out; have := hx.1; omega, by rw [setCells_size]; exact hx.2⟩)
            · exact below_setCells (B := w.heap.size) (b := w.heap.size + 1) (by omega) _ _ 0 hBz.out
end Go.Proofs.YtghlodpbbghcoaaGreatDoor
