/- Whether an element's kids may be: walked. -/
import Derived.Test.YtghlodpbbghcoaaGreatDoorZ16
import Derived.Test.YtghlodpbbghcoaaGreatDoorC4
import Derived.Deep.DeepCutAuto
namespace Go.Proofs.YtghlodpbbghcoaaGreatDoor
open Go.Lib Go.RowKit Go.Maps
def closesP (nm s : ByteArray) : Bool := Lib.containsS (closersOf nm.data.toList) s
/-- May a name not stand in an element? -/
def kidBad (nm s : ByteArray) : Bool := voidB nm || (rawB nm && !(s.toList == textN)) || closesP nm s
def kidsP (el : List Elt) (nm : ByteArray) (l : List ByteArray) : Bool := listedP el l && l.all fun s => !kidBad nm s

set_option maxRecDepth 8192 in
set_option maxHeartbeats 3200000 in
theorem kids_any (vt ve vu vk vr : Value) (nm : ByteArray) (el : List Elt) (l : List ByteArray) (P : Nat → Prop) (w : World) (hP : ∀ k, P k → k < w.heap.size) (he : EltsAt w P ve el) (ht : ∃ A n c, vt = .slice A n c) (hu : ∃ A n c, vu = .slice A n c) (hv : StrsAt w P vk l) (hr : ∃ A n c, vr = .slice A n c)
    (hel : el.length ≤ 140737488355328) (hl : l.length ≤ 140737488355328) (hsz : ∀ s ∈ l, s.size ≤ maxLen) (hnm : nm.size ≤ maxLen) : Calls Tryz.prog 62 #[.agg #[vt, ve, vu], .agg #[.string nm, vk, vr]] w (IsB (kidsP el nm l) w) := by
  have hli : Hid (∀ wr : World, Below w.heap.size w wr → Calls Tryz.prog 61 #[.agg #[vt, ve, vu], vk] wr (IsB (listedP el l) wr)) := Lib.hid (fun wr hb =>
    listed_any vt ve vu vk el l P wr (fun k hk => Nat.lt_of_lt_of_le (hP k hk) hb.size) (he.move (Stays.below hb hP) (fun _ h => h)) ht hu (hv.move (Stays.below hb hP) (fun _ h => h)) hel hl hsz)
  obtain ⟨At, nt, ct, rfl⟩ := ht
  obtain ⟨Au, nu, cu, rfl⟩ := hu
  obtain ⟨Ar, nr, cr, rfl⟩ := hr
  obtain ⟨Ae, ne, ce, rfl, -, -, -⟩ := he.form
  obtain ⟨A, n, cap, rfl, hn, hcap, hat⟩ := hv.form
  have hn6 : n ≤ 140737488355328 := by omega
  obtain ⟨r, hr⟩ : ∃ r, kidsP el nm l = r := ⟨_, rfl⟩
  rw [hr]
  replace hr := Lib.hid hr
  replace hn := Lib.hid hn
  replace hat := Lib.hid hat
  replace hP := Lib.hid hP
  clear he hv hel hl hsz
  obtain ⟨w1, hw1⟩ : ∃ w1, (w.alloc (.cells #[.slice At nt ct, .slice Ae ne ce, .slice Au nu cu] 25)).alloc (.cells #[.string nm, .slice A n cap, .slice Ar nr cr] 30) = w1 := ⟨_, rfl⟩
  have hB1 : Hid (Below w.heap.size w w1) := Lib.hid (by rw [← hw1]; exact ((Below.refl _ _).alloc (Nat.le_refl _) _).alloc (by simp) _)
  have hbx : Hid (w1.heap[w.heap.size]? = some (.cells #[.slice At nt ct, .slice Ae ne ce, .slice Au nu cu] 25)) := Lib.hid (by rw [← hw1]; exact blk_alloc (blk_new _ _) _)
  have hby : Hid (w1.heap[w.heap.size + 1]? = some (.cells #[.string nm, .slice A n cap, .slice Ar nr cr] 30)) := Lib.hid (by rw [← hw1]; exact blk_new' (by simp))
  obtain ⟨lp, hlp⟩ : ∃ lp, listedP el l = lp := ⟨_, rfl⟩
  rw [hlp] at hli
  have hr1 : Hid (r = (lp && l.all fun s => !kidBad nm s)) := Lib.hid (by rw [← hr.out, kidsP, hlp])
  clear hlp
  go_enter Tryz.func62, Tryz.ntmps62
  go_upto_region 1 with fail
  have d0 : w1.cell? ⟨w.heap.size, 0, none⟩ = some (.slice At nt ct) := blk_cell hbx.out 0
  have d1 : w1.cell? ⟨w.heap.size, 1, none⟩ = some (.slice Ae ne ce) := blk_cell hbx.out 1
  have d2 : w1.cell? ⟨w.heap.size, 2, none⟩ = some (.slice Au nu cu) := blk_cell hbx.out 2
  have e1 : w1.cell? ⟨w.heap.size + 1, 1, none⟩ = some (.slice A n cap) := blk_cell hby.out 1
  clear hw1
  cases lp with
  | false =>
    have e : r = false := by rw [hr1.out]; rfl
    subst e
    go_wp2_with (go_at_call 61; refine (hli.out _ hB1.out).mono ?_; rintro e5 w5 ⟨rfl, hB5⟩)
    go_ret
    exact ⟨rfl, hB1.out.trans (hB5.mono hB1.out.size)⟩
  | true =>
    have hr2 : Hid (r = l.all fun s => !kidBad nm s) := Lib.hid (by rw [hr1.out, Bool.true_and])
    go_upto_region 3 with (go_at_call 61; refine (hli.out _ hB1.out).mono ?_; rintro e5 w5 ⟨rfl, hB5⟩)
    have hB5' : Hid (Below w1.heap.size w1 w5) := Lib.hid hB5
    have f1 : w5.cell? ⟨w.heap.size + 1, 1, none⟩ = some (.slice A n cap) := blk_cell (blk_below hby.out hB5 (blk_lt hby.out)) 1
    clear d0 d1 d2 e1 hB5
    go_wp2
    go_loopw [15] (fun x15 wr => ∃ k : Nat, k ≤ n ∧ x15 = .int .i64 k ∧ Hid (∀ j (hj : j < l.length), j < k → kidBad nm l[j] = false) ∧ Hid (Below w1.heap.size w1 wr)) (fun x15 _ => n - (RowKit.intOf x15).toNat)
    case atStart => exact ⟨0, Nat.zero_le _, rfl, Lib.hid (fun j _ h => absurd h (Nat.not_lt_zero _)), hB5'⟩
    case round =>
      obtain ⟨k, hk, rfl, hok, hB⟩ := hrel
      clear f1 hB5' hli
      have hBw : Hid (Below w.heap.size w wr) := Lib.hid (hB1.out.trans (hB.out.mono hB1.out.size))
      have g0 : wr.cell? ⟨w.heap.size + 1, 0, none⟩ = some (.string nm) := blk_cell (blk_below hby.out hB.out (blk_lt hby.out)) 0
      by_cases hlt : k < n
      · have hkl : k < l.length := by have := hn.out; omega
        obtain ⟨b, o, rfl, hPb, hc⟩ := hat.out (by omega)
        have c0 := (hBw.out.cell (p := ⟨b, o + k, none⟩) (hP.out b hPb)).trans (hc k hkl)
        obtain ⟨s, hs⟩ : ∃ s, l[k] = s := ⟨_, rfl⟩
        rw [hs] at c0
        have hi0 : (0 : Int) ≤ (k : Int) := by omega
        have hi1 : (k : Int) < (n : Int) := by omega
        have hvd := void_any nm wr
        have hrw := raw_any nm wr
        have hcl := closes_any nm s hnm wr
        obtain ⟨bv, hbv⟩ : ∃ b, voidB nm = b := ⟨_, rfl⟩
        obtain ⟨br, hbr⟩ : ∃ b, rawB nm = b := ⟨_, rfl⟩
        obtain ⟨bc, hbc⟩ : ∃ b, Lib.containsS (closersOf nm.data.toList) s = b := ⟨_, rfl⟩
        obtain ⟨t, ht⟩ : ∃ t, (s.toList == textN) = t := ⟨_, rfl⟩
        have hkb : Hid (kidBad nm l[k] = ((bv || (br && !t)) || bc)) := Lib.hid (by rw [hs, kidBad, closesP, hbv, hbr, hbc, ht])
        rw [hbv] at hvd
        rw [hbr] at hrw
        rw [hbc] at hcl
        unfold textN at ht
        have ht2 : (s.toList != [35, 116, 101, 120, 116]) = !t := by rw [bne, ht]
        have hbad : Hid (kidBad nm l[k] = true → r = false) := Lib.hid (fun e => by rw [hr2.out, all_take_false hkl (by rw [e]; rfl)])
        have hgood : Hid (kidBad nm l[k] = false → ∀ j (hj : j < l.length), j < k + 1 → kidBad nm l[j] = false) := Lib.hid (fun e j hj hjk => by
          by_cases e2 : j = k
          · subst e2; exact e
          · exact hok.out j hj (by omega))
        clear hc hs hr2 hr1 hbv hbr hbc
        obtain ⟨bad, hbd⟩ : ∃ bad, ((bv || (br && !t)) || bc) = bad := ⟨_, rfl⟩
        have hbd2 := Lib.hid hbd
        clear hbd
        go_upto_region 6 with fail
        go_cut [36] (fun x wx => x = .bool bad ∧ Hid (Below wr.heap.size wr wx))
        case first =>
          have hbd := hbd2.out
          clear hbad hgood hkb
          cases bv with
          | true =>
            have e : bad = true := by rw [← hbd]; rfl
            subst e
            clear hbd
            go_wp2_with (go_at_call 88; refine hvd.mono ?_; rintro e5 w5 ⟨rfl, rfl⟩)
            go_meet
            exact ⟨rfl, Lib.hid (Below.refl _ _)⟩
          | false =>
            cases hbt : (br && !t) with
            | true =>
              have e : bad = true := by rw [← hbd, hbt]; rfl
              subst e
              obtain ⟨rfl, ht3⟩ : br = true ∧ t = false := by simpa using hbt
              subst ht3
              clear hbd hbt
              go_wp2_with (first
                | (go_at_call 88; refine hvd.mono ?_; rintro e5 w5 ⟨rfl, rfl⟩)
                | (go_at_call 89; refine hrw.mono ?_; rintro e5 w5 ⟨rfl, rfl⟩))
              go_meet
              exact ⟨rfl, Lib.hid (Below.refl _ _)⟩
            | false =>
              have e : bc = bad := by rw [← hbd, hbt]; simp
              subst e
              clear hbd
              cases br with
              | false =>
                clear hbt
                go_wp2_with (first
                  | (go_at_call 88; refine hvd.mono ?_; rintro e5 w5 ⟨rfl, rfl⟩)
                  | (go_at_call 89; refine hrw.mono ?_; rintro e5 w5 ⟨rfl, rfl⟩)
                  | (go_at_call 90; refine hcl.mono ?_; rintro e5 w5 ⟨rfl, hB5⟩))
                go_meet
                exact ⟨rfl, Lib.hid hB5⟩
              | true =>
                obtain rfl : t = true := by simpa using hbt
                clear hbt
                go_wp2_with (first
                  | (go_at_call 88; refine hvd.mono ?_; rintro e5 w5 ⟨rfl, rfl⟩)
                  | (go_at_call 89; refine hrw.mono ?_; rintro e5 w5 ⟨rfl, rfl⟩)
                  | (go_at_call 90; refine hcl.mono ?_; rintro e5 w5 ⟨rfl, hB5⟩))
                go_meet
                exact ⟨rfl, Lib.hid hB5⟩
        case rest =>
        obtain ⟨rfl, hB5⟩ := hcut
        rw [hbd2.out] at hkb
        have hB6 : Hid (Below w1.heap.size w1 wc) := Lib.hid (hB.out.trans (hB5.out.mono hB.out.size))
        cases bad with
        | true =>
          have e := hbad.out hkb.out
          subst e
          clear hbad hgood
          go_wp2
          go_ret
          exact ⟨rfl, hB1.out.trans (hB6.out.mono hB1.out.size)⟩
        | false =>
          have g := Lib.hid (hgood.out hkb.out)
          clear hbad hgood
          go_wp2
          exact ⟨⟨k + 1, by omega, by simp, g, hB6⟩, by simp [RowKit.intOf]; omega⟩
      · have hall : r = true := by rw [hr2.out]; exact all_of_at (fun j hj => by rw [hok.out j hj (by have := hn.out; omega)]; rfl)
        subst hall
        clear hr1 hr2
        go_wp2
        go_ret
        exact ⟨rfl, hBw.out⟩
end Go.Proofs.YtghlodpbbghcoaaGreatDoor
