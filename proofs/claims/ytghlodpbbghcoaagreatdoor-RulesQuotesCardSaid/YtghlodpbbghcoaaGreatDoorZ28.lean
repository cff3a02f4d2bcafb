/- Whether names may stand in an element's list, by the document: walked. -/
import Derived.Test.YtghlodpbbghcoaaGreatDoorZ27
import Derived.Test.YtghlodpbbghcoaaGreatDoorC8
import Derived.Test.YtghlodpbbghcoaaGreatDoorZ17
import Derived.Deep.DeepCutAuto
import Derived.Deep.RegionWith
import Derived.StillTailTactics
namespace Go.Proofs.YtghlodpbbghcoaaGreatDoor
open Go.Lib Go.RowKit Go.Maps
/-- May a name not stand in an element, by the document? -/
def kid13Bad (el : List Elt) (nm s : ByteArray) : Bool := (voidB nm || (rawB nm && !(s.toList == textN))) || !((s.toList == textN || s.toList == commN) || (!(closesP nm s) && (findP el s).isSome))
def kids13P (el : List Elt) (nm : ByteArray) (l : List ByteArray) : Bool := (l.all fun s => !kid13Bad el nm s) && !twiceB l

set_option maxRecDepth 8192 in
set_option maxHeartbeats 6400000 in
theorem kids13_any (vt ve vu vk : Value) (nm : ByteArray) (el : List Elt) (l : List ByteArray) (P : Nat → Prop) (w : World) (hP : ∀ k, P k → k < w.heap.size) (he : EltsAt w P ve el) (ht : ∃ A n c, vt = .slice A n c) (hu : ∃ A n c, vu = .slice A n c) (hv : StrsAt w P vk l)
    (hel : el.length ≤ 140737488355328) (hl : l.length ≤ 140737488355328) : Calls Tryz.prog 54 #[.agg #[vt, ve, vu], .string nm, vk] w (IsB (kids13P el nm l) w) := by
  have hfi : Hid (∀ (s : ByteArray) (wr : World), Below w.heap.size w wr → Calls Tryz.prog 30 #[.agg #[vt, ve, vu], .string s] wr (fun e w' => ∃ x A n c A' n' c', e = .returned (.tuple #[.agg #[.string x, .slice A n c, .slice A' n' c'], .bool (findP el s).isSome]) ∧ Below wr.heap.size wr w')) := Lib.hid (fun s wr hb =>
    (find13_any vt ve vu el s P wr (fun k hk => Nat.lt_of_lt_of_le (hP k hk) hb.size) (he.move (Stays.below hb hP) (fun _ h => h)) ht hu hel).mono (by
      rintro e w' ⟨h, hB⟩
      cases hf : findP el s with
      | none =>
        rw [hf] at h
        exact ⟨_, none, 0, 0, none, 0, 0, h, hB⟩
      | some x =>
        rw [hf] at h
        obtain ⟨vk, vr, h, h1, h2⟩ := h
        obtain ⟨Ak, nk, ck, rfl, -, -, -⟩ := h1.form
        obtain ⟨Ar, nr, cr, rfl, -, -, -⟩ := h2.form
        exact ⟨_, Ak, nk, ck, Ar, nr, cr, h, hB⟩))
  have hon : Hid (∀ wr : World, Below w.heap.size w wr → Calls Tryz.prog 86 #[vk] wr (IsB (!twiceB l) wr)) := Lib.hid (fun wr hb =>
    once_any vk l P wr (fun k hk => Nat.lt_of_lt_of_le (hP k hk) hb.size) (hv.move (Stays.below hb hP) (fun _ h => h)) hl)
  obtain ⟨At, nt, ct, rfl⟩ := ht
  obtain ⟨Au, nu, cu, rfl⟩ := hu
  obtain ⟨Ae, ne, ce, rfl, -, -, -⟩ := he.form
  obtain ⟨A, n, cap, rfl, hn, hcap, hat⟩ := hv.form
  have hn6 : n ≤ 140737488355328 := by omega
  obtain ⟨r, hr⟩ : ∃ r, kids13P el nm l = r := ⟨_, rfl⟩
  obtain ⟨tw, htw⟩ : ∃ tw, (!twiceB l) = tw := ⟨_, rfl⟩
  rw [hr]
  rw [htw] at hon
  have hr2 : Hid (r = ((l.all fun s => !kid13Bad el nm s) && tw)) := Lib.hid (by rw [← hr, ← htw]; rfl)
  replace hn := Lib.hid hn
  replace hat := Lib.hid hat
  replace hP := Lib.hid hP
  clear he hv hel hl hr htw
  obtain ⟨w1, hw1⟩ : ∃ w1, (w.alloc (.cells #[.slice At nt ct, .slice Ae ne ce, .slice Au nu cu] 25)) = w1 := ⟨_, rfl⟩
  have hB1 : Hid (Below w.heap.size w w1) := Lib.hid (by rw [← hw1]; exact ((Below.refl _ _).alloc (Nat.le_refl _) _))
  have hbx : Hid (w1.heap[w.heap.size]? = some (.cells #[.slice At nt ct, .slice Ae ne ce, .slice Au nu cu] 25)) := Lib.hid (by rw [← hw1]; exact blk_new _ _)
  have hvd := void75_any nm w1
  have hrw := raw76_any nm w1
  obtain ⟨bv, hbv⟩ : ∃ b, voidB nm = b := ⟨_, rfl⟩
  obtain ⟨br, hbr⟩ : ∃ b, rawB nm = b := ⟨_, rfl⟩
  rw [hbv] at hvd
  rw [hbr] at hrw
  go_enter Tryz.func54, Tryz.ntmps54
  go_upto_region 1 with fail
  clear hw1
  go_upto_region 3 with (first
    | (go_at_call 83; refine hvd.mono ?_; rintro e5 w5 ⟨rfl, e6⟩; obtain rfl := e6.symm)
    | (go_at_call 84; refine hrw.mono ?_; rintro e5 w5 ⟨rfl, e6⟩; obtain rfl := e6.symm))
  clear hvd hrw
  replace hbv := Lib.hid hbv
  replace hbr := Lib.hid hbr
  go_wp2
  go_loopw [9] (fun x9 wr => ∃ k : Nat, k ≤ n ∧ x9 = .int .i64 k ∧ Hid (∀ j (hj : j < l.length), j < k → kid13Bad el nm l[j] = false) ∧ Hid (Below w1.heap.size w1 wr)) (fun x9 _ => n - (RowKit.intOf x9).toNat)
  case atStart => exact ⟨0, Nat.zero_le _, rfl, Lib.hid (fun j _ h => absurd h (Nat.not_lt_zero _)), Lib.hid (Below.refl _ _)⟩
  case round =>
    obtain ⟨k, hk, rfl, hok, hB⟩ := hrel
    have hBw : Hid (Below w.heap.size w wr) := Lib.hid (hB1.out.trans (hB.out.mono hB1.out.size))
    by_cases hlt : k < n
    · have hkl : k < l.length := by have := hn.out; omega
      obtain ⟨b, o, rfl, hPb, hc⟩ := hat.out (by omega)
      have c0 := (hBw.out.cell (p := ⟨b, o + k, none⟩) (hP.out b hPb)).trans (hc k hkl)
      have g0 : wr.cell? ⟨w.heap.size, 0, none⟩ = some (.slice At nt ct) := blk_cell (blk_below hbx.out hB.out (blk_lt hbx.out)) 0
      have g1 : wr.cell? ⟨w.heap.size, 1, none⟩ = some (.slice Ae ne ce) := blk_cell (blk_below hbx.out hB.out (blk_lt hbx.out)) 1
      have g2 : wr.cell? ⟨w.heap.size, 2, none⟩ = some (.slice Au nu cu) := blk_cell (blk_below hbx.out hB.out (blk_lt hbx.out)) 2
      obtain ⟨s, hs⟩ : ∃ s, l[k] = s := ⟨_, rfl⟩
      rw [hs] at c0
      have hi0 : (0 : Int) ≤ (k : Int) := by omega
      have hi1 : (k : Int) < (n : Int) := by omega
      obtain ⟨bc, hbc⟩ : ∃ b, closesP nm s = b := ⟨_, rfl⟩
      obtain ⟨bf, hbf⟩ : ∃ b, (findP el s).isSome = b := ⟨_, rfl⟩
      obtain ⟨t, ht⟩ : ∃ t, (s.toList == textN) = t := ⟨_, rfl⟩
      obtain ⟨t2, ht2⟩ : ∃ t, (s.toList == commN) = t := ⟨_, rfl⟩
      have hcl : Hid (∀ wx, Calls Tryz.prog 85 #[.string nm, .string s] wx (IsB bc wx)) := Lib.hid (fun wx => by
        have := refCloses_any nm s wx
        rw [show Lib.containsS (closersOf nm.data.toList) s = bc from hbc] at this
        exact this)
      have hfk : Hid (∀ wx, Below w.heap.size w wx → Calls Tryz.prog 30 #[.agg #[.slice At nt ct, .slice Ae ne ce, .slice Au nu cu], .string s] wx (fun e w' => ∃ x A n c A' n' c', e = .returned (.tuple #[.agg #[.string x, .slice A n c, .slice A' n' c'], .bool bf]) ∧ Below wx.heap.size wx w')) := Lib.hid (fun wx hb => by
        have := hfi.out s wx hb
        rw [hbf] at this
        exact this)
      obtain ⟨bad, hbd⟩ : ∃ bad, ((bv || (br && !t)) || !((t || t2) || (!bc && bf))) = bad := ⟨_, rfl⟩
      have hkb : Hid (kid13Bad el nm l[k] = bad) := Lib.hid (by rw [hs, kid13Bad, hbv.out, hbr.out, hbc, hbf, ht, ht2, hbd])
      unfold textN at ht
      unfold commN at ht2
      have ht3 : (s.toList != [35, 116, 101, 120, 116]) = !t := by rw [bne, ht]
      have hbad : Hid (bad = true → r = false) := Lib.hid (fun e => by rw [hr2.out, all_take_false hkl (by rw [hkb.out, e]; rfl)]; rfl)
      have hgood : Hid (bad = false → ∀ j (hj : j < l.length), j < k + 1 → kid13Bad el nm l[j] = false) := Lib.hid (fun e j hj hjk => by
        by_cases e2 : j = k
        · subst e2; rw [hkb.out, e]
        · exact hok.out j hj (by omega))
      replace hbd := Lib.hid hbd
      clear hc hs hbc hbf
      go_upto_region 6 with fail
      cases hvr : (bv || (br && !t)) with
      | true =>
        have e := hbad.out (by rw [← hbd.out, hvr]; rfl)
        subst e
        clear hbad hgood hkb hbd
        cases bv with
        | true =>
          go_wp2
          go_ret
          exact ⟨rfl, hBw.out⟩
        | false =>
          obtain ⟨rfl, e3⟩ : br = true ∧ t = false := by simpa using hvr
          subst e3
          go_wp2
          go_ret
          exact ⟨rfl, hBw.out⟩
      | false =>
        obtain rfl : bv = false := by cases bv <;> simp_all
        have hbd2 : Hid ((!((t || t2) || (!bc && bf))) = bad) := Lib.hid (by rw [← hbd.out, hvr]; rfl)
        clear hbd
        have hbrt : br = false ∨ (br = true ∧ t = true) := by cases br <;> simp_all
        have hts : (t || t2) = true → (t = true ∨ t = false ∧ t2 = true) := by cases t <;> simp
        cases htt : (t || t2) with
        | true =>
          have e : bad = false := by rw [← hbd2.out, htt]; rfl
          subst e
          have g := Lib.hid (hgood.out rfl)
          clear hbad hgood hbd2
          rcases hbrt with rfl | ⟨rfl, rfl⟩
          · cases t with
            | true =>
              go_wp2
              exact ⟨⟨k + 1, by omega, by simp, g, hB⟩, by simp [RowKit.intOf]; omega⟩
            | false =>
              obtain rfl : t2 = true := by simpa using htt
              go_wp2
              exact ⟨⟨k + 1, by omega, by simp, g, hB⟩, by simp [RowKit.intOf]; omega⟩
          · go_wp2
            exact ⟨⟨k + 1, by omega, by simp, g, hB⟩, by simp [RowKit.intOf]; omega⟩
        | false =>
          obtain ⟨rfl, rfl⟩ : t = false ∧ t2 = false := by simpa using htt
          obtain rfl : br = false := by rcases hbrt with e | ⟨-, e⟩; exact e; cases e
          have hbd3 : Hid ((!(!bc && bf)) = bad) := Lib.hid (by rw [← hbd2.out]; rfl)
          clear hbd2 hbrt htt hvr hts
          go_upto_region 9 with fail
          go_cut [11] (fun x wx => x = .bool bf ∧ Hid (Below wr.heap.size wr wx))
          case first =>
            clear hbad hgood hbd3 hkb
            have hle : w.heap.size ≤ wr.heap.size := hBw.out.size
            have hbl : b < wr.heap.size := Nat.lt_of_lt_of_le (hP.out b hPb) hle
            have hwl : w.heap.size < wr.heap.size := blk_lt (blk_below hbx.out hB.out (blk_lt hbx.out))
            have k0 : (wr.drew.alloc (.cells #[.string ⟨#[]⟩, .slice none 0 0, .slice none 0 0] 30)).cell? ⟨b, o + k, none⟩ = some (.string s) := (((Below.refl wr.heap.size wr).drew.alloc (Nat.le_refl _) _).cell (p := ⟨b, o + k, none⟩) hbl).trans c0
            have k1 : (wr.drew.alloc (.cells #[.string ⟨#[]⟩, .slice none 0 0, .slice none 0 0] 30)).cell? ⟨w.heap.size, 0, none⟩ = some (.slice At nt ct) := (((Below.refl wr.heap.size wr).drew.alloc (Nat.le_refl _) _).cell (p := ⟨w.heap.size, 0, none⟩) hwl).trans g0
            have k2 : (wr.drew.alloc (.cells #[.string ⟨#[]⟩, .slice none 0 0, .slice none 0 0] 30)).cell? ⟨w.heap.size, 1, none⟩ = some (.slice Ae ne ce) := (((Below.refl wr.heap.size wr).drew.alloc (Nat.le_refl _) _).cell (p := ⟨w.heap.size, 1, none⟩) hwl).trans g1
            have k3 : (wr.drew.alloc (.cells #[.string ⟨#[]⟩, .slice none 0 0, .slice none 0 0] 30)).cell? ⟨w.heap.size, 2, none⟩ = some (.slice Au nu cu) := (((Below.refl wr.heap.size wr).drew.alloc (Nat.le_refl _) _).cell (p := ⟨w.heap.size, 2, none⟩) hwl).trans g2
            go_region_with (first
              | (go_at_call 30; refine Calls.mono (hfk.out _ ?_) ?_; exact hBw.out.drew; rintro e5 w5 ⟨x, A1, n1, c1, A2, n2, c2, rfl, hB5⟩; replace hB5 := Lib.hid hB5)
              | (go_at_call 30; refine Calls.mono (hfk.out _ ?_) ?_; exact hBw.out.drew.alloc hle _; rintro e5 w5 ⟨x, A1, n1, c1, A2, n2, c2, rfl, hB5⟩; have hX : w5.heap[wr.heap.size]? = some (.cells #[.string ⟨#[]⟩, .slice none 0 0, .slice none 0 0] 30) := blk_below (blk_new wr.drew _) hB5 (by simp); have q0 : w5.cell? ⟨wr.heap.size, 0, none⟩ = some (.string ⟨#[]⟩) := blk_cell hX 0; have q1 : w5.cell? ⟨wr.heap.size, 1, none⟩ = some (.slice none 0 0) := blk_cell hX 1; have q2 : w5.cell? ⟨wr.heap.size, 2, none⟩ = some (.slice none 0 0) := blk_cell hX 2; have f0 : w5.frozen? ⟨wr.heap.size, 0, none⟩ = false := blk_frozen hX 0; have f1 : w5.frozen? ⟨wr.heap.size, 1, none⟩ = false := blk_frozen hX 1; have f2 : w5.frozen? ⟨wr.heap.size, 2, none⟩ = false := blk_frozen hX 2; replace hX := Lib.hid hX; replace hB5 := Lib.hid hB5))
            all_goals go_wp2_with fail
            all_goals go_meet
            all_goals refine ⟨rfl, Lib.hid ?_⟩
            all_goals simp only [World.drew] at *
            all_goals first
              | exact (((Below.refl wr.heap.size wr).drew.trans (hB5.out.mono (Nat.le_refl _))).alloc hB5.out.size _)
              | exact ((((Below.refl wr.heap.size wr).drew.trans (hB5.out.mono (Nat.le_refl _))).alloc hB5.out.size _).setCell (Nat.le_of_eq rfl) _)
              | exact (((((Below.refl wr.heap.size wr).drew.alloc (Nat.le_refl _) _).trans (hB5.out.mono (by simp))).setCell (Nat.le_of_eq rfl) _).setCell (Nat.le_of_eq rfl) _).setCell (Nat.le_of_eq rfl) _
              | trace_state
          case rest =>
          obtain ⟨rfl, hB5⟩ := hcut
          have hB6 : Hid (Below w1.heap.size w1 wc) := Lib.hid (hB.out.trans (hB5.out.mono hB.out.size))
          have hB7 : Hid (Below w.heap.size w wc) := Lib.hid (hB1.out.trans (hB6.out.mono hB1.out.size))
          have c1 := (hB5.out.cell (p := ⟨b, o + k, none⟩) (Nat.lt_of_lt_of_le (hP.out b hPb) hBw.out.size)).trans c0
          have hcl2 := hcl.out wc
          clear c0 g0 g1 g2 hcl
          cases bad with
          | true =>
            have e := hbad.out rfl
            subst e
            have hbf : bf = false ∨ (bf = true ∧ bc = true) := by have := hbd3.out; cases bf <;> simp_all
            clear hbad hgood hbd3
            rcases hbf with rfl | ⟨rfl, rfl⟩
            · go_wp2_with (go_at_call 85; refine hcl2.mono ?_; rintro e5 w5 ⟨rfl, hB8⟩)
              go_ret
              exact ⟨rfl, hB7.out.trans (hB8.mono hB7.out.size)⟩
            · go_wp2_with (go_at_call 85; refine hcl2.mono ?_; rintro e5 w5 ⟨rfl, hB8⟩)
              go_ret
              exact ⟨rfl, hB7.out.trans (hB8.mono hB7.out.size)⟩
          | false =>
            have g := Lib.hid (hgood.out rfl)
            obtain ⟨rfl, rfl⟩ : bf = true ∧ bc = false := by have := hbd3.out; cases bf <;> cases bc <;> simp_all
            clear hbad hgood hbd3
            go_wp2_with (go_at_call 85; refine hcl2.mono ?_; rintro e5 w5 ⟨rfl, hB8⟩)
            exact ⟨⟨k + 1, by omega, by simp, g, Lib.hid (hB6.out.trans (hB8.mono hB6.out.size))⟩, by simp [RowKit.intOf]; omega⟩
    · have hall : r = tw := by rw [hr2.out, all_of_at (fun j hj => by rw [hok.out j hj (by have := hn.out; omega)]; rfl), Bool.true_and]
      subst hall
      have hon2 := hon.out wr hBw.out
      clear hr2 hon hfi
      go_wp2_with (go_at_call 86; refine hon2.mono ?_; rintro e5 w5 ⟨rfl, hB5⟩)
      go_ret
      exact ⟨rfl, hBw.out.trans (hB5.mono hBw.out.size)⟩
end Go.Proofs.YtghlodpbbghcoaaGreatDoor
