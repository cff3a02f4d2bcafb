/- Whether names may stand in an element's list, by the document: walked. -/
import Derived.Test.YtghlodpbbghcoaaGreatDoorZD
import Derived.Test.YtghlodpbbghcoaaGreatDoorZC
import Derived.Deep.DeepCutAuto
import Derived.Deep.RegionWith
import Derived.StillTailTactics
import Derived.Test.YtghlodpbbghcoaaGreatDoorZB
import Derived.Deep.AppendLies
namespace Go.Proofs.YtghlodpbbghcoaaGreatDoor
open Go.Lib Go.RowKit Go.Maps
/-- May a name not stand in an element, by the document? -/
def kid13Bad (el : List Elt) (nm s : ByteArray) : Bool := (voidB nm || (rawB nm && !(s.toList == textN))) || !((s.toList == textN || s.toList == commN) || (!(closesP nm s) && (findP el s).isSome))
def kids13P (el : List Elt) (nm : ByteArray) (l : List ByteArray) : Bool := (l.all fun s => !kid13Bad el nm s) && !twiceB l

set_option maxRecDepth 8192 in
set_option maxHeartbeats 6400000 in
theorem kids13_any (vt ve vu vk : Value) (nm : ByteArray) (el : List Elt) (l : List ByteArray) (P : Nat → Prop) (w : World) (hP : ∀ k, P k → k < w.heap.size) (he : EltsAt w P ve el) (ht : ∃ A n c, vt = .slice A n c) (hu : ∃ A n c, vu = .slice A n c) (hv : StrsAt w P vk l)
    (hel : el.length ≤ 140737488355328) (hl : l.length ≤ 140737488355328) : Calls Tryz.prog 54 #[.agg #[vt, ve, vu], .string nm, vk] w (IsB (kids13P el nm l) w) := by
  have hfi : Hid (∀ (s : ByteArray) (wr : World), Below w.heap.size w wr → Calls Tryz.prog 30 #[.agg #[vt, ve, vu], .string s] wr (fun e w' => ∃ x A n c A' n' c', e = .returned (.tuple #[.agg #[.string x, .slice A n c, .slice A' n' c'], .bool (findP el s).isSome]) ∧ Below wr.heap.size wr w')) := Lib.hid (fun s wr hb =>
    (find13_any vt ve vu el s P wr (fun k hk => Nat.lt_of_lt_of_le (hP k hk) hb.size) (he.move (Stays.below hb hP) (fun _ h => h)) ht hu hel).mono (by
      rintro e w' ⟨h, hB⟩
      cases hf : findP el s with
      | none =>
        rw [hf] at h
        exact ⟨_, none, 0, 0, none, 0, 0, h, hB⟩
      | some x =>
        rw [hf] at h
        obtain ⟨vk, vr, h, h1, h2⟩ := h
        obtain ⟨Ak, nk, ck, rfl, -, -, -⟩ := h1.form
        obtain ⟨Ar, nr, cr, rfl, -, -, -⟩ := h2.form
        exact ⟨_, Ak, nk, ck, Ar, nr, cr, h, hB⟩))
  have hon : Hid (∀ wr : World, Below w.heap.size w wr → Calls Tryz.prog 86 #[vk] wr (IsB (!twiceB l) wr)) := Lib.hid (fun wr hb =>
    once_any vk l P wr (fun k hk => Nat.lt_of_lt_of_le (hP k hk) hb.size) (hv.move (Stays.below hb hP) (fun _ h => h)) hl)
  obtain ⟨At, nt, ct, rfl⟩ := ht
  obtain ⟨Au, nu, cu, rfl⟩ := hu
  obtain ⟨Ae, ne, ce, rfl, -, -, -⟩ := he.form
  obtain ⟨A, n, cap, rfl, hn, hcap, hat⟩ := hv.form
  have hn6 : n ≤ 140737488355328 := by omega
  obtain ⟨r, hr⟩ : ∃ r, kids13P el nm l = r := ⟨_, rfl⟩
  obtain ⟨tw, htw⟩ : ∃ tw, (!twiceB l) = tw := ⟨_, rfl⟩
  rw [hr]
  rw [htw] at hon
  have hr2 : Hid (r = ((l.all fun s => !kid13Bad el nm s) && tw)) := Lib.hid (by rw [← hr, ← htw]; rfl)
  replace hn := Lib.hid hn
  replace hat := Lib.hid hat
  replace hP := Lib.hid hP
  clear he hv hel hl hr htw
  obtain ⟨w1, hw1⟩ : ∃ w1, (w.alloc (.cells #[.slice At nt ct, .slice Ae ne ce, .slice Au nu cu] 25)) = w1 := ⟨_, rfl⟩
  have hB1 : Hid (Below w.heap.size w w1) := Lib.hid (by rw [← hw1]; exact ((Below.refl _ _).alloc (Nat.le_refl _) _))
  have hbx : Hid (w1.heap[w.heap.size]? = some (.cells #[.slice At nt ct, .slice Ae ne ce, .slice Au nu cu] 25)) := Lib.hid (by rw [← hw1]; exact blk_new _ _)
  have hvd := void75_any nm w1
  have hrw := raw76_any nm w1
  obtain ⟨bv, hbv⟩ : ∃ b, voidB nm = b := ⟨_, rfl⟩
  obtain ⟨br, hbr⟩ : ∃ b, rawB nm = b := ⟨_, rfl⟩
  rw [hbv] at hvd
  rw [hbr] at hrw
  go_enter Tryz.func54, Tryz.ntmps54
  go_upto_region 1 with fail
  clear hw1
  go_upto_region 3 with (first
    | (go_at_call 83; refine hvd.mono ?_; rintro e5 w5 ⟨rfl, e6⟩; obtain rfl := e6.symm)
    | (go_at_call 84; refine hrw.mono ?_; rintro e5 w5 ⟨rfl, e6⟩; obtain rfl := e6.symm))
  clear hvd hrw
  replace hbv := Lib.hid hbv
  replace hbr := Lib.hid hbr
  go_wp2
  go_loopw [9] (fun x9 wr => ∃ k : Nat, k ≤ n ∧ x9 = .int .i64 k ∧ Hid (∀ j (hj : j < l.length), j < k → kid13Bad el nm l[j] = false) ∧ Hid (Below w1.heap.size w1 wr)) (fun x9 _ => n - (RowKit.intOf x9).toNat)
  case atStart => exact ⟨0, Nat.zero_le _, rfl, Lib.hid (fun j _ h => absurd h (Nat.not_lt_zero _)), Lib.hid (Below.refl _ _)⟩
  case round =>
    obtain ⟨k, hk, rfl, hok, hB⟩ := hrel
    have hBw : Hid (Below w.heap.size w wr) := Lib.hid (hB1.out.trans (hB.out.mono hB1.out.size))
    by_cases hlt : k < n
    · have hkl : k < l.length := by have := hn.out; omega
      obtain ⟨b, o, rfl, hPb, hc⟩ := hat.out (by omega)
      have c0 := (hBw.out.cell (p := ⟨b, o + k, none⟩) (hP.out b hPb)).trans (hc k hkl)
      have g0 : wr.cell? ⟨w.heap.size, 0, none⟩ = some (.slice At nt ct) := blk_cell (blk_below hbx.out hB.out (blk_lt hbx.out)) 0
      have g1 : wr.cell? ⟨w.heap.size, 1, none⟩ = some (.slice Ae ne ce) := blk_cell (blk_below hbx.out hB.out (blk_lt hbx.out)) 1
      have g2 : wr.cell? ⟨w.heap.size, 2, none⟩ = some (.slice Au nu cu) := blk_cell (blk_below hbx.out hB.out (blk_lt hbx.out)) 2
      obtain ⟨s, hs⟩ : ∃ s, l[k] = s := ⟨_, rfl⟩
      rw [hs] at c0
      have hi0 : (0 : Int) ≤ (k : Int) := by omega
      have hi1 : (k : Int) < (n : Int) := by omega
      obtain ⟨bc, hbc⟩ : ∃ b, closesP nm s = b := ⟨_, rfl⟩
      obtain ⟨bf, hbf⟩ : ∃ b, (findP el s).isSome = b := ⟨_, rfl⟩
      obtain ⟨t, ht⟩ : ∃ t, (s.toList == textN) = t := ⟨_, rfl⟩
      obtain ⟨t2, ht2⟩ : ∃ t, (s.toList == commN) = t := ⟨_, rfl⟩
      have hcl : Hid (∀ wx, Calls Tryz.prog 85 #[.string nm, .string s] wx (IsB bc wx)) := Lib.hid (fun wx => by
        have := refCloses_any nm s wx
        rw [show Lib.containsS (closersOf nm.data.toList) s = bc from hbc] at this
        exact this)
      have hfk : Hid (∀ wx, Below w.heap.size w wx → Calls Tryz.prog 30 #[.agg #[.slice At nt ct, .slice Ae ne ce, .slice Au nu cu], .string s] wx (fun e w' => ∃ x A n c A' n' c', e = .returned (.tuple #[.agg #[.string x, .slice A n c, .slice A' n' c'], .bool bf]) ∧ Below wx.heap.size wx w')) := Lib.hid (fun wx hb => by
        have := hfi.out s wx hb
        rw [hbf] at this
        exact this)
      obtain ⟨bad, hbd⟩ : ∃ bad, ((bv || (br && !t)) || !((t || t2) || (!bc && bf))) = bad := ⟨_, rfl⟩
      have hkb : Hid (kid13Bad el nm l[k] = bad) := Lib.hid (by rw [hs, kid13Bad, hbv.out, hbr.out, hbc, hbf, ht, ht2, hbd])
      unfold textN at ht
      unfold commN at ht2
      have ht3 : (s.toList != [35, 116, 101, 120, 116]) = !t := by rw [bne, ht]
      have hbad : Hid (bad = true → r = false) := Lib.hid (fun e => by rw [hr2.out, all_take_false hkl (by rw [hkb.out, e]; rfl)]; rfl)
      have hgood : Hid (bad = false → ∀ j (hj : j < l.length), j < k + 1 → kid13Bad el nm l[j] = false) := Lib.hid (fun e j hj hjk => by
        by_cases e2 : j = k
        · subst e2; rw [hkb.out, e]
        · exact hok.out j hj (by omega))
      replace hbd := Lib.hid hbd
      clear hc hs hbc hbf
      go_upto_region 6 with fail
      cases hvr : (bv || (br && !t)) with
      | true =>
        have e := hbad.out (by rw [← hbd.out, hvr]; rfl)
        subst e
        clear hbad hgood hkb hbd
        cases bv with
        | true =>
          go_wp2
          go_ret
          exact ⟨rfl, hBw.out⟩
        | false =>
          obtain ⟨rfl, e3⟩ : br = true ∧ t = false := by simpa using hvr
          subst e3
          go_wp2
          go_ret
          exact ⟨rfl, hBw.out⟩
      | false =>
        obtain rfl : bv = false := by cases bv <;> simp_all
        have hbd2 : Hid ((!((t || t2) || (!bc && bf))) = bad) := Lib.hid (by rw [← hbd.out, hvr]; rfl)
        clear hbd
        have hbrt : br = false ∨ (br = true ∧ t = true) := by cases br <;> simp_all
        have hts : (t || t2) = true → (t = true ∨ t = false ∧ t2 = true) := by cases t <;> simp
        cases htt : (t || t2) with
        | true =>
          have e : bad = false := by rw [← hbd2.out, htt]; rfl
          subst e
          have g := Lib.hid (hgood.out rfl)
          clear hbad hgood hbd2
          rcases hbrt with rfl | ⟨rfl, rfl⟩
          · cases t with
            | true =>
              go_wp2
              exact ⟨⟨k + 1, by omega, by simp, g, hB⟩, by simp [RowKit.intOf]; omega⟩
            | false =>
              obtain rfl : t2 = true := by simpa using htt
              go_wp2
              exact ⟨⟨k + 1, by omega, by simp, g, hB⟩, by simp [RowKit.intOf]; omega⟩
          · go_wp2
            exact ⟨⟨k + 1, by omega, by simp, g, hB⟩, by simp [RowKit.intOf]; omega⟩
        | false =>
          obtain ⟨rfl, rfl⟩ : t = false ∧ t2 = false := by simpa using htt
          obtain rfl : br = false := by rcases hbrt with e | ⟨-, e⟩; exact e; cases e
          have hbd3 : Hid ((!(!bc && bf)) = bad) := Lib.hid (by rw [← hbd2.out]; rfl)
          clear hbd2 hbrt htt hvr hts
          go_upto_region 9 with fail
          go_cut [11] (fun x wx => x = .bool bf ∧ Hid (Below wr.heap.size wr wx))
          case first =>
            clear hbad hgood hbd3 hkb
            have hle : w.heap.size ≤ wr.heap.size := hBw.out.size
            have hbl : b < wr.heap.size := Nat.lt_of_lt_of_le (hP.out b hPb) hle
            have hwl : w.heap.size < wr.heap.size := blk_lt (blk_below hbx.out hB.out (blk_lt hbx.out))
            have k0 : (wr.drew.alloc (.cells #[.string ⟨#[]⟩, .slice none 0 0, .slice none 0 0] 30)).cell? ⟨b, o + k, none⟩ = some (.string s) := (((Below.refl wr.heap.size wr).drew.alloc (Nat.le_refl _) _).cell (p := ⟨b, o + k, none⟩) hbl).trans c0
            have k1 : (wr.drew.alloc (.cells #[.string ⟨#[]⟩, .slice none 0 0, .slice none 0 0] 30)).cell? ⟨w.heap.size, 0, none⟩ = some (.slice At nt ct) := (((Below.refl wr.heap.size wr).drew.alloc (Nat.le_refl _) _).cell (p := ⟨w.heap.size, 0, none⟩) hwl).trans g0
            have k2 : (wr.drew.alloc (.cells #[.string ⟨#[]⟩, .slice none 0 0, .slice none 0 0] 30)).cell? ⟨w.heap.size, 1, none⟩ = some (.slice Ae ne ce) := (((Below.refl wr.heap.size wr).drew.alloc (Nat.le_refl _) _).cell (p := ⟨w.heap.size, 1, none⟩) hwl).trans g1
            have k3 : (wr.drew.alloc (.cells #[.string ⟨#[]⟩, .slice none 0 0, .slice none 0 0] 30)).cell? ⟨w.heap.size, 2, none⟩ = some (.slice Au nu cu) := (((Below.refl wr.heap.size wr).drew.alloc (Nat.le_refl _) _).cell (p := ⟨w.heap.size, 2, none⟩) hwl).trans g2
            go_region_with (first
              | (go_at_call 30; refine Calls.mono (hfk.out _ ?_) ?_; exact hBw.out.drew; rintro e5 w5 ⟨x, A1, n1, c1, A2, n2, c2, rfl, hB5⟩; replace hB5 := Lib.hid hB5)
              | (go_at_call 30; refine Calls.mono (hfk.out _ ?_) ?_; exact hBw.out.drew.alloc hle _; rintro e5 w5 ⟨x, A1, n1, c1, A2, n2, c2, rfl, hB5⟩; have hX : w5.heap[wr.heap.size]? = some (.cells #[.string ⟨#[]⟩, .slice none 0 0, .slice none 0 0] 30) := blk_below (blk_new wr.drew _) hB5 (by simp); have q0 : w5.cell? ⟨wr.heap.size, 0, none⟩ = some (.string ⟨#[]⟩) := blk_cell hX 0; have q1 : w5.cell? ⟨wr.heap.size, 1, none⟩ = some (.slice none 0 0) := blk_cell hX 1; have q2 : w5.cell? ⟨wr.heap.size, 2, none⟩ = some (.slice none 0 0) := blk_cell hX 2; have f0 : w5.frozen? ⟨wr.heap.size, 0, none⟩ = false := blk_frozen hX 0; have f1 : w5.frozen? ⟨wr.heap.size, 1, none⟩ = false := blk_frozen hX 1; have f2 : w5.frozen? ⟨wr.heap.size, 2, none⟩ = false := blk_frozen hX 2; replace hX := Lib.hid hX; replace hB5 := Lib.hid hB5))
            all_goals go_wp2_with fail
            all_goals go_meet
            all_goals refine ⟨rfl, Lib.hid ?_⟩
            all_goals simp only [World.drew] at *
            all_goals first
              | exact (((Below.refl wr.heap.size wr).drew.trans (hB5.out.mono (Nat.le_refl _))).alloc hB5.out.size _)
              | exact ((((Below.refl wr.heap.size wr).drew.trans (hB5.out.mono (Nat.le_refl _))).alloc hB5.out.size _).setCell (Nat.le_of_eq rfl) _)
              | exact (((((Below.refl wr.heap.size wr).drew.alloc (Nat.le_refl _) _).trans (hB5.out.mono (by simp))).setCell (Nat.le_of_eq rfl) _).setCell (Nat.le_of_eq rfl) _).setCell (Nat.le_of_eq rfl) _
              | trace_state
          case rest =>
          obtain ⟨rfl, hB5⟩ := hcut
          have hB6 : Hid (Below w1.heap.size w1 wc) := Lib.hid (hB.out.trans (hB5.out.mono hB.out.size))
          have hB7 : Hid (Below w.heap.size w wc) := Lib.hid (hB1.out.trans (hB6.out.mono hB1.out.size))
          have c1 := (hB5.out.cell (p := ⟨b, o + k, none⟩) (Nat.lt_of_lt_of_le (hP.out b hPb) hBw.out.size)).trans c0
          have hcl2 := hcl.out wc
          clear c0 g0 g1 g2 hcl
          cases bad with
          | true =>
            have e := hbad.out rfl
            subst e
            have hbf : bf = false ∨ (bf = true ∧ bc = true) := by have := hbd3.out; cases bf <;> simp_all
            clear hbad hgood hbd3
            rcases hbf with rfl | ⟨rfl, rfl⟩
            · go_wp2_with (go_at_call 85; refine hcl2.mono ?_; rintro e5 w5 ⟨rfl, hB8⟩)
              go_ret
              exact ⟨rfl, hB7.out.trans (hB8.mono hB7.out.size)⟩
            · go_wp2_with (go_at_call 85; refine hcl2.mono ?_; rintro e5 w5 ⟨rfl, hB8⟩)
              go_ret
              exact ⟨rfl, hB7.out.trans (hB8.mono hB7.out.size)⟩
          | false =>
            have g := Lib.hid (hgood.out rfl)
            obtain ⟨rfl, rfl⟩ : bf = true ∧ bc = false := by have := hbd3.out; cases bf <;> cases bc <;> simp_all
            clear hbad hgood hbd3
            go_wp2_with (go_at_call 85; refine hcl2.mono ?_; rintro e5 w5 ⟨rfl, hB8⟩)
            exact ⟨⟨k + 1, by omega, by simp, g, Lib.hid (hB6.out.trans (hB8.mono hB6.out.size))⟩, by simp [RowKit.intOf]; omega⟩
    · have hall : r = tw := by rw [hr2.out, all_of_at (fun j hj => by rw [hok.out j hj (by have := hn.out; omega)]; rfl), Bool.true_and]
      subst hall
      have hon2 := hon.out wr hBw.out
      clear hr2 hon hfi
      go_wp2_with (go_at_call 86; refine hon2.mono ?_; rintro e5 w5 ⟨rfl, hB5⟩)
      go_ret
      exact ⟨rfl, hBw.out.trans (hB5.mono hBw.out.size)⟩
end Go.Proofs.YtghlodpbbghcoaaGreatDoor

/- The words of a constraint, by the document: walked. -/
namespace Go.Proofs.YtghlodpbbghcoaaGreatDoor
open Go.Lib Go.RowKit Go.Maps
def pickP (sch : Bool) (s : ByteArray) : Bool := if sch then schemeP s else wordP s
theorem take_snoc_nodup {l : List ByteArray} {k : Nat} {s : ByteArray} (hk : k < l.length) (hs : l[k] = s) (h : (l.take k).Nodup) (hn : ∀ j (hj : j < l.length), j < k → l[j] ≠ s) : (l.take (k + 1)).Nodup := by
  rw [List.take_add_one, List.getElem?_eq_getElem hk, hs, List.nodup_append]
  refine ⟨h, by simp, fun a ha c hc e => ?_⟩
  simp at hc
  subst hc e
  obtain ⟨j, hj, e⟩ := List.getElem_of_mem ha
  rw [List.length_take] at hj
  rw [List.getElem_take] at e
  exact hn j (by omega) (by omega) e
theorem twice_of_two {l : List ByteArray} {j k : Nat} (hj : j < l.length) (hk : k < l.length) (hjk : j < k) (e : l[j] = l[k]) : twiceB l = true := by
  unfold twiceB
  simp only [Bool.not_eq_true', decide_eq_false_iff_not]
  intro h
  have := (List.pairwise_iff_getElem.1 h) j k hj hk hjk
  exact this e

theorem pick_false {n : Nat} {one two : Bool} (h : false = if false then one else (decide (n ≤ 40) && two)) : two = false ∨ (two = true ∧ ¬ n ≤ 40) := by
  cases two
  · exact .inl rfl
  · exact .inr ⟨rfl, by simpa using h⟩
theorem pick_true {n : Nat} {sch one two : Bool} (h : true = if sch then one else (decide (n ≤ 40) && two)) : sch = true ∧ one = true ∨ (sch = false ∧ two = true ∧ ¬ (40 : Int) < (n : Int)) := by
  cases sch
  · simp at h
    exact .inr ⟨rfl, h.2, by omega⟩
  · simp at h
    exact .inl ⟨rfl, h⟩

set_option maxRecDepth 8192 in
set_option maxHeartbeats 3200000 in
theorem words82_any (v : Value) (l : List ByteArray) (sch : Bool) (P : Nat → Prop) (w : World) (hP : ∀ k, P k → k < w.heap.size) (h : StrsAt w P v l) (hl : l.length ≤ 140737488355328) (hsz : ∀ s ∈ l, s.size ≤ 140737488355328) :
    Calls Tryz.prog 82 #[v, .bool sch] w (IsB (wordsP (pickP sch) l) w) := by
  obtain ⟨A, n, cap, rfl, hn, hcap, hat⟩ := h.form
  have hn6 : n ≤ 140737488355328 := by omega
  obtain ⟨r, hr⟩ : ∃ r, wordsP (pickP sch) l = r := ⟨_, rfl⟩
  rw [hr]
  replace hr := Lib.hid hr
  replace hn := Lib.hid hn
  replace hat := Lib.hid hat
  replace hsz := Lib.hid hsz
  replace hP := Lib.hid hP
  clear h hl
  go_enter Tryz.func82, Tryz.ntmps82
  go_wp2
  go_loopw [5] (fun x wr => ∃ k : Nat, k ≤ n ∧ x = .int .i64 k ∧ Hid (∀ j (hj : j < l.length), j < k → pickP sch l[j] = true) ∧ Hid ((l.take k).Nodup) ∧ Hid (Below w.heap.size w wr)) (fun x _ => n - (RowKit.intOf x).toNat)
  case atStart => exact ⟨0, Nat.zero_le _, rfl, Lib.hid (fun j _ h => absurd h (Nat.not_lt_zero _)), Lib.hid (by simp), Lib.hid (Below.refl _ _)⟩
  case round =>
    obtain ⟨k, hk, rfl, hok, hnd, hB⟩ := hrel
    by_cases hlt : k < n
    · have hkl : k < l.length := by have := hn.out; omega
      obtain ⟨b, o, rfl, hPb, hc⟩ := hat.out (by omega)
      have hbw := Lib.hid (hP.out b hPb)
      have c0 := (hB.out.cell (p := ⟨b, o + k, none⟩) hbw.out).trans (hc k hkl)
      replace hc := Lib.hid hc
      obtain ⟨s, hs⟩ : ∃ s, l[k] = s := ⟨_, rfl⟩
      rw [hs] at c0
      have hss := hsz.out s (by rw [← hs]; exact List.getElem_mem hkl)
      have h1 := scheme_any s hss wr
      have h2 := signs_any s hss wr
      rw [show (inB 97 122 s.data.toList && (decide (1 ≤ s.size) && decide (s.size ≤ 16))) = schemeP s from rfl] at h1
      obtain ⟨one, hone⟩ : ∃ b, schemeP s = b := ⟨_, rfl⟩
      obtain ⟨two, htwo⟩ : ∃ b, inB 32 126 s.data.toList = b := ⟨_, rfl⟩
      obtain ⟨pb, hpb⟩ : ∃ b, pickP sch s = b := ⟨_, rfl⟩
      have hpv : Hid (pb = if sch then one else (decide (s.size ≤ 40) && two)) := Lib.hid (by rw [← hpb, pickP, hone, wordP, htwo])
      rw [hone] at h1
      rw [htwo] at h2
      have hbad1 : Hid (pb = false → r = false) := Lib.hid (fun e => by rw [← hr.out, wordsP, all_take_false hkl (by rw [hs, hpb, e])]; simp)
      have hbad2 : Hid (∀ j (hj : j < l.length), j < k → l[j] = s → r = false) := Lib.hid (fun j hj hjk e => by
        rw [← hr.out, wordsP, twice_of_two hj hkl hjk (by rw [e, hs])]
        simp)
      have hgood : Hid (pb = true → ∀ j (hj : j < l.length), j < k + 1 → pickP sch l[j] = true) := Lib.hid (fun e j hj hjk => by
        by_cases e2 : j = k
        · subst e2; rw [hs, hpb, e]
        · exact hok.out j hj (by omega))
      have hgood2 : Hid ((∀ j (hj : j < l.length), j < k → l[j] ≠ s) → (l.take (k + 1)).Nodup) := Lib.hid (fun e => take_snoc_nodup hkl hs hnd.out e)
      have hi0 : (0 : Int) ≤ (k : Int) := by omega
      have hi1 : (k : Int) < (n : Int) := by omega
      replace hs := Lib.hid hs
      clear hone htwo hpb
      go_upto_region 6 with (first
        | (go_at_call 103; refine h1.mono ?_; rintro e5 w5 ⟨rfl, e6⟩; obtain rfl := e6.symm)
        | (go_at_call 104; refine h2.mono ?_; rintro e5 w5 ⟨rfl, e6⟩; obtain rfl := e6.symm))
      clear h1 h2
      cases pb with
      | false =>
        have e := hbad1.out rfl
        subst e
        clear hbad1 hbad2 hgood hgood2 hr hok hnd
        cases sch with
        | true =>
          obtain rfl : one = false := by have := hpv.out; simpa using this.symm
          clear hpv
          go_wp2
          go_ret
          exact ⟨rfl, hB.out⟩
        | false =>
          have hp : two = false ∨ (two = true ∧ ¬ s.size ≤ 40) := pick_false hpv.out
          clear hpv
          rcases hp with rfl | ⟨rfl, hp⟩
          · go_wp2
            go_ret
            exact ⟨rfl, hB.out⟩
          · have hp2 : (40 : Int) < (s.size : Int) := by omega
            go_wp2
            go_ret
            exact ⟨rfl, hB.out⟩
      | true =>
        have g := Lib.hid (hgood.out rfl)
        clear hbad1 hgood
        have hmeet : Hid (sch = true ∧ one = true ∨ (sch = false ∧ two = true ∧ ¬ (40 : Int) < (s.size : Int))) := Lib.hid (pick_true hpv.out)
        clear hpv
        go_cut [45] (fun x wx => x = .bool false ∧ wx = wr)
        case first =>
          rcases hmeet.out with ⟨rfl, rfl⟩ | ⟨rfl, rfl, hp⟩
          all_goals clear hmeet
          · go_wp2
            go_meet
            exact ⟨rfl, rfl⟩
          · go_wp2
            go_meet
            (try rw [decide_eq_false hp]); exact ⟨rfl, rfl⟩
        case rest =>
        obtain ⟨rfl, e6⟩ := hcut
        obtain rfl := e6.symm
        clear hmeet c0
        go_upto_region 8 with fail
        go_wp2
        go_loopw [8] (fun x wq => ∃ q : Nat, q ≤ k ∧ x = .int .i64 q ∧ Hid (∀ j (hj : j < l.length), j < q → l[j] ≠ s) ∧ Hid (Below w.heap.size w wq)) (fun x _ => k - (RowKit.intOf x).toNat)
        case atStart => exact ⟨0, Nat.zero_le _, rfl, Lib.hid (fun j _ h => absurd h (Nat.not_lt_zero _)), hB⟩
        case round =>
          obtain ⟨q, hq, rfl, hne, hB2⟩ := hrel
          by_cases hqk : q < k
          · have hql : q < l.length := by omega
            have e0 := (hB2.out.drew.cell (p := ⟨b, o + q, none⟩) hbw.out).trans (hc.out q hql)
            have e1 := (hB2.out.drew.cell (p := ⟨b, o + k, none⟩) hbw.out).trans (hc.out k hkl)
            rw [hs.out] at e1
            obtain ⟨t, ht⟩ : ∃ t, l[q] = t := ⟨_, rfl⟩
            rw [ht] at e0
            have hj0 : (0 : Int) ≤ (q : Int) := by omega
            have hj1 : (q : Int) < (n : Int) := by omega
            have hj2 : (q : Int) < (k : Int) := by omega
            have hbad3 : Hid (t = s → r = false) := Lib.hid (fun e => hbad2.out q hql hqk (by rw [ht, e]))
            have hne2 : Hid (t ≠ s → ∀ j (hj : j < l.length), j < q + 1 → l[j] ≠ s) := Lib.hid (fun e j hj hjk => by
              by_cases e2 : j = q
              · subst e2; rw [ht]; exact e
              · exact hne.out j hj (by omega))
            clear ht
            by_cases hts : t = s
            · have e := hbad3.out hts
              subst hts e
              clear hbad2 hbad3 hgood2 hr hne2
              go_upto_region 11 with fail
              go_region
              all_goals go_wp2
              all_goals go_ret
              all_goals exact ⟨rfl, hB2.out.drew⟩
            · have g2 := Lib.hid (hne2.out hts)
              have ene := ne_toList hts
              clear hbad3 hne2 hts
              go_upto_region 11 with fail
              go_region
              all_goals go_wp2
              all_goals exact ⟨⟨q + 1, by omega, by simp, g2, Lib.hid hB2.out.drew⟩, by simp [RowKit.intOf]; omega⟩
          · have hqk2 : q = k := by omega
            have g2 := Lib.hid (hgood2.out (by rw [← hqk2]; exact hne.out))
            have hj2 : ¬ (q : Int) < (k : Int) := by omega
            clear hgood2 hbad2
            go_wp2
            exact ⟨⟨k + 1, by omega, by simp, g, g2, hB2⟩, by simp [RowKit.intOf]; omega⟩
    · have hkn : k = n := by omega
      have e : r = decide (n ≤ 8) := by
        rw [← hr.out, wordsP, all_of_at (fun j hj => hok.out j hj (by have := hn.out; omega))]
        have h2 := hnd.out
        rw [show k = l.length by have := hn.out; omega, List.take_length] at h2
        simp [twiceB, h2, hn.out]
      clear hr hok hnd
      by_cases h8 : n ≤ 8
      · have h82 : (n : Int) ≤ 8 := by omega
        rw [decide_eq_true h8] at e
        subst e
        go_wp2
        go_ret
        exact ⟨rfl, hB.out⟩
      · have h82 : ¬ (n : Int) ≤ 8 := by omega
        rw [decide_eq_false h8] at e
        subst e
        go_wp2
        go_ret
        exact ⟨rfl, hB.out⟩
end Go.Proofs.YtghlodpbbghcoaaGreatDoor

/- Lists of texts that the call owns. -/
namespace Go.Proofs.YtghlodpbbghcoaaGreatDoor
open Go.Lib Go.RowKit Go.Maps
def strV (l : List ByteArray) : List Value := l.map Value.string
/-- A list of texts in a row that the call owns. -/
def OwnS (w : World) (base : Nat) (v : Value) (l : List ByteArray) : Prop := w.ownsRow base 9 1 v l.length (strV l)
theorem OwnS.nil (w : World) (base : Nat) : OwnS w base (.slice none 0 0) [] := World.ownsRow_nil _ _ _ _
theorem OwnS.strs {w : World} {base : Nat} {v : Value} {l : List ByteArray} (h : OwnS w base v l) : StrsAt w (fun k => v.ownBlock = some k) v l := by
  rcases h.2 with ⟨rfl, h0⟩ | ⟨g, cap, cur, rfl, hb0, hb, h1, h2, h3, h4⟩
  · have : l = [] := List.eq_nil_of_length_eq_zero h0
    subst this
    exact CRow.nil _ _ _
  · have hl : (sCells l).length = l.length := List.length_map _
    refine ⟨_, cap, by rw [hl], by rw [hl]; exact h1, fun j hj => ⟨g, 0, rfl, rfl, fun i hi => ?_⟩⟩
    obtain rfl : i = 0 := by omega
    rw [hl] at hj
    have e3 : w.cell? ⟨g, 0 + j * 1 + 0, none⟩ = cur[0 + j * 1 + 0]? := by simp [World.cell?, hb]
    have e4 : cur[j]? = (strV l)[j]? := by rw [← h4, List.getElem?_take, if_pos (by omega), Array.getElem?_toList]
    rw [e3, show 0 + j * 1 + 0 = j by omega, e4]
    simp [strV, sCells]
theorem OwnS.fresh {w : World} {base : Nat} {v : Value} {l : List ByteArray} (h : OwnS w base v l) : StrsAt w (fun k => base ≤ k ∧ k < w.heap.size) v l :=
  h.strs.move (Stays.refl _ _) (fun k hk => World.ownsRow.lt h k hk)
theorem OwnS.form {w : World} {base : Nat} {v : Value} {l : List ByteArray} (h : OwnS w base v l) : (l = [] ∧ v = .slice none 0 0) ∨ ∃ g cap, v = .slice (some ⟨g, 0, none⟩) l.length cap ∧ base ≤ g ∧ g < w.heap.size ∧ l.length ≤ cap ∧ ∀ j u, (strV l)[j]? = some u → w.cell? ((⟨g, 0, none⟩ : Addr).add j) = some u := by
  rcases id h.2 with ⟨rfl, h0⟩ | ⟨g, cap, cur, rfl, hb0, hb, h1, h2, h3, h4⟩
  · exact .inl ⟨List.eq_nil_of_length_eq_zero h0, rfl⟩
  · exact .inr ⟨g, cap, rfl, hb0, (World.ownsRow.lt h g rfl).2, h1, World.ownsRow.cells h rfl⟩
theorem OwnS.mono {w : World} {base base' : Nat} {v : Value} {l : List ByteArray} (h : OwnS w base v l) (hb : base' ≤ base) : OwnS w base' v l := ⟨h.1, h.2.imp id (fun ⟨g, cap, cur, a, b, c⟩ => ⟨g, cap, cur, a, Nat.le_trans hb b, c⟩)⟩
theorem strV_one (l : List ByteArray) : ∀ u ∈ strV l, u.oneCell' = true := by
  intro u hu
  obtain ⟨s, _, rfl⟩ := List.mem_map.1 hu
  rfl
theorem strV_len (l : List ByteArray) : (strV l).length = l.length := List.length_map _
theorem strV_snoc (l : List ByteArray) (s : ByteArray) : strV (l ++ [s]) = strV l ++ [.string s] := by simp [strV]
end Go.Proofs.YtghlodpbbghcoaaGreatDoor
