/- Whether a policy may be: walked (of automata what is given of them). -/
import Derived.Test.YtghlodpbbghcoaaGreatDoorZ21
import Derived.Test.YtghlodpbbghcoaaGreatDoorZ17
namespace Go.Proofs.YtghlodpbbghcoaaGreatDoor
open Go.Lib Go.RowKit Go.Maps
def elt1 (el : List Elt) (e : Elt) : Bool := plainP e.name && kidsP el e.name e.kids
def mayA (p : Pol) : Bool := !twiceB (p.elts.map Elt.name) && (!twiceB p.unwrap && listedP p.elts p.top)
def mayP (mt : ByteArray → Bool) (p : Pol) : Bool := (decide (p.elts.length ≤ 12) && decide (p.unwrap.length ≤ 12)) && (mayA p && (p.unwrap.all plainP && (p.elts.all (elt1 p.elts) && p.elts.all fun e => rulesP mt e.rules)))
def Elt.Fit (e : Elt) : Prop := e.name.size ≤ 140737488355328 ∧ e.kids.length ≤ 140737488355328 ∧ (∀ s ∈ e.kids, s.size ≤ 140737488355328) ∧ e.rules.length ≤ 140737488355328 ∧ ∀ r ∈ e.rules, r.Fit
structure Pol.Fit (p : Pol) : Prop where
  top : p.top.length ≤ 140737488355328 ∧ ∀ s ∈ p.top, s.size ≤ 140737488355328
  unwrap : p.unwrap.length ≤ 140737488355328 ∧ ∀ s ∈ p.unwrap, s.size ≤ 140737488355328
  elts : p.elts.length ≤ 140737488355328 ∧ ∀ e ∈ p.elts, e.Fit

set_option maxRecDepth 100000 in
set_option maxHeartbeats 6400000 in
theorem polMay_any (mt : ByteArray → Bool) (vt ve vu : Value) (p : Pol) (P : Nat → Prop) (w : World) (hP : ∀ k, P k → k < w.heap.size) (h : PolAt w P vt ve vu p) (hf : p.Fit)
    (hmt : ∀ e ∈ p.elts, ∀ r ∈ e.rules, r.kind = 4 → ∀ W', Below w.heap.size w W' → Calls Tryz.prog 109 #[.string r.regex] W' (IsB (mt r.regex) W')) :
    Calls Tryz.prog 36 #[.agg #[vt, ve, vu]] w (ErrPost (mayP mt p) w) := by
  have hm : 140737488355328 ≤ maxLen := by unfold maxLen; omega
  have hPb : ∀ {wr : World}, Below w.heap.size w wr → ∀ k, P k → k < wr.heap.size := fun hb k hk => Nat.lt_of_lt_of_le (hP k hk) hb.size
  have hpol : ∀ {wr : World}, Below w.heap.size w wr → PolAt wr P vt ve vu p := fun hb => h.move (Stays.below hb hP) (fun _ h => h)
  have hsl : ∀ {v : Value} {l : List ByteArray}, StrsAt w P v l → ∃ A n c, v = .slice A n c := fun h => by
    obtain ⟨A, n, c, e, _⟩ := h.form
    exact ⟨A, n, c, e⟩
  have C57 : Hid (∀ wr, Below w.heap.size w wr → Calls Tryz.prog 57 #[ve, .func (.func 58) #[] #[]] wr (IsB (twiceB (p.elts.map Elt.name)) wr)) := Lib.hid (fun wr hb => twice_elts ve p.elts P wr (hPb hb) (hpol hb).elts hf.elts.1 (fun e he => by have := (hf.elts.2 e he).1; omega))
  have C59 : Hid (∀ wr, Below w.heap.size w wr → Calls Tryz.prog 59 #[vu, .func (.func 60) #[] #[]] wr (IsB (twiceB p.unwrap) wr)) := Lib.hid (fun wr hb => twice_texts vu p.unwrap P wr (hPb hb) (hpol hb).unwrap hf.unwrap.1 (fun s hs => by have := hf.unwrap.2 s hs; omega))
  have C61 : Hid (∀ wr, Below w.heap.size w wr → Calls Tryz.prog 61 #[.agg #[vt, ve, vu], vt] wr (IsB (listedP p.elts p.top) wr)) := Lib.hid (fun wr hb => listed_any vt ve vu vt p.elts p.top P wr (hPb hb) (hpol hb).elts (hsl h.top) (hsl h.unwrap) (hpol hb).top hf.elts.1 hf.top.1 (fun s hs => by have := hf.top.2 s hs; omega))
  have C62 : Hid (∀ wr, Below w.heap.size w wr → ∀ e ∈ p.elts, ∀ vk vr, StrsAt w P vk e.kids → RulsAt w P vr e.rules → Calls Tryz.prog 62 #[.agg #[vt, ve, vu], .agg #[.string e.name, vk, vr]] wr (IsB (kidsP p.elts e.name e.kids) wr)) := Lib.hid (fun wr hb e he vk vr h1 h2 =>
    kids_any vt ve vu vk vr e.name p.elts e.kids P wr (hPb hb) (hpol hb).elts (hsl h.top) (hsl h.unwrap) (h1.move (Stays.below hb hP) (fun _ h => h)) (by obtain ⟨A, n, c, e, _⟩ := h2.form; exact ⟨A, n, c, e⟩) hf.elts.1 (hf.elts.2 e he).2.1 (fun s hs => by have := (hf.elts.2 e he).2.2.1 s hs; omega) (by have := (hf.elts.2 e he).1; omega))
  have C63 : Hid (∀ wr, Below w.heap.size w wr → ∀ e ∈ p.elts, ∀ vr, RulsAt w P vr e.rules → Calls Tryz.prog 63 #[vr] wr (IsB (rulesP mt e.rules) wr)) := Lib.hid (fun wr hb e he vr h2 =>
    rules_any mt vr e.rules P wr (hPb hb) (h2.move (Stays.below hb hP) (fun _ h => h)) (hf.elts.2 e he).2.2.2.1 (hf.elts.2 e he).2.2.2.2 (fun r hr hk W' hb2 => hmt e he r hr hk W' (hb.trans (hb2.mono hb.size))))
  obtain ⟨At, nt, ct, rfl⟩ := hsl h.top
  obtain ⟨Au, nu, cu, rfl, hnu, hcu, hau⟩ := h.unwrap.form
  obtain ⟨Ae, ne, ce, rfl, hne, hce, hae⟩ := h.elts.form
  have hfe := hf.elts.1
  have hfu := hf.unwrap.1
  have hne6 : ne ≤ 140737488355328 := by omega
  have hnu6 : nu ≤ 140737488355328 := by omega
  obtain ⟨r, hr⟩ : ∃ r, mayP mt p = r := ⟨_, rfl⟩
  rw [hr]
  replace hr := Lib.hid hr
  replace hnu := Lib.hid hnu
  replace hne := Lib.hid hne
  replace hau := Lib.hid hau
  replace hae := Lib.hid hae
  replace hP := Lib.hid hP
  replace hf := Lib.hid hf
  obtain ⟨w1, hw1⟩ : ∃ w1, w.alloc (.cells #[.slice At nt ct, .slice Ae ne ce, .slice Au nu cu] 25) = w1 := ⟨_, rfl⟩
  have hB1 : Hid (Below w.heap.size w w1) := Lib.hid (by rw [← hw1]; exact (Below.refl _ _).alloc (Nat.le_refl _) _)
  have hbx : Hid (w1.heap[w.heap.size]? = some (.cells #[.slice At nt ct, .slice Ae ne ce, .slice Au nu cu] 25)) := Lib.hid (by rw [← hw1]; exact blk_new _ _)
  have hX : Hid (∀ wr, Below w1.heap.size w1 wr → wr.cell? ⟨w.heap.size, 0, none⟩ = some (.slice At nt ct) ∧ wr.cell? ⟨w.heap.size, 1, none⟩ = some (.slice Ae ne ce) ∧ wr.cell? ⟨w.heap.size, 2, none⟩ = some (.slice Au nu cu)) := Lib.hid (fun wr hb => by
    have hx := blk_below hbx.out hb (blk_lt hbx.out)
    exact ⟨blk_cell hx 0, blk_cell hx 1, blk_cell hx 2⟩)
  clear h hmt hPb hpol hsl hfe hfu
  obtain ⟨a, ha⟩ : ∃ a, mayA p = a := ⟨_, rfl⟩
  by_cases hbig : 12 < ne ∨ 12 < nu
  · have e : r = false := by
      rw [← hr.out, mayP]
      rcases hbig with hb | hb
      · rw [decide_eq_false (p := p.elts.length ≤ 12) (by rw [← hne.out]; omega)]; rfl
      · rw [decide_eq_false (p := p.unwrap.length ≤ 12) (by rw [← hnu.out]; omega)]; simp
    subst e
    clear ha
    go_enter Tryz.func36, Tryz.ntmps36
    go_upto_region 1 with fail
    obtain ⟨d0, d1, d2⟩ := hX.out w1 (Below.refl _ _)
    clear hw1
    by_cases h12 : 12 < ne
    · have hi : (12 : Int) < (ne : Int) := by omega
      clear hbig
      go_wp2
      go_ret
      exact ⟨10, rfl, rfl, hB1.out⟩
    · have hi : ¬ (12 : Int) < (ne : Int) := by omega
      have hi2 : (12 : Int) < (nu : Int) := by omega
      clear hbig h12
      go_wp2
      go_ret
      exact ⟨10, rfl, rfl, hB1.out⟩
  · have hr1 : Hid (r = (a && (p.unwrap.all plainP && (p.elts.all (elt1 p.elts) && p.elts.all fun e => rulesP mt e.rules)))) := Lib.hid (by
      rw [← hr.out, mayP, decide_eq_true (p := p.elts.length ≤ 12) (by rw [← hne.out]; omega), decide_eq_true (p := p.unwrap.length ≤ 12) (by rw [← hnu.out]; omega), ha]
      rfl)
    have hi : ¬ (12 : Int) < (ne : Int) := by omega
    have hi2 : ¬ (12 : Int) < (nu : Int) := by omega
    obtain ⟨t1, ht1⟩ : ∃ t, twiceB (p.elts.map Elt.name) = t := ⟨_, rfl⟩
    obtain ⟨t2, ht2⟩ : ∃ t, twiceB p.unwrap = t := ⟨_, rfl⟩
    obtain ⟨lt, hlt⟩ : ∃ t, listedP p.elts p.top = t := ⟨_, rfl⟩
    rw [mayA, ht1, ht2, hlt] at ha
    rw [ht1] at C57
    rw [ht2] at C59
    rw [hlt] at C61
    have ha' := Lib.hid ha
    clear ht1 ht2 hlt ha hbig
    go_enter Tryz.func36, Tryz.ntmps36
    go_upto_region 1 with fail
    obtain ⟨d0, d1, d2⟩ := hX.out w1 (Below.refl _ _)
    clear hw1
    go_upto_region 3 with fail
    go_cut [33] (fun x wx => x = .bool (!a) ∧ Hid (Below w1.heap.size w1 wx))
    case first =>
      have ha := ha'.out
      clear C62 C63 hr1
      cases t1 with
      | true =>
        have e : a = false := by rw [← ha]; rfl
        subst e
        clear ha
        go_wp2_with (go_at_call 57; refine (C57.out _ hB1.out).mono ?_; rintro e5 w5 ⟨rfl, hB5⟩)
        go_meet
        exact ⟨rfl, Lib.hid hB5⟩
      | false =>
        cases t2 with
        | true =>
          have e : a = false := by rw [← ha]; rfl
          subst e
          clear ha
          go_wp2_with (first
            | (go_at_call 57; refine (C57.out _ hB1.out).mono ?_; rintro e5 w5 ⟨rfl, hB5⟩; have hb5 := Lib.hid (hB1.out.trans (hB5.mono hB1.out.size)); obtain ⟨f0, f1, f2⟩ := hX.out w5 hB5)
            | (go_at_call 59; refine (C59.out _ hb5.out).mono ?_; rintro e6 w6 ⟨rfl, hB6⟩))
          go_meet
          exact ⟨rfl, Lib.hid (hB5.trans (hB6.mono hB5.size))⟩
        | false =>
          have e : a = lt := by rw [← ha]; simp
          subst e
          clear ha
          go_wp2_with (first
            | (go_at_call 57; refine (C57.out _ hB1.out).mono ?_; rintro e5 w5 ⟨rfl, hB5⟩; have hb5 := Lib.hid (hB1.out.trans (hB5.mono hB1.out.size)); obtain ⟨f0, f1, f2⟩ := hX.out w5 hB5)
            | (go_at_call 59; refine (C59.out _ hb5.out).mono ?_; rintro e6 w6 ⟨rfl, hB6⟩; have hB6' := Lib.hid (hB5.trans (hB6.mono hB5.size)); have hb6 := Lib.hid (hb5.out.trans (hB6.mono hb5.out.size)); obtain ⟨g0, g1, g2⟩ := hX.out w6 hB6'.out)
            | (go_at_call 61; refine (C61.out _ hb6.out).mono ?_; rintro e7 w7 ⟨rfl, hB7⟩))
          go_meet
          exact ⟨rfl, Lib.hid (hB6'.out.trans (hB7.mono hB6'.out.size))⟩
    case rest =>
    obtain ⟨rfl, hB2⟩ := hcut
    clear d0 d1 d2 C57 C59 C61 ha'
    have hBc : Hid (Below w.heap.size w wc) := Lib.hid (hB1.out.trans (hB2.out.mono hB1.out.size))
    cases a with
    | false =>
      have e : r = false := by rw [hr1.out]; rfl
      subst e
      go_wp2
      go_ret
      exact ⟨10, rfl, rfl, hBc.out⟩
    | true =>
      have hr2 : Hid (r = (p.unwrap.all plainP && (p.elts.all (elt1 p.elts) && p.elts.all fun e => rulesP mt e.rules))) := Lib.hid (by rw [hr1.out]; rfl)
      clear hr1
      go_upto_region 5 with fail
      obtain ⟨d0, d1, d2⟩ := hX.out wc hB2.out
      obtain ⟨wd, hwd⟩ : ∃ wd : World, wd = wc := ⟨_, rfl⟩
      rw [← hwd] at hB2 hBc d0 d1 d2 ⊢
      clear hwd
      go_wp2
      go_loopw [37] (fun x wr => ∃ k : Nat, k ≤ nu ∧ x = .int .i64 k ∧ wr = wd ∧ Hid (∀ j (hj : j < p.unwrap.length), j < k → plainP p.unwrap[j] = true)) (fun x _ => nu - (RowKit.intOf x).toNat)
      case atStart => exact ⟨0, Nat.zero_le _, rfl, rfl, Lib.hid (fun j _ h => absurd h (Nat.not_lt_zero _))⟩
      case round =>
        obtain ⟨k, hk, rfl, rfl, hok⟩ := hrel
        by_cases hlt : k < nu
        · have hkl : k < p.unwrap.length := by have := hnu.out; omega
          obtain ⟨b, o, rfl, hPb, hc⟩ := hau.out (by omega)
          have c0 := (hBc.out.cell (p := ⟨b, o + k, none⟩) (hP.out b hPb)).trans (hc k hkl)
          obtain ⟨s, hs⟩ : ∃ s, p.unwrap[k] = s := ⟨_, rfl⟩
          rw [hs] at c0
          have hss := hf.out.unwrap.2 s (by rw [← hs]; exact List.getElem_mem hkl)
          have hpl := fun W => plain_any s (by omega) W
          obtain ⟨pb, hpb⟩ : ∃ pb, plainP s = pb := ⟨_, rfl⟩
          rw [hpb] at hpl
          have hbad : Hid (pb = false → r = false) := Lib.hid (fun e => by rw [hr2.out, all_take_false hkl (by rw [hs, hpb, e])]; rfl)
          have hgood : Hid (pb = true → ∀ j (hj : j < p.unwrap.length), j < k + 1 → plainP p.unwrap[j] = true) := Lib.hid (fun e j hj hjk => by
            by_cases e2 : j = k
            · subst e2; rw [hs, hpb]; exact e
            · exact hok.out j hj (by omega))
          have hi0 : (0 : Int) ≤ (k : Int) := by omega
          have hi1 : (k : Int) < (nu : Int) := by omega
          clear hc hs hpb d0 d1 d2
          cases pb with
          | false =>
            have e := hbad.out rfl
            subst e
            clear hbad hgood hr2
            go_wp2_with (go_at_call 55; refine (hpl _).mono ?_; rintro e5 w5 ⟨rfl, rfl⟩)
            go_ret
            exact ⟨10, rfl, rfl, hBc.out⟩
          | true =>
            have g := Lib.hid (hgood.out rfl)
            clear hbad hgood
            go_wp2_with (go_at_call 55; refine (hpl _).mono ?_; rintro e5 w5 ⟨rfl, rfl⟩)
            exact ⟨⟨k + 1, by omega, by simp, trivial, g⟩, by simp [RowKit.intOf]; omega⟩
        · have hr3 : Hid (r = (p.elts.all (elt1 p.elts) && p.elts.all fun e => rulesP mt e.rules)) := Lib.hid (by rw [hr2.out, all_of_at (fun j hj => hok.out j hj (by have := hnu.out; omega))]; rfl)
          have hkn : k = nu := by omega
          subst hkn
          clear hr2 hok
          go_upto_region 11 with fail
          obtain ⟨we, hwe⟩ : ∃ we : World, we = wr := ⟨_, rfl⟩
          rw [← hwe] at hB2 hBc d0 d1 d2 ⊢
          clear hwe
          go_wp2
          go_loopw [48] (fun x wr => ∃ k : Nat, k ≤ ne ∧ x = .int .i64 k ∧ Hid (Below w1.heap.size w1 wr) ∧ Hid (∀ j (hj : j < p.elts.length), j < k → elt1 p.elts p.elts[j] = true)) (fun x _ => ne - (RowKit.intOf x).toNat)
          case atStart => exact ⟨0, Nat.zero_le _, rfl, hB2, Lib.hid (fun j _ h => absurd h (Nat.not_lt_zero _))⟩
          case round =>
            clear hB2 hBc d0 d1 d2
            obtain ⟨i, hik, rfl, hB, hok⟩ := hrel
            have hBw : Hid (Below w.heap.size w wr) := Lib.hid (hB1.out.trans (hB.out.mono hB1.out.size))
            by_cases hlt : i < ne
            · have hkl : i < p.elts.length := by have := hne.out; omega
              obtain ⟨b, o, rfl, hPb, hc⟩ := hae.out (by omega)
              obtain ⟨vk, vr, h0, h1, h2, hvk, hvr⟩ := hc i hkl
              have hbw := hP.out b hPb
              have c0 := (hBw.out.cell (p := ⟨b, o + i * 3, none⟩) hbw).trans h0
              have c1 := (hBw.out.cell (p := ⟨b, o + i * 3 + 1, none⟩) hbw).trans h1
              have c2 := (hBw.out.cell (p := ⟨b, o + i * 3 + 2, none⟩) hbw).trans h2
              have hmem : p.elts[i] ∈ p.elts := List.getElem_mem hkl
              have hkc := Lib.hid (fun W hb => C62.out W hb _ hmem vk vr hvk hvr)
              have hnz := (hf.out.elts.2 _ hmem).1
              obtain ⟨Ak, nk, ck, rfl, -, -, -⟩ := hvk.form
              obtain ⟨Ar, nr, cr, rfl, -, -, -⟩ := hvr.form
              have hel : Hid (elt1 p.elts p.elts[i] = (plainP p.elts[i].name && kidsP p.elts p.elts[i].name p.elts[i].kids)) := Lib.hid rfl
              obtain ⟨nm, hnm⟩ : ∃ s, p.elts[i].name = s := ⟨_, rfl⟩
              obtain ⟨kp, hkp⟩ : ∃ s, kidsP p.elts p.elts[i].name p.elts[i].kids = s := ⟨_, rfl⟩
              rw [hkp] at hkc hel
              rw [hnm] at c0 hkc hnz hel
              have hpl := fun W => plain_any nm (by omega) W
              obtain ⟨pb, hpb⟩ : ∃ pb, plainP nm = pb := ⟨_, rfl⟩
              rw [hpb] at hpl hel
              have hbad : Hid ((pb && kp) = false → r = false) := Lib.hid (fun e => by rw [hr3.out, all_take_false hkl (by rw [hel.out, e])]; rfl)
              have hgood : Hid ((pb && kp) = true → ∀ j (hj : j < p.elts.length), j < i + 1 → elt1 p.elts p.elts[j] = true) := Lib.hid (fun e j hj hjk => by
                by_cases e2 : j = i
                · subst e2; rw [hel.out]; exact e
                · exact hok.out j hj (by omega))
              have hi0 : (0 : Int) ≤ (i : Int) := by omega
              have hi1 : (i : Int) < (ne : Int) := by omega
              have hB3 : Hid (Below w1.heap.size w1 (wr.alloc (.cells #[.string nm, .slice Ak nk ck, .slice Ar nr cr] 30))) := Lib.hid (hB.out.alloc hB.out.size _)
              have hB4 : Hid (Below w.heap.size w (wr.alloc (.cells #[.string nm, .slice Ak nk ck, .slice Ar nr cr] 30))) := Lib.hid (hB1.out.trans (hB3.out.mono hB1.out.size))
              obtain ⟨d0, d1, d2⟩ := hX.out _ hB3.out
              clear hc h0 h1 h2 hvk hvr hmem hel hnm hkp hpb
              cases pb with
              | false =>
                have e := hbad.out rfl
                subst e
                clear hbad hgood hr3
                go_wp2_with (go_at_call 55; refine (hpl _).mono ?_; rintro e5 w5 ⟨rfl, rfl⟩)
                go_ret
                exact ⟨10, rfl, rfl, hB4.out⟩
              | true =>
                cases kp with
                | false =>
                  have e := hbad.out rfl
                  subst e
                  clear hbad hgood hr3
                  go_wp2_with (first
                    | (go_at_call 55; refine (hpl _).mono ?_; rintro e5 w5 ⟨rfl, rfl⟩)
                    | (go_at_call 62; refine (hkc.out _ hB4.out).mono ?_; rintro e6 w6 ⟨rfl, hB6⟩))
                  go_ret
                  exact ⟨10, rfl, rfl, hB4.out.trans (hB6.mono hB4.out.size)⟩
                | true =>
                  have g := Lib.hid (hgood.out rfl)
                  clear hbad hgood
                  go_wp2_with (first
                    | (go_at_call 55; refine (hpl _).mono ?_; rintro e5 w5 ⟨rfl, rfl⟩)
                    | (go_at_call 62; refine (hkc.out _ hB4.out).mono ?_; rintro e6 w6 ⟨rfl, hB6⟩))
                  exact ⟨⟨i + 1, by omega, by simp, Lib.hid (hB3.out.trans (hB6.mono hB3.out.size)), g⟩, by simp [RowKit.intOf]; omega⟩
            · have hr4 : Hid (r = p.elts.all fun e => rulesP mt e.rules) := Lib.hid (by rw [hr3.out, all_of_at (fun j hj => hok.out j hj (by have := hne.out; omega))]; rfl)
              have hin : i = ne := by omega
              subst hin
              clear hr3 hok C62
              obtain ⟨d0, d1, d2⟩ := hX.out wr hB.out
              obtain ⟨wf, hwf⟩ : ∃ wf : World, wf = wr := ⟨_, rfl⟩
              rw [← hwf] at hB hBw d0 d1 d2 ⊢
              clear hwf
              go_wp2
              go_loopw [66] (fun x wr => ∃ k : Nat, k ≤ i ∧ x = .int .i64 k ∧ Hid (Below w1.heap.size w1 wr) ∧ Hid (∀ j (hj : j < p.elts.length), j < k → rulesP mt p.elts[j].rules = true)) (fun x _ => i - (RowKit.intOf x).toNat)
              case atStart => exact ⟨0, Nat.zero_le _, rfl, hB, Lib.hid (fun j _ h => absurd h (Nat.not_lt_zero _))⟩
              case round =>
                clear hB hBw d0 d1 d2
                obtain ⟨m, hmi, rfl, hB, hok⟩ := hrel
                have hBw : Hid (Below w.heap.size w wr) := Lib.hid (hB1.out.trans (hB.out.mono hB1.out.size))
                by_cases hlt : m < i
                · have hkl : m < p.elts.length := by have := hne.out; omega
                  obtain ⟨b, o, rfl, hPb, hc⟩ := hae.out (by omega)
                  obtain ⟨vk, vr, h0, h1, h2, hvk, hvr⟩ := hc m hkl
                  have hbw := hP.out b hPb
                  have c0 := (hBw.out.cell (p := ⟨b, o + m * 3, none⟩) hbw).trans h0
                  have c1 := (hBw.out.cell (p := ⟨b, o + m * 3 + 1, none⟩) hbw).trans h1
                  have c2 := (hBw.out.cell (p := ⟨b, o + m * 3 + 2, none⟩) hbw).trans h2
                  have hmem : p.elts[m] ∈ p.elts := List.getElem_mem hkl
                  have hkc := Lib.hid (fun W hb => C63.out W hb _ hmem vr hvr)
                  obtain ⟨Ak, nk, ck, rfl, -, -, -⟩ := hvk.form
                  obtain ⟨Ar, nr, cr, rfl, -, -, -⟩ := hvr.form
                  obtain ⟨nm, hnm⟩ : ∃ s, p.elts[m].name = s := ⟨_, rfl⟩
                  obtain ⟨kp, hkp⟩ : ∃ s, rulesP mt p.elts[m].rules = s := ⟨_, rfl⟩
                  rw [hkp] at hkc
                  rw [hnm] at c0
                  have hbad : Hid (kp = false → r = false) := Lib.hid (fun e => by rw [hr4.out, all_take_false hkl (by rw [hkp, e])])
                  have hgood : Hid (kp = true → ∀ j (hj : j < p.elts.length), j < m + 1 → rulesP mt p.elts[j].rules = true) := Lib.hid (fun e j hj hjk => by
                    by_cases e2 : j = m
                    · subst e2; rw [hkp]; exact e
                    · exact hok.out j hj (by omega))
                  have hi0 : (0 : Int) ≤ (m : Int) := by omega
                  have hi1 : (m : Int) < (i : Int) := by omega
                  have hB3 : Hid (Below w1.heap.size w1 (wr.alloc (.cells #[.string nm, .slice Ak nk ck, .slice Ar nr cr] 30))) := Lib.hid (hB.out.alloc hB.out.size _)
                  have hB4 : Hid (Below w.heap.size w (wr.alloc (.cells #[.string nm, .slice Ak nk ck, .slice Ar nr cr] 30))) := Lib.hid (hB1.out.trans (hB3.out.mono hB1.out.size))
                  clear hc h0 h1 h2 hvk hvr hmem hnm hkp
                  cases kp with
                  | false =>
                    have e := hbad.out rfl
                    subst e
                    clear hbad hgood hr4
                    go_wp2_with (go_at_call 63; refine (hkc.out _ hB4.out).mono ?_; rintro e6 w6 ⟨rfl, hB6⟩)
                    go_ret
                    exact ⟨10, rfl, rfl, hB4.out.trans (hB6.mono hB4.out.size)⟩
                  | true =>
                    have g := Lib.hid (hgood.out rfl)
                    clear hbad hgood
                    go_wp2_with (go_at_call 63; refine (hkc.out _ hB4.out).mono ?_; rintro e6 w6 ⟨rfl, hB6⟩)
                    exact ⟨⟨m + 1, by omega, by simp, Lib.hid (hB3.out.trans (hB6.mono hB3.out.size)), g⟩, by simp [RowKit.intOf]; omega⟩
                · have e : r = true := by rw [hr4.out]; exact all_of_at (fun j hj => hok.out j hj (by have := hne.out; omega))
                  subst e
                  clear hr4
                  go_wp2
                  go_ret
                  exact ⟨0, rfl, rfl, hBw.out⟩
end Go.Proofs.YtghlodpbbghcoaaGreatDoor
