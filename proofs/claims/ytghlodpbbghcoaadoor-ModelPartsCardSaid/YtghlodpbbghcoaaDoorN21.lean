/- The law ModelParts, walked. -/
import Derived.Test.YtghlodpbbghcoaaDoorN20
import Derived.Test.YtghlodpbbghcoaaDoorN12
import Derived.Test.YtghlodpbbghcoaaDoorM8
namespace Go.Proofs.YtghlodpbbghcoaaDoor
open Go.Lib Go.RowKit Go.Shelf

set_option maxRecDepth 100000 in
set_option maxHeartbeats 6400000 in
theorem modelParts_any (A : Option Addr) (cap : Nat) (f : Fo) (hf : f.In) (hc : f.len ≤ cap) (hl : f.len ≤ maxLen) (B : Nat) (w : World) (hT : Tabs w) (hM : MaxAt w) (hB : B ≤ w.heap.size) (hr : 0 < f.len → ∃ b o, A = some ⟨b, o, none⟩ ∧ RowAt w B b o f) :
    Calls Tryd.prog 5 #[.slice A f.len cap] w fun e w' => e = .returned (.bool true) ∧ Below w.heap.size w w' := by
  have hgood := good12_any f A cap B w hf hc hl hB hr
  obtain ⟨nf, hnf⟩ : ∃ n, f.len = n := ⟨_, rfl⟩
  rw [hnf] at hgood ⊢
  clear hnf hr hc hl hf
  go_enter Tryd.func5, Tryd.ntmps5
  go_upto_region 2 with (go_at_call 12; refine hgood.mono ?_; rintro e w0 ⟨wa, v, out, rfl, hBa, hinv, hok, htw, hsz⟩; obtain ⟨Ag, n, cg, rfl, hn, hcg, hrow⟩ := hinv.fineKids; replace hn := Lib.hid hn)
  have hB0 : Hid (Below w.heap.size w w0) := Lib.hid (hBa.trans (hinv.below.mono hBa.size))
  obtain ⟨g, hg⟩ : ∃ g, nFo out = g := ⟨_, rfl⟩
  have hokg : okF g := by rw [← hg]; exact okF_of out hok
  replace hn := hn.out
  rw [hg] at hn hrow htw hsz
  have hrow0 : Hid (0 < n → ∃ b o, Ag = some ⟨b, o, none⟩ ∧ RowAt w0 w0.heap.size b o g) := Lib.hid (fun hp => by
    obtain ⟨b, o, e, h⟩ := hrow hp
    exact ⟨b, o, e, h.at_ (fun k hk => hk.2)⟩)
  have hT0 : Hid (Tabs w0) := Lib.hid (tabs_below hT hB0.out)
  have hM0 : Hid (MaxAt w0) := Lib.hid (hM.below hB0.out)
  have hgl := Fo.len_size g
  have hn40 : n ≤ 40 := by omega
  have hsa := Lib.hid (stable_all g htw)
  have hgOk := okF_Ok g hokg
  have hgh := Fo.height_size g
  obtain ⟨R, hR⟩ : ∃ R, stableB g = R := ⟨_, rfl⟩
  replace hR := Lib.hid hR
  clear hinv hok hg hrow hBa hgood htw
  replace hn := Lib.hid hn
  go_upto_region 4 with fail
  go_loopw [4, 5] (fun x4 x5 wr => ∃ (i : Nat) (a : Bool), i ≤ n ∧ x5 = .int .i64 i ∧ x4 = .bool a ∧ Hid ((a && allOne (Fo.drop false g i).2) = R) ∧ Hid (Below w0.heap.size w0 wr)) (fun _ x5 _ => n - (Lib.intOf x5).toNat)
  case atStart => exact ⟨0, true, Nat.zero_le _, rfl, rfl, Lib.hid (by rw [Fo.drop_zero, Bool.true_and]; show allOne g = R; rw [← hsa.out, hR.out]), Lib.hid (Below.refl _ _)⟩
  case round =>
    obtain ⟨i, a, hin, rfl, rfl, hres, hBr⟩ := hrel
    by_cases hlt : i < n
    · obtain ⟨b, o, rfl, hrw⟩ := hrow0.out (by omega)
      have hdl := Fo.drop_len g i false
      have hdr := RowAt.drop i false hrw
      have hokd := okF_drop g i false hokg
      have hds := Fo.drop_size g i false
      have hres' := hres.out
      cases hd : Fo.drop false g i with
      | mk q gi =>
      rw [hd] at hdl hdr hokd hds hres'
      cases gi with
      | nil => exfalso; have := hn.out; simp only [Fo.len] at hdl; omega
      | node kd nm al tx kids rest =>
      have hnx := Fo.drop_node hd
      obtain ⟨hb, h0, h1, ⟨va, h2, h2'⟩, h3, ⟨A4, cap4, h4, hc4, hk4⟩, _⟩ := hdr
      obtain ⟨hnz, hok2, htz, hokk, hokr⟩ := hokd
      simp only [Fo.size] at hds
      have hkl := Fo.len_size kids
      have hsingle : okF (single kd nm al tx kids) := ⟨hnz, hok2, htz, hokk, trivial⟩
      have hrs : ∀ wr', Below w0.heap.size w0 wr' → RowAt wr' w0.heap.size b (o + i * 5) (single kd nm al tx kids) := fun wr' hb' => RowAt.below hb' ⟨hb, h0, h1, ⟨va, h2, h2'⟩, h3, ⟨A4, cap4, h4, hc4, hk4⟩, trivial⟩
      have hss : (single kd nm al tx kids).size ≤ 40 := by simp only [single, Fo.size]; omega
      have hsh := Fo.height_size (single kd nm al tx kids)
      have hst1 := stable_any (some ⟨b, o + i * 5, none⟩) (cg - i) (single kd nm al tx kids) (okF_Ok _ hsingle) hsingle (by omega) (by omega) (by simp only [single, Fo.len]; omega) w0.heap.size wr (tabs_below hT0.out hBr.out) (hM0.out.below hBr.out) hBr.out.size (fun _ => ⟨b, _, rfl, hrs wr hBr.out⟩)
      have hl1 : (single kd nm al tx kids).len = 1 := rfl
      rw [hl1] at hst1
      have hkh := Fo.height_size kids
      have hst2 : ∀ wr', Below w0.heap.size w0 wr' → Calls Tryd.prog 14 #[.slice A4 kids.len cap4] wr' fun e w' => e = .returned (.bool (stableB kids)) ∧ Below wr'.heap.size wr' w' := fun wr' hb' =>
        stable_any A4 cap4 kids (okF_Ok _ hokk) hokk (by omega) (by omega) hc4 w0.heap.size wr' (tabs_below hT0.out hb') (hM0.out.below hb') hb'.size (fun hp => by obtain ⟨b', o', e, h⟩ := hk4 hp; exact ⟨b', o', e, h.below hb'⟩)
      have hlaw := single_stable (k := kd) (nm := nm) (al := al) (tx := tx) (kids := kids)
      rw [allOne] at hres'
      obtain ⟨one, hone⟩ : ∃ one, stableB (single kd nm al tx kids) = one := ⟨_, rfl⟩
      obtain ⟨kb, hkb⟩ : ∃ kb, stableB kids = kb := ⟨_, rfl⟩
      obtain ⟨F, hF⟩ : ∃ F, fitsAll nm kids = F := ⟨_, rfl⟩
      rw [hone] at hst1 hlaw hres'
      rw [hkb] at hst2 hlaw
      rw [hF] at hlaw
      have hresn : Hid ((a && (one && allOne (Fo.drop false g (i + 1)).2)) = R) := Lib.hid (by rw [hnx]; exact hres')
      obtain ⟨nk, hnk⟩ : ∃ nk, kids.len = nk := ⟨_, rfl⟩
      rw [hnk] at h4 hc4 hst2 hk4 hkl
      have hnk40 : nk ≤ 40 := by omega
      have hi0 : (0 : Int) ≤ (i : Int) := by omega
      have hi1 : (i : Int) < (n : Int) := by omega
      have hi2 : (i : Int) + 1 ≤ (n : Int) := by omega
      have hi3 : (i : Int) + 1 ≤ (cg : Int) := by omega
      replace hF := Lib.hid hF
      replace hnk := Lib.hid hnk
      replace hst2 := Lib.hid hst2
      replace hk4 := Lib.hid hk4
      have hC : Hid (∀ wr', Below w0.heap.size w0 wr' → wr'.cell? ⟨b, o + i * 5 + 1, none⟩ = some (.string nm) ∧ wr'.cell? ⟨b, o + i * 5 + 4, none⟩ = some (.slice A4 nk cap4)) := Lib.hid (fun wr' hb' => ⟨(hb'.cell (p := ⟨b, _, none⟩) hb).trans h1, (hb'.cell (p := ⟨b, _, none⟩) hb).trans h4⟩)
      replace hokk := Lib.hid hokk
      clear hone hkb hres hres' hnx hd hdl hds hrs hsingle hss hsh h0 h1 h2 h2' h3 h4 hrw hkh hl1
      go_upto_region 7 with (go_at_call 14; refine hst1.mono ?_; rintro e1 w1 ⟨rfl, hB1⟩; have hB1' : Hid (Below w0.heap.size w0 w1) := Lib.hid (hBr.out.trans (hB1.mono hBr.out.size)))
      have hc1 := (hC.out w1 hB1'.out).2
      have hs2 := hst2.out w1 hB1'.out
      clear hst1 hB1
      go_upto_region 10 with (go_at_call 14; refine hs2.mono ?_; rintro e2 w2 ⟨rfl, hB2⟩; have hB2' : Hid (Below w0.heap.size w0 w2) := Lib.hid (hB1'.out.trans (hB2.mono hB1'.out.size)))
      clear hs2 hc1 hB2
      go_loopw [8, 9] (fun x8 x9 wr => ∃ (k : Nat) (fb : Bool), k ≤ nk ∧ x9 = .int .i64 k ∧ x8 = .bool fb ∧ Hid ((fb && fitsAll nm (Fo.drop false kids k).2) = F) ∧ Hid (Below w0.heap.size w0 wr)) (fun _ x9 _ => nk - (Lib.intOf x9).toNat)
      case atStart => exact ⟨0, true, Nat.zero_le _, rfl, rfl, Lib.hid (by rw [Fo.drop_zero, Bool.true_and]; exact hF.out), hB2'⟩
      case round =>
        obtain ⟨k, fb, hkn, rfl, rfl, hfr, hB3⟩ := hrel
        obtain ⟨c1, c4⟩ := hC.out wr hB3.out
        by_cases hlk : k < nk
        · obtain ⟨b', o', rfl, hrk⟩ := hk4.out (by omega)
          have hdl2 := Fo.drop_len kids k false
          have hdr2 := RowAt.drop k false hrk
          have hokd2 := okF_drop kids k false hokk.out
          have hfr' := hfr.out
          cases hd2 : Fo.drop false kids k with
          | mk q2 gi2 =>
          rw [hd2] at hdl2 hdr2 hokd2 hfr'
          cases gi2 with
          | nil => exfalso; have := hnk.out; simp only [Fo.len] at hdl2; omega
          | node kd2 nm2 al2 tx2 kids2 rest2 =>
          have hnx2 := Fo.drop_node hd2
          obtain ⟨hb2, g0, g1, ⟨va2, g2, ⟨Aa2, capa2, rfl, _, _⟩⟩, g3, ⟨A5, cap5, g4, _, _⟩, _⟩ := hdr2
          obtain ⟨_, _, htz2, _, _⟩ := hokd2
          simp only [fitsAll] at hfr'
          have y0 := (hB3.out.cell (p := ⟨b', o' + k * 5, none⟩) hb2).trans g0
          have y1 := (hB3.out.cell (p := ⟨b', o' + k * 5 + 1, none⟩) hb2).trans g1
          have y2 := (hB3.out.cell (p := ⟨b', o' + k * 5 + 2, none⟩) hb2).trans g2
          have y3 := (hB3.out.cell (p := ⟨b', o' + k * 5 + 3, none⟩) hb2).trans g3
          have y4 := (hB3.out.cell (p := ⟨b', o' + k * 5 + 4, none⟩) hb2).trans g4
          obtain ⟨fit, hfit⟩ : ∃ fit, fitsB nm kd2 nm2 tx2 = fit := ⟨_, rfl⟩
          obtain ⟨na2, hna2⟩ : ∃ x, al2.length = x := ⟨_, rfl⟩
          obtain ⟨nk2, hnk2⟩ : ∃ x, kids2.len = x := ⟨_, rfl⟩
          rw [hna2] at y2
          rw [hnk2] at y4
          have hfc : Hid (∀ wr', Below w0.heap.size w0 wr' → Calls Tryd.prog 17 #[.string nm, .agg #[.int .i64 kd2, .string nm2, .slice Aa2 na2 capa2, .string tx2, .slice A5 nk2 cap5]] wr' fun e w' => e = .returned (.bool fit) ∧ Below wr'.heap.size wr' w') := Lib.hid (fun wr' hb' => by
            rw [← hfit]
            exact fits_any nm kd2 nm2 tx2 Aa2 A5 na2 nk2 capa2 cap5 wr' (hM0.out.below hb') (by omega) (by omega))
          have hfn : Hid ((fb && (fit && fitsAll nm (Fo.drop false kids (k + 1)).2)) = F) := Lib.hid (by rw [hnx2, ← hfit]; exact hfr')
          have hk0 : (0 : Int) ≤ (k : Int) := by omega
          have hk1 : (k : Int) < (nk : Int) := by omega
          clear g0 g1 g2 g3 g4 hfr hfr' hd2 hnx2 hdl2 hrk hfit hna2 hnk2
          go_upto_region 12 with fail
          have hBq : Hid (Below w0.heap.size w0 wr.drew) := Lib.hid hB3.out.drew
          go_region_held3 (fun w' => w'.cell? ⟨b, o + i * 5 + 1, none⟩ = some (.string nm) ∧ w'.cell? ⟨b, o + i * 5 + 4, none⟩ = some (.slice (some ⟨b', o', none⟩) nk cap4) ∧ w'.cell? ⟨b', o' + k * 5, none⟩ = some (.int .i64 kd2) ∧ w'.cell? ⟨b', o' + k * 5 + 1, none⟩ = some (.string nm2) ∧ w'.cell? ⟨b', o' + k * 5 + 2, none⟩ = some (.slice Aa2 na2 capa2) ∧ w'.cell? ⟨b', o' + k * 5 + 3, none⟩ = some (.string tx2) ∧ w'.cell? ⟨b', o' + k * 5 + 4, none⟩ = some (.slice A5 nk2 cap5))
            (first | exact ⟨c1, c4, y0, y1, y2, y3, y4⟩ | exact ⟨c1', c4', z0, z1, z2, z3, z4⟩)
            (first
              | (go_at_call 17; refine (hfc.out _ hBq.out).mono ?_; rintro e5 w5 ⟨rfl, hB5⟩
                 have hB6 : Hid (Below w0.heap.size w0 w5) := Lib.hid (hBq.out.trans (hB5.mono hBq.out.size))
                 have hlt3 := Lib.hid hB3.out.size
                 have c1' := (hB5.cell (p := ⟨b, o + i * 5 + 1, none⟩) (Nat.lt_of_lt_of_le hb hlt3.out)).trans c1
                 have c4' := (hB5.cell (p := ⟨b, o + i * 5 + 4, none⟩) (Nat.lt_of_lt_of_le hb hlt3.out)).trans c4
                 have z0 := (hB5.cell (p := ⟨b', o' + k * 5, none⟩) (Nat.lt_of_lt_of_le hb2 hlt3.out)).trans y0
                 have z1 := (hB5.cell (p := ⟨b', o' + k * 5 + 1, none⟩) (Nat.lt_of_lt_of_le hb2 hlt3.out)).trans y1
                 have z2 := (hB5.cell (p := ⟨b', o' + k * 5 + 2, none⟩) (Nat.lt_of_lt_of_le hb2 hlt3.out)).trans y2
                 have z3 := (hB5.cell (p := ⟨b', o' + k * 5 + 3, none⟩) (Nat.lt_of_lt_of_le hb2 hlt3.out)).trans y3
                 have z4 := (hB5.cell (p := ⟨b', o' + k * 5 + 4, none⟩) (Nat.lt_of_lt_of_le hb2 hlt3.out)).trans y4))
          cases fb with
          | true =>
            go_wp2
            exact ⟨⟨k + 1, fit, by omega, by simp, rfl, Lib.hid (by rw [← hfn.out]; simp), hB6⟩, by simp [Lib.intOf]; omega⟩
          | false =>
            go_wp2
            exact ⟨⟨k + 1, false, by omega, by simp, rfl, Lib.hid (by rw [← hfn.out]; simp), hB6⟩, by simp [Lib.intOf]; omega⟩
        · have hkn2 : k = nk := by omega
          have hdn : (Fo.drop false kids k).2 = .nil := by
            have h := Fo.drop_len kids k false
            cases hd : (Fo.drop false kids k).2 with
            | nil => rfl
            | node => rw [hd] at h; simp only [Fo.len] at h; have := hnk.out; omega
          have hfF : Hid (fb = F) := Lib.hid (by have := hfr.out; rw [hdn] at this; simpa [fitsAll] using this)
          clear hfr hdn
          subst hkn2
          cases one with
          | false =>
            have hr5 : Hid ((false && allOne (Fo.drop false g (i + 1)).2) = R) := Lib.hid (by rw [← hresn.out]; simp)
            cases a with
            | true =>
              go_wp2
              exact ⟨⟨i + 1, false, by omega, by simp, rfl, hr5, hB3⟩, by simp [Lib.intOf]; omega⟩
            | false =>
              go_wp2
              exact ⟨⟨i + 1, false, by omega, by simp, rfl, hr5, hB3⟩, by simp [Lib.intOf]; omega⟩
          | true =>
            obtain ⟨hkb1, hF1⟩ := hlaw rfl
            subst hkb1
            have hfb : fb = true := by rw [hfF.out, hF1]
            subst hfb
            have hr5 : Hid ((a && allOne (Fo.drop false g (i + 1)).2) = R) := Lib.hid (by rw [← hresn.out]; simp)
            clear hlaw hF1
            cases a with
            | true =>
              go_wp2
              exact ⟨⟨i + 1, true, by omega, by simp, rfl, hr5, hB3⟩, by simp [Lib.intOf]; omega⟩
            | false =>
              go_wp2
              exact ⟨⟨i + 1, false, by omega, by simp, rfl, hr5, hB3⟩, by simp [Lib.intOf]; omega⟩
    · have hin3 : i = n := by omega
      have hdn : (Fo.drop false g i).2 = .nil := by
        have h := Fo.drop_len g i false
        cases hd : (Fo.drop false g i).2 with
        | nil => rfl
        | node => rw [hd] at h; simp only [Fo.len] at h; have := hn.out; omega
      have haR : a = R := by have := hres.out; rw [hdn] at this; simpa [allOne] using this
      subst haR
      have hfin := stable_any Ag cg g hgOk hokg (by omega) (by omega) (by rw [← hn.out]; exact hcg) w0.heap.size wr (tabs_below hT0.out hBr.out) (hM0.out.below hBr.out) hBr.out.size (fun hp => by
        obtain ⟨b, o, e, h⟩ := hrow0.out (by rw [hn.out]; exact hp)
        exact ⟨b, o, e, h.below hBr.out⟩)
      rw [hR.out, ← hn.out] at hfin
      clear hres hdn
      subst hin3
      cases a with
      | true =>
        go_wp2_with (first
          | (go_at_call 14; refine hfin.mono ?_; rintro e6 w6 ⟨rfl, hB6⟩)
          | (go_at_call 16; refine (lives_any _).mono ?_; rintro e7 w7 ⟨rfl, hB7⟩))
        go_ret
        exact ⟨rfl, hB0.out.trans ((hBr.out.trans ((hB6.trans (hB7.mono hB6.size)).mono hBr.out.size)).mono hB0.out.size)⟩
      | false =>
        go_wp2_with (first
          | (go_at_call 14; refine hfin.mono ?_; rintro e6 w6 ⟨rfl, hB6⟩)
          | (go_at_call 16; refine (lives_any _).mono ?_; rintro e7 w7 ⟨rfl, hB7⟩))
        go_ret
        exact ⟨rfl, hB0.out.trans ((hBr.out.trans ((hB6.trans (hB7.mono hB6.size)).mono hBr.out.size)).mono hB0.out.size)⟩
end Go.Proofs.YtghlodpbbghcoaaDoor
