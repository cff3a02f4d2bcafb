/- Which nodes that may be are stable, by the document: walked. -/
import Derived.Test.YtghlodpbbghcoaaDoorN27
import Derived.Test.YtghlodpbbghcoaaDoorN28
import Derived.Test.YtghlodpbbghcoaaDoorSF
import Derived.Test.YtghlodpbbghcoaaDoorN10
namespace Go.Proofs.YtghlodpbbghcoaaDoor
open Go.Lib Go.RowKit Go.Shelf
/-- WHAT the document's all DOES AT NODES. -/
def AllRef (g : Fo) : Prop := ∀ (A : Option Addr) (cap : Nat) (B : Nat) (w : World), okF 400000 g → g.size ≤ 1000 → g.len ≤ cap → B ≤ w.heap.size → (0 < g.len → ∃ b o, A = some ⟨b, o, none⟩ ∧ RowAt w B b o g) → Calls Tryd.prog 37 #[.slice A g.len cap] w fun e w' => e = .returned (.bool (refAll g)) ∧ Below w.heap.size w w'

set_option maxRecDepth 100000 in
set_option maxHeartbeats 6400000 in
theorem all37_step (g : Fo) (ih : ∀ f : Fo, f.size < g.size → AllRef f) : AllRef g := by
  intro A cap B w hok hs hcap hBw hrow
  have hgl := Fo.len_size g
  obtain ⟨n, hn⟩ : ∃ n, g.len = n := ⟨_, rfl⟩
  rw [hn] at hcap hrow hgl ⊢
  obtain ⟨R, hR⟩ : ∃ R, refAll g = R := ⟨_, rfl⟩
  rw [hR]
  have hR2 : Hid (refAll g = R) := Lib.hid hR
  replace hn := Lib.hid hn
  replace ih := Lib.hid ih
  clear hR
  go_enter Tryd.func37, Tryd.ntmps37
  go_wp2
  go_loopw [3] (fun x3 wr => ∃ i : Nat, i ≤ n ∧ x3 = .int .i64 i ∧ Hid (refAll (Fo.drop false g i).2 = R) ∧ Hid (Below w.heap.size w wr)) (fun x3 _ => n - (Lib.intOf x3).toNat)
  case atStart => exact ⟨0, Nat.zero_le _, rfl, Lib.hid (by rw [Fo.drop_zero]; exact hR2.out), Lib.hid (Below.refl _ _)⟩
  case round =>
    obtain ⟨i, hin, rfl, hres, hB⟩ := hrel
    by_cases hlt : i < n
    · obtain ⟨b, o, rfl, hrw⟩ := hrow (by omega)
      have hdl := Fo.drop_len g i false
      have hdr := RowAt.drop i false hrw
      have hokd := okF_drop g i false hok
      have hds := Fo.drop_size g i false
      have hres' := hres.out
      cases hd : Fo.drop false g i with
      | mk q gi =>
      rw [hd] at hdl hdr hokd hds hres'
      cases gi with
      | nil => exfalso; have := hn.out; simp only [Fo.len] at hdl; omega
      | node kd nm al tx kids rest =>
      have hnx := Fo.drop_node hd
      obtain ⟨hb, h0, h1, ⟨va, h2, ⟨Aa, capa, rfl, _, _⟩⟩, h3, ⟨A4, cap4, h4, hc4, hk4⟩, _⟩ := hdr
      obtain ⟨hnz, _, htz, hokk, _⟩ := hokd
      simp only [Fo.size] at hds
      have hkl := Fo.len_size kids
      have hbw : b < w.heap.size := Nat.lt_of_lt_of_le hb hBw
      have c0 := (hB.out.cell (p := ⟨b, o + i * 5, none⟩) hbw).trans h0
      have c3 := (hB.out.cell (p := ⟨b, o + i * 5 + 3, none⟩) hbw).trans h3
      have hC : Hid (∀ wr', Below w.heap.size w wr' → wr'.cell? ⟨b, o + i * 5 + 1, none⟩ = some (.string nm) ∧ wr'.cell? ⟨b, o + i * 5 + 4, none⟩ = some (.slice A4 kids.len cap4)) := Lib.hid (fun wr' hb' => ⟨(hb'.cell (p := ⟨b, _, none⟩) hbw).trans h1, (hb'.cell (p := ⟨b, _, none⟩) hbw).trans h4⟩)
      have hkid : Hid (∀ wr', Below w.heap.size w wr' → Calls Tryd.prog 37 #[.slice A4 kids.len cap4] wr' fun e w' => e = .returned (.bool (refAll kids)) ∧ Below wr'.heap.size wr' w') := Lib.hid (fun wr' hb' =>
        ih.out kids (by omega) A4 cap4 B wr' hokk (by omega) hc4 (Nat.le_trans hBw hb'.size) (fun hp => by obtain ⟨b', o', e, h⟩ := hk4 hp; exact ⟨b', o', e, h.below (hb'.mono hBw)⟩))
      have hhas := has54_any tx (by omega) wr
      obtain ⟨ct, hct⟩ : ∃ ct, Lib.contains tx.data.toList [45, 45, 62] = ct := ⟨_, rfl⟩
      obtain ⟨F, hF⟩ : ∃ F, fitsAll nm kids = F := ⟨_, rfl⟩
      obtain ⟨K, hK⟩ : ∃ K, refAll kids = K := ⟨_, rfl⟩
      rw [refAll, hct, hF, hK] at hres'
      rw [hct] at hhas
      rw [hK] at hkid
      have hresn : Hid (((!(decide (kd = 3) && ct) && (F && K)) && refAll (Fo.drop false g (i + 1)).2) = R) := Lib.hid (by rw [hnx]; exact hres')
      obtain ⟨nk, hnk⟩ : ∃ nk, kids.len = nk := ⟨_, rfl⟩
      rw [hnk] at hC hkid hk4 hkl
      have hnk6 : nk ≤ 1000 := by omega
      have hi0 : (0 : Int) ≤ (i : Int) := by omega
      have hi1 : (i : Int) < (n : Int) := by omega
      replace hF := Lib.hid hF
      replace hnk := Lib.hid hnk
      replace hk4 := Lib.hid hk4
      replace hokk := Lib.hid hokk
      clear h0 h1 h2 h3 h4 hres hres' hnx hd hdl hrw hds hct hK hc4
      obtain ⟨bad, hbad⟩ : ∃ bad, (decide (kd = 3) && ct) = bad := ⟨_, rfl⟩
      rw [hbad] at hresn
      go_upto_region 4 with fail
      go_cut [26] (fun x wx => x = .bool bad ∧ wx = wr)
      case first =>
        by_cases hk3 : kd = 3
        · subst hk3
          have hb : ct = bad := by rw [← hbad]; simp
          subst hb
          go_wp2_with (go_at_call 54; refine hhas.mono ?_; rintro e5 w5 ⟨rfl, rfl⟩)
          go_meet
          exact ⟨rfl, rfl⟩
        · have hb : bad = false := by rw [← hbad]; simp [hk3]
          subst hb
          have hk3b : (kd == 3) = false := by simpa using hk3
          clear hk3 hbad
          go_wp2
          go_meet
          exact ⟨rfl, rfl⟩
      case rest =>
      obtain ⟨rfl, rfl⟩ := hcut
      clear hhas hbad
      cases bad with
      | true =>
        have e2 : R = false := by rw [← hresn.out]; simp
        clear hresn hR2
        subst e2
        go_wp2
        go_ret
        exact ⟨rfl, hB.out⟩
      | false =>
        have hres2 : Hid (((F && K) && refAll (Fo.drop false g (i + 1)).2) = R) := Lib.hid (by rw [← hresn.out]; simp)
        clear hresn c0 c3
        obtain ⟨w1, rfl⟩ : ∃ w1 : World, w1 = wc := ⟨_, rfl⟩
        go_upto_region 7 with fail
        go_loopw [4] (fun x4 wr => ∃ k : Nat, k ≤ nk ∧ x4 = .int .i64 k ∧ Hid (fitsAll nm (Fo.drop false kids k).2 = F) ∧ Hid (Below w.heap.size w wr)) (fun x4 _ => nk - (Lib.intOf x4).toNat)
        case atStart => exact ⟨0, Nat.zero_le _, rfl, Lib.hid (by rw [Fo.drop_zero]; exact hF.out), hB⟩
        case round =>
          obtain ⟨k, hkn, rfl, hfr, hB3⟩ := hrel
          obtain ⟨c1, c4⟩ := hC.out wr hB3.out
          by_cases hlk : k < nk
          · obtain ⟨b', o', rfl, hrk⟩ := hk4.out (by omega)
            have hdl2 := Fo.drop_len kids k false
            have hdr2 := RowAt.drop k false hrk
            have hokd2 := okF_drop kids k false hokk.out
            have hfr' := hfr.out
            cases hd2 : Fo.drop false kids k with
            | mk q2 gi2 =>
            rw [hd2] at hdl2 hdr2 hokd2 hfr'
            cases gi2 with
            | nil => exfalso; have := hnk.out; simp only [Fo.len] at hdl2; omega
            | node kd2 nm2 al2 tx2 kids2 rest2 =>
            have hnx2 := Fo.drop_node hd2
            obtain ⟨hb2, g0, g1, ⟨va2, g2, ⟨Aa2, capa2, rfl, _, _⟩⟩, g3, ⟨A5, cap5, g4, _, _⟩, _⟩ := hdr2
            obtain ⟨_, _, htz2, _, _⟩ := hokd2
            simp only [fitsAll] at hfr'
            have hb2w : b' < w.heap.size := Nat.lt_of_lt_of_le hb2 hBw
            have y0 := (hB3.out.cell (p := ⟨b', o' + k * 5, none⟩) hb2w).trans g0
            have y1 := (hB3.out.cell (p := ⟨b', o' + k * 5 + 1, none⟩) hb2w).trans g1
            have y2 := (hB3.out.cell (p := ⟨b', o' + k * 5 + 2, none⟩) hb2w).trans g2
            have y3 := (hB3.out.cell (p := ⟨b', o' + k * 5 + 3, none⟩) hb2w).trans g3
            have y4 := (hB3.out.cell (p := ⟨b', o' + k * 5 + 4, none⟩) hb2w).trans g4
            obtain ⟨fit, hfit⟩ : ∃ fit, fitsB nm kd2 nm2 tx2 = fit := ⟨_, rfl⟩
            obtain ⟨na2, hna2⟩ : ∃ x, al2.length = x := ⟨_, rfl⟩
            obtain ⟨nk2, hnk2⟩ : ∃ x, kids2.len = x := ⟨_, rfl⟩
            rw [hna2] at y2
            rw [hnk2] at y4
            have hfc : Hid (∀ wr', Calls Tryd.prog 58 #[.string nm, .agg #[.int .i64 kd2, .string nm2, .slice Aa2 na2 capa2, .string tx2, .slice A5 nk2 cap5]] wr' fun e w' => e = .returned (.bool fit) ∧ Below wr'.heap.size wr' w') := Lib.hid (fun wr' => by
              rw [← hfit]
              exact fits58_any nm kd2 nm2 tx2 Aa2 A5 na2 nk2 capa2 cap5 wr' (by omega) (by omega))
            have hfn : Hid ((fit && fitsAll nm (Fo.drop false kids (k + 1)).2) = F) := Lib.hid (by rw [hnx2, ← hfit]; exact hfr')
            have hk0 : (0 : Int) ≤ (k : Int) := by omega
            have hk1 : (k : Int) < (nk : Int) := by omega
            clear g0 g1 g2 g3 g4 hfr hfr' hd2 hnx2 hdl2 hrk hfit hna2 hnk2
            go_upto_region 9 with fail
            have hBq : Hid (Below w.heap.size w wr.drew) := Lib.hid hB3.out.drew
            go_region_held3 (fun w' => w'.cell? ⟨b, o + i * 5 + 1, none⟩ = some (.string nm) ∧ w'.cell? ⟨b, o + i * 5 + 4, none⟩ = some (.slice (some ⟨b', o', none⟩) nk cap4) ∧ w'.cell? ⟨b', o' + k * 5, none⟩ = some (.int .i64 kd2) ∧ w'.cell? ⟨b', o' + k * 5 + 1, none⟩ = some (.string nm2) ∧ w'.cell? ⟨b', o' + k * 5 + 2, none⟩ = some (.slice Aa2 na2 capa2) ∧ w'.cell? ⟨b', o' + k * 5 + 3, none⟩ = some (.string tx2) ∧ w'.cell? ⟨b', o' + k * 5 + 4, none⟩ = some (.slice A5 nk2 cap5))
              (first | exact ⟨c1, c4, y0, y1, y2, y3, y4⟩ | exact ⟨c1', c4', z0, z1, z2, z3, z4⟩)
              (first
                | (go_at_call 58; refine (hfc.out _).mono ?_; rintro e5 w5 ⟨rfl, hB5⟩
                   have hB6 : Hid (Below w.heap.size w w5) := Lib.hid (hBq.out.trans (hB5.mono hBq.out.size))
                   have hlt3 := Lib.hid hB3.out.size
                   have c1' := (hB5.cell (p := ⟨b, o + i * 5 + 1, none⟩) (Nat.lt_of_lt_of_le hbw hlt3.out)).trans c1
                   have c4' := (hB5.cell (p := ⟨b, o + i * 5 + 4, none⟩) (Nat.lt_of_lt_of_le hbw hlt3.out)).trans c4
                   have z0 := (hB5.cell (p := ⟨b', o' + k * 5, none⟩) (Nat.lt_of_lt_of_le hb2w hlt3.out)).trans y0
                   have z1 := (hB5.cell (p := ⟨b', o' + k * 5 + 1, none⟩) (Nat.lt_of_lt_of_le hb2w hlt3.out)).trans y1
                   have z2 := (hB5.cell (p := ⟨b', o' + k * 5 + 2, none⟩) (Nat.lt_of_lt_of_le hb2w hlt3.out)).trans y2
                   have z3 := (hB5.cell (p := ⟨b', o' + k * 5 + 3, none⟩) (Nat.lt_of_lt_of_le hb2w hlt3.out)).trans y3
                   have z4 := (hB5.cell (p := ⟨b', o' + k * 5 + 4, none⟩) (Nat.lt_of_lt_of_le hb2w hlt3.out)).trans y4))
            cases fit with
            | true =>
              go_wp2
              exact ⟨⟨k + 1, by omega, by simp, Lib.hid (by rw [← hfn.out]; simp), hB6⟩, by simp [Lib.intOf]; omega⟩
            | false =>
              have e2 : R = false := by rw [← hres2.out, ← hfn.out]; simp
              clear hres2 hR2
              subst e2
              go_wp2
              go_ret
              exact ⟨rfl, hB6.out⟩
          · have hkn2 : k = nk := by omega
            have hdn : (Fo.drop false kids k).2 = .nil := by
              have h := Fo.drop_len kids k false
              cases hd : (Fo.drop false kids k).2 with
              | nil => rfl
              | node => rw [hd] at h; simp only [Fo.len] at h; have := hnk.out; omega
            have hFt : F = true := by have := hfr.out; rw [hdn] at this; exact this.symm
            subst hFt
            have hkc := hkid.out wr hB3.out
            clear hfr hdn
            subst hkn2
            cases K with
            | false =>
              have e2 : R = false := by rw [← hres2.out]; simp
              clear hres2 hR2
              subst e2
              go_wp2_with (go_at_call 37; refine hkc.mono ?_; rintro e6 w6 ⟨rfl, hB6⟩)
              go_ret
              exact ⟨rfl, hB3.out.trans (hB6.mono hB3.out.size)⟩
            | true =>
              have hr5 : Hid (refAll (Fo.drop false g (i + 1)).2 = R) := Lib.hid (by rw [← hres2.out]; simp)
              go_wp2_with (go_at_call 37; refine hkc.mono ?_; rintro e6 w6 ⟨rfl, hB6⟩)
              exact ⟨⟨i + 1, by omega, by simp, hr5, Lib.hid (hB3.out.trans (hB6.mono hB3.out.size))⟩, by simp [Lib.intOf]; omega⟩
    · have hin2 : i = n := by omega
      have hdn : (Fo.drop false g i).2 = .nil := by
        have h := Fo.drop_len g i false
        cases hd : (Fo.drop false g i).2 with
        | nil => rfl
        | node => rw [hd] at h; simp only [Fo.len] at h; have := hn.out; omega
      have hRt : R = true := by have := hres.out; rw [hdn] at this; exact this.symm
      subst hRt
      clear hres hdn
      subst hin2
      go_wp2
      go_ret
      exact ⟨rfl, hB.out⟩
theorem all37_ok (g : Fo) : AllRef g := by
  obtain ⟨n, hn⟩ : ∃ n, g.size = n := ⟨_, rfl⟩
  induction n using Nat.strongRecOn generalizing g with
  | _ n ih =>
    subst hn
    exact all37_step g (fun f hf => ih _ hf f rfl)
end Go.Proofs.YtghlodpbbghcoaaDoor
