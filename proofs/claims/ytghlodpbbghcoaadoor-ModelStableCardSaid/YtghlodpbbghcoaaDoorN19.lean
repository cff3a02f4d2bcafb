/- Which nodes are stable: walked. -/
import Derived.Test.YtghlodpbbghcoaaDoorN18
namespace Go.Proofs.YtghlodpbbghcoaaDoor
open Go.Lib Go.RowKit Go.Shelf
theorem info62 : (Tryd.prog.info? 62).map (fun i => (i.zero, i.size, i.bytes)) = some (some (.agg #[.string ⟨#[]⟩, .slice none 0 0]), 2, 40) := by kernel_rfl

set_option maxRecDepth 100000 in
set_option maxHeartbeats 6400000 in
theorem stable_any (A : Option Addr) (cap : Nat) (f : Fo) (hf : f.Ok) (hok : okF 400000 f) (hs : f.size ≤ 1000) (hh : f.height < 1000) (hcap : f.len ≤ cap) (B : Nat) (w : World) (hT : Tabs w) (hM : MaxAt w) (hBw : B ≤ w.heap.size)
    (hrow : 0 < f.len → ∃ b o, A = some ⟨b, o, none⟩ ∧ RowAt w B b o f) :
    Calls Tryd.prog 14 #[.slice A f.len cap] w fun e w' => e = .returned (.bool (stableB f)) ∧ Below w.heap.size w w' := by
  obtain ⟨i0, hi, hz0, hz1, hz2⟩ := info_parts info62
  have hmay := may_any A cap f hf (by omega) hh hcap B w hT hBw hrow
  have hln := Fo.len_size f
  obtain ⟨r, hr⟩ : ∃ r, stableB f = r := ⟨_, rfl⟩
  have hr2 : Hid (stableB f = r) := Lib.hid hr
  rw [hr]
  obtain ⟨n, hn⟩ : ∃ n, f.len = n := ⟨_, rfl⟩
  rw [hn] at hmay hcap hrow hln ⊢
  have hstart : Hid (∀ w1, Below B w w1 → Job.Fine w1 B ⟨⟨#[]⟩, .slice A n cap, f⟩) := Lib.hid (fun w1 hb => by
    refine ⟨Nat.zero_le _, hok, A, n, cap, rfl, hn.symm, hcap, by omega, fun hp => ?_⟩
    obtain ⟨b, o, e, h⟩ := hrow hp
    exact ⟨b, o, e, h.below hb⟩)
  replace hn := Lib.hid hn
  clear hr hrow hf hok hh
  cases hmb : mayB f with
  | false =>
    rw [hmb] at hmay
    have e : r = false := by rw [← hr2.out, stableB, hmb]; rfl
    clear hr2 hmb
    subst e
    go_enter Tryd.func14, Tryd.ntmps14
    go_wp2_with (go_at_call 8; refine hmay.mono ?_; rintro e w1 ⟨x, rfl, hx, hB1⟩; have hx0 : ¬ x = 0 := of_decide_eq_false hx)
    go_ret
    exact ⟨rfl, hB1⟩
  | true =>
    rw [hmb] at hmay
    have e : Hid (treeS ⟨#[]⟩ f = r) := Lib.hid (by rw [← hr2.out, stableB, hmb]; rfl)
    clear hr2 hmb
    go_enter Tryd.func14, Tryd.ntmps14
    go_upto_region 4 with (go_at_call 8; refine hmay.mono ?_; rintro e8 w1 ⟨x, rfl, hx, hB1⟩; obtain rfl : x = 0 := of_decide_eq_true hx)
    have hj0 := hstart.out w1 (hB1.mono hBw)
    replace hB1 := Lib.hid hB1
    have hBN : Hid (B ≤ w1.heap.size) := Lib.hid (Nat.le_trans hBw hB1.out.size)
    obtain ⟨N0, hN0⟩ : ∃ N0, w1.heap.size = N0 := ⟨_, rfl⟩
    have hown0 : Hid ((w1.alloc (.cells #[.string ⟨#[]⟩, .slice A n cap] 62)).ownsRow N0 62 2 (.slice (some ⟨N0, 0, none⟩) 1 1) 1 (jobCells [⟨⟨#[]⟩, .slice A n cap, f⟩])) := Lib.hid (by rw [← hN0]; exact own_first (j := ⟨⟨#[]⟩, .slice A n cap, f⟩) (Nat.le_refl _))
    have hB2 : Hid (Below N0 w1 (w1.alloc (.cells #[.string ⟨#[]⟩, .slice A n cap] 62))) := Lib.hid (by rw [← hN0]; exact (Below.refl _ _).alloc (Nat.le_refl _) _)
    rw [hN0]
    replace hN0 := Lib.hid hN0
    go_loopg [3] (f.size + 1) (fun q v wr => ∃ (Q : Nat) (W : List Job), q = Q ∧ Q = jobsSize W ∧ Q ≤ 1001 ∧ Hid (wr.ownsRow N0 62 2 v W.length (jobCells W)) ∧ Hid (∀ j ∈ W, j.Fine w1 B) ∧ Hid (jobsB W = r) ∧ Hid (Below N0 w1 wr))
    case atStart => exact ⟨f.size + 1, [⟨⟨#[]⟩, .slice A n cap, f⟩], rfl, by simp [jobsSize], by omega, hown0, Lib.hid (fun j hj => by rw [List.mem_singleton.1 hj]; exact hj0), Lib.hid (by simp [jobsB, e.out]), hB2⟩
    case round =>
      clear hown0 hB2 hj0
      obtain ⟨q, W, hq0, hqe, hq, hown, hfine, hres, hB⟩ := hrel
      have hq1 := hq0.symm
      subst hq1
      rcases List.eq_nil_or_concat W with rfl | ⟨W0, J, rfl⟩
      · clear hqe
        have e2 : r = true := by rw [← hres.out]; rfl
        subst e2
        obtain ⟨A', cap', rfl⟩ : ∃ A' cap', u3 = .slice A' 0 cap' := by
          rcases hown.out.2 with ⟨h, _⟩ | ⟨g, c, _, h, _⟩
          · exact ⟨none, 0, h⟩
          · exact ⟨_, c, h⟩
        go_wp2
        go_ret
        exact ⟨rfl, hB1.out.trans ((hB.out.mono (by rw [← hN0.out]; exact hB1.out.size)))⟩
      · rw [List.concat_eq_append] at hown hfine hres hqe
        rw [jobsSize_snoc] at hqe
        rw [jobsB_snoc] at hres
        obtain ⟨gb, m, cp, rfl, hm', hcp, hgb, c0, c1⟩ := own_job_at hown.out
        have hJ := hfine.out J (by simp)
        have hfine0 : Hid (∀ j ∈ W0, j.Fine w1 B) := Lib.hid (fun j hj => hfine.out j (by simp [hj]))
        have hm := hm'.symm
        clear hm'
        have hml := jobsSize_len W0
        have hpop := ownsRow_pop (n := m) (xs := jobCells W0) (last := [.string J.of, J.v]) (by rw [jobCells_length, hm]) (by have := hown.out; rwa [jobCells_snoc, List.length_append, List.length_singleton, hm] at this)
        rw [hm] at hml
        replace hpop := Lib.hid hpop
        obtain ⟨of, vj, g⟩ := J
        obtain ⟨hofz, hokg, Ag, ng, cg, hvj, hng, hcg, hng6, hrowg⟩ := hJ
        simp only at hvj hofz hokg hng hrowg c0 c1 hres hqe
        subst hvj
        have hgl := Fo.len_size g
        have hng3 : ng ≤ g.size := by rw [hng]; exact hgl
        have hm1 : ((m : Int) + 1) - 1 = (m : Int) := by omega
        have hm0 : (0 : Int) ≤ (m : Int) := by omega
        have hm2 : (m : Int) < (m : Int) + 1 := by omega
        have hml2 : m ≤ 1001 := by omega
        have hgq : m + g.size + 1 ≤ q := by omega
        replace hqe := Lib.hid hqe
        replace hng := Lib.hid hng
        replace hm := Lib.hid hm
        replace hcg := Lib.hid hcg
        clear hown hfine hgl
        go_upto_region 7 with fail
        obtain ⟨W1, hW1⟩ : ∃ W1, wr.alloc (.cells #[.string of, .slice Ag ng cg] 62) = W1 := ⟨_, rfl⟩
        have hX1 : Hid (W1.heap[wr.heap.size]? = some (.cells #[.string of, .slice Ag ng cg] 62)) := Lib.hid (by rw [← hW1]; exact blk_new _ _)
        have hown1 : Hid (W1.ownsRow N0 62 2 (.slice (some ⟨gb, 0, none⟩) m cp) m (jobCells W0)) := Lib.hid (by rw [← hW1]; exact hpop.out.alloc _)
        have hNr : Hid (N0 ≤ wr.heap.size) := Lib.hid (by rw [← hN0.out]; exact hB.out.size)
        have hBX : Hid (Below N0 w1 W1) := Lib.hid (by rw [← hW1]; exact hB.out.alloc hNr.out _)
        rw [hW1]
        obtain ⟨X, hX⟩ : ∃ X, wr.heap.size = X := ⟨_, rfl⟩
        rw [hX] at hX1 hNr ⊢
        have hXw : Hid (X < W1.heap.size) := Lib.hid (blk_lt hX1.out)
        have hgX : Hid (gb < X) := Lib.hid (by have := (hpop.out.lt gb rfl).2; rwa [hX] at this)
        replace hX := Lib.hid hX
        clear hW1 c0 c1 hpop hB
        have d0 : W1.cell? ⟨X, 0, none⟩ = some (.string of) := blk_cell hX1.out 0
        have d1 : W1.cell? ⟨X, 1, none⟩ = some (.slice Ag ng cg) := blk_cell hX1.out 1
        have hraw := raw_any of
        obtain ⟨rw1, hrw⟩ : ∃ b, rawB of = b := ⟨_, rfl⟩
        rw [hrw] at hraw
        have hres2 : Hid ((jobsB W0 && (!(rw1 && decide (1 < ng)) && rowStays of g && allS g)) = r) := Lib.hid (by rw [← hres.out, treeS, hrw, ← hng.out])
        clear hres hrw
        obtain ⟨bad, hbad⟩ : ∃ bad, (rw1 && decide ((1 : Int) < (ng : Int))) = bad := ⟨_, rfl⟩
        have hres4 : Hid ((jobsB W0 && (!bad && rowStays of g && allS g)) = r) := Lib.hid (by
          rw [← hres2.out, ← hbad]
          congr 5
          exact decide_eq_decide.2 (by omega))
        clear hres2
        go_cut [35] (fun x wx => x = .bool bad ∧ wx = W1)
        case first =>
          cases rw1 with
          | false =>
            have hb : bad = false := hbad.symm
            subst hb
            go_wp2_with (go_at_call 31; refine (hraw _).mono ?_; rintro e7 w7 ⟨rfl, rfl⟩)
            go_meet
            exact ⟨rfl, rfl⟩
          | true =>
            rw [Bool.true_and] at hbad
            go_wp2_with (go_at_call 31; refine (hraw _).mono ?_; rintro e7 w7 ⟨rfl, rfl⟩)
            go_meet
            exact ⟨by first | rfl | (rw [hbad]), rfl⟩
        case rest =>
        obtain ⟨rfl, rfl⟩ := hcut
        cases bad with
        | true =>
          have e2 : r = false := by rw [← hres4.out]; simp
          clear hres4 e hbad
          subst e2
          go_wp2
          go_ret
          exact ⟨rfl, hB1.out.trans (hBX.out.mono (by rw [← hN0.out]; exact hB1.out.size))⟩
        | false =>
          have hres3 : Hid ((jobsB W0 && (rowStays of g && allS g)) = r) := Lib.hid (by rw [← hres4.out]; simp)
          clear hres4 hbad
          obtain ⟨w7, rfl⟩ : ∃ w7, w7 = wc := ⟨_, rfl⟩
          obtain ⟨wo, rfl⟩ : ∃ wo, wo = wr := ⟨_, rfl⟩
          go_upto_region 10 with fail
          clear d0 d1 hraw
          go_loopw [3, 39] (fun v x39 wr => ∃ (i : Nat) (W2 : List Job), i ≤ ng ∧ x39 = .int .i64 i ∧ Hid (wr.ownsRow N0 62 2 v W2.length (jobCells W2)) ∧ Hid (∀ j ∈ W2, j.Fine w1 B) ∧ Hid ((jobsB W2 && (rowStays of (Fo.drop false g i).2 && allS (Fo.drop false g i).2)) = r) ∧
            jobsSize W2 + (Fo.drop false g i).2.size + 1 ≤ q ∧ Hid (Below N0 w1 wr) ∧ Hid (wr.heap[X]? = some (.cells #[.string of, .slice Ag ng cg] 62)) ∧ Hid (∀ k, v.ownBlock = some k → k ≠ X)) (fun _ x39 _ => ng - (Lib.intOf x39).toNat)
          case atStart =>
            refine ⟨0, W0, Nat.zero_le _, rfl, Lib.hid (by rw [hm.out]; exact hown1.out), hfine0, Lib.hid (by rw [Fo.drop_zero]; exact hres3.out), by rw [Fo.drop_zero]; show jobsSize W0 + g.size + 1 ≤ q; have := hqe.out; omega, hBX, hX1, Lib.hid (fun k hk => by have h : gb = k := by { simpa [Value.ownBlock] using hk }; have := hgX.out; omega)⟩
          case round =>
            obtain ⟨i, W2, hin, rfl, hown, hfine, hres, hsz, hB, hX2, hoX⟩ := hrel
            have hNr2 : Hid (N0 ≤ wr.heap.size) := Lib.hid (by rw [← hN0.out]; exact hB.out.size)
            have d0 : wr.cell? ⟨X, 0, none⟩ = some (.string of) := blk_cell hX2.out 0
            have d1 : wr.cell? ⟨X, 1, none⟩ = some (.slice Ag ng cg) := blk_cell hX2.out 1
            by_cases hlt : i < ng
            · obtain ⟨b, o, rfl, hr⟩ := hrowg (by omega)
              have hdl := Fo.drop_len g i false
              have hdr := RowAt.drop i false hr
              have hokd := okF_drop g i false hokg
              have hres' := hres.out
              cases hd : Fo.drop false g i with
              | mk fl gi =>
              rw [hd] at hdl hdr hokd hres' hsz
              cases gi with
              | nil => exfalso; have := hng.out; simp only [Fo.len] at hdl; omega
              | node kd nm al tx kids rest =>
              have hnx := Fo.drop_node hd
              obtain ⟨hb, h0, h1, ⟨va, h2, ⟨Aa, capa, rfl, hca, _⟩⟩, h3, ⟨A4, cap4, h4, hc4, hk4⟩, _⟩ := hdr
              obtain ⟨hnz, _, htz, hokk, _⟩ := hokd
              simp only [rowStays, allS_node, Fo.size] at hres' hsz
              have hbN : b < N0 := Nat.lt_of_lt_of_le hb (by rw [← hN0.out]; exact hBN.out)
              have c0 := (hB.out.cell (p := ⟨b, o + i * 5, none⟩) hbN).trans h0
              have c1 := (hB.out.cell (p := ⟨b, o + i * 5 + 1, none⟩) hbN).trans h1
              have c2 := (hB.out.cell (p := ⟨b, o + i * 5 + 2, none⟩) hbN).trans h2
              have c3 := (hB.out.cell (p := ⟨b, o + i * 5 + 3, none⟩) hbN).trans h3
              have c4 := (hB.out.cell (p := ⟨b, o + i * 5 + 4, none⟩) hbN).trans h4
              have hbw : b < wr.heap.size := Nat.lt_of_lt_of_le hbN hNr2.out
              have hMr : MaxAt wr := (hM.below hB1.out).below (by rw [hN0.out]; exact hB.out)
              have hst := stays_any of b (o + i * 5) 0 kd nm tx Aa A4 al.length kids.len capa cap4 wr hMr hofz (by omega) hbw c0 c1 c2 c3 c4
              obtain ⟨sb, hsb⟩ : ∃ sb, staysB of kd nm tx = sb := ⟨_, rfl⟩
              rw [hsb] at hst hres'
              obtain ⟨nk, hnk⟩ : ∃ nk, kids.len = nk := ⟨_, rfl⟩
              rw [hnk] at c4 hc4 hk4 h4
              have hkls := Fo.len_size kids
              have hdrop : Hid ((Fo.drop false g (i + 1)).2 = rest) := Lib.hid (by rw [hnx])
              have hi0 : (0 : Int) ≤ (i : Int) := by omega
              have hi1 : (i : Int) < (ng : Int) := by omega
              have hresn : Hid ((jobsB W2 && (sb && rowStays of rest && (treeS nm kids && allS rest))) = r) := Lib.hid hres'
              replace hnk := Lib.hid hnk
              replace hk4 := Lib.hid hk4
              replace hbw := Lib.hid hbw
              have h1w := Lib.hid h1
              have h4w := Lib.hid h4
              clear h0 h1 h2 h3 h4 hdl hr hd hnx hres hres' hsb c0 c2 c3
              cases sb with
              | false =>
                have e2 : r = false := by rw [← hresn.out]; simp
                clear hresn e hres3
                subst e2
                go_wp2_with (go_at_call 35; refine hst.mono ?_; rintro e9 w9 ⟨rfl, hB9⟩)
                go_ret
                exact ⟨rfl, hB1.out.trans ((hB.out.trans (hB9.mono hNr2.out)).mono (by rw [← hN0.out]; exact hB1.out.size))⟩
              | true =>
                by_cases hk0 : nk = 0
                · have hkn : kids = .nil := by cases kids with | nil => rfl | node => exfalso; have := hnk.out; simp [Fo.len] at this; omega
                  have hres5 : Hid ((jobsB W2 && (rowStays of (Fo.drop false g (i + 1)).2 && allS (Fo.drop false g (i + 1)).2)) = r) := Lib.hid (by rw [hdrop.out, ← hresn.out, hkn, treeS_nil]; simp)
                  have hsz5 : jobsSize W2 + (Fo.drop false g (i + 1)).2.size + 1 ≤ q := by rw [hdrop.out]; omega
                  subst hk0
                  clear hresn hkn
                  replace hsz5 := Lib.hid hsz5
                  go_wp2_with (go_at_call 35; refine hst.mono ?_; rintro e9 w9 ⟨rfl, hB9⟩; have x4 := (hB9.cell (p := ⟨b, o + i * 5 + 4, none⟩) hbw.out).trans c4)
                  refine ⟨⟨i + 1, W2, by omega, by simp, Lib.hid (own_below hown.out hB9), hfine, hres5, hsz5.out, Lib.hid (hB.out.trans (hB9.mono hNr2.out)), Lib.hid (blk_below hX2.out hB9 (blk_lt hX2.out)), hoX⟩, by simp [Lib.intOf]; omega⟩
                · have hk1 : (0 : Int) < (nk : Int) := by omega
                  have hres5 : Hid ((jobsB (W2 ++ [⟨nm, .slice A4 nk cap4, kids⟩]) && (rowStays of (Fo.drop false g (i + 1)).2 && allS (Fo.drop false g (i + 1)).2)) = r) := Lib.hid (by
                    rw [hdrop.out, ← hresn.out, jobsB_snoc]
                    show (jobsB W2 && treeS nm kids && _) = _
                    cases jobsB W2 <;> cases treeS nm kids <;> cases rowStays of rest <;> cases allS rest <;> rfl)
                  have hsz5 : Hid (jobsSize (W2 ++ [⟨nm, .slice A4 nk cap4, kids⟩]) + (Fo.drop false g (i + 1)).2.size + 1 ≤ q) := Lib.hid (by rw [hdrop.out, jobsSize_snoc]; show jobsSize W2 + (kids.size + 1) + rest.size + 1 ≤ q; omega)
                  have hjf : Hid (∀ j ∈ W2 ++ [⟨nm, .slice A4 nk cap4, kids⟩], Job.Fine w1 B j) := Lib.hid (fun j hj => by
                    rcases List.mem_append.1 hj with hj | hj
                    · exact hfine.out j hj
                    · rw [List.mem_singleton.1 hj]
                      refine ⟨by show nm.size ≤ 1000; omega, hokk, A4, nk, cap4, rfl, hnk.out.symm, hc4, ?_, fun hp => ?_⟩
                      · have := hnk.out; have := hqe.out; omega
                      · obtain ⟨b', o', e', hr'⟩ := hk4.out hp
                        exact ⟨b', o', e', hr'⟩)
                  clear hresn hk4
                  have hwl := jobsSize_len W2
                  have hwl2 : W2.length ≤ 1001 := by omega
                  go_upto_region 16 with (go_at_call 35; refine hst.mono ?_; rintro e9 w9 ⟨rfl, hB9⟩; have x1 := (hB9.cell (p := ⟨b, o + i * 5 + 1, none⟩) hbw.out).trans c1; have x4 := (hB9.cell (p := ⟨b, o + i * 5 + 4, none⟩) hbw.out).trans c4)
                  have hown9 : Hid (w9.ownsRow N0 62 2 u3 W2.length (jobCells W2)) := Lib.hid (own_below hown.out hB9)
                  have hB10 : Hid (Below N0 w1 w9) := Lib.hid (hB.out.trans (hB9.mono hNr2.out))
                  have hX10 := Lib.hid (blk_below hX2.out hB9 (blk_lt hX2.out))
                  have hN9 : Hid (N0 ≤ w9.heap.size) := Lib.hid (Nat.le_trans hNr2.out hB9.size)
                  have hb9 : Hid (b < w9.heap.size) := Lib.hid (Nat.lt_of_lt_of_le hbN hN9.out)
                  have y1 : ∀ o', (w9.alloc o').cell? ⟨b, o + i * 5 + 1, none⟩ = some (.string nm) := fun o' => (World.cell?_alloc_lt (a := ⟨b, o + i * 5 + 1, none⟩) w9 o' hb9.out).trans x1
                  have y4 : ∀ o', (w9.alloc o').cell? ⟨b, o + i * 5 + 4, none⟩ = some (.slice A4 nk cap4) := fun o' => (World.cell?_alloc_lt (a := ⟨b, o + i * 5 + 4, none⟩) w9 o' hb9.out).trans x4
                  go_region_held3 (fun w' => w'.cell? ⟨b, o + i * 5 + 1, none⟩ = some (.string nm) ∧ w'.cell? ⟨b, o + i * 5 + 4, none⟩ = some (.slice A4 nk cap4)) (first | exact ⟨x1, x4⟩ | exact ⟨y1 _, y4 _⟩ | exact ⟨z1, z4⟩)
                    (first
                      | (refine step_append_lies _ (by rfl) _ _ _ (by rfl) N0 62 i0 _ 2 40 Tryd.underlying63 hi hz0 hz1 hz2 rfl (by decide) u3 W2.length _ (by rfl) (hown9.out.alloc _).drew ⟨_, 0, none⟩ 1 1 [.string nm, .slice A4 nk cap4] (by rfl) (by rfl) (cells_new _ _ _) (by intro u hu; simp at hu; rcases hu with rfl | rfl <;> rfl) (by omega) (by unfold maxLen; omega) (by omega) (by have := hN9.out; simp; omega) _ rfl ?_
                         intro ga ca w11 hown11 hg11 hat11 hlt11
                         have hB11 : Hid (Below N0 w1 w11) := Lib.hid ((hB10.out.alloc hN9.out _).drew.grown hg11 (by have := hN9.out; simp; omega) (fun j hj => (hown9.out.lt j hj).1))
                         have z1 : w11.cell? ⟨b, o + i * 5 + 1, none⟩ = some (.string nm) := (hB11.out.cell (p := ⟨b, _, none⟩) hbN).trans (h1w.out)
                         have z4 : w11.cell? ⟨b, o + i * 5 + 4, none⟩ = some (.slice A4 nk cap4) := (hB11.out.cell (p := ⟨b, _, none⟩) hbN).trans (h4w.out)))
                  all_goals go_wp2_with fail
                  all_goals
                    refine ⟨⟨i + 1, _, by omega, by simp, Lib.hid (by rw [jobCells_snoc, List.length_append]; exact hown11), hjf, hres5, hsz5.out, hB11, Lib.hid ?_, Lib.hid ?_⟩, by simp [Lib.intOf]; omega⟩
                    · exact blk_grown (g := X) (blk_drew (blk_alloc hX10.out _)) hg11 (fun hx => hoX.out X hx rfl)
                    · intro kk hkk
                      have hka : ga = kk := by simpa [Value.ownBlock] using hkk
                      subst hka
                      rcases hat11 with h11 | h11
                      · exact hoX.out _ h11
                      · have := blk_lt hX10.out
                        simp at h11
                        omega
            · have hin3 : i = ng := by omega
              have hdn : (Fo.drop false g i).2 = .nil := by
                have h := Fo.drop_len g i false
                cases hd : (Fo.drop false g i).2 with
                | nil => rfl
                | node => rw [hd] at h; simp only [Fo.len] at h; have := hng.out; omega
              rw [hdn] at hres hsz
              have hres5 : Hid (jobsB W2 = r) := Lib.hid (by rw [← hres.out]; simp [rowStays, allS])
              simp only [Fo.size] at hsz
              replace hsz := Lib.hid hsz
              clear hres hdn
              subst hin3
              go_wp2
              go_roundg (jobsSize W2)
              case rel => exact ⟨jobsSize W2, W2, rfl, rfl, by have := hsz.out; omega, hown, hfine, hres5, hB⟩
              case measure => have := hsz.out; omega
end Go.Proofs.YtghlodpbbghcoaaDoor
