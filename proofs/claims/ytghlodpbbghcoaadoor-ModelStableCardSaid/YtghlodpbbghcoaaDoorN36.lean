/- Nodes made stable, by the document: walked. -/
import Derived.Test.YtghlodpbbghcoaaDoorN35
import Derived.Test.YtghlodpbbghcoaaDoorN11
import Derived.Test.YtghlodpbbghcoaaDoorSF
namespace Go.Proofs.YtghlodpbbghcoaaDoor
open Go.Lib Go.RowKit
/-- A row of nodes, of blocks of P or made since W1: so many, of texts so long. -/
def MadeN (W1 : World) (P : Nat → Prop) (M s : Nat) (W' : World) (v : Value) : Prop :=
  ∃ (A : Option Addr) (n cap : Nat) (g : Fo), v = .slice A n cap ∧ n = g.len ∧ n ≤ cap ∧ okF M g ∧ g.size ≤ s ∧ (0 < n → ∃ b o, A = some ⟨b, o, none⟩ ∧ NRow W' (fun k => P k ∨ NewB W1 W' k) b o g) ∧ Below W1.heap.size W1 W'
def MadeNPost (W1 : World) (P : Nat → Prop) (M s : Nat) (e : Ending) (W' : World) : Prop := ∃ v, e = .returned v ∧ MadeN W1 P M s W' v
theorem MadeN.below {W1 W2 : World} {P : Nat → Prop} {M s : Nat} {v : Value} (h : MadeN W1 P M s W2 v) : Below W1.heap.size W1 W2 := by
  obtain ⟨_, _, _, _, _, _, _, _, _, _, h⟩ := h
  exact h
theorem MadeN.slice {W1 W2 : World} {P : Nat → Prop} {M s : Nat} {v : Value} (h : MadeN W1 P M s W2 v) : ∃ A n c, v = .slice A n c := by
  obtain ⟨A, n, c, _, h, _⟩ := h
  exact ⟨A, n, c, h⟩
theorem MadeN.of {W1 Wa W' : World} {P Pa : Nat → Prop} {M s : Nat} {v : Value} {out : List NCells} (hB : Below W1.heap.size W1 Wa) (hPa : ∀ k, Pa k → P k ∨ NewB W1 Wa k) (h : StInv Wa Pa W' v out) (hok : ∀ c ∈ out, okC M c ∧ c.text.size ≤ M) (hs : (nFo out).size ≤ s) : MadeN W1 P M s W' v := by
  have hb := h.below
  obtain ⟨A, n, cap, rfl, hn, hc, hr⟩ := h.nrow
  refine ⟨A, n, cap, nFo out, rfl, hn, hc, okF_of out hok, hs, fun hp => ?_, hB.trans (hb.mono hB.size)⟩
  obtain ⟨b, o, e, hr⟩ := hr hp
  refine ⟨b, o, e, hr.move (fun _ _ => rfl) (fun k hk => ?_)⟩
  rcases hk with hk | hk
  · rcases hPa k hk with h | h
    · exact .inl h
    · exact .inr ⟨h.1, Nat.lt_of_lt_of_le h.2 hb.size⟩
  · exact .inr ⟨Nat.le_trans hB.size hk.1, hk.2⟩
def SteadyPost (w : World) (P : Nat → Prop) (f : Fo) (e : Ending) (w' : World) : Prop :=
  ∃ (v : Value) (out : List NCells), e = .returned v ∧ StInv w P w' v out ∧ (∀ c ∈ out, okC 400000 c ∧ c.text.size ≤ 400000) ∧ (nFo out).size ≤ f.size
/-- WHAT Steady DOES AT NODES. -/
def SteadyOk (f : Fo) : Prop := ∀ (A : Option Addr) (cap : Nat) (P : Nat → Prop) (w : World), okF 10000 f → f.size ≤ 40 → f.len ≤ cap → (∀ k, P k → k < w.heap.size) → (0 < f.len → ∃ b o, A = some ⟨b, o, none⟩ ∧ NRow w P b o f) → Calls Tryd.prog 34 #[.slice A f.len cap] w (SteadyPost w P f)

set_option maxRecDepth 100000 in
set_option maxHeartbeats 6400000 in
theorem steady_step (f : Fo) (ih : ∀ g : Fo, g.size < f.size → SteadyOk g) : SteadyOk f := by
  intro A cap P w hf hfs hcap hPw hrow
  obtain ⟨i0, hi, hz0, hz1, hz2⟩ := info_parts info28
  obtain ⟨l, hlf, hat⟩ : ∃ l : List NCells, nFo l = f ∧ (0 < l.length → ∃ b o, A = some ⟨b, o, none⟩ ∧ P b ∧ (∀ c ∈ l, c.Fine w P) ∧ ∀ i (h : i < l.length), ∀ j, j < 5 → w.cell? ⟨b, o + i * 5 + j, none⟩ = l[i].list[j]?) := by
    by_cases h0 : 0 < f.len
    · obtain ⟨b, o, e, h⟩ := hrow h0
      obtain ⟨l, hl, hfi, ha⟩ := h.cells
      exact ⟨l, hl, fun hp => ⟨b, o, e, (ha 0 hp).1, hfi, fun i hi => (ha i hi).2⟩⟩
    · cases f with
      | nil => exact ⟨[], rfl, fun h => absurd h (by simp)⟩
      | node => simp [Fo.len] at h0
  have hok := okF_mem l (by rw [hlf]; exact hf)
  have hln := nFo_len l
  have hls := Fo.len_size f
  rw [hlf] at hln
  obtain ⟨n, hn⟩ : ∃ n, f.len = n := ⟨_, rfl⟩
  rw [hn] at hln hcap hls ⊢
  have hn40 : n ≤ 40 := by omega
  replace hln := Lib.hid hln
  replace hlf := Lib.hid hlf
  replace hat := Lib.hid hat
  replace hok := Lib.hid hok
  replace hPw := Lib.hid hPw
  replace ih := Lib.hid ih
  replace hfs := Lib.hid hfs
  clear hrow hf hn hls
  go_enter Tryd.func34, Tryd.ntmps34
  go_wp2
  go_loopw [3, 4] (fun v' x4 wr => ∃ (i : Nat) (out : List NCells), i ≤ n ∧ x4 = .int .i64 i ∧ out.length ≤ i ∧ Hid (StInv w P wr v' out) ∧ Hid (∀ c ∈ out, okC 400000 c ∧ c.text.size ≤ 10000) ∧ Hid ((nFo out).size ≤ (nFo (l.take i)).size)) (fun _ x4 _ => n - (Lib.intOf x4).toNat)
  case atStart => exact ⟨0, [], Nat.zero_le _, rfl, Nat.le_refl _, Lib.hid (StInv.nil w P), Lib.hid (fun c hc => absurd hc (by simp)), Lib.hid (Nat.le_refl _)⟩
  case round =>
    obtain ⟨i, out, hin, rfl, hol, hst, hoc, hsz⟩ := hrel
    obtain ⟨v, hv⟩ : ∃ v, v = u3 := ⟨_, rfl⟩
    rw [← hv] at hst ⊢
    clear hv
    by_cases hlt : i < n
    · have hil : i < l.length := by have := hln.out; omega
      obtain ⟨b, o, rfl, hPb, hfin, hc⟩ := hat.out (by omega)
      have hbw := hPw.out b hPb
      obtain ⟨c, hcl⟩ : ∃ c, l[i] = c := ⟨_, rfl⟩
      have hmem : c ∈ l := by rw [← hcl]; exact List.getElem_mem hil
      have htk := nFo_take_snoc l i hil
      have hle : (nFo (l.take (i + 1))).size ≤ f.size := by
        have h := nFo_append (l.take (i + 1)) (l.drop (i + 1))
        rw [List.take_append_drop, hlf.out] at h
        omega
      have hci := hc i hil
      rw [hcl] at hci htk
      have hB := hst.out.below
      have c0 := (hB.cell (p := ⟨b, o + i * 5 + 0, none⟩) hbw).trans (hci 0 (by decide))
      have c1 := (hB.cell (p := ⟨b, o + i * 5 + 1, none⟩) hbw).trans (hci 1 (by decide))
      have c2 := (hB.cell (p := ⟨b, o + i * 5 + 2, none⟩) hbw).trans (hci 2 (by decide))
      have c3 := (hB.cell (p := ⟨b, o + i * 5 + 3, none⟩) hbw).trans (hci 3 (by decide))
      have c4 := (hB.cell (p := ⟨b, o + i * 5 + 4, none⟩) hbw).trans (hci 4 (by decide))
      have hcf := hfin c hmem
      obtain ⟨⟨Aa, capa, hva, hat0⟩, Ak, capk, hvk, hck, hrk⟩ := id hcf
      obtain ⟨hokc, htxc⟩ := hok.out c hmem
      obtain ⟨kd, nm, al, tx, kids, va, vk⟩ := c
      simp only [NCells.list, List.getElem?_cons_zero, List.getElem?_cons_succ, Nat.add_zero] at c0 c1 c2 c3 c4 hva hvk htxc htk hck hrk
      have hks : kids.size < f.size := by omega
      have hks40 : kids.size ≤ 40 := by have := hfs.out; omega
      have hkl := Fo.len_size kids
      subst hva hvk
      obtain ⟨nm0, al0, kk0⟩ := hokc
      simp only at nm0 al0 kk0
      have hArow : ARow w P (.slice Aa al.length capa) al := hcf.1
      obtain ⟨na, hna⟩ : ∃ na, al.length = na := ⟨_, rfl⟩
      obtain ⟨nk, hnk⟩ : ∃ nk, kids.len = nk := ⟨_, rfl⟩
      rw [hna] at c2 hArow
      rw [hnk] at c4 hck hrk hkl
      have hi0 : (0 : Int) ≤ (i : Int) := by omega
      have hi1 : (i : Int) < (n : Int) := by omega
      have hskip : Hid ((nFo out).size ≤ (nFo (l.take (i + 1))).size) := Lib.hid (by rw [htk]; have := hsz.out; omega)
      have htk2 : Hid ((nFo (l.take (i + 1))).size = (nFo (l.take i)).size + (1 + kids.size)) := Lib.hid htk
      have hvX : Hid (∀ k, v.ownBlock = some k → k < wr.heap.size ∧ w.heap.size ≤ k) := Lib.hid (fun k hk => ⟨(hst.out.own.lt k hk).2, (hst.out.own.lt k hk).1⟩)
      replace hArow := Lib.hid hArow
      replace hrk := Lib.hid hrk
      replace hna := Lib.hid hna
      replace hnk := Lib.hid hnk
      replace kk0 := Lib.hid kk0
      replace al0 := Lib.hid al0
      clear hcl hmem htk hci hcf hc hfin hle hat0
      go_upto_region 6 with fail
      obtain ⟨W1, hW1⟩ : ∃ W1, wr.alloc (.cells #[.int .i64 kd, .string nm, .slice Aa na capa, .string tx, .slice Ak nk capk] 28) = W1 := ⟨_, rfl⟩
      have hX1 : Hid (W1.heap[wr.heap.size]? = some (.cells #[.int .i64 kd, .string nm, .slice Aa na capa, .string tx, .slice Ak nk capk] 28)) := Lib.hid (by rw [← hW1]; exact blk_new _ _)
      have hB1 : Hid (Below wr.heap.size wr W1) := Lib.hid (by rw [← hW1]; exact (Below.refl _ _).alloc (Nat.le_refl _) _)
      have hS1 : Hid (W1.heap.size = wr.heap.size + 1) := Lib.hid (by rw [← hW1]; simp)
      rw [hW1]
      obtain ⟨X, hX⟩ : ∃ X, wr.heap.size = X := ⟨_, rfl⟩
      rw [hX] at hX1 hB1 hS1 hvX ⊢
      replace hX := Lib.hid hX
      have hwX : Hid (w.heap.size ≤ X) := Lib.hid (by rw [← hX.out]; exact hB.size)
      have hBw1 : Hid (Below w.heap.size w W1) := Lib.hid (hB.trans (hB1.out.mono hwX.out))
      clear hW1 c0 c1 c2 c3 c4 hB
      have hst1 : Hid (∀ w7, Below X wr w7 → StInv w P w7 v out) := Lib.hid (fun w7 hb => hst.out.carry hPw.out (by rw [hX.out]; exact hb))
      have hhas := has54_any tx (by omega) W1
      obtain ⟨ct, hct⟩ : ∃ ct, Lib.contains tx.data.toList [45, 45, 62] = ct := ⟨_, rfl⟩
      rw [hct] at hhas
      clear hct
      obtain ⟨bad, hbad⟩ : ∃ bad, (decide (kd = 3) && ct) = bad := ⟨_, rfl⟩
      go_cut [23] (fun x wx => x = .bool bad ∧ wx = W1)
      case first =>
        have d0 : W1.cell? ⟨X, 0, none⟩ = some (.int .i64 kd) := blk_cell hX1.out 0
        have d3 : W1.cell? ⟨X, 3, none⟩ = some (.string tx) := blk_cell hX1.out 3
        by_cases hk3 : kd = 3
        · subst hk3
          have hb : ct = bad := by rw [← hbad]; simp
          subst hb
          go_wp2_with (go_at_call 54; refine hhas.mono ?_; rintro e5 w5 ⟨rfl, rfl⟩)
          go_meet
          exact ⟨rfl, rfl⟩
        · have hb : bad = false := by rw [← hbad]; simp [hk3]
          subst hb
          have hk3b : (kd == 3) = false := by simpa using hk3
          clear hk3 hbad
          go_wp2
          go_meet
          exact ⟨rfl, rfl⟩
      case rest =>
      obtain ⟨rfl, rfl⟩ := hcut
      clear hbad hhas
      obtain ⟨W1, hW1e⟩ : ∃ W1 : World, W1 = wc := ⟨_, rfl⟩
      rw [← hW1e] at hX1 hB1 hS1 hBw1 ⊢
      clear hW1e
      cases bad with
      | true =>
        go_wp2
        exact ⟨⟨i + 1, out, by omega, by simp, by omega, Lib.hid (hst1.out _ hB1.out), hoc, hskip⟩, by simp [Lib.intOf]; omega⟩
      | false =>
        have hP1 : Hid (∀ k, P k → k < W1.heap.size) := Lib.hid (fun k hk => Nat.lt_of_lt_of_le (hPw.out k hk) hBw1.out.size)
        have hlt2 : Hid (∀ W', Below W1.heap.size W1 W' → ∀ k, (P k ∨ NewB W1 W' k) → k < W'.heap.size) := Lib.hid (fun W' hb k hk => by
          rcases hk with h | h
          · exact Nat.lt_of_lt_of_le (hP1.out k h) hb.size
          · exact h.2)
        have H1 : Hid (∀ W', Below W1.heap.size W1 W' → Calls Tryd.prog 55 #[.string nm, .slice Ak nk capk] W' (MadeNPost W1 P 10000 kids.size)) := Lib.hid (fun W' hb => by
          have hbw' : Below w.heap.size w W' := hBw1.out.trans (hb.mono hBw1.out.size)
          have h := fitting55_any nm (by omega) 10000 (by decide) kids kk0.out (by rw [hnk.out]; omega) Ak capk P W' (fun k hk => Nat.lt_of_lt_of_le (hP1.out k hk) hb.size) (by rw [hnk.out]; exact hck) (fun hp => by
            obtain ⟨b', o', e, hr⟩ := hrk.out (by rw [← hnk.out]; exact hp)
            exact ⟨b', o', e, hr.move (Stays.below hbw' hPw.out) (fun _ h => h)⟩)
          rw [hnk.out] at h
          refine h.mono ?_
          rintro e w'' ⟨v1, out1, rfl, g1, g2, g3⟩
          exact ⟨v1, rfl, MadeN.of hb (fun k hk => .inl hk) g1 g2 g3⟩)
        have H2 : Hid (∀ W' v1, MadeN W1 P 10000 kids.size W' v1 → Calls Tryd.prog 34 #[v1] W' (MadeNPost W1 P 400000 kids.size)) := Lib.hid (fun W' v1 hm => by
          obtain ⟨A1, n1, cap1, g, rfl, hn1, hc1, hok1, hs1, hr1, hb⟩ := hm
          subst hn1
          refine (ih.out g (by omega) A1 cap1 (fun k => P k ∨ NewB W1 W' k) W' hok1 (by omega) hc1 (hlt2.out W' hb) hr1).mono ?_
          rintro e w'' ⟨v2, out2, rfl, g1, g2, g3⟩
          exact ⟨v2, rfl, MadeN.of hb (fun k hk => hk) g1 g2 (Nat.le_trans g3 hs1)⟩)
        have H3 : Hid (∀ W' v1, MadeN W1 P 400000 kids.size W' v1 → Calls Tryd.prog 55 #[.string nm, v1] W' (MadeNPost W1 P 400000 kids.size)) := Lib.hid (fun W' v1 hm => by
          obtain ⟨A1, n1, cap1, g, rfl, hn1, hc1, hok1, hs1, hr1, hb⟩ := hm
          subst hn1
          have hgl := Fo.len_size g
          refine (fitting55_any nm (by omega) 400000 (by decide) g hok1 (by omega) A1 cap1 (fun k => P k ∨ NewB W1 W' k) W' (hlt2.out W' hb) hc1 hr1).mono ?_
          rintro e w'' ⟨v2, out2, rfl, g1, g2, g3⟩
          exact ⟨v2, rfl, MadeN.of hb (fun k hk => hk) g1 g2 (Nat.le_trans g3 hs1)⟩)
        obtain ⟨k1, hk1⟩ : ∃ k1, (kd == 1) = k1 := ⟨_, rfl⟩
        have d0 : W1.cell? ⟨X, 0, none⟩ = some (.int .i64 kd) := blk_cell hX1.out 0
        go_upto_if 26 with fail
        go_cut [] (fun wx => ∃ (A4 : Option Addr) (n4 cap4 : Nat) (g : Fo), Hid (wx.heap[X]? = some (.cells #[.int .i64 kd, .string nm, .slice Aa na capa, .string tx, .slice A4 n4 cap4] 28)) ∧ Hid (Below X wr wx) ∧ Hid (n4 = g.len) ∧ Hid (okF 400000 g ∧ g.size ≤ kids.size) ∧ Hid (NCells.Fine wx (fun k => P k ∨ (X < k ∧ k < wx.heap.size)) ⟨kd, nm, al, tx, g, .slice Aa na capa, .slice A4 n4 cap4⟩))
        case first =>
          cases k1 with
          | true =>
            obtain rfl : kd = 1 := by simpa using hk1
            clear hk1
            go_upto_region 8 with fail
            have d1 : W1.cell? ⟨X, 1, none⟩ = some (.string nm) := blk_cell hX1.out 1
            have d4 : W1.cell? ⟨X, 4, none⟩ = some (.slice Ak nk capk) := blk_cell hX1.out 4
            have hBq : Hid (Below W1.heap.size W1 W1.drew) := Lib.hid ((Below.refl _ _).drew)
            have hXw : Hid (X < W1.heap.size) := Lib.hid (by rw [hS1.out]; omega)
            have hmade : Hid (∀ W' v3, MadeN W1 P 400000 kids.size W' v3 → ∃ (A4 : Option Addr) (n4 cap4 : Nat) (g : Fo), Hid ((W'.setCell ⟨X, 4, none⟩ v3).heap[X]? = some (.cells #[.int .i64 1, .string nm, .slice Aa na capa, .string tx, .slice A4 n4 cap4] 28)) ∧ Hid (Below X wr (W'.setCell ⟨X, 4, none⟩ v3)) ∧ Hid (n4 = g.len) ∧ Hid (okF 400000 g ∧ g.size ≤ kids.size) ∧ Hid (NCells.Fine (W'.setCell ⟨X, 4, none⟩ v3) (fun k => P k ∨ (X < k ∧ k < (W'.setCell ⟨X, 4, none⟩ v3).heap.size)) ⟨1, nm, al, tx, g, .slice Aa na capa, .slice A4 n4 cap4⟩)) := Lib.hid (fun W' v3 hm => by
              obtain ⟨A4, n4, cap4, g, rfl, hn4, hc4, hok4, hs4, hr4, hb⟩ := hm
              have hPX : ¬ P X := fun h => by have := hPw.out X h; have := hwX.out; omega
              have hbw' : Below w.heap.size w W' := hBw1.out.trans (hb.mono hBw1.out.size)
              refine ⟨A4, n4, cap4, g, Lib.hid (blk_set_self (blk_below hX1.out hb hXw.out) 4 _), Lib.hid ((hB1.out.trans (hb.mono (Nat.le_of_lt hXw.out))).setCell (p := ⟨X, 4, none⟩) (Nat.le_refl _) _), Lib.hid hn4, Lib.hid ⟨hok4, hs4⟩, Lib.hid ⟨?_, A4, cap4, by rw [← hn4], by rw [← hn4]; exact hc4, fun hp => ?_⟩⟩
              · exact (hArow.out.move ((Stays.below hbw' hPw.out).trans (Stays.set (fun h => hPX h) _)) (fun k h => .inl h))
              · obtain ⟨b', o', e, hr⟩ := hr4 (by rw [hn4]; exact hp)
                refine ⟨b', o', e, hr.move (Stays.set ?_ _) (fun k hk => ?_)⟩
                · rintro (h | h)
                  · exact hPX h
                  · have := h.1; rw [hS1.out] at this; simp at this; omega
                · rcases hk with h | h
                  · exact .inl h
                  · have h1 := h.1
                    rw [hS1.out] at h1
                    exact .inr ⟨by omega, by simpa using h.2⟩)
            go_region_with (first
              | (go_at_call 34; refine (H2.out _ _ hm1.out).mono ?_; rintro e6 w6 ⟨v2, rfl, hm2⟩; obtain ⟨Av2, nv2, kv2, rfl⟩ := hm2.slice; replace hm2 := Lib.hid hm2; have q1 : w6.cell? ⟨X, 1, none⟩ = some (.string nm) := (hm2.out.below.cell (p := ⟨X, 1, none⟩) hXw.out).trans d1; have q4 : w6.cell? ⟨X, 4, none⟩ = some (.slice Ak nk capk) := (hm2.out.below.cell (p := ⟨X, 4, none⟩) hXw.out).trans d4)
              | (go_at_call 55; (with_reducible refine (H1.out _ hBq.out).mono ?_); rintro e5 w5 ⟨v1, rfl, hm1⟩; obtain ⟨Av1, nv1, kv1, rfl⟩ := hm1.slice; replace hm1 := Lib.hid hm1; have q1 : w5.cell? ⟨X, 1, none⟩ = some (.string nm) := (hm1.out.below.cell (p := ⟨X, 1, none⟩) hXw.out).trans d1; have q4 : w5.cell? ⟨X, 4, none⟩ = some (.slice Ak nk capk) := (hm1.out.below.cell (p := ⟨X, 4, none⟩) hXw.out).trans d4)
              | (go_at_call 55; refine (H3.out _ _ hm2.out).mono ?_; rintro e7 w7 ⟨v3, rfl, hm3⟩; obtain ⟨Av3, nv3, kv3, rfl⟩ := hm3.slice; replace hm3 := Lib.hid hm3; have q1 : w7.cell? ⟨X, 1, none⟩ = some (.string nm) := (hm3.out.below.cell (p := ⟨X, 1, none⟩) hXw.out).trans d1; have hX7 := blk_below hX1.out hm3.out.below hXw.out; have q4 := blk_cell hX7 4; have f4 := blk_frozen hX7 4; replace hX7 := Lib.hid hX7))
            all_goals
              go_wp2
              go_meet
              exact hmade.out _ _ hm3.out
          | false =>
            clear hk1
            go_wp2
            go_meet
            refine ⟨Ak, nk, capk, kids, hX1, hB1, Lib.hid hnk.out.symm, Lib.hid ⟨kk0.out.mono (by decide), Nat.le_refl _⟩, Lib.hid ⟨hArow.out.move (Stays.below hBw1.out hPw.out) (fun k h => .inl h), Ak, capk, by rw [hnk.out], by rw [hnk.out]; exact hck, fun hp => ?_⟩⟩
            obtain ⟨b', o', e, hr⟩ := hrk.out (by rw [← hnk.out]; exact hp)
            exact ⟨b', o', e, hr.move (Stays.below hBw1.out hPw.out) (fun k h => .inl h)⟩
        case rest =>
        clear hk1 d0
        obtain ⟨A4, n4, cap4, g, hX5, hB5, hn4, hok5, hfine⟩ := hcut
        clear H1 H2 H3 hlt2 hP1 hX1 hB1 hS1 hBw1
        obtain ⟨w5, hw5⟩ : ∃ w5 : World, w5 = wc := ⟨_, rfl⟩
        rw [← hw5] at hX5 hB5 hfine ⊢
        clear hw5
        have e0 := blk_cell hX5.out 0
        have e1 := blk_cell hX5.out 1
        have e2 := blk_cell hX5.out 2
        have e3 := blk_cell hX5.out 3
        have e4 := blk_cell hX5.out 4
        simp only [List.getElem?_toArray, List.getElem?_cons_zero, List.getElem?_cons_succ] at e0 e1 e2 e3 e4
        have hs5 := Lib.hid (hst1.out w5 hB5.out)
        have hol2 : out.length ≤ 40 := by omega
        have hgrow : Hid (∀ (v' : Value) (w8 : World) (x : Obj), w8.ownsRow w.heap.size 28 5 v' (out.length + 1) (nCells out ++ [.int .i64 kd, .string nm, .slice Aa na capa, .string tx, .slice A4 n4 cap4]) → (w5.alloc x).grownBy w8 v.ownBlock → (v'.ownBlock = v.ownBlock ∨ v'.ownBlock = some (w5.alloc x).heap.size) →
            ∃ out2 : List NCells, out2.length ≤ i + 1 ∧ Hid (StInv w P w8 v' out2) ∧ Hid (∀ c ∈ out2, okC 400000 c ∧ c.text.size ≤ 10000) ∧ Hid ((nFo out2).size ≤ (nFo (l.take (i + 1))).size)) := Lib.hid (by
          intro v' w8 x hown' hg8 hat8
          refine ⟨out ++ [⟨kd, nm, al, tx, g, .slice Aa na capa, .slice A4 n4 cap4⟩], by simp; omega, Lib.hid ?_, Lib.hid ?_, Lib.hid ?_⟩
          · refine hs5.out.push hPw.out hfine.out (fun k hk => ?_) hown' hg8 hat8
            rcases hk with h | h
            · exact ⟨.inl h, fun e => by have := (hvX.out k e).2; have := hPw.out k h; omega⟩
            · exact ⟨.inr ⟨by have := hwX.out; omega, h.2⟩, fun e => by have := (hvX.out k e).1; omega⟩
          · intro c hc
            rcases List.mem_append.1 hc with hc | hc
            · exact hoc.out c hc
            · rw [List.mem_singleton.1 hc]
              exact ⟨⟨nm0, al0.out, hok5.out.1⟩, htxc⟩
          · rw [nFo_snoc, htk2.out]
            have := hsz.out
            have := hok5.out.2
            show (nFo out).size + (1 + g.size) ≤ (nFo (l.take i)).size + (1 + kids.size)
            omega)
        clear hn4
        go_wp2_with (at_builtin; refine wpList_append_own_at _ rfl _ _ 23 rfl w.heap.size 28 i0 _ 5 88 Tryd.underlying23 hi hz0 hz1 hz2 rfl (by decide) v out.length (nCells out) rfl (hs5.out.own.alloc _) ⟨_, 0, none⟩ 1 1 [.int .i64 kd, .string nm, .slice Aa na capa, .string tx, .slice A4 n4 cap4] rfl rfl (cells_new _ _ _) (by intro u hu; simp at hu; rcases hu with rfl | rfl | rfl | rfl | rfl <;> rfl) (by unfold maxLen; omega) (by omega) (by have := hs5.out.below.size; simp; omega) ?_; intro v' w8 hown' hg8 hnil8 hat8; go_frame)
        obtain ⟨out2, h1, h2, h3, h4⟩ := hgrow.out v' w8 _ hown' hg8 hat8
        exact ⟨⟨i + 1, out2, by omega, by simp, h1, h2, h3, h4⟩, by simp [Lib.intOf]; omega⟩
    · have hin3 : i = n := by omega
      obtain ⟨Q, hQf, hQP, hQv⟩ := hst.out.kids
      have hmrg := merge3_any 400000 10000 (Nat.le_refl _) wr w.heap.size Q v out hst.out.own hQf (by omega) hoc.out
      go_wp2_with (go_at_call 53; refine hmrg.mono ?_; rintro e w2 ⟨v2, out2, rfl, g1, g2, g3, g4⟩)
      go_ret
      refine ⟨_, out2, rfl, StInv.merged hPw.out hst.out.below hQP g1, fun c hc => ⟨(g2 c hc).1, Nat.le_trans (g2 c hc).2 (by decide)⟩, ?_⟩
      have := hsz.out
      rw [hin3, hln.out, List.take_length, hlf.out] at this
      omega
theorem steady_ok (f : Fo) : SteadyOk f := by
  obtain ⟨n, hn⟩ : ∃ n, f.size = n := ⟨_, rfl⟩
  induction n using Nat.strongRecOn generalizing f with
  | _ n ih =>
    subst hn
    exact steady_step f (fun g hg => ih _ hg g rfl)
end Go.Proofs.YtghlodpbbghcoaaDoor
