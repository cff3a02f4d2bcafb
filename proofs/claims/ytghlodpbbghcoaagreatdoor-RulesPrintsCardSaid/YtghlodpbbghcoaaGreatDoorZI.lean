/- The law PolicyFirst, walked. -/
import Derived.Test.YtghlodpbbghcoaaGreatDoorZH
import Derived.Test.YtghlodpbbghcoaaGreatDoorZG
import Derived.Deep.RegionHeld3
import Derived.Deep.QuietTactic
import Derived.BigQuiet
import Derived.Test.YtghlodpbbghcoaaGreatDoorSB
namespace Go.Proofs.YtghlodpbbghcoaaGreatDoor
open Go.Lib Go.RowKit Go.Maps
theorem below_drewN {n : Nat} {a w : World} (h : Below n a w) (k : Nat) : Below n a (w.drewN k) := ⟨h.1, h.2, h.3, h.4, h.5⟩
theorem size_le_stem (s : ByteArray) : s.size ≤ (stemP s).size + 1 := by
  unfold stemP
  rw [tx_size, Lib.trimSuffix]
  have hz : s.data.toList.length = s.size := by simp
  split
  · rw [List.length_take]
    simp only [List.length_cons, List.length_nil]
    omega
  · omega
theorem plainP_size {s : ByteArray} (h : plainP s = true) : s.size ≤ 16 := by
  unfold plainP at h
  simp at h
  exact h.1
theorem RulOk.size {r : Rul} (h : RulOk r) : r.name.size ≤ 17 := by
  have h1 := h.1
  unfold rul1 at h1
  rw [Bool.and_eq_true] at h1
  have := plainP_size h1.1
  have := size_le_stem r.name
  omega
theorem ruleP_find {l : List Rul} {nm : ByteArray} : (∀ j (hj : j < l.length), fitsP l[j].name nm = false) ∧ ruleP l nm = none ∨ ∃ f, ∃ hf : f < l.length, fitsP l[f].name nm = true ∧ (∀ j (hj : j < l.length), j < f → fitsP l[j].name nm = false) ∧ ruleP l nm = some l[f] := by
  cases h : ruleP l nm with
  | none =>
    left
    refine ⟨fun j hj => ?_, rfl⟩
    unfold ruleP at h
    rw [List.find?_eq_none] at h
    simpa using h _ (List.getElem_mem hj)
  | some r =>
    right
    unfold ruleP at h
    rw [List.find?_eq_some_iff_getElem] at h
    obtain ⟨h1, f, hf, rfl, h2⟩ := h
    exact ⟨f, hf, h1, fun j hj hjf => by simpa using h2 j hjf, rfl⟩

set_option maxRecDepth 16384 in
set_option maxHeartbeats 6400000 in
theorem policyFirst_any (vt ve vu : Value) (p : Pol) (nm0 : ByteArray) (w : World) (h : PolAt w (fun k => k < w.heap.size) vt ve vu p) (hin : p.In) :
    Calls Tryz.prog 3 #[.agg #[vt, ve, vu], .string nm0] w (IsB true w) := by
  obtain ⟨At, nt, ct, rfl, -, -, -⟩ := h.top.form
  obtain ⟨Ae, ne, ce, rfl, -, -, -⟩ := h.elts.form
  obtain ⟨Au, nu, cu, rfl, -, -, -⟩ := h.unwrap.form
  obtain ⟨w1, hw1⟩ : ∃ w1, w.alloc (.cells #[.slice At nt ct, .slice Ae ne ce, .slice Au nu cu] 25) = w1 := ⟨_, rfl⟩
  have hB1 : Hid (Below w.heap.size w w1) := Lib.hid (by rw [← hw1]; exact (Below.refl _ _).alloc (Nat.le_refl _) _)
  have hbx : Hid (w1.heap[w.heap.size]? = some (.cells #[.slice At nt ct, .slice Ae ne ce, .slice Au nu cu] 25)) := Lib.hid (by rw [← hw1]; exact blk_new _ _)
  have hgood := good10_any (.slice At nt ct) (.slice Ae ne ce) (.slice Au nu cu) p (fun k => k < w.heap.size) w1 (fun k hk => Nat.lt_of_lt_of_le hk hB1.out.size) (h.move (Stays.below hB1.out (fun _ h => h)) (fun _ h => h)) hin
  clear h hin
  have d0 := blk_cell hbx.out 0
  have d1 := blk_cell hbx.out 1
  have d2 := blk_cell hbx.out 2
  go_enter Tryz.func3, Tryz.ntmps3
  go_upto_region 3 with (first
    | (go_at_call 10; refine hgood.mono ?_; rintro e6 w6 ⟨vt', ve', vu', q, rfl, hq, hok, hB6⟩; obtain ⟨A1, n1, c1, rfl, -, -, -⟩ := hq.top.form; obtain ⟨A2, n2, c2, rfl, hn2, hc2, hat⟩ := hq.elts.form; obtain ⟨A3, n3, c3, rfl, -, -, -⟩ := hq.unwrap.form; replace hn2 := Lib.hid hn2; replace hat := Lib.hid hat; replace hq := Lib.hid hq; replace hok := Lib.hid hok; replace hB6 := Lib.hid hB6)
    | (go_at_call 11; refine (few30_any nm0 _).mono ?_; rintro e7 w7 ⟨rfl, e6⟩; obtain rfl := e6.symm))
  clear d0 d1 d2 hgood hw1
  obtain ⟨nm, hnm⟩ : ∃ nm, cut30 nm0 = nm := ⟨_, rfl⟩
  rw [hnm]
  clear hnm
  obtain ⟨wg, hwg⟩ : ∃ wg, w6.alloc (.cells #[.slice A1 n1 c1, .slice A2 n2 c2, .slice A3 n3 c3] 25) = wg := ⟨_, rfl⟩
  have hBg : Hid (Below w6.heap.size w6 wg) := Lib.hid (by rw [← hwg]; exact (Below.refl _ _).alloc (Nat.le_refl _) _)
  have hgb : Hid (wg.heap[w6.heap.size]? = some (.cells #[.slice A1 n1 c1, .slice A2 n2 c2, .slice A3 n3 c3] 25)) := Lib.hid (by rw [← hwg]; exact blk_new _ _)
  have hBw : Hid (Below w.heap.size w wg) := Lib.hid ((hB1.out.trans (hB6.out.mono hB1.out.size)).trans (hBg.out.mono (Nat.le_trans hB1.out.size hB6.out.size)))
  have hw6 : Hid (w6.heap.size < wg.heap.size) := Lib.hid (blk_lt hgb.out)
  have hn25 : n2 ≤ 5 := by
    have h1 := congrArg List.length hok.out.names
    rw [List.length_map] at h1
    have := (gNm_len p.elts 5).1
    have := hn2.out
    omega
  rw [hwg]
  clear hwg hB1 hB6 hbx
  go_wp2
  go_loopw [6] (fun x6 wr => ∃ k : Nat, k ≤ n2 ∧ x6 = .int .i64 k ∧ Hid (Below wg.heap.size wg wr)) (fun x6 _ => n2 - (RowKit.intOf x6).toNat)
  case atStart => exact ⟨0, Nat.zero_le _, rfl, Lib.hid (Below.refl _ _)⟩
  case round =>
    obtain ⟨k, hk, rfl, hB⟩ := hrel
    have hgr : Hid (wr.heap[w6.heap.size]? = some (.cells #[.slice A1 n1 c1, .slice A2 n2 c2, .slice A3 n3 c3] 25)) := Lib.hid (blk_below hgb.out hB.out (blk_lt hgb.out))
    have d1 : wr.cell? ⟨w6.heap.size, 1, none⟩ = some (.slice A2 n2 c2) := blk_cell hgr.out 1
    have hB6r : Hid (Below w6.heap.size w6 wr) := Lib.hid (hBg.out.trans (hB.out.mono (Nat.le_of_lt hw6.out)))
    by_cases hlt : k < n2
    · have hkl : k < q.elts.length := by have := hn2.out; omega
      obtain ⟨b, o, rfl, hPb, hc⟩ := hat.out (by omega)
      obtain ⟨vk, vr, h0, h1, h2, hvk, hvr⟩ := hc k hkl
      have c0 := (hB6r.out.cell (p := ⟨b, o + k * 3, none⟩) hPb.2).trans h0
      have c1' := (hB6r.out.cell (p := ⟨b, o + k * 3 + 1, none⟩) hPb.2).trans h1
      have c2' := (hB6r.out.cell (p := ⟨b, o + k * 3 + 2, none⟩) hPb.2).trans h2
      obtain ⟨en, hen⟩ : ∃ en, q.elts[k].name = en := ⟨_, rfl⟩
      rw [hen] at c0
      have hrok := hok.out.rules _ (List.getElem_mem hkl)
      obtain ⟨rl, hrl⟩ : ∃ rl, q.elts[k].rules = rl := ⟨_, rfl⟩
      rw [hrl] at hvr hrok
      obtain ⟨Ak, nk, ck, rfl, -, -, -⟩ := hvk.form
      have hrule := fun (W : World) (hW : Below w6.heap.size w6 W) => polRule_any (.slice Ak nk ck) vr en nm rl (fun k => w1.heap.size ≤ k ∧ k < w6.heap.size) W (fun k hk => Nat.lt_of_lt_of_le hk.2 hW.size) (hvr.move (Stays.below hW (fun _ h => h.2)) (fun _ h => h)) ⟨_, _, _, rfl⟩ (by have := hrok.len; omega) (fun x hx => by have := (hrok.ok x hx).size; omega)
      obtain ⟨Ar, m, cr, rfl, hm, hcr, hra⟩ := hvr.form
      have hm3 : m ≤ 3 := by have := hrok.len; omega
      have hfs := fun (j : Nat) (hj : j < rl.length) (W : World) => fits_any rl[j].name nm (by have := (hrok.ok _ (List.getElem_mem hj)).size; omega) W
      have hfd := ruleP_find (l := rl) (nm := nm)
      replace hm := Lib.hid hm
      replace hra := Lib.hid hra
      replace hfs := Lib.hid hfs
      replace hrule := Lib.hid hrule
      replace hfd := Lib.hid hfd
      have hi0 : (0 : Int) ≤ (k : Int) := by omega
      have hi1 : (k : Int) < (n2 : Int) := by omega
      clear hc h0 h1 h2 hvk hvr hen hrl hrok
      go_upto_region 7 with fail
      obtain ⟨we, hwe⟩ : ∃ we, wr.alloc (.cells #[.string en, .slice Ak nk ck, .slice Ar m cr] 30) = we := ⟨_, rfl⟩
      have hBe : Hid (Below wg.heap.size wg we) := Lib.hid (by rw [← hwe]; exact hB.out.alloc hB.out.size _)
      have heb : Hid (we.heap[wr.heap.size]? = some (.cells #[.string en, .slice Ak nk ck, .slice Ar m cr] 30)) := Lib.hid (by rw [← hwe]; exact blk_new _ _)
      rw [hwe]
      clear hwe d1 c0 c1' c2'
      have e0 := blk_cell heb.out 0
      have e1 := blk_cell heb.out 1
      have e2 := blk_cell heb.out 2
      have hru := hrule.out we (hBg.out.trans (hBe.out.mono (Nat.le_of_lt hw6.out)))
      obtain ⟨rp, hrp⟩ : ∃ rp, ruleP rl nm = rp := ⟨_, rfl⟩
      rw [hrp] at hru hfd
      obtain ⟨isn, hisn⟩ : ∃ isn, rp.isSome = isn := ⟨_, rfl⟩
      have hru2 : Calls Tryz.prog 12 #[.agg #[.string en, .slice Ak nk ck, .slice Ar m cr], .string nm] we (fun e w' => ∃ (a : ByteArray) (kd : Int) (A : Option Addr) (nn cc : Nat) (rx : ByteArray) (rq : Bool), e = .returned (.tuple #[.agg #[.string a, .int .i64 kd, .slice A nn cc, .string rx, .bool rq], .bool isn]) ∧ Hid (a = (rp.map Rul.name).getD ⟨#[]⟩) ∧ Hid (Below we.heap.size we w')) := by
        refine hru.mono ?_
        rintro e w' ⟨h1, h2⟩
        subst hisn
        cases rp with
        | none => exact ⟨_, _, _, _, _, _, _, h1, Lib.hid rfl, Lib.hid h2⟩
        | some x =>
          obtain ⟨A, nn, cc, h1⟩ := h1
          exact ⟨_, _, _, _, _, _, _, h1, Lib.hid rfl, Lib.hid h2⟩
      clear hru hrp
      replace hisn := Lib.hid hisn
      go_upto_region 8 with (go_at_call 12; refine hru2.mono ?_; rintro e5 w5 ⟨a, kd, Aw, nw, cw, rx, rq, rfl, ha, hB5⟩)
      obtain ⟨wf, hwf⟩ : ∃ wf, w5.alloc (.cells #[.string a, .int .i64 kd, .slice Aw nw cw, .string rx, .bool rq] 34) = wf := ⟨_, rfl⟩
      obtain ⟨F, hF⟩ : ∃ F, w5.heap.size = F := ⟨_, rfl⟩
      have hfb : Hid (wf.heap[F]? = some (.cells #[.string a, .int .i64 kd, .slice Aw nw cw, .string rx, .bool rq] 34)) := Lib.hid (by rw [← hwf]; exact blk_new' hF.symm)
      have hBf : Hid (Below we.heap.size we wf) := Lib.hid (by rw [← hwf]; exact hB5.out.alloc hB5.out.size _)
      rw [hwf, hF]
      clear hwf hF hru2 e0 e1 e2
      have hef : Hid (wf.heap[wr.heap.size]? = some (.cells #[.string en, .slice Ak nk ck, .slice Ar m cr] 30)) := Lib.hid (blk_below heb.out hBf.out (blk_lt heb.out))
      have hBgf : Hid (Below wg.heap.size wg wf) := Lib.hid (hBe.out.trans (hBf.out.mono hBe.out.size))
      have e2 := blk_cell hef.out 2
      have g0 := blk_cell hfb.out 0
      have hcells : Hid (∀ j (hj : j < rl.length), ∃ b' o', Ar = some ⟨b', o', none⟩ ∧ wf.cell? ⟨b', o' + j * 5, none⟩ = some (.string rl[j].name)) := Lib.hid (fun j hj => by
        obtain ⟨b', o', e, hb', hcc⟩ := hra.out (by have := hm.out; omega)
        obtain ⟨_, hx, _⟩ := hcc j hj
        exact ⟨b', o', e, ((hBg.out.trans (hBgf.out.mono (Nat.le_of_lt hw6.out))).cell (p := ⟨b', o' + j * 5, none⟩) hb'.2).trans hx⟩)
      go_wp2
      go_loop [10, 11] (fun x10 x11 => ∃ j : Nat, j ≤ m ∧ x11 = .int .i64 j ∧ ((x10 = .int .i64 (-1) ∧ Hid (∀ i (hi : i < rl.length), i < j → fitsP rl[i].name nm = false)) ∨ ∃ f, x10 = .int .i64 (f : Nat) ∧ f + 1 = j ∧ Hid (∃ hf : f < rl.length, fitsP rl[f].name nm = true ∧ ∀ i (hi : i < rl.length), i < f → fitsP rl[i].name nm = false))) (fun _ x11 => m - (RowKit.intOf x11).toNat)
      case atStart => exact ⟨0, Nat.zero_le _, rfl, .inl ⟨rfl, Lib.hid (fun i hi h => absurd h (Nat.not_lt_zero _))⟩⟩
      case round =>
        obtain ⟨j, hj, rfl, hcase⟩ := hrel
        rcases hcase with ⟨rfl, hno⟩ | ⟨f, rfl, hfj, hyes⟩
        · by_cases hjm : j < m
          · have hjl : j < rl.length := by have := hm.out; omega
            obtain ⟨b', o', rfl, hcj⟩ := hcells.out j hjl
            have hfc := hfs.out j hjl wf
            obtain ⟨ft, hft⟩ : ∃ ft, fitsP rl[j].name nm = ft := ⟨_, rfl⟩
            obtain ⟨sj, hsj⟩ : ∃ sj, rl[j].name = sj := ⟨_, rfl⟩
            rw [hft] at hfc
            rw [hsj] at hfc hcj
            have hftH : Hid (fitsP rl[j].name nm = ft) := Lib.hid hft
            have hj0 : (0 : Int) ≤ (j : Int) := by omega
            have hj1 : (j : Int) < (m : Int) := by omega
            clear hft hsj
            cases ft with
            | true =>
              go_wp2_with (go_at_call 13; refine hfc.mono ?_; rintro e7 w7 ⟨rfl, e6⟩; obtain rfl := e6.symm)
              exact ⟨⟨j + 1, by omega, by simp, .inr ⟨j, rfl, rfl, Lib.hid ⟨hjl, hftH.out, fun i hi hij => hno.out i hi hij⟩⟩⟩, by simp [RowKit.intOf]; omega⟩
            | false =>
              go_wp2_with (go_at_call 13; refine hfc.mono ?_; rintro e7 w7 ⟨rfl, e6⟩; obtain rfl := e6.symm)
              refine ⟨⟨j + 1, by omega, by simp, .inl ⟨rfl, Lib.hid (fun i hi hij => ?_)⟩⟩, by simp [RowKit.intOf]; omega⟩
              by_cases e : i = j
              · subst e; exact hftH.out
              · exact hno.out i hi (by omega)
          · have hrn : rp = none := by
              rcases hfd.out with ⟨_, e⟩ | ⟨f, hf, h1, _⟩
              · exact e
              · have := hno.out f hf (by have := hm.out; omega)
                rw [this] at h1
                cases h1
            subst hrn
            obtain rfl : false = isn := hisn.out
            have ha2 : a = ⟨#[]⟩ := ha.out
            subst ha2
            have i1 : ¬ (j : Int) < (m : Int) := by omega
            clear hfd ha
            go_upto_region 15 with fail
            go_quiet (fail)
            go_wp2
            exact ⟨⟨k + 1, by omega, by simp, Lib.hid (below_drewN hBgf.out _)⟩, by simp [RowKit.intOf]; omega⟩
        · obtain ⟨hfl, hf1, hf2⟩ := hyes.out
          have hrs : rp = some rl[f] := by
            rcases hfd.out with ⟨hn0, _⟩ | ⟨f', hf', h1, h2, e⟩
            · rw [hn0 f hfl] at hf1
              cases hf1
            · have : f = f' := by
                rcases Nat.lt_trichotomy f f' with h | h | h
                · rw [h2 f hfl h] at hf1; cases hf1
                · exact h
                · rw [hf2 f' hf' h] at h1; cases h1
              subst this
              exact e
          obtain ⟨b', o', rfl, hcj⟩ := hcells.out f hfl
          subst hrs
          obtain rfl : true = isn := hisn.out
          have ha2 : a = rl[f].name := ha.out
          obtain ⟨sj, hsj⟩ : ∃ sj, rl[f].name = sj := ⟨_, rfl⟩
          rw [hsj] at ha2 hcj
          subst ha2
          have hf0 : (0 : Int) ≤ (f : Int) := by omega
          have hf3 : (f : Int) < (m : Int) := by have := hm.out; omega
          clear hfd ha hyes hf1 hf2 hsj
          by_cases hjm : j < m
          all_goals
            go_upto_region 15 with fail
            go_quiet (fail)
            go_wp2
            exact ⟨⟨k + 1, by omega, by simp, Lib.hid (below_drewN hBgf.out _)⟩, by simp [RowKit.intOf]; omega⟩
    · have hlv := lives_any wr
      go_wp2_with (go_at_call 14; refine hlv.mono ?_; rintro e7 w7 ⟨rfl, hB7⟩)
      go_ret
      exact ⟨rfl, (hBw.out.trans (hB.out.mono hBw.out.size)).trans (hB7.mono (Nat.le_trans hBw.out.size hB.out.size))⟩
end Go.Proofs.YtghlodpbbghcoaaGreatDoor

/- What may stand in an element of a policy that is made of any: plain. -/
namespace Go.Proofs.YtghlodpbbghcoaaGreatDoor
open Go.Lib Go.RowKit Go.Maps
/-- Not what a text or a comment is called in a list. -/
def NoTag (s : ByteArray) : Prop := s.toList ≠ textN ∧ s.toList ≠ commN
theorem plain_noTag {s : ByteArray} (h : plainP s = true) : NoTag s := by
  unfold plainP at h
  rw [Bool.and_eq_true] at h
  refine ⟨fun e => ?_, fun e => ?_⟩
  all_goals
    have h2 := h.2
    rw [ByteArray.toList_eq] at e
    rw [e] at h2
    exact absurd h2 (by decide)
theorem plain_ne {s : ByteArray} (h : plainP s = true) : s.toList ≠ [] := by
  unfold plainP at h
  rw [Bool.and_eq_true] at h
  intro e
  rw [ByteArray.toList_eq] at e
  have h2 := h.2
  rw [e] at h2
  exact absurd h2 (by decide)
theorem fold_fit (el : List Elt) (nm : ByteArray) : ∀ (l o : List ByteArray), (o = [] ∨ kids13P el nm o = true) → (l.foldl (fitStep el nm) o = [] ∨ kids13P el nm (l.foldl (fitStep el nm) o) = true)
  | [], o, h => h
  | s :: l, o, h => by
    rw [List.foldl_cons]
    refine fold_fit el nm l _ ?_
    unfold fitStep
    by_cases hk : kids13P el nm (o ++ [s]) = true
    · rw [if_pos hk]
      exact .inr hk
    · rw [if_neg hk]
      exact h
theorem fit_mem {el : List Elt} {nm : ByteArray} {l : List ByteArray} {s : ByteArray} (hs : s ∈ fittingP el nm l) : s.toList = textN ∨ s.toList = commN ∨ (findP el s).isSome = true := by
  have h := fold_fit el nm (l.take 8) [] (.inl rfl)
  unfold fittingP at hs
  rcases h with h | h
  · rw [h] at hs
    simp at hs
  · unfold kids13P at h
    rw [Bool.and_eq_true, List.all_eq_true] at h
    have hb := h.1 s hs
    unfold kid13Bad at hb
    by_cases ht : s.toList = textN
    · exact .inl ht
    · by_cases hc : s.toList = commN
      · exact .inr (.inl hc)
      · refine .inr (.inr ?_)
        have h1 : (s.toList == textN) = false := by simpa using ht
        have h2 : (s.toList == commN) = false := by simpa using hc
        rw [h1, h2] at hb
        revert hb
        cases (findP el s).isSome <;> simp
theorem GoodOk.found {p q : Pol} (h : GoodOk p q) (s : ByteArray) : (findP (nEl (gNm p.elts 5)) s).isSome = (findP q.elts s).isSome := by
  rw [findP_isSome, findP_isSome, names_nEl, h.names]
theorem GoodOk.mem {p q : Pol} (h : GoodOk p q) {par s : ByteArray} (hs : s ∈ listP q par) : s.toList = textN ∨ s.toList = commN ∨ (findP q.elts s).isSome = true := by
  unfold listP at hs
  split at hs
  · rw [h.top] at hs
    have := fit_mem hs
    rwa [h.found] at this
  · cases hf : findP q.elts par with
    | none =>
      rw [hf] at hs
      simp at hs
    | some x =>
      rw [hf] at hs
      have hm := List.mem_of_find?_eq_some hf
      obtain ⟨i, hi, rfl⟩ := List.getElem_of_mem hm
      obtain ⟨hp, hk⟩ := h.kids i hi
      have hs' : s ∈ q.elts[i].kids := hs
      rw [hk] at hs'
      have := fit_mem hs'
      rwa [h.found] at this
theorem GoodOk.inside {p q : Pol} (h : GoodOk p q) (par : ByteArray) {kd : Int} (hkd : kd = 1 ∨ kd = 2 ∨ kd = 3) {nm : ByteArray} (hn : NoTag nm) : insideP q par kd nm = Lib.containsS (listP q par) (kindN kd nm) := by
  cases hc : Lib.containsS (listP q par) (kindN kd nm) with
  | false => unfold insideP; rw [hc]; simp
  | true =>
    have hm := (Lib.containsS_iff _ _).1 hc
    have h1 : (decide (par.toList = []) || (findP q.elts par).isSome) = true := by
      by_cases hp : par.toList = []
      · simp [hp]
      · cases hf : findP q.elts par with
        | some x => simp
        | none =>
          unfold listP at hm
          rw [if_neg hp, hf] at hm
          simp at hm
    have h2 : elemP q kd nm = true := by
      unfold elemP
      rcases hkd with rfl | rfl | rfl
      · have hk : kindN 1 nm = nm := rfl
        rw [hk] at hm
        rcases h.mem hm with e | e | e
        · exact absurd e hn.1
        · exact absurd e hn.2
        · rw [e]; simp
      · rfl
      · rfl
    unfold insideP
    rw [h1, h2, hc]
    rfl
theorem inside_found {q : Pol} {par : ByteArray} {nm : ByteArray} (h : insideP q par 1 nm = true) : (findP q.elts nm).isSome = true := by
  unfold insideP elemP at h
  revert h
  cases (findP q.elts nm).isSome <;> simp
/-- What Find tells of names and kids hangs on names and kids alone. -/
theorem find_pair {l m : List Elt} (h : l.map (fun e => (e.name, e.kids)) = m.map (fun e => (e.name, e.kids))) (s : ByteArray) : (findP l s).map (fun e => (e.name, e.kids)) = (findP m s).map (fun e => (e.name, e.kids)) := by
  have key : ∀ l : List Elt, (findP l s).map (fun e => (e.name, e.kids)) = (l.map (fun e => (e.name, e.kids))).find? (fun x => decide (x.1 = s)) := fun l => by
    unfold findP
    rw [List.find?_map]
    rfl
  rw [key, key, h]
theorem GoodOk.pair {p q r : Pol} (h : GoodOk p q) (k : GoodOk p r) : q.elts.map (fun e => (e.name, e.kids)) = r.elts.map (fun e => (e.name, e.kids)) := by
  have hn : q.elts.map Elt.name = r.elts.map Elt.name := h.names.trans k.names.symm
  have hl : q.elts.length = r.elts.length := by simpa using congrArg List.length hn
  apply List.ext_getElem
  · simpa using hl
  · intro i h1 h2
    rw [List.length_map] at h1 h2
    rw [List.getElem_map, List.getElem_map]
    have e1 : q.elts[i].name = r.elts[i].name := by
      have := List.getElem_of_eq hn (i := i) (by simpa using h1)
      simpa using this
    obtain ⟨hp, e2⟩ := h.kids i h1
    obtain ⟨_, e3⟩ := k.kids i h2
    rw [e2, e3, e1]
theorem inside_same {p q r : Pol} (h : GoodOk p q) (k : GoodOk p r) {par : ByteArray} (hp : par.toList ≠ []) (kd : Int) (nm : ByteArray) : insideP ⟨[], r.elts, r.unwrap⟩ par kd nm = insideP q par kd nm := by
  have hf := find_pair (h.pair k)
  have hs : ∀ s, (findP r.elts s).isSome = (findP q.elts s).isSome := fun s => by
    have := congrArg Option.isSome (hf s)
    simpa using this.symm
  have hl : listP ⟨[], r.elts, r.unwrap⟩ par = listP q par := by
    unfold listP
    rw [if_neg hp, if_neg hp]
    have := hf par
    show (match findP r.elts par with | some x => x.kids | none => []) = _
    cases h1 : findP q.elts par with
    | none =>
      rw [h1] at this
      cases h2 : findP r.elts par with
      | none => rfl
      | some y => rw [h2] at this; cases this
    | some x =>
      rw [h1] at this
      cases h2 : findP r.elts par with
      | none => rw [h2] at this; cases this
      | some y =>
        rw [h2] at this
        simp only [Option.map_some, Option.some.injEq, Prod.mk.injEq] at this
        exact this.2.symm
  unfold insideP elemP
  rw [hl]
  show ((decide (par.toList = []) || (findP r.elts par).isSome) && ((!decide (kd = 1) || (findP r.elts nm).isSome) && Lib.containsS (listP q par) (kindN kd nm))) = _
  rw [hs, hs]
theorem inside_none (r : Pol) (hr : r.top = []) (kd : Int) (nm : ByteArray) : insideP r ⟨#[]⟩ kd nm = false := by
  unfold insideP
  have : listP r ⟨#[]⟩ = [] := by unfold listP; rw [if_pos (by rw [ByteArray.toList_eq]), hr]
  rw [this, show Lib.containsS [] (kindN kd nm) = false from rfl]
  simp
theorem toList_size {s : ByteArray} {l : List UInt8} (h : s.toList = l) : s.size = l.length := by
  rw [ByteArray.toList_eq] at h
  have := congrArg List.length h
  simpa using this
theorem GoodOk.elt_plain {p q : Pol} (h : GoodOk p q) {e : Elt} (he : e ∈ q.elts) : plainP e.name = true := by
  have : e.name ∈ q.elts.map Elt.name := List.mem_map.2 ⟨e, he, rfl⟩
  rw [h.names] at this
  exact gNm_plain _ _ _ this
theorem GoodOk.mem_size {p q : Pol} (h : GoodOk p q) {par s : ByteArray} (hs : s ∈ listP q par) : s.size ≤ 16 := by
  rcases h.mem hs with e | e | e
  · rw [toList_size e]; decide
  · rw [toList_size e]; decide
  · cases hf : findP q.elts s with
    | none => rw [hf] at e; cases e
    | some x =>
      have hx := h.elt_plain (List.mem_of_find?_eq_some hf)
      have h2 : x.name = s := by
        have := List.find?_some hf
        simpa using this
      rw [← h2]
      exact plainP_size hx
theorem fit_len (el : List Elt) (nm : ByteArray) (l : List ByteArray) : (fittingP el nm l).length ≤ 8 := by
  unfold fittingP
  have := fold_len el nm (l.take 8) []
  rw [List.length_take] at this
  simp at this
  omega
theorem words_size {p : ByteArray → Bool} {n : Nat} (hp : ∀ s, p s = true → s.size ≤ n) {l : List ByteArray} (h : wordsP p l = true) : ∀ s ∈ l, s.size ≤ n := by
  unfold wordsP at h
  rw [Bool.and_eq_true, Bool.and_eq_true, List.all_eq_true] at h
  exact fun s hs => hp s (h.2.1 s hs)
theorem pick_size (b : Bool) : ∀ s, pickP b s = true → s.size ≤ 40 := by
  intro s h
  unfold pickP at h
  split at h
  · unfold schemeP at h
    simp at h
    omega
  · unfold wordP at h
    simp at h
    omega
theorem ConOk.sizes {k : Int} {ws : List ByteArray} {rx : ByteArray} (h : ConOk k ws rx) : ∀ s ∈ ws, s.size ≤ 40 := by
  rcases h.kind with ⟨_, e, _⟩ | ⟨_, _, e, _⟩ | ⟨_, e, _⟩ | ⟨_, e, _⟩
  · rw [e]; simp
  · exact words_size (pick_size false) e
  · rcases e with e | e
    · rw [e]; simp
    · exact words_size (pick_size true) e
  · rw [e]; simp
theorem GoodOk.fit {p q : Pol} (h : GoodOk p q) : q.Fit := by
  refine ⟨⟨?_, ?_⟩, ⟨?_, ?_⟩, ⟨?_, ?_⟩⟩
  · rw [h.top]
    exact Nat.le_trans (fit_len _ _ _) (by decide)
  · intro s hs
    have : s ∈ listP q ⟨#[]⟩ := by unfold listP; rw [if_pos (by rw [ByteArray.toList_eq])]; exact hs
    exact Nat.le_trans (h.mem_size this) (by decide)
  · exact Nat.le_trans h.unlen (by decide)
  · intro s hs
    exact Nat.le_trans (plainP_size (h.unplain s hs)) (by decide)
  · have h1 := congrArg List.length h.names
    rw [List.length_map] at h1
    have := (gNm_len p.elts 5).1
    omega
  · intro e he
    have hn := plainP_size (h.elt_plain he)
    have hr := h.rules e he
    obtain ⟨i, hi, rfl⟩ := List.getElem_of_mem he
    obtain ⟨hp, hk⟩ := h.kids i hi
    refine ⟨by omega, ?_, ?_, by have := hr.len; omega, ?_⟩
    · rw [hk]
      exact Nat.le_trans (fit_len _ _ _) (by decide)
    · intro s hs
      rw [hk] at hs
      have h3 : s.size ≤ 16 := by
        rcases fit_mem hs with e | e | e
        · rw [toList_size e]; decide
        · rw [toList_size e]; decide
        · rw [h.found] at e
          cases hf : findP q.elts s with
          | none => rw [hf] at e; cases e
          | some x =>
            have hx := h.elt_plain (List.mem_of_find?_eq_some hf)
            have h2 : x.name = s := by
              have := List.find?_some hf
              simpa using this
            rw [← h2]
            exact plainP_size hx
      omega
    · intro r hrm
      have ho := hr.ok r hrm
      have := ho.size
      have := ho.2.len
      exact ⟨by omega, by omega, fun s hs => Nat.le_trans (ho.2.sizes s hs) (by decide)⟩
end Go.Proofs.YtghlodpbbghcoaaGreatDoor
