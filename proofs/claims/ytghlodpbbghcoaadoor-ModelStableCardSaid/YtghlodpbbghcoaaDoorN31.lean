/- Whether nodes may be, by the document: walked. -/
import Derived.Test.YtghlodpbbghcoaaDoorN30
import Derived.Test.YtghlodpbbghcoaaDoorN18
import Derived.Test.YtghlodpbbghcoaaDoorN10
import Derived.StillTailTactics
import Derived.IntWalk
namespace Go.Proofs.YtghlodpbbghcoaaDoor
open Go.Lib Go.RowKit Go.Shelf
/-- The walk of a region's head, kept from being unfolded. -/
structure WS (P : Program) (ops : Array Oper) (w : World) (Q : Act → Prop) (L : List Oper) (a : Act) : Prop where
  out : wpStill P ops w Q L a
theorem ws_want {P : Program} {ops : Array Oper} {w : World} {Q : Act → Prop} {a : Act} {o : Oper} {rest : List Oper} (hw : Region.wanted o (yielded ops a.tmps) = true)
    (h : ∀ K : Act → Prop, (∀ a, WS P ops w Q rest a → K a) → o.still P a w K) : WS P ops w Q (o :: rest) a := ⟨wpStill_step (fun K hK => by rw [if_pos hw]; exact h K (fun a h => hK a h.out))⟩
theorem ws_pass {P : Program} {ops : Array Oper} {w : World} {Q : Act → Prop} {a : Act} {o : Oper} {rest : List Oper} (hw : Region.wanted o (yielded ops a.tmps) = false)
    (h : WS P ops w Q rest (a.put o.dst undef)) : WS P ops w Q (o :: rest) a := ⟨wpStill_step (fun K hK => by rw [if_neg (by rw [hw]; decide)]; exact hK _ h.out)⟩
theorem ws_nil {P : Program} {ops : Array Oper} {w : World} {Q : Act → Prop} {a : Act} (h : Q a) : WS P ops w Q [] a := ⟨wpStill_nil h⟩
/-- WHAT the document's May DOES AT NODES. -/
def MayRef (g : Fo) : Prop := ∀ (A : Option Addr) (cap : Nat) (B : Nat) (w : World), okF 400000 g → g.size ≤ 1000 → g.len ≤ cap → B ≤ w.heap.size → (0 < g.len → ∃ b o, A = some ⟨b, o, none⟩ ∧ RowAt w B b o g) → Calls Tryd.prog 36 #[.slice A g.len cap] w (ErrPost (mayB g) w)

set_option maxRecDepth 100000 in
set_option maxHeartbeats 6400000 in
theorem may36_step (g : Fo) (ih : ∀ f : Fo, f.size < g.size → MayRef f) : MayRef g := by
  intro A cap B w hok hs hcap hBw hrow
  have hgl := Fo.len_size g
  obtain ⟨n, hn⟩ : ∃ n, g.len = n := ⟨_, rfl⟩
  rw [hn] at hcap hrow hgl ⊢
  obtain ⟨R, hR⟩ : ∃ R, mayB g = R := ⟨_, rfl⟩
  rw [hR]
  have hR2 : Hid (mayB g = R) := Lib.hid hR
  replace hn := Lib.hid hn
  replace ih := Lib.hid ih
  clear hR
  go_enter Tryd.func36, Tryd.ntmps36
  go_wp2
  go_loopw [3] (fun x3 wr => ∃ i : Nat, i ≤ n ∧ x3 = .int .i64 i ∧ Hid ((nodesOf (Fo.drop false g i).1 (Fo.drop false g i).2).all Dt.good = R) ∧ Hid (Below w.heap.size w wr)) (fun x3 _ => n - (Lib.intOf x3).toNat)
  case atStart => exact ⟨0, Nat.zero_le _, rfl, Lib.hid (by rw [Fo.drop_zero]; exact hR2.out), Lib.hid (Below.refl _ _)⟩
  case round =>
    obtain ⟨i, hin, rfl, hres, hB⟩ := hrel
    by_cases hlt : i < n
    · obtain ⟨b, o, rfl, hrw⟩ := hrow (by omega)
      have hdl := Fo.drop_len g i false
      have hdr := RowAt.drop i false hrw
      have hokd := okF_drop g i false hok
      have hds := Fo.drop_size g i false
      have hres' := hres.out
      cases hd : Fo.drop false g i with
      | mk q gi =>
      rw [hd] at hdl hdr hokd hds hres'
      cases gi with
      | nil => exfalso; have := hn.out; simp only [Fo.len] at hdl; omega
      | node kd nm al tx kids rest =>
      have hnx := Fo.drop_node hd
      obtain ⟨hb, h0, h1, ⟨va, h2, h2'⟩, h3, ⟨A4, cap4, h4, hc4, hk4⟩, -⟩ := hdr
      obtain ⟨hnz, hok2, htz, hokk, -⟩ := hokd
      simp only [Fo.size] at hds
      have hat := h2'
      obtain ⟨Aa, capa, rfl, hca, -⟩ := h2'
      have hbw : b < w.heap.size := Nat.lt_of_lt_of_le hb hBw
      have c0 := (hB.out.cell (p := ⟨b, o + i * 5, none⟩) hbw).trans h0
      have c1 := (hB.out.cell (p := ⟨b, o + i * 5 + 1, none⟩) hbw).trans h1
      have c2 := (hB.out.cell (p := ⟨b, o + i * 5 + 2, none⟩) hbw).trans h2
      have c3 := (hB.out.cell (p := ⟨b, o + i * 5 + 3, none⟩) hbw).trans h3
      have c4 := (hB.out.cell (p := ⟨b, o + i * 5 + 4, none⟩) hbw).trans h4
      have hone : Hid (∀ wr', Below w.heap.size w wr' → Calls Tryd.prog 57 #[.agg #[.int .i64 kd, .string nm, .slice Aa al.length capa, .string tx, .slice A4 kids.len cap4], .bool q] wr' (ErrPost (checkB kd nm al tx kids.len q) wr')) := Lib.hid (fun wr' hb' =>
        one57_any kd nm tx (.slice Aa al.length capa) A4 kids.len cap4 al q B wr' (Nat.le_trans hBw hb'.size) (hat.below (hb'.mono hBw)) (by omega) (by omega) (by have := hok2.1; omega) (fun p hp => by have := hok2.2 p hp; omega))
      have hkid : Hid (∀ wr', Below w.heap.size w wr' → Calls Tryd.prog 36 #[.slice A4 kids.len cap4] wr' (ErrPost (mayB kids) wr')) := Lib.hid (fun wr' hb' =>
        ih.out kids (by omega) A4 cap4 B wr' hokk (by omega) hc4 (Nat.le_trans hBw hb'.size) (fun hp => by obtain ⟨b', o', e, h⟩ := hk4 hp; exact ⟨b', o', e, h.below (hb'.mono hBw)⟩))
      have hprev : Hid (0 < i → ∃ k' : Int, wr.cell? ⟨b, o + (i - 1) * 5, none⟩ = some (.int .i64 k') ∧ (k' == 2) = q) := Lib.hid (fun hpos => by
        obtain ⟨j, hj⟩ : ∃ j, i = j + 1 := ⟨i - 1, by omega⟩
        rw [hj] at hd
        obtain ⟨k', nm', al', tx', kids', rest', hg', hp⟩ := Fo.drop_behind hd (by rw [hn.out]; omega)
        have hr' := hrw.drop j false
        rw [hg'] at hr'
        refine ⟨k', ?_, by rw [hp]; rfl⟩
        rw [hj, Nat.add_sub_cancel]
        exact (hB.out.cell (p := ⟨b, _, none⟩) hbw).trans hr'.2.1)
      have hq0 : Hid (i = 0 → q = false) := Lib.hid (fun h => by rw [h, Fo.drop_zero] at hd; exact (Prod.mk.inj hd).1.symm)
      simp only [nodesOf, List.all_cons, List.all_append] at hres'
      obtain ⟨cb, hcb⟩ : ∃ cb, checkB kd nm al tx kids.len q = cb := ⟨_, rfl⟩
      obtain ⟨mk, hmk⟩ : ∃ mk, mayB kids = mk := ⟨_, rfl⟩
      have hresn : Hid ((cb && (mk && (nodesOf (Fo.drop false g (i + 1)).1 (Fo.drop false g (i + 1)).2).all Dt.good)) = R) := Lib.hid (by
        rw [hnx, ← hcb, ← hmk]
        exact hres')
      rw [hcb] at hone
      rw [hmk] at hkid
      obtain ⟨na, hna⟩ : ∃ na, al.length = na := ⟨_, rfl⟩
      obtain ⟨nk, hnk⟩ : ∃ nk, kids.len = nk := ⟨_, rfl⟩
      rw [hna] at c2 hone
      rw [hnk] at c4 hone hkid h4
      have h4w : Hid (∀ wr', Below w.heap.size w wr' → wr'.cell? ⟨b, o + i * 5 + 4, none⟩ = some (.slice A4 nk cap4)) := Lib.hid (fun wr' hb' => (hb'.cell (p := ⟨b, _, none⟩) hbw).trans h4)
      have hi0 : (0 : Int) ≤ (i : Int) := by omega
      have hi1 : (i : Int) < (n : Int) := by omega
      clear h0 h1 h2 h3 h4 hk4 hat hcb hmk hna hnk hres hres' hnx hd hdl hrw hds hok2 hca hc4
      go_upto_region 4 with fail
      go_cut [4] (fun v wx => ∃ x : Int, v = .int .i64 x ∧ Hid (decide (x = 0) = cb) ∧ Hid (Below w.heap.size w wx))
      case first =>
        have hBq : Hid (Below w.heap.size w wr.drew) := Lib.hid hB.out.drew
        have hone2 := hone.out _ hBq.out
        clear hone h4w hkid
        by_cases hpos : 0 < i
        · obtain ⟨k', cp, hkq⟩ := hprev.out hpos
          obtain ⟨j, hj⟩ : ∃ j, i - 1 = j := ⟨_, rfl⟩
          rw [hj] at cp
          have hi3 : IntKind.i64.wrap ((i : Int) - 1) = (j : Int) := by
            rw [IntWalk.i64_in _ (by omega)]
            omega
          have hj0 : (0 : Int) ≤ (j : Int) := by omega
          have hj1 : (j : Int) < (n : Int) := by omega
          have hgd2 : decide (0 < i) = true := decide_eq_true hpos
          clear hprev hq0 hpos hj
          go_still_tail 15, (by kernel_rfl)
          change wpList _ _ _ _ _ wr.drew
          generalize wr.drew = w2 at hone2 hBq ⊢
          go_wp2_with (go_at_call 57; refine hone2.mono ?_; rintro e5 w5 ⟨x, rfl, hx, hB5⟩)
          go_meet
          exact ⟨x, rfl, hx, Lib.hid (hBq.out.trans (hB5.mono hBq.out.size))⟩
        · have hq := hq0.out (by omega)
          subst hq
          obtain rfl : i = 0 := by omega
          have hn1 : (0 : Int) < (n : Int) := by omega
          clear hprev hq0 hpos hi0 hi1 hin hrow hok hokk hresn hR2 hn hs hgl hcap hbw hb hnz htz hBw ih hB
          simp only [Nat.zero_mul, Nat.add_zero] at c0 c1 c2 c3 c4
          rw [show (((0 : Nat) : Int)) = 0 from rfl]
          refine wp_region_still_tail 15 (by kernel_rfl) (by kernel_rfl) ?_
          simp only [List.take_succ_cons, List.take_zero, List.drop_succ_cons, List.drop_zero]
          refine WS.out ?_
          iterate 15 first | (refine ws_want (by rfl) (fun K hK => ?_); go_simp; refine hK _ ?_; clear hK K) | (refine ws_pass (by rfl) ?_)
          refine ws_nil ?_
          change wpList _ _ _ _ _ wr.drew
          generalize wr.drew = w2 at hone2 hBq ⊢
          go_wp2_with (go_at_call 57; refine hone2.mono ?_; rintro e5 w5 ⟨x, rfl, hx, hB5⟩)
          go_meet
          exact ⟨x, rfl, hx, Lib.hid (hBq.out.trans (hB5.mono hBq.out.size))⟩
      case rest =>
      obtain ⟨x, rfl, hx, hB7⟩ := hcut
      clear c0 c1 c2 c3 hone hprev hq0
      obtain ⟨w7, rfl⟩ : ∃ w7 : World, w7 = wc := ⟨_, rfl⟩
      cases cb with
      | false =>
        have hx0 : ¬ x = 0 := of_decide_eq_false hx.out
        have e2 : R = false := by rw [← hresn.out]; simp
        clear hresn hR2
        subst e2
        go_wp2
        go_ret
        exact ⟨x, rfl, decide_eq_false hx0, hB7.out⟩
      | true =>
        obtain rfl : x = 0 := of_decide_eq_true hx.out
        have hres3 : Hid ((mk && (nodesOf (Fo.drop false g (i + 1)).1 (Fo.drop false g (i + 1)).2).all Dt.good) = R) := Lib.hid (by rw [← hresn.out]; simp)
        have y4 : w7.cell? ⟨b, o + i * 5 + 4, none⟩ = some (.slice A4 nk cap4) := h4w.out w7 hB7.out
        have hkc := hkid.out w7 hB7.out
        clear hresn c4
        cases mk with
        | false =>
          have e2 : R = false := by rw [← hres3.out]; simp
          clear hres3 hR2
          subst e2
          go_wp2_with (go_at_call 36; refine hkc.mono ?_; rintro e8 w8 ⟨x2, rfl, hx2, hB8⟩; have hx20 : ¬ x2 = 0 := of_decide_eq_false hx2)
          go_ret
          exact ⟨x2, rfl, decide_eq_false hx20, hB7.out.trans (hB8.mono hB7.out.size)⟩
        | true =>
          have hr5 : Hid ((nodesOf (Fo.drop false g (i + 1)).1 (Fo.drop false g (i + 1)).2).all Dt.good = R) := Lib.hid (by rw [← hres3.out]; simp)
          go_wp2_with (go_at_call 36; refine hkc.mono ?_; rintro e8 w8 ⟨x2, rfl, hx2, hB8⟩; obtain rfl : x2 = 0 := of_decide_eq_true hx2)
          exact ⟨⟨i + 1, by omega, by simp, hr5, Lib.hid (hB7.out.trans (hB8.mono hB7.out.size))⟩, by simp [Lib.intOf]; omega⟩
    · have hin2 : i = n := by omega
      have hdn : (Fo.drop false g i).2 = .nil := by
        have h := Fo.drop_len g i false
        cases hd : (Fo.drop false g i).2 with
        | nil => rfl
        | node => rw [hd] at h; simp only [Fo.len] at h; have := hn.out; omega
      have hRt : R = true := by have := hres.out; rw [hdn] at this; exact this.symm
      subst hRt
      clear hres hdn
      subst hin2
      go_wp2
      go_ret
      exact ⟨0, rfl, rfl, hB.out⟩
theorem may36_ok (g : Fo) : MayRef g := by
  obtain ⟨n, hn⟩ : ∃ n, g.size = n := ⟨_, rfl⟩
  induction n using Nat.strongRecOn generalizing g with
  | _ n ih =>
    subst hn
    exact may36_step g (fun f hf => ih _ hf f rfl)
end Go.Proofs.YtghlodpbbghcoaaDoor
