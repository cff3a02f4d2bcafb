/- A line read: walked, where it may be. -/
import Derived.Test.YtghlodpbbghcoaaGreatDoorRD
namespace Go.Proofs.YtghlodpbbghcoaaGreatDoor
open Go.Lib Go.RowKit Go.Maps
theorem info30g : (Tryz.prog.info? 30).map (fun i => (i.zero, i.size, i.bytes)) = some (some (.agg #[.string ⟨#[]⟩, .slice none 0 0, .slice none 0 0]), 3, 64) := by kernel_rfl
theorem below_dN {n : Nat} {w : World} (k : Nat) : Below n w (w.drewN k) := ⟨rfl, rfl, rfl, Nat.le_refl _, fun _ _ => rfl⟩
theorem blk_other {w : World} {b X : Nat} (h : b ≠ X) {i : Nat} (u : Value) : (w.setCell ⟨X, i, none⟩ u).heap[b]? = w.heap[b]? := Below.heap_setCell w ⟨X, i, none⟩ u b h
def newP (P : Nat → Prop) (w w' : World) : Nat → Prop := fun k => P k ∨ (w.heap.size ≤ k ∧ k < w'.heap.size)
set_option maxRecDepth 8192 in
set_option maxHeartbeats 6400000 in
theorem line_any (X : Nat) (st : Rd) (n : Nat) (vx : Value) (texts : List ByteArray) (Q : Nat → Prop) (Aq : Option Addr) (cq : Nat) (qs : List Bool) (st' : Rd) (w : World)
    (hrd : Reads w X st n) (hne : 4 ≤ st.stage → st.pol.elts ≠ []) (hs5 : st.stage ≤ 5) (hn : n ≤ 2000000) (hvx : StrsAt w Q vx texts) (hQ : ∀ k, Q k → k < w.heap.size) (hl : texts.length ≤ 2000000) (hfl : FlagsAt w Aq qs) (hcq : qs.length ≤ cq) (hql : qs.length ≤ 2000000) (hr : lineP st texts qs = (st', true)) :
    Calls Tryz.prog 48 #[.pointer (some ⟨X, 0, none⟩), vx, .slice Aq qs.length cq] w (ReadPost X st' (n + 1) w) := by
  obtain ⟨stg, pol⟩ := st
  obtain ⟨word, rest, q2, rfl, rfl, hway⟩ := lineP_true hr hs5
  clear hr
  simp only at hne hs5
  obtain ⟨A, nr, capr, rfl, hnr, hcr, hat⟩ := hvx.form
  obtain ⟨b, o, rfl, hQb, hcell⟩ := hat (by rw [hnr]; simp)
  obtain ⟨bq, oq, rfl, hbq, hqc⟩ := hfl (by simp)
  have c0 := hcell 0 (by simp)
  have q0 := hqc 0 (by simp)
  simp only [List.getElem_cons_zero, Nat.add_zero] at c0 q0
  have hbw : Hid (b < w.heap.size) := Lib.hid (hQ b hQb)
  have hargs := hvx.tail 1 (by rw [hnr]; simp)
  have hflags := hfl.tail 1
  simp only [List.drop_succ_cons, List.drop_zero] at hargs hflags
  have hnr2 : nr = rest.length + 1 := by rw [hnr]; simp
  have hql2 : (false :: q2).length = q2.length + 1 := by simp
  have hhas : Hid (∀ wx, Below w.heap.size w wx → Calls Tryz.prog 79 #[.slice (some ⟨bq, oq, none⟩) (q2.length + 1) cq, .bool true] wx (FlagPost (q2.any id) wx)) := Lib.hid (fun wx hb => by
    have := hasFlag_any _ cq (false :: q2) true wx (hfl.below hb) hcq (by simp at hql ⊢; omega)
    rw [hql2] at this
    have e : (false :: q2).any (· == true) = q2.any id := by
      rw [List.any_cons]
      have : (fun x : Bool => x == true) = id := by funext x; cases x <;> rfl
      rw [this]
      rfl
    rw [e] at this
    exact this)
  rw [hql2] at hcq hql ⊢
  subst hnr2
  simp only [Nat.add_sub_cancel] at hargs
  have hclone : Hid (∀ wx, Below w.heap.size w wx → ∀ o' c', (o' = o + 1 ∧ c' = capr - 1) ∨ rest.length = 0 → Calls Tryz.prog 78 #[.slice (some ⟨b, o', none⟩) rest.length c'] wx (ClonePost rest wx)) := Lib.hid (fun wx hb o' c' ho => by
    rcases ho with ⟨rfl, rfl⟩ | h0
    · exact clone_any _ _ Q wx (hargs.move (Stays.below hb hQ) (fun _ h => h)) (by simp at hl; omega)
    · have : rest = [] := List.eq_nil_of_length_eq_zero h0
      subst this
      exact clone_any _ _ Q wx (CRow.some_nil wx Q 1 _ _) (by simp))
  have hqtail : Hid (∀ wx, Below w.heap.size w wx → ∀ o', o' = oq + 1 ∨ q2.length = 0 → FlagsAt wx (some ⟨bq, o', none⟩) q2) := Lib.hid (fun wx hb o' ho => by
    rcases ho with rfl | h0
    · exact hflags.below hb
    · exact fun h => absurd h (by omega))
  clear hcell hqc hat hfl hvx hargs hflags hnr hQb
  obtain ⟨na, hna⟩ : ∃ na, rest.length = na := ⟨_, rfl⟩
  obtain ⟨nq, hnq⟩ : ∃ nq, q2.length = nq := ⟨_, rfl⟩
  have hl2 : na ≤ 2000000 := by rw [← hna]; simp at hl; omega
  obtain ⟨had, hhad⟩ : ∃ had, q2.any id = had := ⟨_, rfl⟩
  clear hl
  rw [hna] at hclone hcr ⊢
  rw [hnq] at hhas hcq hql hqtail ⊢
  rw [hhad] at hhas hway
  replace hna := Lib.hid hna
  replace hnq := Lib.hid hnq
  replace hway := Lib.hid hway
  replace hne := Lib.hid hne
  replace hhad := Lib.hid hhad
  obtain ⟨vt, ve, vu, cs, rc, P, hR0, hcs, hrc⟩ := hrd
  have hXw : X < w.heap.size := hR0.lt
  replace hR0 := Lib.hid hR0
  go_enter Tryz.func48, Tryz.ntmps48
  go_upto_region 1 with fail
  go_cut [7, 8] (fun x7 x8 wx => x7 = .string word ∧ (∃ (Av : Option Addr) (cv : Nat), x8 = .slice Av na cv ∧ Hid (OwnS wx w.heap.size (.slice Av na cv) rest)) ∧ Hid (Below w.heap.size w wx))
  case first =>
    have hS : Hid (∀ W, Below w.heap.size w W → W.cell? ⟨b, o, none⟩ = some (.string word)) := Lib.hid (fun W hW => (hW.cell (p := ⟨b, o, none⟩) hbw.out).trans c0)
    have e2 := hclone.out
    have hna0 := hna.out
    replace hna0 := Lib.hid hna0
    have i1 : (1 : Int) ≤ (na : Int) + 1 := by omega
    have i2 : (0 : Int) < (na : Int) + 1 := by omega
    clear hclone q0 hhas hqtail
    by_cases hc2 : capr = 1
    · subst hc2
      obtain rfl : na = 0 := by omega
      have e3 := Lib.hid (fun wx hb => e2 wx hb o 0 (.inr rfl))
      clear e2
      go_region_held3 (fun W => W.cell? ⟨b, o, none⟩ = some (.string word)) (first | with_reducible exact hS.out _ (Below.refl _ _).drew | with_reducible exact hS.out _ hB5.out | with_reducible exact hS.out _ hB5.out.drew) (first | (go_at_call 78; refine (e3.out _ (Below.refl _ _).drew).mono ?_; rintro e5 w5 ⟨v5, rfl, ho5, hB5'⟩; obtain ⟨A5, c5, rfl, -⟩ := own_form ho5; have hB5 : Hid (Below w.heap.size w w5) := Lib.hid ((Below.refl w.heap.size w).drew.trans hB5'); clear hB5'))
      all_goals go_wp2
      all_goals go_meet
      all_goals exact ⟨rfl, ⟨A5, c5, by rw [hna0.out], Lib.hid (by rw [hna0.out] at ho5; exact ho5)⟩, hB5⟩
    · have e3 := Lib.hid (fun wx hb => e2 wx hb (o + 1) (capr - 1) (.inl ⟨rfl, rfl⟩))
      clear e2
      go_region_held3 (fun W => W.cell? ⟨b, o, none⟩ = some (.string word)) (first | with_reducible exact hS.out _ (Below.refl _ _).drew | with_reducible exact hS.out _ hB5.out | with_reducible exact hS.out _ hB5.out.drew) (first | (go_at_call 78; refine (e3.out _ (Below.refl _ _).drew).mono ?_; rintro e5 w5 ⟨v5, rfl, ho5, hB5'⟩; obtain ⟨A5, c5, rfl, -⟩ := own_form ho5; have hB5 : Hid (Below w.heap.size w w5) := Lib.hid ((Below.refl w.heap.size w).drew.trans hB5'); clear hB5'))
      all_goals go_wp2
      all_goals go_meet
      all_goals exact ⟨rfl, ⟨A5, c5, by rw [hna0.out], Lib.hid (by rw [hna0.out] at ho5; exact ho5)⟩, hB5⟩
  case rest =>
  obtain ⟨rfl, ⟨Av, cv, rfl, hown⟩, hBc⟩ := hcut
  obtain ⟨w2, hw2⟩ : ∃ w2 : World, w2 = wc := ⟨_, rfl⟩
  rw [← hw2] at hown hBc ⊢
  clear hw2 hclone c0
  clear wc
  have hR : Hid (RdAt w2 X ⟨stg, pol⟩ vt ve vu cs rc (newP P w w2)) := Lib.hid (hR0.out.more hBc.out)
  have hstr : Hid (StrsAt w2 (newP P w w2) (.slice Av na cv) rest) := Lib.hid (hown.out.fresh.move (Stays.refl _ _) (fun _ h => .inr h))
  have hK : Hid (KeepR X w w2) := Lib.hid (KeepR.of_below hBc.out)
  replace q0 : w2.cell? ⟨bq, oq, none⟩ = some (.bool false) := (hBc.out.cell (p := ⟨bq, oq, none⟩) hbq).trans q0
  have e2 := hhas.out w2 hBc.out
  have i1 : (0 : Int) < (nq : Int) + 1 := by omega
  go_upto_region 5 with (go_at_call 79; refine e2.mono ?_; rintro e5 w5 ⟨rfl, e6⟩; obtain rfl := e6.symm)
  clear e2 hhas q0 hR0
  clear e6
  obtain ⟨At, nt, ct, rfl, -, -, -⟩ := hR.out.top.form
  obtain ⟨Au, nu, cu, rfl, -, -, -⟩ := hR.out.unwrap.form
  obtain ⟨Ae, ce, rfl, -⟩ := own_form hR.out.own
  have b0 := blk_cell hR.out.box 0
  have b1 := blk_cell hR.out.box 1
  have b3 := blk_cell hR.out.box 3
  have f0 := blk_frozen hR.out.box 0
  have f1 := blk_frozen hR.out.box 1
  have f2 := blk_frozen hR.out.box 2
  have f3 := blk_frozen hR.out.box 3
  have b2 := blk_cell hR.out.box 2
  have hbt : Hid (∃ o, w2.heap[X]? = some o ∧ rdType o) := Lib.hid ⟨_, hR.out.box, .inl rfl⟩
  rcases hway.out with ⟨rfl, rfl, hw, hre, rfl⟩ | ⟨rfl, rfl, hw, rfl⟩ | ⟨rfl, rfl, hw, rfl⟩ | ⟨rfl, rfl, hw, rfl⟩ | ⟨hst, rfl, hw, nm, hre, rfl⟩ | ⟨rfl, hw, r, hru, rfl⟩
  · have t1 : word.toList = [115, 116, 114, 97, 105, 110, 101, 114] := (lit_eq word (t := wFirst) rfl).2 hw
    replace hw := Lib.hid hw
    clear hqtail hstr
    obtain rfl : na = 1 := by rw [← hna.out, hre]; rfl
    replace hre := Lib.hid hre
    clear hna
    go_upto_region 8 with fail
    obtain ⟨w3, hw3⟩ : ∃ w3, w2.setCell ⟨X, 3, none⟩ (.int .i64 1) = w3 := ⟨_, rfl⟩
    have hR3 : Hid (RdAt w3 X ⟨1, pol⟩ (.slice At nt ct) (.slice Ae cs.length ce) (.slice Au nu cu) cs rc (newP P w w2)) := Lib.hid (by rw [← hw3]; exact hR.out.stage 1)
    have hK3 : Hid (KeepR X w w3) := Lib.hid (by rw [← hw3]; exact hK.out.trans (KeepR.set (p := ⟨X, 3, none⟩) (Nat.le_refl _) hbt.out _))
    have hown3 : Hid (OwnS w3 w.heap.size (.slice Av 1 cv) rest) := Lib.hid (by rw [← hw3]; exact ownsRow_setCell_other hown.out (a := ⟨X, 3, none⟩) (own_ne hown.out hR.out.box (by decide)) _)
    rw [hw3]
    clear hw3 b0 b1 b2 b3 f0 f1 f2 f3 hbt hR hown hK
    obtain ⟨w4, hw4⟩ : ∃ w4, w3.alloc (.cells #[.string ⟨#[49]⟩] 9) = w4 := ⟨_, rfl⟩
    have hB4 : Hid (Below w3.heap.size w3 w4) := Lib.hid (by rw [← hw4]; exact (Below.refl _ _).alloc (Nat.le_refl _) _)
    have heq : Calls Tryz.prog 64 #[.slice Av 1 cv, .slice (some ⟨w3.heap.size, 0, none⟩) 1 1] w4 fun e w' => e = .returned (.bool true) ∧ ∃ q, w' = w4.drewN q := by
      have ho := hown3.out
      rw [hre.out] at ho
      rcases ho.form with ⟨h0, _⟩ | ⟨g, cap, e, hg1, hg2, hcap, hcells⟩
      · cases h0
      · simp only [Value.slice.injEq] at e
        obtain ⟨rfl, _, rfl⟩ := e
        have hc0 := hcells 0 (.string wOne) rfl
        have h := Tryz.slices_Equal_string g 0 1 cv w3.heap.size 0 1 1 [wOne] [wOne] w4 (by decide) (by decide) (by decide) (by decide)
          (fun j hj => by
            obtain rfl : j = 0 := by simpa using hj
            exact (hB4.out.cell (p := ⟨g, 0, none⟩) hg2).trans hc0)
          (fun j hj => by
            obtain rfl : j = 0 := by simpa using hj
            rw [← hw4]
            exact blk_cell (blk_new _ _) 0)
        rw [show decide (List.take 1 [wOne] = List.take 1 [wOne]) = true from decide_eq_true rfl] at h
        exact h
    replace hown3 := Lib.hid hown3
    go_wp2_with (go_at_call 64; refine heq.mono ?_; rintro e5 w5 ⟨rfl, q, rfl⟩)
    go_ret
    exact ⟨rfl, ⟨_, _, _, cs, rc, _, (hR3.out.carry hB4.out).carry (below_dN q), by omega, by omega⟩, (hK3.out.trans (KeepR.of_below hB4.out)).trans (KeepR.of_below (below_dN q))⟩
  · have t1 : word.toList = [116, 111, 112] := (lit_eq word (t := wTop) rfl).2 hw
    replace hw := Lib.hid hw
    clear hqtail
    go_wp2
    go_ret
    refine ⟨rfl, ⟨_, _, _, cs, rc, _, (hR.out.stage 2).setTop (hstr.out.move (hR.out.boxed 3 _) (fun _ h => h)), by omega, by omega⟩, (hK.out.trans (KeepR.set (p := ⟨X, 3, none⟩) (Nat.le_refl _) hbt.out _)).trans (KeepR.set (p := ⟨X, 0, none⟩) (Nat.le_refl _) ⟨_, (hR.out.stage 2).box, .inl rfl⟩ _)⟩
  · have t1 : word.toList = [117, 110, 119, 114, 97, 112] := (lit_eq word (t := wUnwrap) rfl).2 hw
    replace hw := Lib.hid hw
    clear hqtail
    go_wp2
    go_ret
    refine ⟨rfl, ⟨_, _, _, cs, rc, _, (hR.out.stage 3).setUnwrap (hstr.out.move (hR.out.boxed 3 _) (fun _ h => h)), by omega, by omega⟩, (hK.out.trans (KeepR.set (p := ⟨X, 3, none⟩) (Nat.le_refl _) hbt.out _)).trans (KeepR.set (p := ⟨X, 2, none⟩) (Nat.le_refl _) ⟨_, (hR.out.stage 3).box, .inl rfl⟩ _)⟩
  · have t1 : word.toList = [107, 105, 100, 115] := (lit_eq word (t := wKids) rfl).2 hw
    replace hw := Lib.hid hw
    clear hqtail
    have hcne : cs ≠ [] := fun e => hne.out (by decide) (by rw [← hR.out.elts, e]; rfl)
    obtain ⟨ini, c, rfl⟩ : ∃ ini c, cs = ini ++ [c] := ⟨cs.dropLast, cs.getLast hcne, (List.dropLast_concat_getLast hcne).symm⟩
    obtain ⟨g, cap, hve, hXg, hgw⟩ := hR.out.veOf
    simp only [Value.slice.injEq] at hve
    obtain ⟨rfl, hve2, rfl⟩ := hve
    rw [hve2] at hR b0 b1 b2 b3
    go_upto_region 17 with fail
    obtain ⟨w3, hw3⟩ : ∃ w3, w2.setCell ⟨X, 3, none⟩ (.int .i64 5) = w3 := ⟨_, rfl⟩
    have hR3 : Hid (RdAt w3 X ⟨5, pol⟩ (.slice At nt ct) (.slice (some ⟨g, 0, none⟩) (ini.length + 1) ce) (.slice Au nu cu) (ini ++ [c]) rc (newP P w w2)) := Lib.hid (by rw [← hw3]; exact hR.out.stage 5)
    have hK3 : Hid (KeepR X w w3) := Lib.hid (by rw [← hw3]; exact hK.out.trans (KeepR.set (p := ⟨X, 3, none⟩) (Nat.le_refl _) hbt.out _))
    have hst3 : Hid (StrsAt w3 (newP P w w2) (.slice Av na cv) rest) := Lib.hid (by rw [← hw3]; exact hstr.out.move (hR.out.boxed 3 _) (fun _ h => h))
    rw [hw3]
    clear hw3 b0 b1 b2 b3 f0 f1 f2 f3 hbt hR hown hK hstr hcne hve2
    obtain ⟨i, hi⟩ : ∃ i, ini.length = i := ⟨_, rfl⟩
    have hil : i ≤ 2000000 := by rw [← hi]; simp at hcs; omega
    have x1 : w3.cell? ⟨X, 1, none⟩ = some (.slice (some ⟨g, 0, none⟩) (i + 1) ce) := by rw [← hi]; exact blk_cell hR3.out.box 1
    obtain ⟨cur, hgb⟩ := hR3.out.gblk
    have y1 : w3.cell? ⟨g, i * 3 + 1, none⟩ = some c.vk := by
      have := hR3.out.cellLast (j := 1) (by decide)
      rw [hi] at this
      exact this
    have y2 : w3.frozen? ⟨g, i * 3 + 1, none⟩ = false := blk_frozen hgb _
    replace hgb := Lib.hid hgb
    replace hi := Lib.hid hi
    have j0 : (0 : Int) ≤ (i : Int) := by omega
    have j1 : (i : Int) < (i : Int) + 1 := by omega
    go_region
    all_goals go_wp2
    all_goals go_ret
    all_goals
      have hset := hR3.out.setKids rfl hst3.out
      rw [hi.out] at hset
      refine ⟨rfl, ⟨_, _, _, _, _, _, hset.carry (below_dN 1), by simpa using Nat.le_succ_of_le hcs, by omega⟩, ?_⟩
      exact (hK3.out.trans (KeepR.set (p := ⟨g, i * 3 + 1, none⟩) (Nat.le_of_lt hXg) ⟨_, hgb.out, .inr (.inl rfl)⟩ _)).trans (KeepR.of_below (below_dN 1))
  · have t1 : word.toList = [101, 108, 101, 109, 101, 110, 116] := (lit_eq word (t := wElement) rfl).2 hw
    replace hw := Lib.hid hw
    clear hqtail
    obtain rfl : na = 1 := by rw [← hna.out, hre]; rfl
    obtain ⟨A5, n5, c5, e5, hn5, -, hat5⟩ := hstr.out.form
    simp only [Value.slice.injEq] at e5
    obtain ⟨rfl, rfl, rfl⟩ := e5
    obtain ⟨b5, o5, rfl, hb5, hcell5⟩ := hat5 (by decide)
    have a0 := hcell5 0 (by rw [hre]; simp)
    have a1 : rest[0]'(by rw [hre]; simp) = nm := by simp only [hre]; rfl
    rw [a1, Nat.add_zero] at a0
    clear a1 hcell5 hat5 hn5 hstr hown hna
    replace hre := Lib.hid hre
    have hX5 : Hid (b5 ≠ X) := Lib.hid (fun e => by have := (hR.out.lists b5 hb5).1; omega)
    rcases hst with rfl | rfl
    · go_upto_region 23 with fail
      obtain ⟨w3, hw3⟩ : ∃ w3, w2.setCell ⟨X, 3, none⟩ (.int .i64 4) = w3 := ⟨_, rfl⟩
      have hR3 : Hid (RdAt w3 X ⟨4, pol⟩ (.slice At nt ct) (.slice Ae cs.length ce) (.slice Au nu cu) cs rc (newP P w w2)) := Lib.hid (by rw [← hw3]; exact hR.out.stage 4)
      have hK3 : Hid (KeepR X w w3) := Lib.hid (by rw [← hw3]; exact hK.out.trans (KeepR.set (p := ⟨X, 3, none⟩) (Nat.le_refl _) hbt.out _))
      replace a0 : w3.cell? ⟨b5, o5, none⟩ = some (.string nm) := by rw [← hw3]; exact (World.cell?_of_block (w := w2) (blk_other hX5.out _)).trans a0
      rw [hw3]
      clear hw3 b0 b1 b2 b3 f0 f1 f2 f3 hbt hR hK hne
      have x1 : w3.cell? ⟨X, 1, none⟩ = some (.slice Ae cs.length ce) := blk_cell hR3.out.box 1
      have z1 : ∀ oo, (w3.alloc oo).cell? ⟨X, 1, none⟩ = some (.slice Ae cs.length ce) := fun oo => blk_cell (blk_alloc hR3.out.box oo) 1
      have hne8 : Hid ((Value.slice Ae cs.length ce).ownBlock ≠ some X) := Lib.hid (own_ne hR3.out.own hR3.out.box (by decide))
      have hown0 : Hid (w3.ownsRow 0 30 3 (.slice Ae cs.length ce) cs.length (flat EltC.list cs)) := Lib.hid hR3.out.own
      obtain ⟨i0, hi5, hz0, hz1, hz2⟩ := info_parts info30g
      go_region_law (first
        | (refine step_append_lies (w3.drew.alloc (.cells #[.string nm, .slice none 0 0, .slice none 0 0] 30)) rfl (.tmp 113) (.tmp 118) 23 rfl 0 30 i0 _ 3 64 Tryz.underlying23 hi5 hz0 hz1 hz2 rfl (by decide) (.slice Ae cs.length ce) cs.length (flat EltC.list cs) rfl (hown0.out.drew.alloc _) ⟨_, 0, none⟩ 1 1 [.string nm, .slice none 0 0, .slice none 0 0] rfl rfl (cellsN _ _ _) (by intro u hu; simp at hu; rcases hu with rfl | rfl <;> rfl) (by omega) (by unfold maxLen; omega) (by omega) (Nat.zero_le _) _ rfl ?_
           intro ga ca w7 hown7 hg7 hat7 hlt7
           have hg8 : Hid (w3.grownBy w7 (Value.slice Ae cs.length ce).ownBlock) := Lib.hid (grownD (grownA hg7))
           have hx7 : Hid (w7.heap[X]? = some (.cells #[.slice At nt ct, .slice Ae cs.length ce, .slice Au nu cu, .int .i64 (4 : Nat)] 78)) := Lib.hid (blk_grown hR3.out.box hg8.out hne8.out)
           have y7 : w7.cell? ⟨X, 1, none⟩ = some (.slice Ae cs.length ce) := blk_cell hx7.out 1
           have f7 : w7.frozen? ⟨X, 1, none⟩ = false := blk_frozen hx7.out 1
           replace hown7 := Lib.hid hown7
           replace hg7 := Lib.hid hg7
           replace hat7 := Lib.hid hat7)
        | (refine step_append_lies ((w3.alloc (.cells #[.string nm, .slice none 0 0, .slice none 0 0] 30)).drew) rfl (.tmp 113) (.tmp 118) 23 rfl 0 30 i0 _ 3 64 Tryz.underlying23 hi5 hz0 hz1 hz2 rfl (by decide) (.slice Ae cs.length ce) cs.length (flat EltC.list cs) rfl ((hown0.out.alloc _).drew) ⟨_, 0, none⟩ 1 1 [.string nm, .slice none 0 0, .slice none 0 0] rfl rfl (fun j u h => cellsN w3 _ 30 j u h) (by intro u hu; simp at hu; rcases hu with rfl | rfl <;> rfl) (by omega) (by unfold maxLen; omega) (by omega) (Nat.zero_le _) _ rfl ?_
           intro ga ca w7 hown7 hg7 hat7 hlt7
           have hg8 : Hid (w3.grownBy w7 (Value.slice Ae cs.length ce).ownBlock) := Lib.hid (grownA (grownD hg7))
           have hx7 : Hid (w7.heap[X]? = some (.cells #[.slice At nt ct, .slice Ae cs.length ce, .slice Au nu cu, .int .i64 (4 : Nat)] 78)) := Lib.hid (blk_grown hR3.out.box hg8.out hne8.out)
           have y7 : w7.cell? ⟨X, 1, none⟩ = some (.slice Ae cs.length ce) := blk_cell hx7.out 1
           have f7 : w7.frozen? ⟨X, 1, none⟩ = false := blk_frozen hx7.out 1
           replace hown7 := Lib.hid hown7
           replace hg7 := Lib.hid hg7
           replace hat7 := Lib.hid hat7))
      all_goals go_wp2_with fail
      all_goals go_ret
      all_goals
        have hpush := hR3.out.pushElt nm hown7.out hg8.out (fun k hk => by
          have e2 : ga = k := by simpa [Value.ownBlock] using hk
          subst e2
          exact hat7.out.imp id (fun e => by rw [e]; simp))
        refine ⟨rfl, ⟨_, _, _, _, _, _, hpush, by simp; omega, by simp⟩, ?_⟩
        have hk2 : KeepR X w3 w7 := KeepR.of_grown hg8.out (fun r hr => ⟨Nat.le_of_lt (hR3.out.mine r hr), own_rd hown0.out (.inl rfl) hr⟩)
        exact (hK3.out.trans hk2).trans (KeepR.set (p := ⟨X, 1, none⟩) (Nat.le_refl _) ⟨_, hx7.out, .inl rfl⟩ _)
    · go_upto_region 23 with fail
      obtain ⟨w3, hw3⟩ : ∃ w3, w2.setCell ⟨X, 3, none⟩ (.int .i64 4) = w3 := ⟨_, rfl⟩
      have hR3 : Hid (RdAt w3 X ⟨4, pol⟩ (.slice At nt ct) (.slice Ae cs.length ce) (.slice Au nu cu) cs rc (newP P w w2)) := Lib.hid (by rw [← hw3]; exact hR.out.stage 4)
      have hK3 : Hid (KeepR X w w3) := Lib.hid (by rw [← hw3]; exact hK.out.trans (KeepR.set (p := ⟨X, 3, none⟩) (Nat.le_refl _) hbt.out _))
      replace a0 : w3.cell? ⟨b5, o5, none⟩ = some (.string nm) := by rw [← hw3]; exact (World.cell?_of_block (w := w2) (blk_other hX5.out _)).trans a0
      rw [hw3]
      clear hw3 b0 b1 b2 b3 f0 f1 f2 f3 hbt hR hK hne
      have x1 : w3.cell? ⟨X, 1, none⟩ = some (.slice Ae cs.length ce) := blk_cell hR3.out.box 1
      have z1 : ∀ oo, (w3.alloc oo).cell? ⟨X, 1, none⟩ = some (.slice Ae cs.length ce) := fun oo => blk_cell (blk_alloc hR3.out.box oo) 1
      have hne8 : Hid ((Value.slice Ae cs.length ce).ownBlock ≠ some X) := Lib.hid (own_ne hR3.out.own hR3.out.box (by decide))
      have hown0 : Hid (w3.ownsRow 0 30 3 (.slice Ae cs.length ce) cs.length (flat EltC.list cs)) := Lib.hid hR3.out.own
      obtain ⟨i0, hi5, hz0, hz1, hz2⟩ := info_parts info30g
      go_region_law (first
        | (refine step_append_lies (w3.drew.alloc (.cells #[.string nm, .slice none 0 0, .slice none 0 0] 30)) rfl (.tmp 113) (.tmp 118) 23 rfl 0 30 i0 _ 3 64 Tryz.underlying23 hi5 hz0 hz1 hz2 rfl (by decide) (.slice Ae cs.length ce) cs.length (flat EltC.list cs) rfl (hown0.out.drew.alloc _) ⟨_, 0, none⟩ 1 1 [.string nm, .slice none 0 0, .slice none 0 0] rfl rfl (cellsN _ _ _) (by intro u hu; simp at hu; rcases hu with rfl | rfl <;> rfl) (by omega) (by unfold maxLen; omega) (by omega) (Nat.zero_le _) _ rfl ?_
           intro ga ca w7 hown7 hg7 hat7 hlt7
           have hg8 : Hid (w3.grownBy w7 (Value.slice Ae cs.length ce).ownBlock) := Lib.hid (grownD (grownA hg7))
           have hx7 : Hid (w7.heap[X]? = some (.cells #[.slice At nt ct, .slice Ae cs.length ce, .slice Au nu cu, .int .i64 (4 : Nat)] 78)) := Lib.hid (blk_grown hR3.out.box hg8.out hne8.out)
           have y7 : w7.cell? ⟨X, 1, none⟩ = some (.slice Ae cs.length ce) := blk_cell hx7.out 1
           have f7 : w7.frozen? ⟨X, 1, none⟩ = false := blk_frozen hx7.out 1
           replace hown7 := Lib.hid hown7
           replace hg7 := Lib.hid hg7
           replace hat7 := Lib.hid hat7)
        | (refine step_append_lies ((w3.alloc (.cells #[.string nm, .slice none 0 0, .slice none 0 0] 30)).drew) rfl (.tmp 113) (.tmp 118) 23 rfl 0 30 i0 _ 3 64 Tryz.underlying23 hi5 hz0 hz1 hz2 rfl (by decide) (.slice Ae cs.length ce) cs.length (flat EltC.list cs) rfl ((hown0.out.alloc _).drew) ⟨_, 0, none⟩ 1 1 [.string nm, .slice none 0 0, .slice none 0 0] rfl rfl (fun j u h => cellsN w3 _ 30 j u h) (by intro u hu; simp at hu; rcases hu with rfl | rfl <;> rfl) (by omega) (by unfold maxLen; omega) (by omega) (Nat.zero_le _) _ rfl ?_
           intro ga ca w7 hown7 hg7 hat7 hlt7
           have hg8 : Hid (w3.grownBy w7 (Value.slice Ae cs.length ce).ownBlock) := Lib.hid (grownA (grownD hg7))
           have hx7 : Hid (w7.heap[X]? = some (.cells #[.slice At nt ct, .slice Ae cs.length ce, .slice Au nu cu, .int .i64 (4 : Nat)] 78)) := Lib.hid (blk_grown hR3.out.box hg8.out hne8.out)
           have y7 : w7.cell? ⟨X, 1, none⟩ = some (.slice Ae cs.length ce) := blk_cell hx7.out 1
           have f7 : w7.frozen? ⟨X, 1, none⟩ = false := blk_frozen hx7.out 1
           replace hown7 := Lib.hid hown7
           replace hg7 := Lib.hid hg7
           replace hat7 := Lib.hid hat7))
      all_goals go_wp2_with fail
      all_goals go_ret
      all_goals
        have hpush := hR3.out.pushElt nm hown7.out hg8.out (fun k hk => by
          have e2 : ga = k := by simpa [Value.ownBlock] using hk
          subst e2
          exact hat7.out.imp id (fun e => by rw [e]; simp))
        refine ⟨rfl, ⟨_, _, _, _, _, _, hpush, by simp; omega, by simp⟩, ?_⟩
        have hk2 : KeepR X w3 w7 := KeepR.of_grown hg8.out (fun r hr => ⟨Nat.le_of_lt (hR3.out.mine r hr), own_rd hown0.out (.inl rfl) hr⟩)
        exact (hK3.out.trans hk2).trans (KeepR.set (p := ⟨X, 1, none⟩) (Nat.le_refl _) ⟨_, hx7.out, .inl rfl⟩ _)
  · have t1 : (word.toList == [101, 108, 101, 109, 101, 110, 116]) = false := beq_eq_false_iff_ne.2 (fun h => hw ((lit_eq word (t := wElement) rfl).1 h))
    replace hw := Lib.hid hw
    have e3 : ∀ o' c', (o' = oq + 1 ∨ nq = 0) → nq ≤ c' → Calls Tryz.prog 80 #[.pointer (some ⟨X, 0, none⟩), .string word, .slice Av na cv, .slice (some ⟨bq, o', none⟩) nq c'] w2 (ReadPost X ⟨5, turnRule pol r⟩ (n + 1) w2) := fun o' c' ho hc' => by
      have h := rule_any X ⟨5, pol⟩ n word (.slice Av na cv) rest (newP P w w2) (some ⟨bq, o', none⟩) c' q2 r w2 ⟨_, _, _, _, _, _, hR.out, hcs, hrc⟩ (hne.out (by decide)) hn hstr.out (fun k hk => (hR.out.lists k hk).2.1) (by rw [hna.out]; exact hl2) (hqtail.out w2 hBc.out o' ho) (by rw [hnq.out]; exact hc') (by rw [hnq.out]; omega) hru
      rw [hnq.out] at h
      exact h
    have i2 : (1 : Int) ≤ (nq : Int) + 1 := by omega
    clear hqtail hstr hown
    by_cases hcq1 : cq = 1
    · subst hcq1
      obtain rfl : nq = 0 := by omega
      have e4 : Calls Tryz.prog 80 #[.pointer (some ⟨X, 0, none⟩), .string word, .slice Av na cv, .slice (some ⟨bq, oq, none⟩) 0 0] w2 (ReadPost X ⟨5, turnRule pol r⟩ (n + 1) w2) := e3 (oq) (0) (.inr rfl) (by omega)
      clear e3
      go_wp2_with (go_at_call 80; refine e4.mono ?_; rintro e5 w5 ⟨rfl, hrd5, hK5⟩)
      go_ret
      exact ⟨rfl, hrd5, hK.out.trans hK5⟩
    · have e4 : Calls Tryz.prog 80 #[.pointer (some ⟨X, 0, none⟩), .string word, .slice Av na cv, .slice (some ⟨bq, oq + 1, none⟩) nq (cq - 1)] w2 (ReadPost X ⟨5, turnRule pol r⟩ (n + 1) w2) := e3 (oq + 1) (cq - 1) (.inl rfl) (by omega)
      clear e3
      go_wp2_with (go_at_call 80; refine e4.mono ?_; rintro e5 w5 ⟨rfl, hrd5, hK5⟩)
      go_ret
      exact ⟨rfl, hrd5, hK.out.trans hK5⟩
end Go.Proofs.YtghlodpbbghcoaaGreatDoor
