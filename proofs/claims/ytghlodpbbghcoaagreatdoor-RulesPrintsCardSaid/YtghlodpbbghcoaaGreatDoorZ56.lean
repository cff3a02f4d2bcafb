/- A line that may not be: walked. -/
import Derived.Test.YtghlodpbbghcoaaGreatDoorZ55
namespace Go.Proofs.YtghlodpbbghcoaaGreatDoor
open Go.Lib Go.RowKit Go.Maps
theorem lineP_false {stg : Nat} {pol : Pol} {word : ByteArray} {rest : List ByteArray} {q2 : List Bool} {st' : Rd} (h : lineP ⟨stg, pol⟩ (word :: rest) (false :: q2) = (st', false)) (hs : stg ≤ 5) :
    (stg = 0 ∧ (q2.any id = true ∨ word ≠ wFirst ∨ (q2.any id = false ∧ word = wFirst ∧ rest ≠ [wOne]))) ∨
     (stg = 1 ∧ (q2.any id = true ∨ word ≠ wTop)) ∨
     (stg = 2 ∧ (q2.any id = true ∨ word ≠ wUnwrap)) ∨
     (stg = 4 ∧ (q2.any id = true ∨ word ≠ wKids)) ∨
     ((stg = 3 ∨ stg = 5) ∧ word = wElement ∧ (q2.any id = true ∨ (q2.any id = false ∧ rest.length ≠ 1))) ∨
     (stg = 3 ∧ word ≠ wElement) ∨
     (stg = 5 ∧ word ≠ wElement ∧ ruleOf word rest q2 = none) := by
  unfold lineP at h
  have key : ∀ {a b : Bool}, ((!a) && b) = false → a = true ∨ (a = false ∧ b = false) := fun {a b} h => by cases a <;> simp at h ⊢; exact h
  obtain rfl | rfl | rfl | rfl | rfl | rfl : stg = 0 ∨ stg = 1 ∨ stg = 2 ∨ stg = 3 ∨ stg = 4 ∨ stg = 5 := by omega
  · simp only [Prod.mk.injEq] at h
    rcases key h.2 with h1 | ⟨h1, h2⟩
    · exact .inl ⟨rfl, .inl h1⟩
    · by_cases hw : word = wFirst
      · refine .inl ⟨rfl, .inr (.inr ⟨h1, hw, fun e => ?_⟩)⟩
        rw [decide_eq_true hw, decide_eq_true e] at h2
        cases h2
      · exact .inl ⟨rfl, .inr (.inl hw)⟩
  · simp only [Prod.mk.injEq] at h
    rcases key h.2 with h1 | ⟨h1, h2⟩
    · exact .inr (.inl ⟨rfl, .inl h1⟩)
    · exact .inr (.inl ⟨rfl, .inr (of_decide_eq_false h2)⟩)
  · simp only [Prod.mk.injEq] at h
    rcases key h.2 with h1 | ⟨h1, h2⟩
    · exact .inr (.inr (.inl ⟨rfl, .inl h1⟩))
    · exact .inr (.inr (.inl ⟨rfl, .inr (of_decide_eq_false h2)⟩))
  · simp only at h
    split at h
    · rename_i hw
      split at h
      · simp at h
      · rename_i hn
        refine .inr (.inr (.inr (.inr (.inl ⟨.inl rfl, hw, ?_⟩))))
        cases ha : q2.any id with
        | true => exact .inl rfl
        | false =>
          refine .inr ⟨rfl, fun e => ?_⟩
          obtain ⟨nm, rfl⟩ := List.length_eq_one_iff.1 e
          exact hn nm (by rw [ha]; rfl) rfl
    · exact .inr (.inr (.inr (.inr (.inr (.inl ⟨rfl, ‹_›⟩)))))
  · simp only [Prod.mk.injEq] at h
    rcases key h.2 with h1 | ⟨h1, h2⟩
    · exact .inr (.inr (.inr (.inl ⟨rfl, .inl h1⟩)))
    · exact .inr (.inr (.inr (.inl ⟨rfl, .inr (of_decide_eq_false h2)⟩)))
  · simp only at h
    split at h
    · rename_i hw
      split at h
      · simp at h
      · rename_i hn
        refine .inr (.inr (.inr (.inr (.inl ⟨.inr rfl, hw, ?_⟩))))
        cases ha : q2.any id with
        | true => exact .inl rfl
        | false =>
          refine .inr ⟨rfl, fun e => ?_⟩
          obtain ⟨nm, rfl⟩ := List.length_eq_one_iff.1 e
          exact hn nm (by rw [ha]; rfl) rfl
    · rename_i hw
      simp only [if_true] at h
      split at h
      · simp at h
      · exact .inr (.inr (.inr (.inr (.inr (.inr ⟨rfl, hw, ‹_›⟩)))))
set_option maxRecDepth 8192 in
set_option maxHeartbeats 6400000 in
theorem line_quoted (X : Nat) (vx : Value) (texts : List ByteArray) (Q : Nat → Prop) (Aq : Option Addr) (cq : Nat) (qs : List Bool) (w : World)
    (hvx : StrsAt w Q vx texts) (hQ : ∀ k, Q k → k < w.heap.size) (hl : texts.length ≤ 2000000) (hfl : FlagsAt w Aq qs) (hcq : qs.length ≤ cq) (word : ByteArray) (rest : List ByteArray) (q2 : List Bool) (ht : texts = word :: rest) (hq : qs = true :: q2) :
    Calls Tryz.prog 48 #[.pointer (some ⟨X, 0, none⟩), vx, .slice Aq qs.length cq] w (BadPost X w) := by
  subst ht hq
  obtain ⟨A, nr, capr, rfl, hnr, hcr, hat⟩ := hvx.form
  obtain ⟨b, o, rfl, hQb, hcell⟩ := hat (by rw [hnr]; simp)
  obtain ⟨bq, oq, rfl, hbq, hqc⟩ := hfl (by simp)
  have c0 := hcell 0 (by simp)
  have q0 := hqc 0 (by simp)
  simp only [List.getElem_cons_zero, Nat.add_zero] at c0 q0
  have hbw : Hid (b < w.heap.size) := Lib.hid (hQ b hQb)
  have hargs := hvx.tail 1 (by rw [hnr]; simp)
  have hflags := hfl.tail 1
  simp only [List.drop_succ_cons, List.drop_zero] at hargs hflags
  have hnr2 : nr = rest.length + 1 := by rw [hnr]; simp
  have hql2 : (true :: q2).length = q2.length + 1 := by simp
  rw [hql2] at hcq ⊢
  subst hnr2
  simp only [Nat.add_sub_cancel] at hargs
  have hclone : Hid (∀ wx, Below w.heap.size w wx → ∀ o' c', (o' = o + 1 ∧ c' = capr - 1) ∨ rest.length = 0 → Calls Tryz.prog 78 #[.slice (some ⟨b, o', none⟩) rest.length c'] wx (ClonePost rest wx)) := Lib.hid (fun wx hb o' c' ho => by
    rcases ho with ⟨rfl, rfl⟩ | h0
    · exact clone_any _ _ Q wx (hargs.move (Stays.below hb hQ) (fun _ h => h)) (by simp at hl; omega)
    · have : rest = [] := List.eq_nil_of_length_eq_zero h0
      subst this
      exact clone_any _ _ Q wx (CRow.some_nil wx Q 1 _ _) (by simp))
  have hqtail : Hid (∀ wx, Below w.heap.size w wx → ∀ o', o' = oq + 1 ∨ q2.length = 0 → FlagsAt wx (some ⟨bq, o', none⟩) q2) := Lib.hid (fun wx hb o' ho => by
    rcases ho with rfl | h0
    · exact hflags.below hb
    · exact fun h => absurd h (by omega))
  clear hcell hqc hat hfl hvx hargs hflags hnr hQb
  obtain ⟨na, hna⟩ : ∃ na, rest.length = na := ⟨_, rfl⟩
  obtain ⟨nq, hnq⟩ : ∃ nq, q2.length = nq := ⟨_, rfl⟩
  have hl2 : na ≤ 2000000 := by rw [← hna]; simp at hl; omega
  obtain ⟨had, hhad⟩ : ∃ had, q2.any id = had := ⟨_, rfl⟩
  clear hl
  rw [hna] at hclone hcr ⊢
  rw [hnq] at hcq hqtail ⊢
  skip
  replace hna := Lib.hid hna
  replace hnq := Lib.hid hnq
  replace hhad := Lib.hid hhad
  go_enter Tryz.func48, Tryz.ntmps48
  go_upto_region 1 with fail
  go_cut [7, 8] (fun x7 x8 wx => x7 = .string word ∧ (∃ (Av : Option Addr) (cv : Nat), x8 = .slice Av na cv ∧ Hid (OwnS wx w.heap.size (.slice Av na cv) rest)) ∧ Hid (Below w.heap.size w wx))
  case first =>
    have hS : Hid (∀ W, Below w.heap.size w W → W.cell? ⟨b, o, none⟩ = some (.string word)) := Lib.hid (fun W hW => (hW.cell (p := ⟨b, o, none⟩) hbw.out).trans c0)
    have e2 := hclone.out
    have hna0 := hna.out
    replace hna0 := Lib.hid hna0
    have i1 : (1 : Int) ≤ (na : Int) + 1 := by omega
    have i2 : (0 : Int) < (na : Int) + 1 := by omega
    clear hclone q0 hqtail
    by_cases hc2 : capr = 1
    · subst hc2
      obtain rfl : na = 0 := by omega
      have e3 := Lib.hid (fun wx hb => e2 wx hb o 0 (.inr rfl))
      clear e2
      go_region_held3 (fun W => W.cell? ⟨b, o, none⟩ = some (.string word)) (first | with_reducible exact hS.out _ (Below.refl _ _).drew | with_reducible exact hS.out _ hB5.out | with_reducible exact hS.out _ hB5.out.drew) (first | (go_at_call 78; refine (e3.out _ (Below.refl _ _).drew).mono ?_; rintro e5 w5 ⟨v5, rfl, ho5, hB5'⟩; obtain ⟨A5, c5, rfl, -⟩ := own_form ho5; have hB5 : Hid (Below w.heap.size w w5) := Lib.hid ((Below.refl w.heap.size w).drew.trans hB5'); clear hB5'))
      all_goals go_wp2
      all_goals go_meet
      all_goals exact ⟨rfl, ⟨A5, c5, by rw [hna0.out], Lib.hid (by rw [hna0.out] at ho5; exact ho5)⟩, hB5⟩
    · have e3 := Lib.hid (fun wx hb => e2 wx hb (o + 1) (capr - 1) (.inl ⟨rfl, rfl⟩))
      clear e2
      go_region_held3 (fun W => W.cell? ⟨b, o, none⟩ = some (.string word)) (first | with_reducible exact hS.out _ (Below.refl _ _).drew | with_reducible exact hS.out _ hB5.out | with_reducible exact hS.out _ hB5.out.drew) (first | (go_at_call 78; refine (e3.out _ (Below.refl _ _).drew).mono ?_; rintro e5 w5 ⟨v5, rfl, ho5, hB5'⟩; obtain ⟨A5, c5, rfl, -⟩ := own_form ho5; have hB5 : Hid (Below w.heap.size w w5) := Lib.hid ((Below.refl w.heap.size w).drew.trans hB5'); clear hB5'))
      all_goals go_wp2
      all_goals go_meet
      all_goals exact ⟨rfl, ⟨A5, c5, by rw [hna0.out], Lib.hid (by rw [hna0.out] at ho5; exact ho5)⟩, hB5⟩
  case rest =>
  obtain ⟨rfl, ⟨Av, cv, rfl, hown⟩, hBc⟩ := hcut
  obtain ⟨w2, hw2⟩ : ∃ w2 : World, w2 = wc := ⟨_, rfl⟩
  rw [← hw2] at hown hBc ⊢
  clear hw2 hclone c0
  clear wc
  have hK : Hid (KeepR X w w2) := Lib.hid (KeepR.of_below hBc.out)
  replace q0 : w2.cell? ⟨bq, oq, none⟩ = some (.bool true) := (hBc.out.cell (p := ⟨bq, oq, none⟩) hbq).trans q0
  have i1 : (0 : Int) < (nq : Int) + 1 := by omega
  go_wp2
  all_goals go_ret
  all_goals exact ⟨rfl, hK.out⟩
set_option maxRecDepth 8192 in
set_option maxHeartbeats 6400000 in
theorem line_bad (X : Nat) (st : Rd) (n : Nat) (vx : Value) (texts : List ByteArray) (Q : Nat → Prop) (Aq : Option Addr) (cq : Nat) (qs : List Bool) (st' : Rd) (w : World)
    (hrd : Reads w X st n) (hne : 4 ≤ st.stage → st.pol.elts ≠ []) (hs5 : st.stage ≤ 5) (hn : n ≤ 2000000) (hvx : StrsAt w Q vx texts) (hQ : ∀ k, Q k → k < w.heap.size) (hl : texts.length ≤ 2000000) (hfl : FlagsAt w Aq qs) (hcq : qs.length ≤ cq) (hql : qs.length ≤ 2000000) (word : ByteArray) (rest : List ByteArray) (q2 : List Bool) (ht : texts = word :: rest) (hq : qs = false :: q2) (hsame : q2.length = rest.length) (hr : lineP st texts qs = (st', false)) :
    Calls Tryz.prog 48 #[.pointer (some ⟨X, 0, none⟩), vx, .slice Aq qs.length cq] w (BadPost X w) := by
  subst ht hq
  obtain ⟨stg, pol⟩ := st
  have hway := lineP_false hr hs5
  clear hr
  simp only at hne hs5
  obtain ⟨A, nr, capr, rfl, hnr, hcr, hat⟩ := hvx.form
  obtain ⟨b, o, rfl, hQb, hcell⟩ := hat (by rw [hnr]; simp)
  obtain ⟨bq, oq, rfl, hbq, hqc⟩ := hfl (by simp)
  have c0 := hcell 0 (by simp)
  have q0 := hqc 0 (by simp)
  simp only [List.getElem_cons_zero, Nat.add_zero] at c0 q0
  have hbw : Hid (b < w.heap.size) := Lib.hid (hQ b hQb)
  have hargs := hvx.tail 1 (by rw [hnr]; simp)
  have hflags := hfl.tail 1
  simp only [List.drop_succ_cons, List.drop_zero] at hargs hflags
  have hnr2 : nr = rest.length + 1 := by rw [hnr]; simp
  have hql2 : (false :: q2).length = q2.length + 1 := by simp
  have hhas : Hid (∀ wx, Below w.heap.size w wx → Calls Tryz.prog 79 #[.slice (some ⟨bq, oq, none⟩) (q2.length + 1) cq, .bool true] wx (FlagPost (q2.any id) wx)) := Lib.hid (fun wx hb => by
    have := hasFlag_any _ cq (false :: q2) true wx (hfl.below hb) hcq (by simp at hql ⊢; omega)
    rw [hql2] at this
    have e : (false :: q2).any (· == true) = q2.any id := by
      rw [List.any_cons]
      have : (fun x : Bool => x == true) = id := by funext x; cases x <;> rfl
      rw [this]
      rfl
    rw [e] at this
    exact this)
  rw [hql2] at hcq hql ⊢
  subst hnr2
  simp only [Nat.add_sub_cancel] at hargs
  have hclone : Hid (∀ wx, Below w.heap.size w wx → ∀ o' c', (o' = o + 1 ∧ c' = capr - 1) ∨ rest.length = 0 → Calls Tryz.prog 78 #[.slice (some ⟨b, o', none⟩) rest.length c'] wx (ClonePost rest wx)) := Lib.hid (fun wx hb o' c' ho => by
    rcases ho with ⟨rfl, rfl⟩ | h0
    · exact clone_any _ _ Q wx (hargs.move (Stays.below hb hQ) (fun _ h => h)) (by simp at hl; omega)
    · have : rest = [] := List.eq_nil_of_length_eq_zero h0
      subst this
      exact clone_any _ _ Q wx (CRow.some_nil wx Q 1 _ _) (by simp))
  have hqtail : Hid (∀ wx, Below w.heap.size w wx → ∀ o', o' = oq + 1 ∨ q2.length = 0 → FlagsAt wx (some ⟨bq, o', none⟩) q2) := Lib.hid (fun wx hb o' ho => by
    rcases ho with rfl | h0
    · exact hflags.below hb
    · exact fun h => absurd h (by omega))
  clear hcell hqc hat hfl hvx hargs hflags hnr hQb
  obtain ⟨na, hna⟩ : ∃ na, rest.length = na := ⟨_, rfl⟩
  obtain ⟨nq, hnq⟩ : ∃ nq, q2.length = nq := ⟨_, rfl⟩
  have hl2 : na ≤ 2000000 := by rw [← hna]; simp at hl; omega
  obtain ⟨had, hhad⟩ : ∃ had, q2.any id = had := ⟨_, rfl⟩
  clear hl
  rw [hna] at hclone hcr ⊢
  rw [hnq] at hhas hcq hql hqtail ⊢
  rw [hhad] at hhas hway
  replace hna := Lib.hid hna
  replace hnq := Lib.hid hnq
  replace hway := Lib.hid hway
  replace hsame := Lib.hid hsame
  replace hne := Lib.hid hne
  replace hhad := Lib.hid hhad
  obtain ⟨vt, ve, vu, cs, rc, P, hR0, hcs, hrc⟩ := hrd
  have hXw : X < w.heap.size := hR0.lt
  replace hR0 := Lib.hid hR0
  go_enter Tryz.func48, Tryz.ntmps48
  go_upto_region 1 with fail
  go_cut [7, 8] (fun x7 x8 wx => x7 = .string word ∧ (∃ (Av : Option Addr) (cv : Nat), x8 = .slice Av na cv ∧ Hid (OwnS wx w.heap.size (.slice Av na cv) rest)) ∧ Hid (Below w.heap.size w wx))
  case first =>
    have hS : Hid (∀ W, Below w.heap.size w W → W.cell? ⟨b, o, none⟩ = some (.string word)) := Lib.hid (fun W hW => (hW.cell (p := ⟨b, o, none⟩) hbw.out).trans c0)
    have e2 := hclone.out
    have hna0 := hna.out
    replace hna0 := Lib.hid hna0
    have i1 : (1 : Int) ≤ (na : Int) + 1 := by omega
    have i2 : (0 : Int) < (na : Int) + 1 := by omega
    clear hclone q0 hhas hqtail
    by_cases hc2 : capr = 1
    · subst hc2
      obtain rfl : na = 0 := by omega
      have e3 := Lib.hid (fun wx hb => e2 wx hb o 0 (.inr rfl))
      clear e2
      go_region_held3 (fun W => W.cell? ⟨b, o, none⟩ = some (.string word)) (first | with_reducible exact hS.out _ (Below.refl _ _).drew | with_reducible exact hS.out _ hB5.out | with_reducible exact hS.out _ hB5.out.drew) (first | (go_at_call 78; refine (e3.out _ (Below.refl _ _).drew).mono ?_; rintro e5 w5 ⟨v5, rfl, ho5, hB5'⟩; obtain ⟨A5, c5, rfl, -⟩ := own_form ho5; have hB5 : Hid (Below w.heap.size w w5) := Lib.hid ((Below.refl w.heap.size w).drew.trans hB5'); clear hB5'))
      all_goals go_wp2
      all_goals go_meet
      all_goals exact ⟨rfl, ⟨A5, c5, by rw [hna0.out], Lib.hid (by rw [hna0.out] at ho5; exact ho5)⟩, hB5⟩
    · have e3 := Lib.hid (fun wx hb => e2 wx hb (o + 1) (capr - 1) (.inl ⟨rfl, rfl⟩))
      clear e2
      go_region_held3 (fun W => W.cell? ⟨b, o, none⟩ = some (.string word)) (first | with_reducible exact hS.out _ (Below.refl _ _).drew | with_reducible exact hS.out _ hB5.out | with_reducible exact hS.out _ hB5.out.drew) (first | (go_at_call 78; refine (e3.out _ (Below.refl _ _).drew).mono ?_; rintro e5 w5 ⟨v5, rfl, ho5, hB5'⟩; obtain ⟨A5, c5, rfl, -⟩ := own_form ho5; have hB5 : Hid (Below w.heap.size w w5) := Lib.hid ((Below.refl w.heap.size w).drew.trans hB5'); clear hB5'))
      all_goals go_wp2
      all_goals go_meet
      all_goals exact ⟨rfl, ⟨A5, c5, by rw [hna0.out], Lib.hid (by rw [hna0.out] at ho5; exact ho5)⟩, hB5⟩
  case rest =>
  obtain ⟨rfl, ⟨Av, cv, rfl, hown⟩, hBc⟩ := hcut
  obtain ⟨w2, hw2⟩ : ∃ w2 : World, w2 = wc := ⟨_, rfl⟩
  rw [← hw2] at hown hBc ⊢
  clear hw2 hclone c0
  clear wc
  have hR : Hid (RdAt w2 X ⟨stg, pol⟩ vt ve vu cs rc (newP P w w2)) := Lib.hid (hR0.out.more hBc.out)
  have hstr : Hid (StrsAt w2 (newP P w w2) (.slice Av na cv) rest) := Lib.hid (hown.out.fresh.move (Stays.refl _ _) (fun _ h => .inr h))
  have hK : Hid (KeepR X w w2) := Lib.hid (KeepR.of_below hBc.out)
  replace q0 : w2.cell? ⟨bq, oq, none⟩ = some (.bool false) := (hBc.out.cell (p := ⟨bq, oq, none⟩) hbq).trans q0
  have e2 := hhas.out w2 hBc.out
  have i1 : (0 : Int) < (nq : Int) + 1 := by omega
  go_upto_region 5 with (go_at_call 79; refine e2.mono ?_; rintro e5 w5 ⟨rfl, e6⟩; obtain rfl := e6.symm)
  clear e2 hhas q0 hR0
  clear e6
  obtain ⟨At, nt, ct, rfl, -, -, -⟩ := hR.out.top.form
  obtain ⟨Au, nu, cu, rfl, -, -, -⟩ := hR.out.unwrap.form
  obtain ⟨Ae, ce, rfl, -⟩ := own_form hR.out.own
  have b0 := blk_cell hR.out.box 0
  have b1 := blk_cell hR.out.box 1
  have b3 := blk_cell hR.out.box 3
  have f0 := blk_frozen hR.out.box 0
  have f1 := blk_frozen hR.out.box 1
  have f2 := blk_frozen hR.out.box 2
  have f3 := blk_frozen hR.out.box 3
  have b2 := blk_cell hR.out.box 2
  have hbt : Hid (∃ o, w2.heap[X]? = some o ∧ rdType o) := Lib.hid ⟨_, hR.out.box, .inl rfl⟩
  have hsetK : Hid (∀ (j : Nat) u, KeepR X w (w2.setCell ⟨X, j, none⟩ u)) := Lib.hid (fun j u => hK.out.trans (KeepR.set (p := ⟨X, j, none⟩) (Nat.le_refl _) hbt.out _))
  have hsetK2 : Hid (∀ (j k : Nat) u v, KeepR X w ((w2.setCell ⟨X, j, none⟩ u).setCell ⟨X, k, none⟩ v)) := Lib.hid (fun j k u v => (hsetK.out j u).trans (KeepR.set (p := ⟨X, k, none⟩) (Nat.le_refl _) ⟨_, blk_set_self hR.out.box j u, .inl rfl⟩ _))
  rcases hway.out with ⟨rfl, hw⟩ | ⟨rfl, hw⟩ | ⟨rfl, hw⟩ | ⟨rfl, hw⟩ | ⟨hst, hw, hb⟩ | ⟨rfl, hw⟩ | ⟨rfl, hw, hru⟩
  · clear hqtail hstr
    rcases hw with rfl | hw | ⟨rfl, hw, hre⟩
    · clear hown
      go_wp2
      all_goals go_ret
      all_goals exact ⟨rfl, hsetK.out _ _⟩
    · have t1 := word_ne hw (l := [115, 116, 114, 97, 105, 110, 101, 114]) rfl
      clear hown hw
      cases had with
      | true =>
        go_wp2
        all_goals go_ret
        all_goals exact ⟨rfl, hsetK.out _ _⟩
      | false =>
        go_wp2
        all_goals go_ret
        all_goals exact ⟨rfl, hsetK.out _ _⟩
    · have t1 : word.toList = [115, 116, 114, 97, 105, 110, 101, 114] := (lit_eq word (t := wFirst) rfl).2 hw
      replace hw := Lib.hid hw
      go_upto_region 8 with fail
      obtain ⟨w3, hw3⟩ : ∃ w3, w2.setCell ⟨X, 3, none⟩ (.int .i64 1) = w3 := ⟨_, rfl⟩
      have hK3 : Hid (KeepR X w w3) := Lib.hid (by rw [← hw3]; exact hsetK.out _ _)
      have hown3 : Hid (OwnS w3 w.heap.size (.slice Av na cv) rest) := Lib.hid (by rw [← hw3]; exact ownsRow_setCell_other hown.out (a := ⟨X, 3, none⟩) (own_ne hown.out hR.out.box (by decide)) _)
      rw [hw3]
      clear hw3 b0 b1 b2 b3 f0 f1 f2 f3 hbt hR hown hK
      obtain ⟨w4, hw4⟩ : ∃ w4, w3.alloc (.cells #[.string ⟨#[49]⟩] 9) = w4 := ⟨_, rfl⟩
      have hB4 : Hid (Below w3.heap.size w3 w4) := Lib.hid (by rw [← hw4]; exact (Below.refl _ _).alloc (Nat.le_refl _) _)
      have heq : Calls Tryz.prog 64 #[.slice Av na cv, .slice (some ⟨w3.heap.size, 0, none⟩) 1 1] w4 fun e w' => e = .returned (.bool false) ∧ ∃ q, w' = w4.drewN q := by
        by_cases h1 : na = 1
        · obtain ⟨a, ha⟩ : ∃ a, rest = [a] := List.length_eq_one_iff.1 (hna.out.trans h1)
          have hane : a ≠ wOne := fun e => hre (by rw [ha, e])
          subst h1
          have ho := hown3.out
          rw [ha] at ho
          rcases ho.form with ⟨h0, _⟩ | ⟨g, cap, e, hg1, hg2, hcap, hcells⟩
          · cases h0
          · simp only [Value.slice.injEq] at e
            obtain ⟨rfl, _, rfl⟩ := e
            have hc0 := hcells 0 (.string a) rfl
            have h := Tryz.slices_Equal_string g 0 1 cv w3.heap.size 0 1 1 [a] [wOne] w4 (by simp) (by decide) (by decide) (by decide)
              (fun j hj => by
                obtain rfl : j = 0 := by simpa using hj
                exact (hB4.out.cell (p := ⟨g, 0, none⟩) hg2).trans hc0)
              (fun j hj => by
                obtain rfl : j = 0 := by simpa using hj
                rw [← hw4]
                exact blk_cell (blk_new _ _) 0)
            rw [show decide (List.take 1 [a] = List.take 1 [wOne]) = false from decide_eq_false (fun e => hane (by simpa using e))] at h
            exact h
        · exact (Tryz.slices_Equal_string_lens Av (some ⟨w3.heap.size, 0, none⟩) na cv 1 1 w4 h1).mono (by rintro e w' ⟨rfl, rfl⟩; exact ⟨rfl, 0, rfl⟩)
      replace hre := Lib.hid hre
      replace hown3 := Lib.hid hown3
      go_wp2_with (go_at_call 64; refine heq.mono ?_; rintro e5 w5 ⟨rfl, q, rfl⟩)
      go_ret
      exact ⟨rfl, (hK3.out.trans (KeepR.of_below hB4.out)).trans (KeepR.of_below (below_dN q))⟩
  · clear hqtail hstr hown
    rcases hw with rfl | hw
    · go_wp2
      all_goals go_ret
      all_goals exact ⟨rfl, hsetK2.out _ _ _ _⟩
    · have t1 := word_ne hw (l := [116, 111, 112]) rfl
      clear hw
      cases had with
      | true =>
        go_wp2
        all_goals go_ret
        all_goals exact ⟨rfl, hsetK2.out _ _ _ _⟩
      | false =>
        go_wp2
        all_goals go_ret
        all_goals exact ⟨rfl, hsetK2.out _ _ _ _⟩
  · clear hqtail hstr hown
    rcases hw with rfl | hw
    · go_wp2
      all_goals go_ret
      all_goals exact ⟨rfl, hsetK2.out _ _ _ _⟩
    · have t1 := word_ne hw (l := [117, 110, 119, 114, 97, 112]) rfl
      clear hw
      cases had with
      | true =>
        go_wp2
        all_goals go_ret
        all_goals exact ⟨rfl, hsetK2.out _ _ _ _⟩
      | false =>
        go_wp2
        all_goals go_ret
        all_goals exact ⟨rfl, hsetK2.out _ _ _ _⟩
  · clear hqtail
    have hcne : cs ≠ [] := fun e => hne.out (by decide) (by rw [← hR.out.elts, e]; rfl)
    obtain ⟨ini, c, rfl⟩ : ∃ ini c, cs = ini ++ [c] := ⟨cs.dropLast, cs.getLast hcne, (List.dropLast_concat_getLast hcne).symm⟩
    obtain ⟨g, cap, hve, hXg, hgw⟩ := hR.out.veOf
    simp only [Value.slice.injEq] at hve
    obtain ⟨rfl, hve2, rfl⟩ := hve
    rw [hve2] at hR b0 b1 b2 b3
    replace hw := Lib.hid hw
    go_upto_region 17 with fail
    obtain ⟨w3, hw3⟩ : ∃ w3, w2.setCell ⟨X, 3, none⟩ (.int .i64 5) = w3 := ⟨_, rfl⟩
    have hR3 : Hid (RdAt w3 X ⟨5, pol⟩ (.slice At nt ct) (.slice (some ⟨g, 0, none⟩) (ini.length + 1) ce) (.slice Au nu cu) (ini ++ [c]) rc (newP P w w2)) := Lib.hid (by rw [← hw3]; exact hR.out.stage 5)
    have hK3 : Hid (KeepR X w w3) := Lib.hid (by rw [← hw3]; exact hsetK.out _ _)
    rw [hw3]
    clear hw3 b0 b1 b2 b3 f0 f1 f2 f3 hbt hR hown hK hstr hcne hve2 hsetK hsetK2
    obtain ⟨i, hi⟩ : ∃ i, ini.length = i := ⟨_, rfl⟩
    have hil : i ≤ 2000000 := by rw [← hi]; simp at hcs; omega
    have x1 : w3.cell? ⟨X, 1, none⟩ = some (.slice (some ⟨g, 0, none⟩) (i + 1) ce) := by rw [← hi]; exact blk_cell hR3.out.box 1
    obtain ⟨cur, hgb⟩ := hR3.out.gblk
    have y1 : w3.cell? ⟨g, i * 3 + 1, none⟩ = some c.vk := by
      have := hR3.out.cellLast (j := 1) (by decide)
      rw [hi] at this
      exact this
    have y2 : w3.frozen? ⟨g, i * 3 + 1, none⟩ = false := blk_frozen hgb _
    replace hgb := Lib.hid hgb
    replace hi := Lib.hid hi
    have j0 : (0 : Int) ≤ (i : Int) := by omega
    have j1 : (i : Int) < (i : Int) + 1 := by omega
    have hfin : Hid (∀ u, KeepR X w (w3.setCell ⟨g, i * 3 + 1, none⟩ u).drew) := Lib.hid (fun u => (hK3.out.trans (KeepR.set (p := ⟨g, i * 3 + 1, none⟩) (Nat.le_of_lt hXg) ⟨_, hgb.out, .inr (.inl rfl)⟩ _)).trans (KeepR.of_below (below_dN 1)))
    rcases hw.out with rfl | hw2
    · go_region
      all_goals go_wp2
      all_goals go_ret
      all_goals exact ⟨rfl, hfin.out _⟩
    · have t1 := word_ne hw2 (l := [107, 105, 100, 115]) rfl
      clear hw2
      cases had with
      | true =>
        go_region
        all_goals go_wp2
        all_goals go_ret
        all_goals exact ⟨rfl, hfin.out _⟩
      | false =>
        go_region
        all_goals go_wp2
        all_goals go_ret
        all_goals exact ⟨rfl, hfin.out _⟩
  · have t1 : word.toList = [101, 108, 101, 109, 101, 110, 116] := (lit_eq word (t := wElement) rfl).2 hw
    replace hw := Lib.hid hw
    clear hqtail hstr hown
    rcases hb with rfl | ⟨rfl, hb⟩
    · rcases hst with rfl | rfl
      · go_wp2
        all_goals go_ret
        all_goals exact ⟨rfl, hK.out⟩
      · go_wp2
        all_goals go_ret
        all_goals exact ⟨rfl, hK.out⟩
    · have hb0 : ¬ (na : Int) = 1 := fun e => hb (by have := hna.out; omega)
      have hb1 : ((na : Int) == 1) = false := beq_eq_false_iff_ne.2 hb0
      clear hb
      rcases hst with rfl | rfl
      · go_wp2
        all_goals go_ret
        all_goals exact ⟨rfl, hK.out⟩
      · go_wp2
        all_goals go_ret
        all_goals exact ⟨rfl, hK.out⟩
  · have t1 := word_ne hw (l := [101, 108, 101, 109, 101, 110, 116]) rfl
    clear hqtail hstr hown hw
    go_wp2
    all_goals go_ret
    all_goals exact ⟨rfl, hK.out⟩
  · have t1 := word_ne hw (l := [101, 108, 101, 109, 101, 110, 116]) rfl
    have e3 : ∀ o' c', (o' = oq + 1 ∨ nq = 0) → nq ≤ c' → Calls Tryz.prog 80 #[.pointer (some ⟨X, 0, none⟩), .string word, .slice Av na cv, .slice (some ⟨bq, o', none⟩) nq c'] w2 (BadPost X w2) := fun o' c' ho hc' => by
      have h := rule_bad X word (.slice Av na cv) rest (newP P w w2) (some ⟨bq, o', none⟩) c' q2 w2 hstr.out (fun k hk => (hR.out.lists k hk).2.1) (by rw [hna.out]; exact hl2) (hqtail.out w2 hBc.out o' ho) (by rw [hnq.out]; exact hc') hsame.out hru
      rw [hnq.out] at h
      exact h
    have i2 : (1 : Int) ≤ (nq : Int) + 1 := by omega
    clear hqtail hstr hown hw
    by_cases hcq1 : cq = 1
    · subst hcq1
      obtain rfl : nq = 0 := by omega
      have e4 : Calls Tryz.prog 80 #[.pointer (some ⟨X, 0, none⟩), .string word, .slice Av na cv, .slice (some ⟨bq, oq, none⟩) 0 0] w2 (BadPost X w2) := e3 oq 0 (.inr rfl) (by omega)
      clear e3
      go_wp2_with (go_at_call 80; refine e4.mono ?_; rintro e5 w5 ⟨rfl, hK5⟩)
      go_ret
      exact ⟨rfl, hK.out.trans hK5⟩
    · have e4 : Calls Tryz.prog 80 #[.pointer (some ⟨X, 0, none⟩), .string word, .slice Av na cv, .slice (some ⟨bq, oq + 1, none⟩) nq (cq - 1)] w2 (BadPost X w2) := e3 (oq + 1) (cq - 1) (.inl rfl) (by omega)
      clear e3
      go_wp2_with (go_at_call 80; refine e4.mono ?_; rintro e5 w5 ⟨rfl, hK5⟩)
      go_ret
      exact ⟨rfl, hK.out.trans hK5⟩
end Go.Proofs.YtghlodpbbghcoaaGreatDoor
