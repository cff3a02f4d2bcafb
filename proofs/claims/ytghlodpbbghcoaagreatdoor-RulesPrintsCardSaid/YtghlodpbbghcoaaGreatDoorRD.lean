/- The line of a rule read: walked, where it may be. -/
import Derived.Test.YtghlodpbbghcoaaGreatDoorZJ
import Derived.Test.YtghlodpbbghcoaaGreatDoorZA
import Derived.Deep.DeepCutAuto
import Derived.Deep.RegionHeld3
namespace Go.Proofs.YtghlodpbbghcoaaGreatDoor
open Go.Lib Go.RowKit Go.Maps
theorem StrsAt.tail {w : World} {P : Nat → Prop} {b o n cap : Nat} {l : List ByteArray} (h : StrsAt w P (.slice (some ⟨b, o, none⟩) n cap) l) (k : Nat) (hk : k ≤ n) : StrsAt w P (.slice (some ⟨b, o + k, none⟩) (n - k) (cap - k)) (l.drop k) := by
  obtain ⟨A, n', cap', e, hn, hc, hat⟩ := h.form
  simp only [Value.slice.injEq] at e
  obtain ⟨e1, rfl, rfl⟩ := e
  have hl : (sCells (l.drop k)).length = n - k := by rw [sCells, List.length_map, List.length_drop, hn]
  refine ⟨_, cap - k, by rw [hl], by rw [hl]; omega, fun j hj => ?_⟩
  rw [hl] at hj
  obtain ⟨b', o', e2, hb, hcell⟩ := hat (by omega)
  rw [← e1] at e2
  simp only [Option.some.injEq, Addr.mk.injEq, and_true] at e2
  obtain ⟨rfl, rfl⟩ := e2
  refine ⟨b, o + k, rfl, hb, fun i hi => ?_⟩
  obtain rfl : i = 0 := by omega
  have := hcell (k + j) (by omega)
  rw [show o + k + j * 1 + 0 = o + (k + j) by omega, this]
  simp [sCells]
theorem FlagsAt.tail {w : World} {b o : Nat} {l : List Bool} (h : FlagsAt w (some ⟨b, o, none⟩) l) (k : Nat) : FlagsAt w (some ⟨b, o + k, none⟩) (l.drop k) := fun hp => by
  rw [List.length_drop] at hp
  obtain ⟨b', o', e, hb, hc⟩ := h (by omega)
  simp only [Option.some.injEq, Addr.mk.injEq, and_true] at e
  obtain ⟨rfl, rfl⟩ := e
  refine ⟨b, o + k, rfl, hb, fun j hj => ?_⟩
  rw [List.length_drop] at hj
  have := hc (k + j) (by omega)
  rw [show o + k + j = o + (k + j) by omega, this]
  simp
theorem szSet' (w : World) (a : Addr) (v : Value) : (w.setCell a v).heap.size = w.heap.size := by simp [World.setCell]
theorem grownA {w w' : World} {o : Obj} {row : Option Nat} (hg : (w.alloc o).grownBy w' row) : w.grownBy w' row :=
  ⟨hg.os, hg.tape, hg.output, Nat.le_trans (by simp) hg.size, fun k hk hne => (hg.block k (by simp; omega) hne).trans (Below.heap_alloc w o k hk)⟩
theorem grownD {w w' : World} {row : Option Nat} (hg : w.drew.grownBy w' row) : w.grownBy w' row := ⟨hg.os, hg.tape, hg.output, hg.size, hg.block⟩
theorem lit_eq (s : ByteArray) {t : ByteArray} {l : List UInt8} (h : t.data.toList = l) : s.toList = l ↔ s = t := by
  rw [ByteArray.toList_eq, ← h]
  constructor
  · intro e
    obtain ⟨d⟩ := s
    obtain ⟨d2⟩ := t
    have : d = d2 := Array.toList_inj.1 e
    rw [this]
  · rintro rfl
    rfl
/-- A rule's line taken apart. -/
theorem ruleOf_some {word : ByteArray} {rest : List ByteArray} {qs : List Bool} {r : Rul} (h : ruleOf word rest qs = some r) :
    (word = wAttr ∨ word = wNeed) ∧ ∃ nm kind args q2, rest = nm :: kind :: args ∧ qs = false :: false :: q2 ∧ q2.all id = true ∧ ∃ v, valueOf kind args = some v ∧ r = ⟨nm, v.1, v.2.1, v.2.2, decide (word = wNeed)⟩ := by
  unfold ruleOf at h
  split at h
  · rename_i hw
    split at h
    · rename_i nm kind args q2
      split at h
      · rename_i hq
        cases hv : valueOf kind args with
        | none => rw [hv] at h; cases h
        | some v =>
          rw [hv] at h
          refine ⟨hw, nm, kind, args, q2, rfl, rfl, hq, v, hv, ?_⟩
          simpa using h.symm
      · cases h
    · cases h
  · cases h
theorem valueOf_some {kind : ByteArray} {args : List ByteArray} {k : Int} {ws : List ByteArray} {rx : ByteArray} (h : valueOf kind args = some (k, ws, rx)) :
    (kind = wAny ∧ args = [] ∧ 1 = k ∧ [] = ws ∧ ⟨#[]⟩ = rx) ∨ (kind = wEnum ∧ 2 = k ∧ args = ws ∧ ⟨#[]⟩ = rx) ∨ (kind = wScheme ∧ 3 = k ∧ args = ws ∧ ⟨#[]⟩ = rx) ∨ (kind = wMatch ∧ args = [rx] ∧ 4 = k ∧ [] = ws) := by
  unfold valueOf at h
  split at h
  · split at h
    · exact .inl ⟨‹_›, ‹_›, by simpa using h⟩
    · cases h
  · split at h
    · exact .inr (.inl ⟨‹_›, by simpa using h⟩)
    · split at h
      · exact .inr (.inr (.inl ⟨‹_›, by simpa using h⟩))
      · split at h
        · split at h
          · simp only [Option.some.injEq, Prod.mk.injEq] at h
            exact .inr (.inr (.inr ⟨‹_›, by rw [h.2.2], h.1, h.2.1⟩))
          · cases h
        · cases h
def turnRule (p : Pol) (r : Rul) : Pol := { p with elts := turnLast p.elts fun e => { e with rules := e.rules ++ [r] } }
def ReadPost (X : Nat) (st' : Rd) (n : Nat) (w : World) (e : Ending) (w' : World) : Prop := e = .returned (.bool true) ∧ Reads w' X st' n ∧ KeepR X w w'
theorem info34g : (Tryz.prog.info? 34).map (fun i => (i.zero, i.size, i.bytes)) = some (some (.agg #[.string ⟨#[]⟩, .int .i64 0, .slice none 0 0, .string ⟨#[]⟩, .bool false]), 5, 72) := by kernel_rfl
theorem cellsN (w : World) (cs : List Value) (t : TypeId) : ∀ j u, cs[j]? = some u → (w.alloc (.cells cs.toArray t)).cell? ((⟨w.heap.size, 0, none⟩ : Addr).add j) = some u := by
  intro j u hj
  have hadd : (⟨w.heap.size, 0, none⟩ : Addr).add j = ⟨w.heap.size, j, none⟩ := by unfold Addr.add; split <;> simp_all
  rw [hadd, World.cell?_alloc_new]
  simpa using hj
theorem RdAt.gblk {w : World} {X : Nat} {st : Rd} {vt vu : Value} {cs : List EltC} {rc : List RulC} {P : Nat → Prop} {g n cap : Nat} (h : RdAt w X st vt (.slice (some ⟨g, 0, none⟩) n cap) vu cs rc P) : ∃ cur, w.heap[g]? = some (.cells cur 30 (0, 0)) := by
  rcases h.own.2 with ⟨h0, _⟩ | ⟨g', cap', cur, h0, _, hb, _⟩
  · simp at h0
  · simp only [Value.slice.injEq, Option.some.injEq, Addr.mk.injEq, and_true] at h0
    obtain ⟨rfl, _⟩ := h0
    exact ⟨cur, hb⟩
theorem RdAt.cellLast {w : World} {X : Nat} {st : Rd} {vt vu : Value} {ini : List EltC} {c : EltC} {rc : List RulC} {P : Nat → Prop} {g n cap : Nat} (h : RdAt w X st vt (.slice (some ⟨g, 0, none⟩) n cap) vu (ini ++ [c]) rc P) {j : Nat} (hj : j < 3) : w.cell? ⟨g, ini.length * 3 + j, none⟩ = c.list[j]? := by
  have ho := h.own
  have hn : n = (ini ++ [c]).length := by
    rcases ho.2 with ⟨h0, _⟩ | ⟨g', cap', cur, h0, _⟩
    · simp at h0
    · simp only [Value.slice.injEq] at h0
      exact h0.2.1
  subst hn
  rw [ho.cellAt _ (by rw [List.length_append, List.length_singleton]; omega), flat_get (m := 3) (fun _ => rfl) (x := c) (by rw [List.getElem?_append_right (Nat.le_refl _)]; simp) hj]
/-- A rule's box: its name, kind, words, expression, whether it must be. -/
structure RuBox (w wx : World) (g : Nat) (nm : ByteArray) (k : Int) (vw : Value) (ws : List ByteArray) (rx : ByteArray) (q : Bool) : Prop where
  new : w.heap.size ≤ g
  blk : wx.heap[g]? = some (.cells #[.string nm, .int .i64 k, vw, .string rx, .bool q] 34)
  words : StrsAt wx (fun b => w.heap.size ≤ b ∧ b < wx.heap.size ∧ b ≠ g) vw ws
  below : Below w.heap.size w wx
set_option maxRecDepth 8192 in
set_option maxHeartbeats 6400000 in
theorem rule_any (X : Nat) (st : Rd) (n : Nat) (word : ByteArray) (vr : Value) (rest : List ByteArray) (Q : Nat → Prop) (Aq : Option Addr) (cq : Nat) (qs : List Bool) (r : Rul) (w : World)
    (hrd : Reads w X st n) (hne : st.pol.elts ≠ []) (hn : n ≤ 2000000) (hvr : StrsAt w Q vr rest) (hQ : ∀ k, Q k → k < w.heap.size) (hl : rest.length ≤ 2000000) (hfl : FlagsAt w Aq qs) (hcq : qs.length ≤ cq) (hql : qs.length ≤ 2000000) (hr : ruleOf word rest qs = some r) :
    Calls Tryz.prog 80 #[.pointer (some ⟨X, 0, none⟩), .string word, vr, .slice Aq qs.length cq] w (ReadPost X ⟨st.stage, turnRule st.pol r⟩ (n + 1) w) := by
  obtain ⟨hw, nm, kind, args, q2, rfl, rfl, hq2, ⟨vk, vs, vx⟩, hv, rfl⟩ := ruleOf_some hr
  clear hr
  obtain ⟨A, nr, capr, rfl, hnr, hcr, hat⟩ := hvr.form
  obtain ⟨b, o, rfl, hQb, hcell⟩ := hat (by rw [hnr]; simp)
  obtain ⟨bq, oq, rfl, hbq, hqc⟩ := hfl (by simp)
  have c0 := hcell 0 (by simp)
  have c1 := hcell 1 (by simp)
  have q0 := hqc 0 (by simp)
  have q1 := hqc 1 (by simp)
  simp only [List.getElem_cons_zero, List.getElem_cons_succ, Nat.add_zero] at c0 c1 q0 q1
  have hbw : Hid (b < w.heap.size) := Lib.hid (hQ b hQb)
  have hargs := hvr.tail 2 (by rw [hnr]; simp)
  have hflags := hfl.tail 2
  simp only [List.drop_succ_cons, List.drop_zero] at hargs hflags
  have hnr2 : nr = args.length + 2 := by rw [hnr]; simp
  have hql2 : (false :: false :: q2).length = q2.length + 2 := by simp
  rw [hql2] at hcq hql ⊢
  subst hnr2
  simp only [Nat.add_sub_cancel] at hargs
  have hclone : ∀ wx, Below w.heap.size w wx → ∀ o' c', (o' = o + 2 ∧ c' = capr - 2) ∨ args.length = 0 → Calls Tryz.prog 78 #[.slice (some ⟨b, o', none⟩) args.length c'] wx (ClonePost args wx) := fun wx hb o' c' ho => by
    rcases ho with ⟨rfl, rfl⟩ | h0
    · exact clone_any _ _ Q wx (hargs.move (Stays.below hb hQ) (fun _ h => h)) (by simp at hl; omega)
    · have : args = [] := List.eq_nil_of_length_eq_zero h0
      subst this
      exact clone_any _ _ Q wx (CRow.some_nil wx Q 1 _ _) (by simp)
  have hhas : ∀ wx, Below w.heap.size w wx → ∀ o' c', (o' = oq + 2 ∧ c' = cq - 2) ∨ q2.length = 0 → Calls Tryz.prog 79 #[.slice (some ⟨bq, o', none⟩) q2.length c', .bool false] wx (FlagPost (q2.any (· == false)) wx) := fun wx hb o' c' ho => by
    rcases ho with ⟨rfl, rfl⟩ | h0
    · exact hasFlag_any _ (cq - 2) q2 false wx (hflags.below hb) (by omega) (by omega)
    · exact hasFlag_any _ c' q2 false wx (fun h => absurd h (by omega)) (by omega) (by omega)
  have hq3 : q2.any (· == false) = false := by
    rw [List.any_eq_false]
    intro x hx
    have := List.all_eq_true.1 hq2 x hx
    simpa using this
  rw [hq3] at hhas
  replace hclone := Lib.hid hclone
  replace hhas := Lib.hid hhas
  clear hcell hqc hat hfl hvr hq2 hq3 hargs hflags hnr hQb
  obtain ⟨na, hna⟩ : ∃ na, args.length = na := ⟨_, rfl⟩
  obtain ⟨nq, hnq⟩ : ∃ nq, q2.length = nq := ⟨_, rfl⟩
  have hl2 : na ≤ 2000000 := by rw [← hna]; simp at hl; omega
  clear hl
  rw [hna] at hclone hcr ⊢
  rw [hnq] at hhas hcq hql ⊢
  replace hna := Lib.hid hna
  replace hnq := Lib.hid hnq
  obtain ⟨isn, hisn⟩ : ∃ isn, decide (word = wNeed) = isn := ⟨_, rfl⟩
  have hneed : (word.toList == [110, 101, 101, 100]) = isn := by
    rw [← hisn, Bool.eq_iff_iff, beq_iff_eq, decide_eq_true_eq]
    exact lit_eq word rfl
  rw [hisn]
  replace hw := Lib.hid hw
  replace hisn := Lib.hid hisn
  go_enter Tryz.func80, Tryz.ntmps80
  go_upto_region 1 with fail
  go_cut [37] (fun x wx => x = .bool false ∧ wx = w)
  case first =>
    replace hneed := Lib.hid hneed
    have e2 := hhas.out w (Below.refl _ _)
    have i1 : ¬ (na : Int) + 2 < 2 := by omega
    have i2 : (0 : Int) < (nq : Int) + 2 := by omega
    have i3 : (1 : Int) < (nq : Int) + 2 := by omega
    have i4 : (2 : Int) ≤ (nq : Int) + 2 := by omega
    clear hclone c0 c1
    rcases hw.out with hw1 | hw1
    · have t1 : word.toList = [97, 116, 116, 114] := (lit_eq word (t := wAttr) rfl).2 hw1
      replace hw1 := Lib.hid hw1
      by_cases hcq2 : cq = 2
      · subst hcq2
        obtain rfl : nq = 0 := by omega
        have e3 := e2 oq 0 (.inr (by omega))
        clear e2
        go_wp2_with (go_at_call 79; refine e3.mono ?_; rintro e5 w5 ⟨rfl, e6⟩; obtain rfl := e6.symm)
        go_meet
        exact ⟨rfl, rfl⟩
      · have e3 := e2 (oq + 2) (cq - 2) (.inl ⟨rfl, rfl⟩)
        clear e2
        go_wp2_with (go_at_call 79; refine e3.mono ?_; rintro e5 w5 ⟨rfl, e6⟩; obtain rfl := e6.symm)
        go_meet
        exact ⟨rfl, rfl⟩
    · have t1 : word.toList = [110, 101, 101, 100] := (lit_eq word (t := wNeed) rfl).2 hw1
      replace hw1 := Lib.hid hw1
      by_cases hcq2 : cq = 2
      · subst hcq2
        obtain rfl : nq = 0 := by omega
        have e3 := e2 oq 0 (.inr (by omega))
        clear e2
        go_wp2_with (go_at_call 79; refine e3.mono ?_; rintro e5 w5 ⟨rfl, e6⟩; obtain rfl := e6.symm)
        go_meet
        exact ⟨rfl, rfl⟩
      · have e3 := e2 (oq + 2) (cq - 2) (.inl ⟨rfl, rfl⟩)
        clear e2
        go_wp2_with (go_at_call 79; refine e3.mono ?_; rintro e5 w5 ⟨rfl, e6⟩; obtain rfl := e6.symm)
        go_meet
        exact ⟨rfl, rfl⟩
  case rest =>
  obtain ⟨rfl, e6⟩ := hcut
  obtain rfl := e6.symm
  clear e6 q0 q1 hhas
  go_upto_region 4 with fail
  obtain ⟨w1, hw1⟩ : ∃ w1, w.alloc (.cells #[.string nm, .int .i64 0, .slice none 0 0, .string ⟨#[]⟩, .bool isn] 34) = w1 := ⟨_, rfl⟩
  have hB1 : Hid (Below w.heap.size w w1) := Lib.hid (by rw [← hw1]; exact (Below.refl _ _).alloc (Nat.le_refl _) _)
  have hz1 : Hid (w1.heap.size = w.heap.size + 1) := Lib.hid (by rw [← hw1]; simp)
  have hbx1 : Hid (w1.heap[w.heap.size]? = some (.cells #[.string nm, .int .i64 0, .slice none 0 0, .string ⟨#[]⟩, .bool isn] 34)) := Lib.hid (by rw [← hw1]; exact blk_new _ _)
  rw [hw1]
  clear hw1 c0 hneed
  go_cut [10] (fun x wx => ∃ (Av : Option Addr) (nv cv : Nat), x = .slice Av nv cv ∧ Hid (OwnS wx w1.heap.size (.slice Av nv cv) args) ∧ Hid (Below w1.heap.size w1 wx))
  case first =>
    have e2 := hclone.out w1 hB1.out
    have i1 : (2 : Int) ≤ (na : Int) + 2 := by omega
    clear hclone c1
    by_cases hc2 : capr = 2
    · subst hc2
      obtain rfl : na = 0 := by omega
      have e3 := e2 o 0 (.inr rfl)
      clear e2
      go_wp2_with (go_at_call 78; refine e3.mono ?_; rintro e5 w5 ⟨v5, rfl, ho5, hB5⟩; obtain ⟨A5, c5, rfl, -⟩ := own_form ho5)
      go_meet
      exact ⟨_, _, _, rfl, Lib.hid ho5, Lib.hid hB5⟩
    · have e3 := e2 (o + 2) (capr - 2) (.inl ⟨rfl, rfl⟩)
      clear e2
      go_wp2_with (go_at_call 78; refine e3.mono ?_; rintro e5 w5 ⟨v5, rfl, ho5, hB5⟩; obtain ⟨A5, c5, rfl, -⟩ := own_form ho5)
      go_meet
      exact ⟨_, _, _, rfl, Lib.hid ho5, Lib.hid hB5⟩
  case rest =>
  obtain ⟨Av, nv, cv, rfl, hown, hB2⟩ := hcut
  have hBc : Hid (Below w.heap.size w wc) := Lib.hid (hB1.out.trans (hB2.out.mono hB1.out.size))
  have hbx2 : Hid (wc.heap[w.heap.size]? = some (.cells #[.string nm, .int .i64 0, .slice none 0 0, .string ⟨#[]⟩, .bool isn] 34)) := Lib.hid (blk_below hbx1.out hB2.out (by have := hz1.out; omega))
  have hnv : nv = args.length := by
    obtain ⟨A5, c5, e, -⟩ := own_form hown.out
    simp only [Value.slice.injEq] at e
    exact e.2.1
  replace c1 : wc.cell? ⟨b, o + 1, none⟩ = some (.string kind) := (hBc.out.cell (p := ⟨b, o + 1, none⟩) hbw.out).trans c1
  have hstr : Hid (StrsAt wc (fun k => w.heap.size ≤ k ∧ k < wc.heap.size ∧ k ≠ w.heap.size) (.slice Av nv cv) args) := Lib.hid (hown.out.fresh.move (Stays.refl _ _) (fun k hk => ⟨by have := hz1.out; omega, hk.2, by have := hz1.out; omega⟩))
  clear hclone hbx1
  go_upto_block 0 with fail
  go_cut [] (fun wx => ∃ vw, Hid (RuBox w wx w.heap.size nm vk vw vs vx isn))
  case first =>
    have g0 := blk_cell hbx2.out 0
    have f1 := blk_frozen hbx2.out 1
    have f2 := blk_frozen hbx2.out 2
    have f3 := blk_frozen hbx2.out 3
    have g1 := blk_cell hbx2.out 1
    have g2 := blk_cell hbx2.out 2
    have g3 := blk_cell hbx2.out 3
    have hst : Hid (∀ (W : World) (j : Nat) (u : Value), Stays (fun k => w.heap.size ≤ k ∧ k < wc.heap.size ∧ k ≠ w.heap.size) W (W.setCell ⟨w.heap.size, j, none⟩ u)) := Lib.hid (fun W j u => Stays.set (fun hk => hk.2.2 rfl) u)
    rcases valueOf_some hv with ⟨hk, ha, rfl, rfl, rfl⟩ | ⟨hk, rfl, rfl, rfl⟩ | ⟨hk, rfl, rfl, rfl⟩ | ⟨hk, ha, rfl, rfl⟩
    · have k1 : kind.toList = [97, 110, 121] := (lit_eq kind (t := wAny) rfl).2 hk
      obtain rfl : nv = 0 := by rw [hnv, ha]; rfl
      replace hk := Lib.hid hk
      replace ha := Lib.hid ha
      clear hv hnv
      go_wp2
      go_meet
      exact ⟨_, Lib.hid ⟨Nat.le_refl _, blk_set_self hbx2.out 1 _, CRow.nil _ _ _, hBc.out.setCell (p := ⟨w.heap.size, 1, none⟩) (Nat.le_refl _) _⟩⟩
    · have k1 : kind.toList = [101, 110, 117, 109] := (lit_eq kind (t := wEnum) rfl).2 hk
      replace hk := Lib.hid hk
      clear hv
      replace hnv := Lib.hid hnv
      go_wp2
      go_meet
      exact ⟨_, Lib.hid ⟨Nat.le_refl _, blk_set_self (blk_set_self hbx2.out 1 _) 2 _, hstr.out.move ((hst.out _ _ _).trans (hst.out _ _ _)) (fun k hk => ⟨hk.1, by simp only [szSet']; exact hk.2.1, hk.2.2⟩), (hBc.out.setCell (p := ⟨w.heap.size, 1, none⟩) (Nat.le_refl _) _).setCell (p := ⟨w.heap.size, 2, none⟩) (Nat.le_refl _) _⟩⟩
    · have k1 : kind.toList = [115, 99, 104, 101, 109, 101] := (lit_eq kind (t := wScheme) rfl).2 hk
      replace hk := Lib.hid hk
      clear hv
      replace hnv := Lib.hid hnv
      go_wp2
      go_meet
      exact ⟨_, Lib.hid ⟨Nat.le_refl _, blk_set_self (blk_set_self hbx2.out 1 _) 2 _, hstr.out.move ((hst.out _ _ _).trans (hst.out _ _ _)) (fun k hk => ⟨hk.1, by simp only [szSet']; exact hk.2.1, hk.2.2⟩), (hBc.out.setCell (p := ⟨w.heap.size, 1, none⟩) (Nat.le_refl _) _).setCell (p := ⟨w.heap.size, 2, none⟩) (Nat.le_refl _) _⟩⟩
    · have k1 : kind.toList = [109, 97, 116, 99, 104] := (lit_eq kind (t := wMatch) rfl).2 hk
      obtain ⟨A5, n5, c5, e5, hn5, -, hat5⟩ := hstr.out.form
      simp only [Value.slice.injEq] at e5
      obtain ⟨rfl, rfl, rfl⟩ := e5
      obtain rfl : nv = 1 := by rw [hnv, ha]; rfl
      obtain ⟨b5, o5, rfl, hb5, hcell5⟩ := hat5 (by decide)
      have a0 := hcell5 0 (by rw [ha]; simp)
      have a1 : args[0]'(by rw [ha]; simp) = vx := by simp only [ha]; rfl
      rw [a1, Nat.add_zero] at a0
      replace hk := Lib.hid hk
      have n1 : b5 ≠ w.heap.size := hb5.2.2
      have n2 : w.heap.size ≠ b5 := Ne.symm n1
      replace ha := Lib.hid ha
      clear hv hnv a1 hcell5 hat5 hn5
      go_upto_region 18 with fail
      go_region
      all_goals go_wp2
      all_goals go_meet
      all_goals exact ⟨_, Lib.hid ⟨Nat.le_refl _, blk_set_self (blk_set_self hbx2.out 1 _) 3 _, CRow.nil _ _ _, ((hBc.out.setCell (p := ⟨w.heap.size, 1, none⟩) (Nat.le_refl _) _).setCell (p := ⟨w.heap.size, 3, none⟩) (Nat.le_refl _) _).drew⟩⟩
  case rest =>
  obtain ⟨vw, hru⟩ := hcut
  obtain ⟨wd, hwd⟩ : ∃ wd : World, wd = wc := ⟨_, rfl⟩
  rw [← hwd] at hru ⊢
  clear hwd hbx2 hstr hBc hown hB2 hnv c1 hv hB1 hz1 hw hisn hna hnq
  clear wc w1
  obtain ⟨vt, ve, vu, cs, rc, P, hR, hcs, hrc⟩ := hrd
  have hcne : cs ≠ [] := fun e => hne (by rw [← hR.elts, e]; rfl)
  obtain ⟨ini, c, rfl⟩ : ∃ ini c, cs = ini ++ [c] := ⟨cs.dropLast, cs.getLast hcne, (List.dropLast_concat_getLast hcne).symm⟩
  obtain ⟨g, cap, rfl, hXg, hgw⟩ := hR.veOf
  have hXw : X < w.heap.size := hR.lt
  have hlists : Hid (∀ k, P k → k < w.heap.size) := Lib.hid (fun k hk => (hR.lists k hk).2.1)
  have hclt : Hid (∀ k, c.vr.ownBlock = some k → k < w.heap.size) := Lib.hid (fun k hk => (hR.lastOf.2.1.own.lt k hk).2)
  have hR2 : Hid (RdAt wd X st vt (.slice (some ⟨g, 0, none⟩) (ini.length + 1) cap) vu (ini ++ [c]) rc P) := Lib.hid (hR.carry hru.out.below)
  have hgc : Hid (wd.heap.size > w.heap.size) := Lib.hid (blk_lt hru.out.blk)
  replace hru := Lib.hid hru.out
  clear hR hne hcne
  obtain ⟨i, hi⟩ : ∃ i, ini.length = i := ⟨_, rfl⟩
  have hil : i ≤ 2000000 := by rw [← hi]; simp at hcs; omega
  have x1 : wd.cell? ⟨X, 1, none⟩ = some (.slice (some ⟨g, 0, none⟩) (i + 1) cap) := by rw [← hi]; exact blk_cell hR2.out.box 1
  replace hi := Lib.hid hi
  have j0 : (0 : Int) ≤ (i : Int) := by omega
  have j1 : (i : Int) < (i : Int) + 1 := by omega
  go_upto_region 19 with fail
  go_region
  obtain ⟨we, hwe⟩ : ∃ we : World, wd.drew = we := ⟨_, rfl⟩
  have hR3 : Hid (RdAt we X st vt (.slice (some ⟨g, 0, none⟩) (ini.length + 1) cap) vu (ini ++ [c]) rc P) := Lib.hid (by rw [← hwe]; exact hR2.out.carry (Below.refl _ _).drew)
  have hru3 : Hid (RuBox w we w.heap.size nm vk vw vs vx isn) := Lib.hid (by rw [← hwe]; exact ⟨hru.out.new, hru.out.blk, hru.out.words, hru.out.below.drew⟩)
  have hgc3 : Hid (w.heap.size < we.heap.size) := Lib.hid (by rw [← hwe]; exact hgc.out)
  rw [hwe]
  clear hwe x1 hR2 hru hgc
  clear wd
  obtain ⟨Aw, nw, cw, rfl, -, -, -⟩ := hru3.out.words.form
  obtain ⟨A6, c6, hvr, -⟩ := own_form hR3.out.lastOf.2.1.own
  obtain ⟨cur, hgb⟩ := hR3.out.gblk
  replace hgb := Lib.hid hgb
  have x2 : we.cell? ⟨g, i * 3 + 2, none⟩ = some (.slice A6 rc.length c6) := by
    have := hR3.out.cellLast (j := 2) (by decide)
    rw [hi.out] at this
    rw [this, ← hvr]
    rfl
  have hne8 : Hid ((Value.slice A6 rc.length c6).ownBlock ≠ some g) := Lib.hid (by rw [← hvr]; exact own_ne hR3.out.lastOf.2.1.own hgb.out (by decide))
  have z2 : ∀ oo, (we.alloc oo).cell? ⟨g, i * 3 + 2, none⟩ = some (.slice A6 rc.length c6) := fun oo => (blk_cell (blk_alloc hgb.out oo) _).trans ((blk_cell hgb.out _).symm.trans x2)
  have e0 := blk_cell hru3.out.blk 0
  have e1 := blk_cell hru3.out.blk 1
  have e2 := blk_cell hru3.out.blk 2
  have e3 := blk_cell hru3.out.blk 3
  have e4 := blk_cell hru3.out.blk 4
  have hown0 : Hid (we.ownsRow 0 34 5 (.slice A6 rc.length c6) rc.length (flat RulC.list rc)) := Lib.hid (by rw [← hvr]; exact hR3.out.lastOf.2.1.own)
  replace hvr := Lib.hid hvr
  obtain ⟨i0, hi5, hz0, hz1, hz2⟩ := info_parts info34g
  go_upto_region 20 with fail
  go_region_law (first
    | (refine step_append_lies (we.drew.alloc (.cells #[.string nm, .int .i64 vk, .slice Aw nw cw, .string vx, .bool isn] 34)) rfl (.tmp 100) (.tmp 102) 28 rfl 0 34 i0 _ 5 72 Tryz.underlying28 hi5 hz0 hz1 hz2 rfl (by decide) (.slice A6 rc.length c6) rc.length (flat RulC.list rc) rfl (hown0.out.drew.alloc _) ⟨_, 0, none⟩ 1 1 [.string nm, .int .i64 vk, .slice Aw nw cw, .string vx, .bool isn] rfl rfl (cellsN _ _ _) (by intro u hu; simp at hu; rcases hu with rfl | rfl | rfl | rfl | rfl <;> rfl) (by omega) (by unfold maxLen; omega) (by omega) (Nat.zero_le _) _ rfl ?_
       intro ga ca w7 hown7 hg7 hat7 hlt7
       have hg8 : Hid (we.grownBy w7 (Value.slice A6 rc.length c6).ownBlock) := Lib.hid (grownD (grownA hg7))
       have y7 : w7.cell? ⟨g, i * 3 + 2, none⟩ = some (.slice A6 rc.length c6) := (blk_cell (blk_grown hgb.out hg8.out hne8.out) _).trans ((blk_cell hgb.out _).symm.trans x2)
       have f7 : w7.frozen? ⟨g, i * 3 + 2, none⟩ = false := blk_frozen (blk_grown hgb.out hg8.out hne8.out) _
       replace hown7 := Lib.hid hown7
       replace hg7 := Lib.hid hg7
       replace hat7 := Lib.hid hat7)
    | (refine step_append_lies ((we.alloc (.cells #[.string nm, .int .i64 vk, .slice Aw nw cw, .string vx, .bool isn] 34)).drew) rfl (.tmp 100) (.tmp 102) 28 rfl 0 34 i0 _ 5 72 Tryz.underlying28 hi5 hz0 hz1 hz2 rfl (by decide) (.slice A6 rc.length c6) rc.length (flat RulC.list rc) rfl ((hown0.out.alloc _).drew) ⟨_, 0, none⟩ 1 1 [.string nm, .int .i64 vk, .slice Aw nw cw, .string vx, .bool isn] rfl rfl (fun j u h => cellsN we _ 34 j u h) (by intro u hu; simp at hu; rcases hu with rfl | rfl | rfl | rfl | rfl <;> rfl) (by omega) (by unfold maxLen; omega) (by omega) (Nat.zero_le _) _ rfl ?_
       intro ga ca w7 hown7 hg7 hat7 hlt7
       have hg8 : Hid (we.grownBy w7 (Value.slice A6 rc.length c6).ownBlock) := Lib.hid (grownA (grownD hg7))
       have y7 : w7.cell? ⟨g, i * 3 + 2, none⟩ = some (.slice A6 rc.length c6) := (blk_cell (blk_grown hgb.out hg8.out hne8.out) _).trans ((blk_cell hgb.out _).symm.trans x2)
       have f7 : w7.frozen? ⟨g, i * 3 + 2, none⟩ = false := blk_frozen (blk_grown hgb.out hg8.out hne8.out) _
       replace hown7 := Lib.hid hown7
       replace hg7 := Lib.hid hg7
       replace hat7 := Lib.hid hat7))
  all_goals go_wp2_with fail
  all_goals go_ret
  all_goals
    have hRlt : Hid (∀ k, (Value.slice A6 rc.length c6).ownBlock = some k → k < w.heap.size) := Lib.hid (by rw [← hvr.out]; exact hclt.out)
    have hgR : ∀ k, w.heap.size ≤ k → (Value.slice (some ⟨g, 0, none⟩) (ini.length + 1) cap).ownBlock ≠ some k := fun k hk e => by
      have e2 : g = k := by simpa [Value.ownBlock] using e
      omega
    have hpush := hR3.out.pushRule rfl (d := ⟨nm, vk, .slice Aw nw cw, vs, vx, isn⟩) (R := fun k => w.heap.size ≤ k ∧ k < we.heap.size ∧ k ≠ w.heap.size) hru3.out.words
      (fun k hk => ⟨⟨Nat.lt_of_lt_of_le hXw hk.1, fun e => by have := hlists.out k e; omega, hgR k hk.1⟩, hk.2.1, fun e => by have := hclt.out k e; omega⟩) hown7.out (by rw [hvr.out]; exact hg8.out) (fun k hk => by
        have e2 : ga = k := by simpa [Value.ownBlock] using hk
        subst e2
        rw [hvr.out]
        exact hat7.out.imp id (fun e => by rw [e]; simp))
    rw [hi.out] at hpush
    refine ⟨rfl, ⟨vt, _, vu, _, _, P, hpush, by simpa using Nat.le_succ_of_le hcs, by rw [List.length_append, List.length_singleton]; omega⟩, ?_⟩
    have hk1 : KeepR X w we := ⟨hru3.out.below.os, hru3.out.below.tape, hru3.out.below.output, hru3.out.below.size, fun k o hk _ => (hru3.out.below.block k (blk_lt hk)).trans hk⟩
    have hk2 : KeepR X we w7 := KeepR.of_grown hg8.out (fun r hr => ⟨by have := (hR3.out.lastOf.2.1.mine r (by rw [hvr.out]; exact hr)).1; omega, own_rd hown0.out (.inr rfl) hr⟩)
    exact (hk1.trans hk2).trans (KeepR.set (p := ⟨g, i * 3 + 2, none⟩) (Nat.le_of_lt hXg) ⟨_, blk_grown hgb.out hg8.out hne8.out, .inr (.inl rfl)⟩ _)
end Go.Proofs.YtghlodpbbghcoaaGreatDoor

/- A line read: walked, where it may be. -/
namespace Go.Proofs.YtghlodpbbghcoaaGreatDoor
open Go.Lib Go.RowKit Go.Maps
theorem lineP_true {stg : Nat} {pol : Pol} {texts : List ByteArray} {qs : List Bool} {st' : Rd} (h : lineP ⟨stg, pol⟩ texts qs = (st', true)) (hs : stg ≤ 5) : ∃ word rest q2, texts = word :: rest ∧ qs = false :: q2 ∧
    ((stg = 0 ∧ q2.any id = false ∧ word = wFirst ∧ rest = [wOne] ∧ st' = ⟨1, pol⟩) ∨
     (stg = 1 ∧ q2.any id = false ∧ word = wTop ∧ st' = ⟨2, { pol with top := rest }⟩) ∨
     (stg = 2 ∧ q2.any id = false ∧ word = wUnwrap ∧ st' = ⟨3, { pol with unwrap := rest }⟩) ∨
     (stg = 4 ∧ q2.any id = false ∧ word = wKids ∧ st' = ⟨5, { pol with elts := turnLast pol.elts fun e => { e with kids := rest } }⟩) ∨
     ((stg = 3 ∨ stg = 5) ∧ q2.any id = false ∧ word = wElement ∧ ∃ nm, rest = [nm] ∧ st' = ⟨4, { pol with elts := pol.elts ++ [⟨nm, [], []⟩] }⟩) ∨
     (stg = 5 ∧ word ≠ wElement ∧ ∃ r, ruleOf word rest q2 = some r ∧ st' = ⟨5, turnRule pol r⟩)) := by
  unfold lineP at h
  split at h
  · rename_i word rest q2
    refine ⟨word, rest, q2, rfl, rfl, ?_⟩
    have key : ∀ {a b : Bool}, ((!a) && b) = true → a = false ∧ b = true := fun {a b} h => by cases a <;> simp at h; exact ⟨rfl, h⟩
    have key2 : ∀ {a b : Bool}, (a && b) = true → a = true ∧ b = true := fun {a b} h => by cases a <;> simp at h; exact ⟨rfl, h⟩
    obtain rfl | rfl | rfl | rfl | rfl | rfl : stg = 0 ∨ stg = 1 ∨ stg = 2 ∨ stg = 3 ∨ stg = 4 ∨ stg = 5 := by omega
    · simp only [Prod.mk.injEq] at h
      obtain ⟨h1, h2⟩ := key h.2
      obtain ⟨h3, h4⟩ := key2 h2
      exact .inl ⟨rfl, h1, of_decide_eq_true h3, of_decide_eq_true h4, h.1.symm⟩
    · simp only [Prod.mk.injEq] at h
      obtain ⟨h1, h2⟩ := key h.2
      exact .inr (.inl ⟨rfl, h1, of_decide_eq_true h2, h.1.symm⟩)
    · simp only [Prod.mk.injEq] at h
      obtain ⟨h1, h2⟩ := key h.2
      exact .inr (.inr (.inl ⟨rfl, h1, of_decide_eq_true h2, h.1.symm⟩))
    · simp only at h
      split at h
      · split at h
        · rename_i nm hb
          simp only [Prod.mk.injEq] at h
          refine .inr (.inr (.inr (.inr (.inl ⟨.inl rfl, by simpa using hb, ‹_›, nm, rfl, h.1.symm⟩))))
        · simp at h
      · simp at h
    · simp only [Prod.mk.injEq] at h
      obtain ⟨h1, h2⟩ := key h.2
      exact .inr (.inr (.inr (.inl ⟨rfl, h1, of_decide_eq_true h2, h.1.symm⟩)))
    · simp only at h
      split at h
      · split at h
        · rename_i nm hb
          simp only [Prod.mk.injEq] at h
          refine .inr (.inr (.inr (.inr (.inl ⟨.inr rfl, by simpa using hb, ‹_›, nm, rfl, h.1.symm⟩))))
        · simp at h
      · rename_i hw
        simp only [if_true] at h
        split at h
        · rename_i r hr
          simp only [Prod.mk.injEq] at h
          exact .inr (.inr (.inr (.inr (.inr ⟨rfl, hw, r, hr, h.1.symm⟩))))
        · simp at h
  · simp at h
theorem KeepR.of_le {X : Nat} {a b : World} {B : Nat} (h : Below B a b) (hB : a.heap.size ≤ B) : KeepR X a b := KeepR.of_below (h.mono hB)
end Go.Proofs.YtghlodpbbghcoaaGreatDoor
