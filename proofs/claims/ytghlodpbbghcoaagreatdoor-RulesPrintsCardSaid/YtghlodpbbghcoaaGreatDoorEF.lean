/- walk[int] of package dfa, with form's step 144: walked. -/
import Derived.Test.YtghlodpbbghcoaaGreatDoorE11
import Derived.Test.YtghlodpbbghcoaaGreatDoorEE
namespace Go.Proofs.YtghlodpbbghcoaaGreatDoor
open Go.RowKit Go.Maps
theorem blk_of_cell {w : World} {g i : Nat} {v : Value} (h : w.cell? ⟨g, i, none⟩ = some v) : ∃ o, w.heap[g]? = some o := by
  cases hh : w.heap[g]? with
  | none => simp [World.cell?, hh] at h
  | some o => exact ⟨o, rfl⟩
/-- The i-th of the numbers that have been met. -/
theorem MetInt.cells {w : World} {M B : Nat} {O : Nat → Prop} {l : List Nat} (h : MetInt w M O B l) {i : Nat} (hi : i < l.length) :
    ∃ g c x, w.cell? ⟨M, 1, none⟩ = some (.slice (some ⟨g, 0, none⟩) l.length c) ∧ l[i]? = some x ∧ x < B ∧ w.cell? ⟨g, i, none⟩ = some (.int .i64 ((x : Nat) : Int)) ∧ l.length ≤ c ∧ c ≤ maxLen := by
  obtain ⟨Mb, A, c, D, hM, h1, h2, hmap, hrow, hA, hD⟩ := h.met
  have c1 : w.cell? ⟨M, 1, none⟩ = some (.slice A l.length c) := blk_cell hM 1
  obtain ⟨hl, hr⟩ := hrow
  rcases hr with ⟨e, e0⟩ | ⟨g, cap, cur, e, hb, hg, hcap, hcm, hcs, htk⟩
  · omega
  · injection e with e1 e2 e3
    subst e1
    have hx : l[i]? = some l[i] := List.getElem?_eq_getElem hi
    refine ⟨g, c, l[i], c1, hx, hD.all _ (List.getElem_mem hi), ?_, by omega, by omega⟩
    have h3 : cur.toList[i]? = some (.int .i64 ((l[i] : Nat) : Int)) := by
      have := congrArg (fun t : List Value => t[i]?) htk
      simp only [List.getElem?_take, List.getElem?_map, hx, Option.map_some] at this
      rw [if_pos (by omega)] at this
      exact this
    rw [blk_cell hg, ← Array.getElem?_toList]
    exact h3
/-- What walk[int] hands back. -/
def WalkInts (B : Nat) (w : World) (e : Ending) (w' : World) : Prop :=
  ∃ (l : List Nat) (A : Option Addr) (c : Nat) (A2 : Option Addr) (c2 : Nat) (rows : List Value),
    e = .returned (.tuple #[.slice A l.length c, .slice A2 l.length c2, .bool true]) ∧ 0 < l.length ∧ l.length ≤ B ∧ (∀ x ∈ l, x < B) ∧
    w'.ownsRow 0 3 1 (.slice A l.length c) l.length (l.map fun q : Nat => Value.int .i64 (q : Int)) ∧ (∀ k, (Value.slice A l.length c).ownBlock = some k → w.heap.size ≤ k) ∧
    w'.ownsRow 0 168 1 (.slice A2 l.length c2) l.length rows ∧ (∀ k, (Value.slice A2 l.length c2).ownBlock = some k → w.heap.size ≤ k) ∧
    (∀ v ∈ rows, RowOk w' (fun g => w.heap.size ≤ g) l.length v)

set_option maxRecDepth 8192 in
set_option maxHeartbeats 6400000 in
theorem walk143_144 (B L x p1 : Nat) (w : World) (hL : L ≤ 500) (hB : B ≤ L) (hx : x < B)
    (hstep : ∀ (q s : Nat) (wr : World), Below w.heap.size w wr → q < B → s < 95 → Calls Tryz.prog 144 #[.int .i64 q, .int .i64 s, .pointer (some ⟨p1, 0, none⟩)] wr fun e w' => (∃ z : Nat, z < B ∧ e = .returned (.int .i64 z)) ∧ Below wr.heap.size wr w') :
    Calls Tryz.prog 143 #[.int .i64 x, .func (.func 144) #[] #[.pointer (some ⟨p1, 0, none⟩)], .int .i64 L] w fun e w' => WalkInts B w e w' ∧ Below w.heap.size w w' := by
  have Hstep := Lib.hid hstep
  clear hstep
  go_enter Tryz.func143, Tryz.ntmps143
  go_upto_region 1 with fail
  have hmeet := Lib.hid (meet151_any w.heap.size B x (w.alloc (.cells #[.int .i64 (x : Int)] 3)) (by omega) hx (blk_new _ _))
  have hb2 := Lib.hid ((Below.refl w.heap.size w).alloc (Nat.le_refl _) (.cells #[.int .i64 (x : Int)] 3))
  have Hs1 : Hid ((w.alloc (.cells #[.int .i64 (x : Int)] 3)).heap.size = w.heap.size + 1) := Lib.hid (World.size_alloc _ _)
  go_wp2_with (go_at_call 151; refine hmeet.out.mono ?_; rintro e w2 ⟨⟨l0, M, rfl, hl0, hmet⟩, hb3⟩; have Hmet := Lib.hid hmet; have Hb3 := Lib.hid hb3; clear hmet hb3)
  go_loopw [10, 11] (fun s10 s11 wr => ∃ (i : Nat) (l : List Nat) (O : Nat → Prop) (A2 : Option Addr) (c2 : Nat) (rows : List Value), s10 = .slice A2 i c2 ∧ s11 = .int .i64 i ∧ i ≤ l.length ∧ 0 < l.length ∧ Hid (MetInt wr M O B l) ∧
    Hid (∀ g, O g → w.heap.size < g ∧ g < wr.heap.size) ∧ Hid (wr.ownsRow 0 168 1 (.slice A2 i c2) i rows) ∧ Hid (∀ g, (Value.slice A2 i c2).ownBlock = some g → w.heap.size < g ∧ ¬ O g) ∧
    Hid (∀ v ∈ rows, RowOk wr (fun g => w.heap.size < g ∧ ¬ O g) l.length v) ∧ Hid (Below w.heap.size w wr)) (fun _ i _ => B + 1 - (intOf i).toNat)
  case atStart =>
    have h1 := hb2.out
    have h3 := Hb3.out
    refine ⟨0, l0, _, none, 0, [], rfl, rfl, by omega, hl0, Hmet.out, ?_, World.ownsRow_nil _ _ _ _, ?_, ?_, ?_⟩
    · intro g hg
      have e1 := Hs1.out
      simp at hg
      omega
    · intro g hg
      simp [Value.ownBlock] at hg
    · intro v hv
      simp at hv
    · exact h1.trans (h3.mono (by have := Hs1.out; omega))
  case round =>
    clear hmeet hb2 Hmet Hb3
    obtain ⟨i, l, O, A2, c2, rows, rfl, rfl, hi, hl0, hmet, hO, hrow2, hown2, hrows, hK⟩ := hrel
    obtain ⟨Mb, AL, cL, D, hM, hOM, hOMb, hmap, hrow, hAO, hD⟩ := hmet.out.met
    have c1 : wr.cell? ⟨M, 1, none⟩ = some (.slice AL l.length cL) := blk_cell hM 1
    have hlen := hmet.out.len
    by_cases hlt : i < l.length
    · have HM := Lib.hid hM
      clear hmap hrow hM hAO hD
      obtain ⟨g, cg, xi, hcg, hli, hxi, hat, hcg1, hcg2⟩ := hmet.out.cells hlt
      have e2 : AL = some ⟨g, 0, none⟩ ∧ cL = cg := by
        have := hcg.symm.trans c1
        simp at this
        exact ⟨this.1.symm, this.2.symm⟩
      obtain ⟨rfl, rfl⟩ := e2
      have hmk := make95
      clear hcg hcg1 hcg2
      go_upto_region 7 with fail
      clear hmk
      have hR0 : Hid (((wr.alloc (.cells (nums95 fun _ => 0) 3)).heap[wr.heap.size]?) = some (.cells (nums95 fun _ => 0) 3 (0, 0))) := blk_new _ _
      have hm3 := Lib.hid (hmet.out.alloc (.cells (nums95 fun _ => 0) 3))
      have hk3 : Hid (KeepO (fun h => O h) wr (wr.alloc (.cells (nums95 fun _ => 0) 3))) := KeepO.of_below ((Below.refl _ _).alloc (Nat.le_refl _) _)
      have c3 : (wr.alloc (.cells (nums95 fun _ => 0) 3)).cell? ⟨M, 1, none⟩ = some (.slice (some ⟨g, 0, none⟩) l.length cL) := blk_cell (blk_alloc HM.out _) 1
      have c4 : (wr.alloc (.cells (nums95 fun _ => 0) 3)).cell? ⟨g, i, none⟩ = some (.int .i64 (xi : Int)) := by
        obtain ⟨o, ho⟩ := blk_of_cell hat
        simpa [World.cell?, blk_alloc ho, ho] using hat
      have hs3 : Hid ((wr.alloc (.cells (nums95 fun _ => 0) 3)).heap.size = wr.heap.size + 1) := Lib.hid (World.size_alloc _ _)
      obtain ⟨R, hR⟩ : ∃ R, R = wr.heap.size := ⟨_, rfl⟩
      rw [← hR] at hR0 hs3 ⊢
      have HR := Lib.hid hR
      clear hR c1 hat hli
      generalize wr.alloc (.cells (nums95 fun _ => 0) 3) = w3 at hR0 hm3 hk3 c3 c4 hs3 ⊢
      obtain ⟨wo, rfl⟩ : ∃ wo : World, wo = wr := ⟨_, rfl⟩
      go_upto_region 8 with fail
      clear c3 c4
      go_wp2_with fail
      go_loopw [13, 14, 40] (fun s13 s14 s40 wr => ∃ (s k : Nat) (p : Int) (l2 : List Nat) (O2 : Nat → Prop) (f : Nat → Nat), s13 = .int .i64 p ∧ s14 = .int .i64 k ∧ s40 = .int .i64 s ∧ s ≤ 95 ∧ k < l2.length ∧ Hid (l <+: l2) ∧ Hid (MetInt wr M O2 B l2) ∧
        Hid (∀ h, O2 h → O h ∨ (R + 1 ≤ h ∧ h < wr.heap.size)) ∧ Hid (wr.heap[R]? = some (.cells (nums95 f) 3 (0, 0))) ∧ Hid (∀ j, j < 95 → f j < l2.length) ∧
        Hid (KeepO (fun h => O h) wo wr) ∧ Hid (R + 1 ≤ wr.heap.size)) (fun _ _ s _ => 95 - (intOf s).toNat)
      case atStart =>
        exact ⟨0, i, xi, l, O, _, rfl, rfl, rfl, by omega, hlt, List.prefix_rfl, hm3.out, fun h hh => .inl hh, hR0.out, fun _ _ => hl0, hk3.out, Nat.le_of_eq hs3.out.symm⟩
      case round =>
        clear hR0 hm3 hk3 hs3
        obtain ⟨s, k, p, l2, O2, f, rfl, rfl, rfl, hs, hk, hpre, hmet2, hO2, hRb, hf, hK2, hsz⟩ := hrel
        by_cases hs95 : s < 95
        · have hpl := hpre.out.length_le
          obtain ⟨g2, cg2, xi2, hcg2, hli2, hxi2, hat2, hcgl, hcgm⟩ := hmet2.out.cells (show i < l2.length by omega)
          have hil2 : (i : Int) < (l2.length : Int) := by omega
          have hKw : Below w.heap.size w wr := ⟨hK2.out.os.trans hK.out.os, hK2.out.tape.trans hK.out.tape, hK2.out.output.trans hK.out.output, by have := hK.out.size; have := hK2.out.size; omega, fun h hh => (hK2.out.block h (by have := hK.out.size; omega) (fun e => absurd (hO.out h e).1 (by omega))).trans (hK.out.block h hh)⟩
          have HC := Lib.hid (Hstep.out xi2 s wr hKw hxi2 hs95)
          clear hKw hli2 hcgl hcgm
          go_upto_if 55 with (go_at_call 144; refine HC.out.mono ?_; rintro e w6 ⟨⟨z, hz, rfl⟩, hk5⟩; have Hk5 := Lib.hid hk5; clear hk5)
          have hRlt : R < wr.heap.size := hsz.out
          have hOl : ∀ h, O2 h → h < wr.heap.size ∧ h ≠ R := fun h hh => by
            have e1 := hK2.out.size
            have e2 := HR.out
            rcases hO2.out h hh with e | e
            · have := hO.out h e
              omega
            · omega
          have hR6 : Hid (w6.heap[R]? = some (.cells (nums95 f) 3 (0, 0))) := (Hk5.out.block R hRlt).trans hRb.out
          have hm6 : Hid (MetInt w6 M O2 B l2) := hmet2.out.keep (fun h hh => Hk5.out.block h (hOl h hh).1) (fun _ hh => hh)
          have hk6 : Hid (KeepO (fun h => O h) wo w6) := hK2.out.trans (KeepO.of_below Hk5.out) (fun h _ hh => hh)
          have hs6 : Hid (wr.heap.size ≤ w6.heap.size) := Hk5.out.size
          have hOZ : Hid (∀ h, O2 h → h ≠ R) := Lib.hid (fun h hh => (hOl h hh).2)
          clear HC hat2 hcg2 hRb hmet2 hOl Hk5
          obtain ⟨bq, hbq⟩ : ∃ bq, ((z : Int) != p) = bq := ⟨_, rfl⟩
          rw [hbq]
          clear hbq
          go_cut [13, 14] (fun s13 s14 wx => ∃ (k' : Nat) (p' : Int) (l3 : List Nat) (O3 : Nat → Prop), s13 = .int .i64 p' ∧ s14 = .int .i64 k' ∧ k' < l3.length ∧ Hid (l <+: l3) ∧ Hid (l2.length ≤ l3.length) ∧ Hid (MetInt wx M O3 B l3) ∧ Hid (∀ h, O3 h → O h ∨ (R + 1 ≤ h ∧ h < wx.heap.size)) ∧
            Hid (wx.heap[R]? = some (.cells (nums95 f) 3 (0, 0))) ∧ Hid (KeepO (fun h => O h) wo wx) ∧ Hid (R + 1 ≤ wx.heap.size))
          case first =>
            cases bq with
            | false =>
              go_wp2_with fail
              go_meet
              refine ⟨k, p, l2, O2, rfl, rfl, hk, hpre, Nat.le_refl _, hm6, fun h hh => ?_, hR6, hk6, ?_⟩
              · have e6 := hs6.out
                rcases hO2.out h hh with e | e
                · exact .inl e
                · exact .inr ⟨e.1, by omega⟩
              · have := hs6.out
                show _ ≤ _
                omega
            | true =>
              go_wp2_with (go_at_call 152; refine (add152_any M B z O2 l2 w6 (by omega) hz (by have := hm6.out.len; omega) hm6.out).mono ?_; rintro e w8 ⟨⟨l3, j3, rfl, hj3, hp3, hm8⟩, hk8⟩; have Hm8 := Lib.hid hm8; have Hk8 := Lib.hid hk8; have Hp3 := Lib.hid hp3; clear hm8 hk8 hp3)
              go_meet
              have e1 := hs6.out
              have e8 := Hk8.out.size
              refine ⟨j3, z, l3, _, rfl, rfl, hj3, hpre.out.trans Hp3.out, Hp3.out.length_le, Hm8.out, fun h hh => ?_, ?_, ?_, ?_⟩
              · rcases hh with e | e
                · rcases hO2.out h e with e | e
                  · exact .inl e
                  · exact .inr ⟨e.1, by omega⟩
                · exact .inr ⟨by omega, e.2⟩
              · exact (Hk8.out.block R (blk_lt hR6.out) (fun e => hOZ.out R e rfl)).trans hR6.out
              · exact hk6.out.trans Hk8.out (fun h hl hh => by
                  rcases hO2.out h hh with e | e
                  · exact e
                  · have := HR.out
                    omega)
              · show _ ≤ _
                omega
          case rest =>
            obtain ⟨k', p', l3, O3, rfl, rfl, hk3, hp3, hl23, hm3, hO3, hR3, hK3, hs3⟩ := hcut
            have r0 : wc.cell? ⟨R, s, none⟩ = some (.int .i64 ((f s : Nat) : Int)) := (blk_cell hR3.out s).trans (nums95_get f hs95)
            have q0 : wc.frozen? ⟨R, s, none⟩ = false := blk_frozen hR3.out s
            have hs95' : (s : Int) < 95 := by omega
            go_wp2_with fail
            go_roundw
            case rel =>
              have hb : ∀ h, h ≠ R → (wc.setCell ⟨R, s, none⟩ (.int .i64 (k' : Int))).heap[h]? = wc.heap[h]? := fun h hh => Below.heap_setCell wc ⟨R, s, none⟩ _ h hh
              have hOR : ∀ h, O3 h → h ≠ R := fun h hh => by
                have e1 := HR.out
                rcases hO3.out h hh with e | e
                · have := hO.out h e
                  omega
                · omega
              refine ⟨s + 1, k', p', l3, O3, upd f s k', rfl, rfl, by go_num, by omega, hk3, hp3, hm3.out.keep (fun h hh => hb h (hOR h hh)) (fun _ hh => hh), fun h hh => ?_, ?_, fun j hj => ?_, ?_, ?_⟩
              · have := hO3.out h hh
                simpa using this
              · have := blk_set_self hR3.out s (.int .i64 (k' : Int))
                rwa [nums95_set] at this
              · have e1 := hf.out j hj
                have e2 := hl23.out
                show upd f s k' j < l3.length
                unfold upd
                split <;> omega
              · exact KeepO.setCells [.int .i64 (k' : Int)] wc s hK3.out (Or.inr (by have := HR.out; omega))
              · have := hs3.out
                show _ ≤ _
                simpa using this
            case measure => simp [intOf]; omega
        · have hs9 : s = 95 := by omega
          subst hs9
          have hpl := hpre.out.length_le
          obtain ⟨g2, cg2, xi2, hcg2, hli2, hxi2, hat2, hcgl, hcgm⟩ := hmet2.out.cells (show i < l2.length by omega)
          have hlen2 := hmet2.out.len
          have h500 : ¬ (L : Int) < (l2.length : Int) := by omega
          have hil3 : i ≤ l2.length := by omega
          clear hli2 hat2 hcgl hcgm
          obtain ⟨i0, hi0, hz0, hz1, hz2⟩ := info_parts made168
          have hkw : ∀ h, h < wo.heap.size → ¬ O h → wr.heap[h]? = wo.heap[h]? := fun h hh hn => hK2.out.block h hh hn
          have hrow3 : Hid (wr.ownsRow 0 168 1 (.slice A2 i c2) i rows) := row_keep_own hrow2.out (fun g hg => hkw g (hrow2.out.lt g hg).2 (hown2.out g hg).2)
          have hrowA : Hid ((wr.alloc (.cells #[.slice (some ⟨R, 0, none⟩) 95 95] 168)).ownsRow 0 168 1 (.slice A2 i c2) i rows) := hrow3.out.alloc _
          have hRlt : R < wr.heap.size := hsz.out
          have hOR : ∀ h, O2 h → h < wr.heap.size ∧ h ≠ R ∧ w.heap.size < h := fun h hh => by
            have e1 := hK2.out.size
            have e2 := HR.out
            have e3 := hK.out.size
            rcases hO2.out h hh with e | e
            · have := hO.out h e
              omega
            · omega
          have HOR := Lib.hid hOR
          have Hkw := Lib.hid hkw
          clear hOR hkw
          go_wp2_with (at_builtin; refine wpList_append_own_at _ rfl _ _ 136 rfl 0 168 i0 (.slice none 0 0) 1 24 Tryz.underlying136 hi0 hz0 hz1 hz2 rfl (by decide) (.slice A2 i c2) i rows rfl hrowA.out ⟨wr.heap.size, 0, none⟩ 1 1 [.slice (some ⟨R, 0, none⟩) 95 95] rfl rfl (cells_blk (blk_new wr _)) (by intro u hu; simp at hu; subst hu; rfl) (by unfold maxLen; omega) (by omega) (Nat.zero_le _) ?_; intro v7 w7 hown7 hg7 hnil7 hloc7; have Hg7 := Lib.hid hg7; have Hloc7 := Lib.hid hloc7; obtain ⟨A7, c8, rfl, hown8⟩ := own_form hown7; have Hown8 := Lib.hid hown8; clear hown7 hown8 hg7 hloc7 hnil7)
          have hg7 : ∀ h, h < wr.heap.size → (h : Nat) ∉ (Value.slice A2 i c2).ownBlock → w7.heap[h]? = wr.heap[h]? := fun h hh hn => (Hg7.out.block h (by simp; omega) (fun e => hn e.symm)).trans (Below.heap_alloc wr _ h hh)
          have hne7 : ∀ h, h ≤ w.heap.size → (h : Nat) ∉ (Value.slice A2 i c2).ownBlock := fun h hh e => by have := (hown2.out h e).1; omega
          have hOn : ∀ h, O2 h → (h : Nat) ∉ (Value.slice A2 i c2).ownBlock := fun h hh e => by
            have e1 := (hrow2.out.lt h e).2
            have e3 := HR.out
            rcases hO2.out h hh with e2 | e2
            · exact (hown2.out h e).2 e2
            · omega
          have hRn : (R : Nat) ∉ (Value.slice A2 i c2).ownBlock := fun e => by
            have e1 := (hrow2.out.lt R e).2
            have e3 := HR.out
            omega
          have hsz7 : wr.heap.size < w7.heap.size := by
            have := Hg7.out.size
            simp at this
            omega
          have hnO2 : ∀ h, h < wo.heap.size → ¬ O h → ¬ O2 h := fun h hh hn e => by
            have e3 := HR.out
            rcases hO2.out h e with e2 | e2
            · exact hn e2
            · omega
          have hwR : w.heap.size < R := by
            have e1 := hO.out M hOM
            have e2 := HR.out
            omega
          have hRow : RowOk w7 (fun g => w.heap.size < g ∧ ¬ O2 g) l2.length (.slice (some ⟨R, 0, none⟩) 95 95) := ⟨R, f, rfl, ⟨hwR, fun e => (HOR.out R e).2.1 rfl⟩, (hg7 R (by omega) hRn).trans hRb.out, hf.out⟩
          have hown9 := Hown8
          refine ⟨⟨i + 1, l2, O2, A7, c8, rows ++ [.slice (some ⟨R, 0, none⟩) 95 95], rfl, rfl, by omega, by omega, hmet2.out.keep (fun h hh => hg7 h (HOR.out h hh).1 (hOn h hh)) (fun _ hh => hh), fun h hh => ⟨(HOR.out h hh).2.2, by have := (HOR.out h hh).1; omega⟩, hown9, fun h hh => ?_, fun v hv => ?_, ?_⟩, ?_⟩
          · have hk' : (Value.slice A7 (i + 1) c8).ownBlock = some h := hh
            rcases Hloc7.out with h1 | h1
            · have h2 := hown2.out h (h1 ▸ hk')
              exact ⟨h2.1, hnO2 h (hrow2.out.lt h (h1 ▸ hk')).2 h2.2⟩
            · have e : h = (wr.alloc (.cells #[.slice (some ⟨R, 0, none⟩) 95 95] 168)).heap.size := Option.some.inj (hk'.symm.trans h1)
              simp at e
              exact ⟨by omega, fun e2 => by have := (HOR.out h e2).1; omega⟩
          · rcases List.mem_append.1 hv with h1 | h1
            · obtain ⟨R', f', rfl, ⟨hR1, hR2⟩, hRb', hRf⟩ := hrows.out v h1
              have hRl := blk_lt hRb'
              have hne : R' ∉ (Value.slice A2 i c2).ownBlock := fun e => own_ne hrow2.out hRb' (by decide) e
              exact ⟨R', f', rfl, ⟨hR1, hnO2 R' hRl hR2⟩, (hg7 R' (by have := hK2.out.size; omega) hne).trans ((Hkw.out R' hRl hR2).trans hRb'), fun j hj => by have := hRf j hj; omega⟩
            · simp at h1
              subst h1
              exact hRow
          · exact ⟨by rw [Hg7.out.os]; exact hK2.out.os.trans hK.out.os, by rw [Hg7.out.tape]; exact hK2.out.tape.trans hK.out.tape, by rw [Hg7.out.output]; exact hK2.out.output.trans hK.out.output, by have := hK.out.size; have := hK2.out.size; omega, fun h hh => by
              have e1 := hK.out.size
              have e2 := hK2.out.size
              exact (hg7 h (by omega) (hne7 h (by omega))).trans ((Hkw.out h (by omega) (fun e => by have := (hO.out h e).1; omega)).trans (hK.out.block h hh))⟩
          · simp [intOf]
            omega
    · have hil : i = l.length := by omega
      subst hil
      go_wp2_with fail
      go_ret3
      refine ⟨⟨l, AL, cL, A2, c2, rows, rfl, hl0, hlen, hD.all, hrow, fun k hk => Nat.le_of_lt (hO.out k (hAO k hk)).1, hrow2.out, fun k hk => Nat.le_of_lt (hown2.out k hk).1, ?_⟩, hK.out⟩
      intro v hv
      obtain ⟨R, f, rfl, hR, hRb, hRf⟩ := hrows.out v hv
      exact ⟨R, f, rfl, Nat.le_of_lt hR.1, hRb, hRf⟩
end Go.Proofs.YtghlodpbbghcoaaGreatDoor

/- walk[int] of package dfa, with form's step 146: walked. -/
namespace Go.Proofs.YtghlodpbbghcoaaGreatDoor
open Go.RowKit Go.Maps

set_option maxRecDepth 8192 in
set_option maxHeartbeats 6400000 in
theorem walk143_146 (B L x p1 p2 p3 : Nat) (w : World) (hL : L ≤ 500) (hB : B ≤ L) (hx : x < B)
    (hstep : ∀ (q s : Nat) (wr : World), Below w.heap.size w wr → q < B → s < 95 → Calls Tryz.prog 146 #[.int .i64 q, .int .i64 s, .pointer (some ⟨p1, 0, none⟩), .pointer (some ⟨p2, 0, none⟩), .pointer (some ⟨p3, 0, none⟩)] wr fun e w' => (∃ z : Nat, z < B ∧ e = .returned (.int .i64 z)) ∧ Below wr.heap.size wr w') :
    Calls Tryz.prog 143 #[.int .i64 x, .func (.func 146) #[] #[.pointer (some ⟨p1, 0, none⟩), .pointer (some ⟨p2, 0, none⟩), .pointer (some ⟨p3, 0, none⟩)], .int .i64 L] w fun e w' => WalkInts B w e w' ∧ Below w.heap.size w w' := by
  have Hstep := Lib.hid hstep
  clear hstep
  go_enter Tryz.func143, Tryz.ntmps143
  go_upto_region 1 with fail
  have hmeet := Lib.hid (meet151_any w.heap.size B x (w.alloc (.cells #[.int .i64 (x : Int)] 3)) (by omega) hx (blk_new _ _))
  have hb2 := Lib.hid ((Below.refl w.heap.size w).alloc (Nat.le_refl _) (.cells #[.int .i64 (x : Int)] 3))
  have Hs1 : Hid ((w.alloc (.cells #[.int .i64 (x : Int)] 3)).heap.size = w.heap.size + 1) := Lib.hid (World.size_alloc _ _)
  go_wp2_with (go_at_call 151; refine hmeet.out.mono ?_; rintro e w2 ⟨⟨l0, M, rfl, hl0, hmet⟩, hb3⟩; have Hmet := Lib.hid hmet; have Hb3 := Lib.hid hb3; clear hmet hb3)
  go_loopw [10, 11] (fun s10 s11 wr => ∃ (i : Nat) (l : List Nat) (O : Nat → Prop) (A2 : Option Addr) (c2 : Nat) (rows : List Value), s10 = .slice A2 i c2 ∧ s11 = .int .i64 i ∧ i ≤ l.length ∧ 0 < l.length ∧ Hid (MetInt wr M O B l) ∧
    Hid (∀ g, O g → w.heap.size < g ∧ g < wr.heap.size) ∧ Hid (wr.ownsRow 0 168 1 (.slice A2 i c2) i rows) ∧ Hid (∀ g, (Value.slice A2 i c2).ownBlock = some g → w.heap.size < g ∧ ¬ O g) ∧
    Hid (∀ v ∈ rows, RowOk wr (fun g => w.heap.size < g ∧ ¬ O g) l.length v) ∧ Hid (Below w.heap.size w wr)) (fun _ i _ => B + 1 - (intOf i).toNat)
  case atStart =>
    have h1 := hb2.out
    have h3 := Hb3.out
    refine ⟨0, l0, _, none, 0, [], rfl, rfl, by omega, hl0, Hmet.out, ?_, World.ownsRow_nil _ _ _ _, ?_, ?_, ?_⟩
    · intro g hg
      have e1 := Hs1.out
      simp at hg
      omega
    · intro g hg
      simp [Value.ownBlock] at hg
    · intro v hv
      simp at hv
    · exact h1.trans (h3.mono (by have := Hs1.out; omega))
  case round =>
    clear hmeet hb2 Hmet Hb3
    obtain ⟨i, l, O, A2, c2, rows, rfl, rfl, hi, hl0, hmet, hO, hrow2, hown2, hrows, hK⟩ := hrel
    obtain ⟨Mb, AL, cL, D, hM, hOM, hOMb, hmap, hrow, hAO, hD⟩ := hmet.out.met
    have c1 : wr.cell? ⟨M, 1, none⟩ = some (.slice AL l.length cL) := blk_cell hM 1
    have hlen := hmet.out.len
    by_cases hlt : i < l.length
    · have HM := Lib.hid hM
      clear hmap hrow hM hAO hD
      obtain ⟨g, cg, xi, hcg, hli, hxi, hat, hcg1, hcg2⟩ := hmet.out.cells hlt
      have e2 : AL = some ⟨g, 0, none⟩ ∧ cL = cg := by
        have := hcg.symm.trans c1
        simp at this
        exact ⟨this.1.symm, this.2.symm⟩
      obtain ⟨rfl, rfl⟩ := e2
      have hmk := make95
      clear hcg hcg1 hcg2
      go_upto_region 7 with fail
      clear hmk
      have hR0 : Hid (((wr.alloc (.cells (nums95 fun _ => 0) 3)).heap[wr.heap.size]?) = some (.cells (nums95 fun _ => 0) 3 (0, 0))) := blk_new _ _
      have hm3 := Lib.hid (hmet.out.alloc (.cells (nums95 fun _ => 0) 3))
      have hk3 : Hid (KeepO (fun h => O h) wr (wr.alloc (.cells (nums95 fun _ => 0) 3))) := KeepO.of_below ((Below.refl _ _).alloc (Nat.le_refl _) _)
      have c3 : (wr.alloc (.cells (nums95 fun _ => 0) 3)).cell? ⟨M, 1, none⟩ = some (.slice (some ⟨g, 0, none⟩) l.length cL) := blk_cell (blk_alloc HM.out _) 1
      have c4 : (wr.alloc (.cells (nums95 fun _ => 0) 3)).cell? ⟨g, i, none⟩ = some (.int .i64 (xi : Int)) := by
        obtain ⟨o, ho⟩ := blk_of_cell hat
        simpa [World.cell?, blk_alloc ho, ho] using hat
      have hs3 : Hid ((wr.alloc (.cells (nums95 fun _ => 0) 3)).heap.size = wr.heap.size + 1) := Lib.hid (World.size_alloc _ _)
      obtain ⟨R, hR⟩ : ∃ R, R = wr.heap.size := ⟨_, rfl⟩
      rw [← hR] at hR0 hs3 ⊢
      have HR := Lib.hid hR
      clear hR c1 hat hli
      generalize wr.alloc (.cells (nums95 fun _ => 0) 3) = w3 at hR0 hm3 hk3 c3 c4 hs3 ⊢
      obtain ⟨wo, rfl⟩ : ∃ wo : World, wo = wr := ⟨_, rfl⟩
      go_upto_region 8 with fail
      clear c3 c4
      go_wp2_with fail
      go_loopw [13, 14, 40] (fun s13 s14 s40 wr => ∃ (s k : Nat) (p : Int) (l2 : List Nat) (O2 : Nat → Prop) (f : Nat → Nat), s13 = .int .i64 p ∧ s14 = .int .i64 k ∧ s40 = .int .i64 s ∧ s ≤ 95 ∧ k < l2.length ∧ Hid (l <+: l2) ∧ Hid (MetInt wr M O2 B l2) ∧
        Hid (∀ h, O2 h → O h ∨ (R + 1 ≤ h ∧ h < wr.heap.size)) ∧ Hid (wr.heap[R]? = some (.cells (nums95 f) 3 (0, 0))) ∧ Hid (∀ j, j < 95 → f j < l2.length) ∧
        Hid (KeepO (fun h => O h) wo wr) ∧ Hid (R + 1 ≤ wr.heap.size)) (fun _ _ s _ => 95 - (intOf s).toNat)
      case atStart =>
        exact ⟨0, i, xi, l, O, _, rfl, rfl, rfl, by omega, hlt, List.prefix_rfl, hm3.out, fun h hh => .inl hh, hR0.out, fun _ _ => hl0, hk3.out, Nat.le_of_eq hs3.out.symm⟩
      case round =>
        clear hR0 hm3 hk3 hs3
        obtain ⟨s, k, p, l2, O2, f, rfl, rfl, rfl, hs, hk, hpre, hmet2, hO2, hRb, hf, hK2, hsz⟩ := hrel
        by_cases hs95 : s < 95
        · have hpl := hpre.out.length_le
          obtain ⟨g2, cg2, xi2, hcg2, hli2, hxi2, hat2, hcgl, hcgm⟩ := hmet2.out.cells (show i < l2.length by omega)
          have hil2 : (i : Int) < (l2.length : Int) := by omega
          have hKw : Below w.heap.size w wr := ⟨hK2.out.os.trans hK.out.os, hK2.out.tape.trans hK.out.tape, hK2.out.output.trans hK.out.output, by have := hK.out.size; have := hK2.out.size; omega, fun h hh => (hK2.out.block h (by have := hK.out.size; omega) (fun e => absurd (hO.out h e).1 (by omega))).trans (hK.out.block h hh)⟩
          have HC := Lib.hid (Hstep.out xi2 s wr hKw hxi2 hs95)
          clear hKw hli2 hcgl hcgm
          go_upto_if 55 with (go_at_call 146; refine HC.out.mono ?_; rintro e w6 ⟨⟨z, hz, rfl⟩, hk5⟩; have Hk5 := Lib.hid hk5; clear hk5)
          have hRlt : R < wr.heap.size := hsz.out
          have hOl : ∀ h, O2 h → h < wr.heap.size ∧ h ≠ R := fun h hh => by
            have e1 := hK2.out.size
            have e2 := HR.out
            rcases hO2.out h hh with e | e
            · have := hO.out h e
              omega
            · omega
          have hR6 : Hid (w6.heap[R]? = some (.cells (nums95 f) 3 (0, 0))) := (Hk5.out.block R hRlt).trans hRb.out
          have hm6 : Hid (MetInt w6 M O2 B l2) := hmet2.out.keep (fun h hh => Hk5.out.block h (hOl h hh).1) (fun _ hh => hh)
          have hk6 : Hid (KeepO (fun h => O h) wo w6) := hK2.out.trans (KeepO.of_below Hk5.out) (fun h _ hh => hh)
          have hs6 : Hid (wr.heap.size ≤ w6.heap.size) := Hk5.out.size
          have hOZ : Hid (∀ h, O2 h → h ≠ R) := Lib.hid (fun h hh => (hOl h hh).2)
          clear HC hat2 hcg2 hRb hmet2 hOl Hk5
          obtain ⟨bq, hbq⟩ : ∃ bq, ((z : Int) != p) = bq := ⟨_, rfl⟩
          rw [hbq]
          clear hbq
          go_cut [13, 14] (fun s13 s14 wx => ∃ (k' : Nat) (p' : Int) (l3 : List Nat) (O3 : Nat → Prop), s13 = .int .i64 p' ∧ s14 = .int .i64 k' ∧ k' < l3.length ∧ Hid (l <+: l3) ∧ Hid (l2.length ≤ l3.length) ∧ Hid (MetInt wx M O3 B l3) ∧ Hid (∀ h, O3 h → O h ∨ (R + 1 ≤ h ∧ h < wx.heap.size)) ∧
            Hid (wx.heap[R]? = some (.cells (nums95 f) 3 (0, 0))) ∧ Hid (KeepO (fun h => O h) wo wx) ∧ Hid (R + 1 ≤ wx.heap.size))
          case first =>
            cases bq with
            | false =>
              go_wp2_with fail
              go_meet
              refine ⟨k, p, l2, O2, rfl, rfl, hk, hpre, Nat.le_refl _, hm6, fun h hh => ?_, hR6, hk6, ?_⟩
              · have e6 := hs6.out
                rcases hO2.out h hh with e | e
                · exact .inl e
                · exact .inr ⟨e.1, by omega⟩
              · have := hs6.out
                show _ ≤ _
                omega
            | true =>
              go_wp2_with (go_at_call 152; refine (add152_any M B z O2 l2 w6 (by omega) hz (by have := hm6.out.len; omega) hm6.out).mono ?_; rintro e w8 ⟨⟨l3, j3, rfl, hj3, hp3, hm8⟩, hk8⟩; have Hm8 := Lib.hid hm8; have Hk8 := Lib.hid hk8; have Hp3 := Lib.hid hp3; clear hm8 hk8 hp3)
              go_meet
              have e1 := hs6.out
              have e8 := Hk8.out.size
              refine ⟨j3, z, l3, _, rfl, rfl, hj3, hpre.out.trans Hp3.out, Hp3.out.length_le, Hm8.out, fun h hh => ?_, ?_, ?_, ?_⟩
              · rcases hh with e | e
                · rcases hO2.out h e with e | e
                  · exact .inl e
                  · exact .inr ⟨e.1, by omega⟩
                · exact .inr ⟨by omega, e.2⟩
              · exact (Hk8.out.block R (blk_lt hR6.out) (fun e => hOZ.out R e rfl)).trans hR6.out
              · exact hk6.out.trans Hk8.out (fun h hl hh => by
                  rcases hO2.out h hh with e | e
                  · exact e
                  · have := HR.out
                    omega)
              · show _ ≤ _
                omega
          case rest =>
            obtain ⟨k', p', l3, O3, rfl, rfl, hk3, hp3, hl23, hm3, hO3, hR3, hK3, hs3⟩ := hcut
            have r0 : wc.cell? ⟨R, s, none⟩ = some (.int .i64 ((f s : Nat) : Int)) := (blk_cell hR3.out s).trans (nums95_get f hs95)
            have q0 : wc.frozen? ⟨R, s, none⟩ = false := blk_frozen hR3.out s
            have hs95' : (s : Int) < 95 := by omega
            go_wp2_with fail
            go_roundw
            case rel =>
              have hb : ∀ h, h ≠ R → (wc.setCell ⟨R, s, none⟩ (.int .i64 (k' : Int))).heap[h]? = wc.heap[h]? := fun h hh => Below.heap_setCell wc ⟨R, s, none⟩ _ h hh
              have hOR : ∀ h, O3 h → h ≠ R := fun h hh => by
                have e1 := HR.out
                rcases hO3.out h hh with e | e
                · have := hO.out h e
                  omega
                · omega
              refine ⟨s + 1, k', p', l3, O3, upd f s k', rfl, rfl, by go_num, by omega, hk3, hp3, hm3.out.keep (fun h hh => hb h (hOR h hh)) (fun _ hh => hh), fun h hh => ?_, ?_, fun j hj => ?_, ?_, ?_⟩
              · have := hO3.out h hh
                simpa using this
              · have := blk_set_self hR3.out s (.int .i64 (k' : Int))
                rwa [nums95_set] at this
              · have e1 := hf.out j hj
                have e2 := hl23.out
                show upd f s k' j < l3.length
                unfold upd
                split <;> omega
              · exact KeepO.setCells [.int .i64 (k' : Int)] wc s hK3.out (Or.inr (by have := HR.out; omega))
              · have := hs3.out
                show _ ≤ _
                simpa using this
            case measure => simp [intOf]; omega
        · have hs9 : s = 95 := by omega
          subst hs9
          have hpl := hpre.out.length_le
          obtain ⟨g2, cg2, xi2, hcg2, hli2, hxi2, hat2, hcgl, hcgm⟩ := hmet2.out.cells (show i < l2.length by omega)
          have hlen2 := hmet2.out.len
          have h500 : ¬ (L : Int) < (l2.length : Int) := by omega
          have hil3 : i ≤ l2.length := by omega
          clear hli2 hat2 hcgl hcgm
          obtain ⟨i0, hi0, hz0, hz1, hz2⟩ := info_parts made168
          have hkw : ∀ h, h < wo.heap.size → ¬ O h → wr.heap[h]? = wo.heap[h]? := fun h hh hn => hK2.out.block h hh hn
          have hrow3 : Hid (wr.ownsRow 0 168 1 (.slice A2 i c2) i rows) := row_keep_own hrow2.out (fun g hg => hkw g (hrow2.out.lt g hg).2 (hown2.out g hg).2)
          have hrowA : Hid ((wr.alloc (.cells #[.slice (some ⟨R, 0, none⟩) 95 95] 168)).ownsRow 0 168 1 (.slice A2 i c2) i rows) := hrow3.out.alloc _
          have hRlt : R < wr.heap.size := hsz.out
          have hOR : ∀ h, O2 h → h < wr.heap.size ∧ h ≠ R ∧ w.heap.size < h := fun h hh => by
            have e1 := hK2.out.size
            have e2 := HR.out
            have e3 := hK.out.size
            rcases hO2.out h hh with e | e
            · have := hO.out h e
              omega
            · omega
          have HOR := Lib.hid hOR
          have Hkw := Lib.hid hkw
          clear hOR hkw
          go_wp2_with (at_builtin; refine wpList_append_own_at _ rfl _ _ 136 rfl 0 168 i0 (.slice none 0 0) 1 24 Tryz.underlying136 hi0 hz0 hz1 hz2 rfl (by decide) (.slice A2 i c2) i rows rfl hrowA.out ⟨wr.heap.size, 0, none⟩ 1 1 [.slice (some ⟨R, 0, none⟩) 95 95] rfl rfl (cells_blk (blk_new wr _)) (by intro u hu; simp at hu; subst hu; rfl) (by unfold maxLen; omega) (by omega) (Nat.zero_le _) ?_; intro v7 w7 hown7 hg7 hnil7 hloc7; have Hg7 := Lib.hid hg7; have Hloc7 := Lib.hid hloc7; obtain ⟨A7, c8, rfl, hown8⟩ := own_form hown7; have Hown8 := Lib.hid hown8; clear hown7 hown8 hg7 hloc7 hnil7)
          have hg7 : ∀ h, h < wr.heap.size → (h : Nat) ∉ (Value.slice A2 i c2).ownBlock → w7.heap[h]? = wr.heap[h]? := fun h hh hn => (Hg7.out.block h (by simp; omega) (fun e => hn e.symm)).trans (Below.heap_alloc wr _ h hh)
          have hne7 : ∀ h, h ≤ w.heap.size → (h : Nat) ∉ (Value.slice A2 i c2).ownBlock := fun h hh e => by have := (hown2.out h e).1; omega
          have hOn : ∀ h, O2 h → (h : Nat) ∉ (Value.slice A2 i c2).ownBlock := fun h hh e => by
            have e1 := (hrow2.out.lt h e).2
            have e3 := HR.out
            rcases hO2.out h hh with e2 | e2
            · exact (hown2.out h e).2 e2
            · omega
          have hRn : (R : Nat) ∉ (Value.slice A2 i c2).ownBlock := fun e => by
            have e1 := (hrow2.out.lt R e).2
            have e3 := HR.out
            omega
          have hsz7 : wr.heap.size < w7.heap.size := by
            have := Hg7.out.size
            simp at this
            omega
          have hnO2 : ∀ h, h < wo.heap.size → ¬ O h → ¬ O2 h := fun h hh hn e => by
            have e3 := HR.out
            rcases hO2.out h e with e2 | e2
            · exact hn e2
            · omega
          have hwR : w.heap.size < R := by
            have e1 := hO.out M hOM
            have e2 := HR.out
            omega
          have hRow : RowOk w7 (fun g => w.heap.size < g ∧ ¬ O2 g) l2.length (.slice (some ⟨R, 0, none⟩) 95 95) := ⟨R, f, rfl, ⟨hwR, fun e => (HOR.out R e).2.1 rfl⟩, (hg7 R (by omega) hRn).trans hRb.out, hf.out⟩
          have hown9 := Hown8
          refine ⟨⟨i + 1, l2, O2, A7, c8, rows ++ [.slice (some ⟨R, 0, none⟩) 95 95], rfl, rfl, by omega, by omega, hmet2.out.keep (fun h hh => hg7 h (HOR.out h hh).1 (hOn h hh)) (fun _ hh => hh), fun h hh => ⟨(HOR.out h hh).2.2, by have := (HOR.out h hh).1; omega⟩, hown9, fun h hh => ?_, fun v hv => ?_, ?_⟩, ?_⟩
          · have hk' : (Value.slice A7 (i + 1) c8).ownBlock = some h := hh
            rcases Hloc7.out with h1 | h1
            · have h2 := hown2.out h (h1 ▸ hk')
              exact ⟨h2.1, hnO2 h (hrow2.out.lt h (h1 ▸ hk')).2 h2.2⟩
            · have e : h = (wr.alloc (.cells #[.slice (some ⟨R, 0, none⟩) 95 95] 168)).heap.size := Option.some.inj (hk'.symm.trans h1)
              simp at e
              exact ⟨by omega, fun e2 => by have := (HOR.out h e2).1; omega⟩
          · rcases List.mem_append.1 hv with h1 | h1
            · obtain ⟨R', f', rfl, ⟨hR1, hR2⟩, hRb', hRf⟩ := hrows.out v h1
              have hRl := blk_lt hRb'
              have hne : R' ∉ (Value.slice A2 i c2).ownBlock := fun e => own_ne hrow2.out hRb' (by decide) e
              exact ⟨R', f', rfl, ⟨hR1, hnO2 R' hRl hR2⟩, (hg7 R' (by have := hK2.out.size; omega) hne).trans ((Hkw.out R' hRl hR2).trans hRb'), fun j hj => by have := hRf j hj; omega⟩
            · simp at h1
              subst h1
              exact hRow
          · exact ⟨by rw [Hg7.out.os]; exact hK2.out.os.trans hK.out.os, by rw [Hg7.out.tape]; exact hK2.out.tape.trans hK.out.tape, by rw [Hg7.out.output]; exact hK2.out.output.trans hK.out.output, by have := hK.out.size; have := hK2.out.size; omega, fun h hh => by
              have e1 := hK.out.size
              have e2 := hK2.out.size
              exact (hg7 h (by omega) (hne7 h (by omega))).trans ((Hkw.out h (by omega) (fun e => by have := (hO.out h e).1; omega)).trans (hK.out.block h hh))⟩
          · simp [intOf]
            omega
    · have hil : i = l.length := by omega
      subst hil
      go_wp2_with fail
      go_ret3
      refine ⟨⟨l, AL, cL, A2, c2, rows, rfl, hl0, hlen, hD.all, hrow, fun k hk => Nat.le_of_lt (hO.out k (hAO k hk)).1, hrow2.out, fun k hk => Nat.le_of_lt (hown2.out k hk).1, ?_⟩, hK.out⟩
      intro v hv
      obtain ⟨R, f, rfl, hR, hRb, hRf⟩ := hrows.out v hv
      exact ⟨R, f, rfl, Nat.le_of_lt hR.1, hRb, hRf⟩
end Go.Proofs.YtghlodpbbghcoaaGreatDoor

/- What has been met of classes' keys: plain, numbered exactly. -/
namespace Go.Proofs.YtghlodpbbghcoaaGreatDoor
open Go.RowKit Go.Maps
def KeyOk (cs : Array Value) : Prop := ∃ f : Nat → Nat, cs = keyV f ∧ ∀ i, i < 96 → f i < 65536
noncomputable def kl225 (cs : Array Value) : Lit := (keyOf Tryz.prog 225 (.agg cs)).getD (.bool false)
theorem kl225_key {cs : Array Value} (h : KeyOk cs) : keyOf Tryz.prog 225 (.agg cs) = some (kl225 cs) := by
  obtain ⟨f, rfl, hf⟩ := h
  obtain ⟨l, hl⟩ := key225 f hf
  unfold kl225
  rw [hl]
  rfl
theorem kl225_inj {a b : Array Value} (ha : KeyOk a) (hb : KeyOk b) (h : kl225 a = kl225 b) : a = b := by
  have h1 := kl225_key ha
  have h2 := kl225_key hb
  rw [h] at h1
  have := law225.inj h1 h2
  simpa only [Value.agg.injEq] using this
theorem KeyOk.size {cs : Array Value} (h : KeyOk cs) : cs.size = 96 := by
  obtain ⟨f, rfl, _⟩ := h
  exact keyV_size f
theorem KeyOk.one {cs : Array Value} (h : KeyOk cs) : ∀ v ∈ cs, v.oneCell' = true := by
  obtain ⟨f, rfl, _⟩ := h
  intro v hv
  simp only [keyV, Array.mem_map] at hv
  obtain ⟨k, _, rfl⟩ := hv
  rfl
/-- What has been met, each with the place where it stands. -/
structure MetE {α : Type} (kl : α → Lit) (ok : α → Prop) (D : DataW Unit) (l : List α) : Prop where
  isMap : IsMap D
  has : ∀ a, ok a → (Maps.has D (kl a) = true ↔ a ∈ l)
  at_ : ∀ a, ok a → a ∈ l → ∃ j : Nat, l[j]? = some a ∧ D.atKey (kl a) (.lit (.int .i64 0)) = .lit (.int .i64 j)
  all : ∀ a ∈ l, ok a
theorem MetE.nil {α : Type} (kl : α → Lit) (ok : α → Prop) : MetE kl ok (.map []) [] :=
  ⟨isMap_empty, fun a _ => by simp [Maps.has], fun a _ h => by simp at h, fun a h => by simp at h⟩
theorem MetE.push {α : Type} {kl : α → Lit} {ok : α → Prop} {D : DataW Unit} {l : List α} (h : MetE kl ok D l) (hk : ∀ a, ok a → WideAt.IsKeyLit (kl a)) (hi : ∀ a b, ok a → ok b → kl a = kl b → a = b) {a : α} (ha : ok a) (hn : a ∉ l) :
    MetE kl ok (D.put (kl a) (.lit (.int .i64 (l.length : Nat)))) (l ++ [a]) := by
  refine ⟨h.isMap.put _ _, fun b hb => ?_, fun b hb hm => ?_, ?_⟩
  · by_cases e : b = a
    · subst e
      rw [has_put_same h.isMap (hk b hb)]
      simp
    · rw [has_put_other (fun e2 => e (hi _ _ hb ha e2)), h.has b hb]
      simp [e]
  · by_cases e : b = a
    · subst e
      exact ⟨l.length, by simp, atKey_put_same h.isMap (hk b hb) _ _⟩
    · have hm2 : b ∈ l := by simpa [e] using hm
      obtain ⟨j, hj, hat⟩ := h.at_ b hb hm2
      have hjl : j < l.length := by
        rcases Nat.lt_or_ge j l.length with h1 | h1
        · exact h1
        · rw [List.getElem?_eq_none h1] at hj
          cases hj
      exact ⟨j, by rw [List.getElem?_append_left hjl]; exact hj, by rw [atKey_put_other (fun e2 => e (hi _ _ hb ha e2))]; exact hat⟩
  · intro b hb
    rcases List.mem_append.1 hb with h1 | h1
    · exact h.all b h1
    · simp at h1; subst h1; exact ha
/-- Classes that take each value below count, told apart again by keys whose first part is the class: no fewer keys. -/
theorem classes_le (f g : Nat → Nat) (n count m : Nat) (hf : count = 0 ∨ ∀ j, j < count → ∃ q, q < n ∧ f q = j)
    (hg : ∀ q, q < n → g q < m) (hk : ∀ q q', q < n → q' < n → g q = g q' → f q = f q') : count ≤ m := by
  rcases hf with h | h
  · omega
  · have hch : ∃ c : Nat → Nat, ∀ j, j < count → c j < n ∧ f (c j) = j := by
      refine ⟨fun j => if hj : j < count then (h j hj).choose else 0, fun j hj => ?_⟩
      simp only [dif_pos hj]
      exact (h j hj).choose_spec
    obtain ⟨c, hc⟩ := hch
    have := Rx.nodup_range (l := (List.range count).map fun j => (Int.ofNat (g (c j)))) m (by
      rw [List.nodup_iff_pairwise_ne, List.pairwise_map]
      refine List.Pairwise.imp_of_mem (R := fun a b => a ≠ b) (fun {a b} ha hb hab e => ?_) List.nodup_range
      rw [List.mem_range] at ha hb
      have e1 := Int.ofNat.inj e
      have e2 := hk _ _ (hc a ha).1 (hc b hb).1 e1
      rw [(hc a ha).2, (hc b hb).2] at e2
      exact hab e2) (by
      intro q hq
      obtain ⟨j, hj, rfl⟩ := List.mem_map.1 hq
      rw [List.mem_range] at hj
      exact ⟨by simp, by simpa using hg _ (hc j hj).1⟩)
    simpa using this
end Go.Proofs.YtghlodpbbghcoaaGreatDoor
