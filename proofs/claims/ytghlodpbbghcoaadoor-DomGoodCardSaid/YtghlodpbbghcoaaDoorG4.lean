/- Texts side by side merged, walked. -/
import Derived.Test.YtghlodpbbghcoaaDoorG3
import Derived.Deep.DeepCutAuto
import Derived.Deep.CutBlock
import Derived.OwnWalk
namespace Go.Proofs.YtghlodpbbghcoaaDoor
open Go.Lib Go.RowKit

set_option maxRecDepth 100000 in
set_option maxHeartbeats 6400000 in
theorem merge_any (A : Option Addr) (ns : List Fl) (cap : Nat) (hns : ns.length ≤ 100) (hcap : ns.length ≤ cap) (hfine : ∀ x ∈ ns, fineIn x) (w : World) (hin : 0 < ns.length → ∃ b o, A = some ⟨b, o, none⟩ ∧ b < w.heap.size ∧ FlatAt w b o ns) :
    Calls Tryd.prog 9 #[.slice A ns.length cap] w fun e w' => ∃ (v : Value) (out : List Fl), e = .returned v ∧ w'.ownsRow w.heap.size 28 5 v out.length (flatCells out) ∧ goodRow false out ∧ out.length ≤ 100 ∧ Below w.heap.size w w' := by
  obtain ⟨i0, hi, hz0, hz1, hz2⟩ := info_parts info28
  obtain ⟨n, hn⟩ : ∃ n, ns.length = n := ⟨_, rfl⟩
  rw [hn] at hns hcap hin ⊢
  replace hn := Lib.hid hn
  replace hfine := Lib.hid hfine
  go_enter Tryd.func9, Tryd.ntmps9
  go_wp2
  go_loopw [3, 4] (fun v x4 wr => ∃ (i : Nat) (out : List Fl), i ≤ n ∧ x4 = .int .i64 i ∧ out.length ≤ i ∧ wr.ownsRow w.heap.size 28 5 v out.length (flatCells out) ∧ Hid (goodRow false out) ∧ Hid (lastT false out = true → ∀ x, ns[i]? = some x → x.1 ≠ 2) ∧ Hid (Below w.heap.size w wr)) (fun _ x4 _ => n - (Lib.intOf x4).toNat)
  case atStart => exact ⟨0, [], Nat.zero_le _, rfl, Nat.zero_le _, World.ownsRow_nil _ _ _ _, Lib.hid trivial, Lib.hid (fun h => by cases h), Lib.hid (Below.refl _ _)⟩
  case round =>
    obtain ⟨i, out, hin2, rfl, hol, hrow, hgood, hlast, hB⟩ := hrel
    by_cases hlt : i < n
    · obtain ⟨b, o, rfl, hbw, hflat⟩ := hin (by omega)
      have hil : i < ns.length := by rw [hn.out]; exact hlt
      have hflr : Hid (FlatAt wr b o ns) := Lib.hid (hflat.below hbw hB.out)
      obtain ⟨⟨k, t⟩, hx⟩ : ∃ x, ns[i] = x := ⟨_, rfl⟩
      have hx2 : Hid (ns[i]? = some (k, t)) := Lib.hid (by rw [List.getElem?_eq_getElem hil, hx])
      obtain ⟨c0, c1, c2, c3, c4⟩ := hflr.out i hil
      rw [hx] at c0 c3
      have hfx := hfine.out (k, t) (by rw [← hx]; exact List.getElem_mem hil)
      obtain ⟨hk23, htL, htz⟩ := hfx
      simp only at hk23 htL htz
      have hbr : b < wr.heap.size := Nat.lt_of_lt_of_le hbw hB.out.size
      obtain ⟨te, hte⟩ : ∃ x, t.toList.isEmpty = x := ⟨_, rfl⟩
      have hsz := Lib.hid hB.out.size
      have hi0 : (0 : Int) ≤ (i : Int) := by omega
      have hi1 : (i : Int) < (n : Int) := by omega
      clear hx
      by_cases hskip : k = 2 ∧ te = true
      · obtain ⟨rfl, rfl⟩ := hskip
        have hl2 : Hid (lastT false out = false) := Lib.hid (Bool.eq_false_iff.2 (fun h => hlast.out h _ hx2.out rfl))
        go_wp2
        exact ⟨⟨i + 1, out, by omega, by simp, by omega, hrow, hgood, Lib.hid (fun h => by rw [hl2.out] at h; cases h), hB⟩, by simp [Lib.intOf]; omega⟩
      · have hclone := clone_flat b (o + i * 5) (cap - i) k ⟨#[]⟩ t wr hbr c0 c1 c2 c3 c4
        rcases hk23 with rfl | rfl
        · have hte2 : te = false := by cases te with | false => rfl | true => exact absurd ⟨rfl, rfl⟩ hskip
          subst hte2
          have hl2 : Hid (lastT false out = false) := Lib.hid (Bool.eq_false_iff.2 (fun h => hlast.out h _ hx2.out rfl))
          go_upto_region 8 with (go_at_call 26; refine hclone.mono ?_; rintro e w1 ⟨g, rfl, hg0, hgk, hB1⟩; have d0 := blk_cell hgk 0; have d1 := blk_cell hgk 1; have d2 := blk_cell hgk 2; have d3 := blk_cell hgk 3; have d4 := blk_cell hgk 4; simp only [List.getElem?_toArray, List.getElem?_cons_zero, List.getElem?_cons_succ] at d0 d1 d2 d3 d4)
          obtain ⟨W1, hW1⟩ : ∃ W1, w1.alloc (.cells #[.int .i64 2, .string ⟨#[]⟩, .slice none 0 0, .string t, .slice none 0 0] 28) = W1 := ⟨_, rfl⟩
          have hX1 : W1.heap[w1.heap.size]? = some (.cells #[.int .i64 2, .string ⟨#[]⟩, .slice none 0 0, .string t, .slice none 0 0] 28) := by rw [← hW1]; exact blk_new _ _
          have hWs : W1.heap.size = w1.heap.size + 1 := by rw [← hW1]; simp
          have hBW : Below wr.heap.size wr W1 := by rw [← hW1]; exact hB1.alloc hB1.size _
          rw [hW1]
          have hw1s := hB1.size
          clear hW1 d0 d1 d2 d3 d4 hgk hB1 hclone
          replace hX1 := Lib.hid hX1
          replace hBW := Lib.hid hBW
          have d0 := blk_cell hX1.out 0
          have d3 := blk_cell hX1.out 3
          obtain ⟨X, hX⟩ : ∃ X, w1.heap.size = X := ⟨_, rfl⟩
          rw [hX] at d0 d3 hX1 hWs hw1s ⊢
          clear hX hg0
          have d3' : ∀ c, (W1.alloc c).cell? ⟨X, 3, none⟩ = some (.string t) := fun c => blk_cell (blk_alloc hX1.out _) 3
          have hwr := writeString_any W1.heap.size W1.heap.size [] t _ (Lib.fresh_isBuilder 49 5 W1) (by simp; omega) (by simp)
          rw [hWs] at hwr
          have hsz0 := hsz
          replace hsz := Lib.hid (Nat.lt_of_lt_of_le hbr (Nat.le_trans hw1s (by rw [hWs]; exact Nat.le_succ _) : wr.heap.size ≤ W1.heap.size))
          go_upto_region 11 with (go_at_call 27; refine hwr.mono ?_; rintro e w2 ⟨⟨ve, rfl⟩, hb2, hB2⟩)
          have hb2' : Hid (Lib.BuilderAt 49 5 (X + 1) (X + 1) (.pointer (some ⟨X + 1, 0, none⟩)) (byteCells t.data.toList) w2) := Lib.hid (by simpa [strCells, byteCells] using hb2)
          have hB2' : Hid (Below (X + 1) W1 w2) := Lib.hid (((Below.refl (X + 1) W1).alloc (by omega) _).trans hB2)
          clear hb2 hB2 hwr d3' d3 d0
          have hflW : Hid (FlatAt W1 b o ns) := Lib.hid (hflr.out.below hbr hBW.out)
          clear hflr c1 c2 c4 c0 c3
          obtain ⟨wo, rfl⟩ : ∃ wo, wo = wr := ⟨_, rfl⟩
          go_loopw [4] (fun x4 wr2 => ∃ (j : Nat) (acc : List UInt8), i < j ∧ j ≤ n ∧ x4 = .int .i64 j ∧ Hid (isL acc = true ∧ acc ≠ [] ∧ acc.length ≤ 1000 * j) ∧ Hid (Lib.BuilderAt 49 5 (X + 1) (X + 1) (.pointer (some ⟨X + 1, 0, none⟩)) (byteCells acc) wr2) ∧ Hid (Below (X + 1) W1 wr2)) (fun x4 _ => n - (Lib.intOf x4).toNat)
          case atStart => exact ⟨i + 1, t.data.toList, by omega, by omega, by simp, Lib.hid ⟨htL, (by intro h; rw [ByteArray.toList_eq, h] at hte; cases hte), by rw [Array.length_toList]; exact Nat.le_trans htz (by omega)⟩, hb2', hB2'⟩
          case round =>
            obtain ⟨j, acc, hj1, hj2, rfl, hacc, hbld, hB3⟩ := hrel
            clear hb2' hB2'
            have hflj : Hid (FlatAt wr b o ns) := Lib.hid (fun q hq => hflW.out.below hsz.out (hB3.out.mono (Nat.le_of_eq hWs)) q hq)
            have hj0 : (0 : Int) ≤ (j : Int) := by omega
            by_cases hjn : j < n
            · have hjl : j < ns.length := by rw [hn.out]; exact hjn
              obtain ⟨⟨k2, t2⟩, hxj⟩ : ∃ x, ns[j] = x := ⟨_, rfl⟩
              have hxj2 : Hid (ns[j]? = some (k2, t2)) := Lib.hid (by rw [List.getElem?_eq_getElem hjl, hxj])
              obtain ⟨c0, _, _, c3, _⟩ := hflj.out j hjl
              rw [hxj] at c0 c3
              obtain ⟨hk2, ht2L, ht2z⟩ := hfine.out (k2, t2) (by rw [← hxj]; exact List.getElem_mem hjl)
              simp only at hk2 ht2L ht2z
              clear hxj
              have hj3 : (j : Int) < (n : Int) := by omega
              rcases hk2 with rfl | rfl
              · have hwr2 := writeString_any (X + 1) (X + 1) (byteCells acc) t2 wr (Or.inr hbld.out) (by rw [byteCells_length]; have := hacc.out.2.2; omega) (by have := hB3.out.size; omega)
                go_wp2_with (go_at_call 27; refine hwr2.mono ?_; rintro e w3 ⟨⟨ve2, rfl⟩, hb4, hB4⟩)
                refine ⟨⟨j + 1, acc ++ t2.data.toList, by omega, by omega, by simp, Lib.hid ⟨isL_append hacc.out.1 ht2L, (fun h => hacc.out.2.1 (List.append_eq_nil_iff.1 h).1), ?_⟩, Lib.hid ?_, Lib.hid (hB3.out.trans hB4)⟩, by simp [Lib.intOf]; omega⟩
                · have := hacc.out.2.2
                  have e : t2.data.toList.length = t2.size := Array.length_toList
                  rw [List.length_append, e]
                  omega
                · rw [byteCells_append]
                  exact hb4
              · have hlastj : Hid (∀ x, ns[j]? = some x → x.1 ≠ 2) := Lib.hid (fun x hx => by rw [hxj2.out] at hx; cases hx; exact (by decide : (3 : Int) ≠ 2))
                have hstr := Tryd.Builder_String_any_f (X + 1) (X + 1) acc wr (Lib.IsBuilderF.of (Or.inr hbld.out)) (by have := hB3.out.size; omega)
                have hXw : Hid (wr.heap[X]? = some (.cells #[.int .i64 2, .string ⟨#[]⟩, .slice none 0 0, .string t, .slice none 0 0] 28)) := Lib.hid (blk_below hX1.out hB3.out (Nat.lt_succ_self X))
                go_upto_region 15 with (go_at_call 28; refine hstr.mono ?_; rintro e w5 ⟨rfl, _, hB5⟩; have hX5 := Lib.hid (blk_below hXw.out hB5 (Nat.lt_succ_self X)); have f5 := blk_frozen hX5.out 3; have c5 : w5.cell? ⟨X, 3, none⟩ = some (.string t) := blk_cell hX5.out 3)
                have hX6 : (w5.setCell ⟨X, 3, none⟩ (.string ⟨acc.toArray⟩)).heap[X]? = some (.cells #[.int .i64 2, .string ⟨#[]⟩, .slice none 0 0, .string ⟨acc.toArray⟩, .slice none 0 0] 28) := blk_set_self hX5.out 3 _
                have hB6 : Below wo.heap.size wo (w5.setCell ⟨X, 3, none⟩ (.string ⟨acc.toArray⟩)) := (hBW.out.trans ((hB3.out.mono (by omega)).trans (hB5.mono (by omega)))).setCell (p := ⟨X, 3, none⟩) hw1s _
                obtain ⟨w6, hw6⟩ : ∃ w6, w5.setCell ⟨X, 3, none⟩ (.string ⟨acc.toArray⟩) = w6 := ⟨_, rfl⟩
                rw [hw6] at hX6 hB6 ⊢
                clear hw6 hX5 f5 c5 hB5 hstr hXw hbld hB3 hflj
                obtain ⟨s, hs⟩ : ∃ s : ByteArray, (⟨acc.toArray⟩ : ByteArray) = s := ⟨_, rfl⟩
                have hsL : Hid (isL s.data.toList = true) := Lib.hid (by rw [← hs]; simpa using hacc.out.1)
                have hsz5 : Hid (s.size ≤ 100000) := Lib.hid (by rw [← hs]; have := hacc.out.2.2; show acc.toArray.size ≤ 100000; rw [List.size_toArray]; omega)
                have hsne : Hid (s.toList.isEmpty = false) := Lib.hid (by rw [← hs, ByteArray.toList_eq]; cases acc with | nil => exact absurd rfl hacc.out.2.1 | cons _ _ => rfl)
                rw [hs] at hX6 ⊢
                clear hs hacc
                have e0 := blk_cell hX6 0
                have e1 := blk_cell hX6 1
                have e2 := blk_cell hX6 2
                have e3 := blk_cell hX6 3
                have e4 := blk_cell hX6 4
                simp only [List.getElem?_toArray, List.getElem?_cons_zero, List.getElem?_cons_succ] at e0 e1 e2 e3 e4
                have hrow6 : Hid (w6.ownsRow w.heap.size 28 5 u3 out.length (flatCells out)) := Lib.hid (own_below hrow hB6)
                have hB7 : Hid (Below w.heap.size w w6) := Lib.hid (hB.out.trans (hB6.mono hsz0.out))
                have hsz7 := Lib.hid hB7.out.size
                clear hX6 hB6 hrow
                go_wp2_with (at_builtin; refine wpList_append_own _ rfl _ _ 23 rfl w.heap.size 28 i0 _ 5 88 Tryd.underlying23 hi hz0 hz1 hz2 rfl (by decide) _ _ _ rfl (hrow6.out.alloc _) ⟨_, 0, none⟩ 1 1 [.int .i64 2, .string ⟨#[]⟩, .slice none 0 0, .string s, .slice none 0 0] rfl rfl (cells_new _ _ _) (by intro u hu; simp at hu; rcases hu with rfl | rfl | rfl | rfl | rfl <;> rfl) (by unfold maxLen; omega) (by omega) (by have := hsz7.out; simp; omega) ?_; intro v' w8 hown' hg8 hnil8; go_frame)
                refine ⟨⟨j, out ++ [(2, s)], hj2, by simp, by simp; omega, by simpa [flatCells] using hown', Lib.hid (goodRow_snoc false out (2, s) hgood.out (Or.inl rfl) hsL.out hsz5.out (fun _ => ⟨hsne.out, hl2.out⟩)), Lib.hid (fun _ => hlastj.out), Lib.hid ?_⟩, by simp [Lib.intOf]; omega⟩
                exact (hB7.out.alloc hsz7.out _).grown hg8 (by have := hsz7.out; simp; omega) (fun j hj => (hrow6.out.lt j hj).1)
            · have hlastj : Hid (∀ x, ns[j]? = some x → x.1 ≠ 2) := Lib.hid (fun x hx => by rw [List.getElem?_eq_none (by rw [hn.out]; omega)] at hx; cases hx)
              have hj3 : j = n := by omega
              subst hj3
              have hstr := Tryd.Builder_String_any_f (X + 1) (X + 1) acc wr (Lib.IsBuilderF.of (Or.inr hbld.out)) (by have := hB3.out.size; omega)
              have hXw : Hid (wr.heap[X]? = some (.cells #[.int .i64 2, .string ⟨#[]⟩, .slice none 0 0, .string t, .slice none 0 0] 28)) := Lib.hid (blk_below hX1.out hB3.out (Nat.lt_succ_self X))
              go_upto_region 15 with (go_at_call 28; refine hstr.mono ?_; rintro e w5 ⟨rfl, _, hB5⟩; have hX5 := Lib.hid (blk_below hXw.out hB5 (Nat.lt_succ_self X)); have f5 := blk_frozen hX5.out 3; have c5 : w5.cell? ⟨X, 3, none⟩ = some (.string t) := blk_cell hX5.out 3)
              have hX6 : (w5.setCell ⟨X, 3, none⟩ (.string ⟨acc.toArray⟩)).heap[X]? = some (.cells #[.int .i64 2, .string ⟨#[]⟩, .slice none 0 0, .string ⟨acc.toArray⟩, .slice none 0 0] 28) := blk_set_self hX5.out 3 _
              have hB6 : Below wo.heap.size wo (w5.setCell ⟨X, 3, none⟩ (.string ⟨acc.toArray⟩)) := (hBW.out.trans ((hB3.out.mono (by omega)).trans (hB5.mono (by omega)))).setCell (p := ⟨X, 3, none⟩) hw1s _
              obtain ⟨w6, hw6⟩ : ∃ w6, w5.setCell ⟨X, 3, none⟩ (.string ⟨acc.toArray⟩) = w6 := ⟨_, rfl⟩
              rw [hw6] at hX6 hB6 ⊢
              clear hw6 hX5 f5 c5 hB5 hstr hXw hbld hB3 hflj
              obtain ⟨s, hs⟩ : ∃ s : ByteArray, (⟨acc.toArray⟩ : ByteArray) = s := ⟨_, rfl⟩
              have hsL : Hid (isL s.data.toList = true) := Lib.hid (by rw [← hs]; simpa using hacc.out.1)
              have hsz5 : Hid (s.size ≤ 100000) := Lib.hid (by rw [← hs]; have := hacc.out.2.2; show acc.toArray.size ≤ 100000; rw [List.size_toArray]; omega)
              have hsne : Hid (s.toList.isEmpty = false) := Lib.hid (by rw [← hs, ByteArray.toList_eq]; cases acc with | nil => exact absurd rfl hacc.out.2.1 | cons _ _ => rfl)
              rw [hs] at hX6 ⊢
              clear hs hacc
              have e0 := blk_cell hX6 0
              have e1 := blk_cell hX6 1
              have e2 := blk_cell hX6 2
              have e3 := blk_cell hX6 3
              have e4 := blk_cell hX6 4
              simp only [List.getElem?_toArray, List.getElem?_cons_zero, List.getElem?_cons_succ] at e0 e1 e2 e3 e4
              have hrow6 : Hid (w6.ownsRow w.heap.size 28 5 u3 out.length (flatCells out)) := Lib.hid (own_below hrow hB6)
              have hB7 : Hid (Below w.heap.size w w6) := Lib.hid (hB.out.trans (hB6.mono hsz0.out))
              have hsz7 := Lib.hid hB7.out.size
              clear hX6 hB6 hrow
              go_wp2_with (at_builtin; refine wpList_append_own _ rfl _ _ 23 rfl w.heap.size 28 i0 _ 5 88 Tryd.underlying23 hi hz0 hz1 hz2 rfl (by decide) _ _ _ rfl (hrow6.out.alloc _) ⟨_, 0, none⟩ 1 1 [.int .i64 2, .string ⟨#[]⟩, .slice none 0 0, .string s, .slice none 0 0] rfl rfl (cells_new _ _ _) (by intro u hu; simp at hu; rcases hu with rfl | rfl | rfl | rfl | rfl <;> rfl) (by unfold maxLen; omega) (by omega) (by have := hsz7.out; simp; omega) ?_; intro v' w8 hown' hg8 hnil8; go_frame)
              refine ⟨⟨j, out ++ [(2, s)], hj2, by simp, by simp; omega, by simpa [flatCells] using hown', Lib.hid (goodRow_snoc false out (2, s) hgood.out (Or.inl rfl) hsL.out hsz5.out (fun _ => ⟨hsne.out, hl2.out⟩)), Lib.hid (fun _ => hlastj.out), Lib.hid ?_⟩, by simp [Lib.intOf]; omega⟩
              exact (hB7.out.alloc hsz7.out _).grown hg8 (by have := hsz7.out; simp; omega) (fun j hj => (hrow6.out.lt j hj).1)
        · go_upto_region 15 with (go_at_call 26; refine hclone.mono ?_; rintro e w1 ⟨g, rfl, hg0, hgk, hB1⟩; have d0 := blk_cell hgk 0; have d1 := blk_cell hgk 1; have d2 := blk_cell hgk 2; have d3 := blk_cell hgk 3; have d4 := blk_cell hgk 4; simp only [List.getElem?_toArray, List.getElem?_cons_zero, List.getElem?_cons_succ] at d0 d1 d2 d3 d4)
          obtain ⟨w6, hw6⟩ : ∃ w6, w1.alloc (.cells #[.int .i64 3, .string ⟨#[]⟩, .slice none 0 0, .string t, .slice none 0 0] 28) = w6 := ⟨_, rfl⟩
          have hX6 : w6.heap[w1.heap.size]? = some (.cells #[.int .i64 3, .string ⟨#[]⟩, .slice none 0 0, .string t, .slice none 0 0] 28) := by rw [← hw6]; exact blk_new _ _
          have hB6 : Below wr.heap.size wr w6 := by rw [← hw6]; exact hB1.alloc hB1.size _
          rw [hw6]
          clear hw6 d0 d1 d2 d3 d4 hgk hB1 hclone
          have e0 := blk_cell hX6 0
          have e1 := blk_cell hX6 1
          have e2 := blk_cell hX6 2
          have e3 := blk_cell hX6 3
          have e4 := blk_cell hX6 4
          simp only [List.getElem?_toArray, List.getElem?_cons_zero, List.getElem?_cons_succ] at e0 e1 e2 e3 e4
          have hrow6 : Hid (w6.ownsRow w.heap.size 28 5 u3 out.length (flatCells out)) := Lib.hid (own_below hrow hB6)
          have hB7 : Hid (Below w.heap.size w w6) := Lib.hid (hB.out.trans (hB6.mono hsz.out))
          have hsz7 := Lib.hid hB7.out.size
          clear hX6 hB6 hrow
          replace htL := Lib.hid htL
          replace htz := Lib.hid htz
          go_wp2_with (at_builtin; refine wpList_append_own _ rfl _ _ 23 rfl w.heap.size 28 i0 _ 5 88 Tryd.underlying23 hi hz0 hz1 hz2 rfl (by decide) _ _ _ rfl (hrow6.out.alloc _) ⟨_, 0, none⟩ 1 1 [.int .i64 3, .string ⟨#[]⟩, .slice none 0 0, .string t, .slice none 0 0] rfl rfl (cells_new _ _ _) (by intro u hu; simp at hu; rcases hu with rfl | rfl | rfl | rfl | rfl <;> rfl) (by unfold maxLen; omega) (by omega) (by have := hsz7.out; simp; omega) ?_; intro v' w8 hown' hg8 hnil8; go_frame)
          refine ⟨⟨i + 1, out ++ [(3, t)], by omega, by simp, by simp; omega, by simpa [flatCells] using hown', Lib.hid (goodRow_snoc false out (3, t) hgood.out (Or.inr rfl) htL.out (Nat.le_trans htz.out (by decide)) (fun h => absurd (show (3 : Int) = 2 from h) (by decide))), Lib.hid (fun h => by rw [lastT_snoc] at h; exact absurd (show decide ((3 : Int) = 2) = true from h) (by decide)), Lib.hid ?_⟩, by simp [Lib.intOf]; omega⟩
          exact (hB7.out.alloc hsz7.out _).grown hg8 (by have := hsz7.out; simp; omega) (fun j hj => (hrow6.out.lt j hj).1)
    · have hin3 : i = n := by omega
      subst hin3
      go_wp2
      go_ret
      exact ⟨_, out, rfl, hrow, hgood.out, by omega, hB.out⟩
end Go.Proofs.YtghlodpbbghcoaaDoor
