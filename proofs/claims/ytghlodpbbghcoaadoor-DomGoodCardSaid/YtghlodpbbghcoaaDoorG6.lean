/- The law DomGood, walked. -/
import Derived.Test.YtghlodpbbghcoaaDoorG5
import Derived.Lib.ConvBytes
namespace Go.Proofs.YtghlodpbbghcoaaDoor
open Go.Lib Go.RowKit

theorem bytesV_conv (w : World) (s : ByteArray) : BytesV (bytesWorld w 5 s) (some ⟨w.heap.size, 0, none⟩) s.size (grownCap w s.size 0 5) s.data.toList :=
  ⟨(Array.length_toList).symm, grownCap_ge w s.size 0 5, fun _ => ⟨_, _, rfl, by rw [bytesWorld_size]; omega, fun j hj => by rw [Nat.zero_add]; exact bytesWorld_cell w 5 s j (by rwa [Array.length_toList] at hj)⟩⟩
theorem below_conv (w : World) (s : ByteArray) : Below w.heap.size w (bytesWorld w 5 s) :=
  ⟨rfl, rfl, rfl, by rw [bytesWorld_size]; omega, fun k hk => bytesWorld_at_old w 5 s k hk⟩
theorem may_flat (l : List Fl) (v : Value) (w : World) (hT : Tabs w) (w1 : World) (base : Nat) (h : w1.ownsRow base 28 5 v l.length (flatCells l)) (hg : goodRow false l) (hl : l.length ≤ 100) (hB : Below w.heap.size w w1) :
    Calls Tryd.prog 8 #[v] w1 fun e w' => e = .returned (.int .i64 0) ∧ Below w1.heap.size w1 w' := by
  obtain ⟨A, cap, rfl, hc, hr⟩ := own_flat h
  have hf := may_any A cap (flatF l) (flatF_ok l hg) (by rw [flatF_size]; omega) (by have := flatF_height l; omega) (by rw [flatF_len]; exact hc) w1.heap.size w1 (tabs_below hT hB) (Nat.le_refl _)
    (fun hp => by obtain ⟨b, h1, h2, _, h3⟩ := hr (by rwa [flatF_len] at hp); exact ⟨b, 0, h1, row_flat h2 l 0 h3⟩)
  rw [flatF_len, show mayB (flatF l) = true from flat_good false l hg] at hf
  refine hf.mono ?_
  rintro e w' ⟨x, rfl, hx, hb⟩
  obtain rfl : x = 0 := by simpa using hx
  exact ⟨rfl, hb⟩

set_option maxRecDepth 100000 in
set_option maxHeartbeats 6400000 in
theorem domGood_any (A : Option Addr) (n cap : Nat) (ss : List ByteArray) (hcap : n ≤ cap) (hbig : n ≤ maxLen) (w : World) (hT : Tabs w)
    (hin : ∀ i, i < n → ∃ b o, A = some ⟨b, o, none⟩ ∧ b < w.heap.size ∧ w.cell? ⟨b, o + i, none⟩ = some (.string (ss.getD i ByteArray.empty))) :
    Calls Tryd.prog 3 #[.slice A n cap] w fun e w' => e = .returned (.bool true) ∧ Below w.heap.size w w' := by
  obtain ⟨i0, hi, hz0, hz1, hz2⟩ := info_parts info28
  go_enter Tryd.func3, Tryd.ntmps3
  go_wp2
  go_loopw [3, 4] (fun v x4 wr => ∃ (i : Nat) (out : List Fl), i ≤ n ∧ i ≤ 6 ∧ x4 = .int .i64 i ∧ out.length ≤ 2 * i ∧ wr.ownsRow w.heap.size 28 5 v out.length (flatCells out) ∧ Hid (∀ x ∈ out, fineIn x) ∧ Hid (Below w.heap.size w wr)) (fun _ x4 _ => 6 - (Lib.intOf x4).toNat)
  case atStart => exact ⟨0, [], Nat.zero_le _, Nat.zero_le _, rfl, Nat.zero_le _, World.ownsRow_nil _ _ _ _, Lib.hid (fun x hx => absurd hx (by simp)), Lib.hid (Below.refl _ _)⟩
  case round =>
    obtain ⟨i, out, hin2, hi6, rfl, hol, hrow, hgood, hB⟩ := hrel
    have hi0 : (0 : Int) ≤ (i : Int) := by omega
    by_cases hlt : i < n
    · by_cases hl6 : i < 6
      · obtain ⟨b, o, rfl, hbw, hcell⟩ := hin i hlt
        obtain ⟨s, hs⟩ : ∃ s, ss.getD i ByteArray.empty = s := ⟨_, rfl⟩
        rw [hs] at hcell
        have c0 : wr.cell? ⟨b, o + i, none⟩ = some (.string s) := (hB.out.cell (p := ⟨b, o + i, none⟩) hbw).trans hcell
        have hbr : b < wr.heap.size := Nat.lt_of_lt_of_le hbw hB.out.size
        have hi1 : (i : Int) < (n : Int) := by omega
        have hi2 : (i : Int) < 6 := by omega
        clear hs hcell hin
        have hsz := Lib.hid hB.out.size
        by_cases h20 : 20 < s.size
        · go_upto_region 8 with fail
          obtain ⟨s2, hs2⟩ : ∃ s2 : ByteArray, s.extract 0 20 = s2 := ⟨_, rfl⟩
          have hz20 : s2.size ≤ 20 := by rw [← hs2]; rw [ByteArray.size_extract]; omega
          rw [hs2]
          clear hs2 c0
          have hconv := Lib.run_convert_string_bytes (P := Tryd.prog) wr 9 25 5 s2 Tryd.underlying9 Tryd.underlying25 Tryd.underlying5
          have hright := right_any (some ⟨wr.heap.size, 0, none⟩) s2.size (grownCap wr s2.size 0 5) s2.data.toList (Nat.le_trans hz20 (by decide)) _ (bytesV_conv wr s2)
          obtain ⟨W, hW⟩ : ∃ W, bytesWorld wr 5 s2 = W := ⟨_, rfl⟩
          have hBW : Hid (Below wr.heap.size wr W) := Lib.hid (by rw [← hW]; exact below_conv wr s2)
          rw [hW] at hconv hright
          clear hW
          obtain ⟨t, ht⟩ : ∃ t : ByteArray, (⟨(rightL s2.data.toList).toArray⟩ : ByteArray) = t := ⟨_, rfl⟩
          have htf : Hid (fineIn (2, t)) := Lib.hid ⟨Or.inl rfl, (by rw [← ht]; simpa using isL_right s2.data.toList), (by
            rw [← ht]
            have h1 := rightL_length s2.data.toList
            have h2 : s2.data.toList.length = s2.size := Array.length_toList
            show (rightL s2.data.toList).toArray.size ≤ 1000
            rw [List.size_toArray]
            omega)⟩
          rw [ht] at hright
          clear ht
          obtain ⟨gc, hgc⟩ : ∃ gc, grownCap wr s2.size 0 5 = gc := ⟨_, rfl⟩
          rw [hgc] at hconv hright
          clear hgc
          go_upto_region 9 with (first
            | (go_at_call 7; refine hright.mono ?_; rintro e w2 ⟨rfl, hB2⟩; have hB3 : Hid (Below wr.heap.size wr w2) := Lib.hid (hBW.out.trans (hB2.mono hBW.out.size)); have hrow3 : Hid (w2.ownsRow w.heap.size 28 5 u3 out.length (flatCells out)) := Lib.hid (own_below hrow hB3.out); have hB4 : Hid (Below w.heap.size w w2) := Lib.hid (hB.out.trans (hB3.out.mono hsz.out)))
            | (at_builtin; refine wpList_append_own _ rfl _ _ 23 rfl w.heap.size 28 i0 _ 5 88 Tryd.underlying23 hi hz0 hz1 hz2 rfl (by decide) _ _ _ rfl (hrow3.out.alloc _) ⟨_, 0, none⟩ 1 1 [.int .i64 2, .string ⟨#[]⟩, .slice none 0 0, .string t, .slice none 0 0] rfl rfl (cells_new _ _ _) (by intro u hu; simp at hu; rcases hu with rfl | rfl | rfl | rfl | rfl <;> rfl) (by unfold maxLen; omega) (by omega) (by have := hB4.out.size; simp; omega) ?_; intro v' w8 hown' hg8 hnil8; go_frame))
          have hrow8 : Hid (w8.ownsRow w.heap.size 28 5 v' (out.length + 1) (flatCells (out ++ [(2, t)]))) := Lib.hid (by simpa [flatCells] using hown')
          have hB8 : Hid (Below w.heap.size w w8) := Lib.hid ((hB4.out.alloc hB4.out.size _).grown hg8 (by have := hB4.out.size; simp; omega) (fun j hj => (hrow3.out.lt j hj).1))
          have hfine8 : Hid (∀ x ∈ out ++ [(2, t)], fineIn x) := Lib.hid (by
            intro x hx
            rcases List.mem_append.1 hx with hx | hx
            · exact hgood.out x hx
            · rw [List.mem_singleton.1 hx]; exact htf.out)
          have hl8 : (out ++ [(2, t)] : List Fl).length = out.length + 1 := by simp
          obtain ⟨out2, hout2⟩ : ∃ out2, out ++ [(2, t)] = out2 := ⟨_, rfl⟩
          rw [hout2] at hrow8 hfine8 hl8
          rw [← hl8] at hrow8
          clear hown' hg8 hnil8 hB4 hB3 hrow3 hright hconv htf hout2 hrow hB hgood hBW
          have hsz8 := Lib.hid hB8.out.size
          by_cases h3 : i % 3 = 2
          · have hm3 : (i : Int).tmod 3 = 2 := by rw [Int.tmod_eq_emod_of_nonneg hi0]; omega
            go_wp2_with (at_builtin; refine wpList_append_own _ rfl _ _ 23 rfl w.heap.size 28 i0 _ 5 88 Tryd.underlying23 hi hz0 hz1 hz2 rfl (by decide) _ _ _ rfl (hrow8.out.alloc _) ⟨_, 0, none⟩ 1 1 [.int .i64 3, .string ⟨#[]⟩, .slice none 0 0, .string ⟨#[99]⟩, .slice none 0 0] rfl rfl (cells_new _ _ _) (by intro u hu; simp at hu; rcases hu with rfl | rfl | rfl | rfl | rfl <;> rfl) (by unfold maxLen; omega) (by omega) (by have := hsz8.out; simp; omega) ?_; intro v9 w9 hown9 hg9 hnil9; go_frame)
            refine ⟨⟨i + 1, out2 ++ [(3, ⟨#[99]⟩)], by omega, by omega, by simp, by simp; omega, by simpa [flatCells] using hown9, Lib.hid ?_, Lib.hid ?_⟩, by simp [Lib.intOf]; omega⟩
            · intro x hx
              rcases List.mem_append.1 hx with hx | hx
              · exact hfine8.out x hx
              · rw [List.mem_singleton.1 hx]
                exact ⟨Or.inr rfl, by decide +kernel, by decide⟩
            · exact (hB8.out.alloc hsz8.out _).grown hg9 (by have := hsz8.out; simp; omega) (fun j hj => (hrow8.out.lt j hj).1)
          · have hm3 : (i : Int).tmod 3 ≠ 2 := by rw [Int.tmod_eq_emod_of_nonneg hi0]; omega
            go_wp2
            exact ⟨⟨i + 1, out2, by omega, by omega, by simp, by omega, hrow8.out, hfine8, hB8⟩, by simp [Lib.intOf]; omega⟩
        · go_upto_region 8 with fail
          obtain ⟨s2, hs2⟩ : ∃ s2 : ByteArray, s = s2 := ⟨_, rfl⟩
          have hz20 : s2.size ≤ 20 := by rw [← hs2]; omega
          rw [hs2]
          clear hs2 c0
          have hconv := Lib.run_convert_string_bytes (P := Tryd.prog) wr 9 25 5 s2 Tryd.underlying9 Tryd.underlying25 Tryd.underlying5
          have hright := right_any (some ⟨wr.heap.size, 0, none⟩) s2.size (grownCap wr s2.size 0 5) s2.data.toList (Nat.le_trans hz20 (by decide)) _ (bytesV_conv wr s2)
          obtain ⟨W, hW⟩ : ∃ W, bytesWorld wr 5 s2 = W := ⟨_, rfl⟩
          have hBW : Hid (Below wr.heap.size wr W) := Lib.hid (by rw [← hW]; exact below_conv wr s2)
          rw [hW] at hconv hright
          clear hW
          obtain ⟨t, ht⟩ : ∃ t : ByteArray, (⟨(rightL s2.data.toList).toArray⟩ : ByteArray) = t := ⟨_, rfl⟩
          have htf : Hid (fineIn (2, t)) := Lib.hid ⟨Or.inl rfl, (by rw [← ht]; simpa using isL_right s2.data.toList), (by
            rw [← ht]
            have h1 := rightL_length s2.data.toList
            have h2 : s2.data.toList.length = s2.size := Array.length_toList
            show (rightL s2.data.toList).toArray.size ≤ 1000
            rw [List.size_toArray]
            omega)⟩
          rw [ht] at hright
          clear ht
          obtain ⟨gc, hgc⟩ : ∃ gc, grownCap wr s2.size 0 5 = gc := ⟨_, rfl⟩
          rw [hgc] at hconv hright
          clear hgc
          go_upto_region 9 with (first
            | (go_at_call 7; refine hright.mono ?_; rintro e w2 ⟨rfl, hB2⟩; have hB3 : Hid (Below wr.heap.size wr w2) := Lib.hid (hBW.out.trans (hB2.mono hBW.out.size)); have hrow3 : Hid (w2.ownsRow w.heap.size 28 5 u3 out.length (flatCells out)) := Lib.hid (own_below hrow hB3.out); have hB4 : Hid (Below w.heap.size w w2) := Lib.hid (hB.out.trans (hB3.out.mono hsz.out)))
            | (at_builtin; refine wpList_append_own _ rfl _ _ 23 rfl w.heap.size 28 i0 _ 5 88 Tryd.underlying23 hi hz0 hz1 hz2 rfl (by decide) _ _ _ rfl (hrow3.out.alloc _) ⟨_, 0, none⟩ 1 1 [.int .i64 2, .string ⟨#[]⟩, .slice none 0 0, .string t, .slice none 0 0] rfl rfl (cells_new _ _ _) (by intro u hu; simp at hu; rcases hu with rfl | rfl | rfl | rfl | rfl <;> rfl) (by unfold maxLen; omega) (by omega) (by have := hB4.out.size; simp; omega) ?_; intro v' w8 hown' hg8 hnil8; go_frame))
          have hrow8 : Hid (w8.ownsRow w.heap.size 28 5 v' (out.length + 1) (flatCells (out ++ [(2, t)]))) := Lib.hid (by simpa [flatCells] using hown')
          have hB8 : Hid (Below w.heap.size w w8) := Lib.hid ((hB4.out.alloc hB4.out.size _).grown hg8 (by have := hB4.out.size; simp; omega) (fun j hj => (hrow3.out.lt j hj).1))
          have hfine8 : Hid (∀ x ∈ out ++ [(2, t)], fineIn x) := Lib.hid (by
            intro x hx
            rcases List.mem_append.1 hx with hx | hx
            · exact hgood.out x hx
            · rw [List.mem_singleton.1 hx]; exact htf.out)
          have hl8 : (out ++ [(2, t)] : List Fl).length = out.length + 1 := by simp
          obtain ⟨out2, hout2⟩ : ∃ out2, out ++ [(2, t)] = out2 := ⟨_, rfl⟩
          rw [hout2] at hrow8 hfine8 hl8
          rw [← hl8] at hrow8
          clear hown' hg8 hnil8 hB4 hB3 hrow3 hright hconv htf hout2 hrow hB hgood hBW
          have hsz8 := Lib.hid hB8.out.size
          by_cases h3 : i % 3 = 2
          · have hm3 : (i : Int).tmod 3 = 2 := by rw [Int.tmod_eq_emod_of_nonneg hi0]; omega
            go_wp2_with (at_builtin; refine wpList_append_own _ rfl _ _ 23 rfl w.heap.size 28 i0 _ 5 88 Tryd.underlying23 hi hz0 hz1 hz2 rfl (by decide) _ _ _ rfl (hrow8.out.alloc _) ⟨_, 0, none⟩ 1 1 [.int .i64 3, .string ⟨#[]⟩, .slice none 0 0, .string ⟨#[99]⟩, .slice none 0 0] rfl rfl (cells_new _ _ _) (by intro u hu; simp at hu; rcases hu with rfl | rfl | rfl | rfl | rfl <;> rfl) (by unfold maxLen; omega) (by omega) (by have := hsz8.out; simp; omega) ?_; intro v9 w9 hown9 hg9 hnil9; go_frame)
            refine ⟨⟨i + 1, out2 ++ [(3, ⟨#[99]⟩)], by omega, by omega, by simp, by simp; omega, by simpa [flatCells] using hown9, Lib.hid ?_, Lib.hid ?_⟩, by simp [Lib.intOf]; omega⟩
            · intro x hx
              rcases List.mem_append.1 hx with hx | hx
              · exact hfine8.out x hx
              · rw [List.mem_singleton.1 hx]
                exact ⟨Or.inr rfl, by decide +kernel, by decide⟩
            · exact (hB8.out.alloc hsz8.out _).grown hg9 (by have := hsz8.out; simp; omega) (fun j hj => (hrow8.out.lt j hj).1)
          · have hm3 : (i : Int).tmod 3 ≠ 2 := by rw [Int.tmod_eq_emod_of_nonneg hi0]; omega
            go_wp2
            exact ⟨⟨i + 1, out2, by omega, by omega, by simp, by omega, hrow8.out, hfine8, hB8⟩, by simp [Lib.intOf]; omega⟩
      · have hi2 : i = 6 := by omega
        subst hi2
        obtain ⟨A1, cap1, rfl, hc1, hr1⟩ := own_flat hrow
        have hm := merge_any A1 out cap1 (by omega) hc1 hgood.out wr (fun h => by obtain ⟨b, h1, h2, _, h3⟩ := hr1 h; exact ⟨b, 0, h1, h2, h3⟩)
        go_wp2_with (first
          | (go_at_call 9; refine hm.mono ?_; rintro e w1 ⟨v1, out1, rfl, hrow1, hgood1, hl1, hB1⟩; have hB2 := hB.out.trans (hB1.mono hB.out.size); have hmay := may_flat out1 v1 w hT w1 wr.heap.size hrow1 hgood1 hl1 hB2)
          | (go_at_call 8; refine hmay.mono ?_; rintro e w2 ⟨rfl, hB3⟩; have hB4 := hB2.trans (hB3.mono hB2.size); have hlive := lives3_any w2 (tabs_below hT hB4))
          | (go_at_call 10; refine hlive.mono ?_; rintro e w3 ⟨rfl, hB5⟩))
        go_ret
        exact ⟨rfl, hB4.trans (hB5.mono hB4.size)⟩
    · have hi2 : i = n := by omega
      subst hi2
      obtain ⟨A1, cap1, rfl, hc1, hr1⟩ := own_flat hrow
      have hm := merge_any A1 out cap1 (by omega) hc1 hgood.out wr (fun h => by obtain ⟨b, h1, h2, _, h3⟩ := hr1 h; exact ⟨b, 0, h1, h2, h3⟩)
      go_wp2_with (first
        | (go_at_call 9; refine hm.mono ?_; rintro e w1 ⟨v1, out1, rfl, hrow1, hgood1, hl1, hB1⟩; have hB2 := hB.out.trans (hB1.mono hB.out.size); have hmay := may_flat out1 v1 w hT w1 wr.heap.size hrow1 hgood1 hl1 hB2)
        | (go_at_call 8; refine hmay.mono ?_; rintro e w2 ⟨rfl, hB3⟩; have hB4 := hB2.trans (hB3.mono hB2.size); have hlive := lives3_any w2 (tabs_below hT hB4))
        | (go_at_call 10; refine hlive.mono ?_; rintro e w3 ⟨rfl, hB5⟩))
      go_ret
      exact ⟨rfl, hB4.trans (hB5.mono hB4.size)⟩
end Go.Proofs.YtghlodpbbghcoaaDoor
