/- The document's void and raw elements, blanks, words in a text: walked. -/
import Derived.Test.YtghlodpbbghcoaaDoorN16
import Derived.Test.YtghlodpbbghcoaaDoorSC
namespace Go.Proofs.YtghlodpbbghcoaaDoor
open Go.Lib Go.RowKit
set_option maxHeartbeats 800000 in
theorem raw76_any (s : ByteArray) (w : World) : Calls Tryd.prog 76 #[.string s] w fun e w' => e = .returned (.bool (rawB s)) ∧ w' = w := by
  go_enter Tryd.func76, Tryd.ntmps76
  go_wp2
  all_goals go_ret
  all_goals refine ⟨congrArg (fun b => Ending.returned (Value.bool b)) ?_, rfl⟩
  all_goals simp [rawB, *]
set_option maxHeartbeats 1600000 in
theorem void75_any (s : ByteArray) (w : World) : Calls Tryd.prog 75 #[.string s] w fun e w' => e = .returned (.bool (voidB s)) ∧ w' = w := by
  go_enter Tryd.func75, Tryd.ntmps75
  go_wp2
  all_goals go_ret
  all_goals refine ⟨congrArg (fun b => Ending.returned (Value.bool b)) ?_, rfl⟩
  all_goals simp_all [voidB]
open Classical in
set_option maxRecDepth 8192 in
theorem blank94_any (n : Nat) (w : World) : Calls Tryd.prog 94 #[.int .u8 n] w fun e w' => e = .returned (.bool (decide (blankN n))) ∧ w' = w := by
  obtain ⟨r, hr⟩ : ∃ r, decide (blankN n) = r := ⟨_, rfl⟩
  have hr2 : Hid (r = true ↔ blankN n) := Lib.hid (by rw [← hr]; exact decide_eq_true_iff)
  rw [hr]
  clear hr
  go_enter Tryd.func94, Tryd.ntmps94
  go_wp2
  all_goals go_ret
  all_goals refine ⟨congrArg (fun b => Ending.returned (Value.bool b)) ?_, rfl⟩
  all_goals (rw [Bool.eq_iff_iff, hr2.out]; simp [blankN, *]; try omega)
end Go.Proofs.YtghlodpbbghcoaaDoor

/- Has a text a word; a text folded: walked. -/
namespace Go.Proofs.YtghlodpbbghcoaaDoor
open Go.Lib Go.RowKit
theorem occ_ext (s : ByteArray) (i : Nat) (h : i + 3 ≤ s.size) : ((s.extract i (i + 3)).toList == [45, 45, 62]) = occAt s.data.toList [45, 45, 62] i := by
  rw [Bool.eq_iff_iff, beq_iff_eq]
  unfold occAt
  rw [List.isPrefixOf_iff_prefix, List.prefix_iff_eq_take, ByteArray.toList_eq]
  have e : (s.extract i (i + 3)).data.toList = (s.data.toList.drop i).take 3 := by
    rw [ByteArray.data_extract, Array.toList_extract, List.extract_eq_take_drop]
    simp
  rw [e]
  exact eq_comm

set_option maxRecDepth 8192 in
set_option maxHeartbeats 1600000 in
theorem has54_any (s : ByteArray) (hs : s.size ≤ 1000000) (w : World) :
    Calls Tryd.prog 54 #[.string s, .string ⟨#[45, 45, 62]⟩] w fun e w' => e = .returned (.bool (Lib.contains s.data.toList [45, 45, 62])) ∧ w' = w := by
  obtain ⟨r, hr⟩ : ∃ r, Lib.contains s.data.toList [45, 45, 62] = r := ⟨_, rfl⟩
  have hzl : s.data.toList.length = s.size := Array.length_toList
  have hno : Hid ((∀ j, j + 3 ≤ s.size → occAt s.data.toList [45, 45, 62] j = false) → r = false) := Lib.hid (fun h => by
    rw [← hr, Lib.contains]
    rcases index_spec s.data.toList [45, 45, 62] with ⟨h1, _⟩ | ⟨j, h1, h2, h3, _⟩
    · rw [h1]; rfl
    · exfalso
      have hroom := index_room s.data.toList [45, 45, 62] (by rw [h1]; omega)
      rw [h1, hzl] at hroom
      have := h j (by simp at hroom; omega)
      rw [h3] at this
      cases this)
  have hyes : Hid (∀ j, j + 3 ≤ s.size → occAt s.data.toList [45, 45, 62] j = true → r = true) := Lib.hid (fun j hj h => by
    rw [← hr, Lib.contains]
    rcases index_spec s.data.toList [45, 45, 62] with ⟨_, h1⟩ | ⟨j', h1, _⟩
    · have := h1 j (by omega)
      rw [h] at this
      cases this
    · rw [h1]
      exact decide_eq_true (by omega))
  rw [hr]
  clear hr hzl
  go_enter Tryd.func54, Tryd.ntmps54
  go_wp2
  go_loopw [5] (fun x wr => ∃ i : Nat, i ≤ s.size ∧ x = .int .i64 i ∧ Hid (∀ j, j < i → j + 3 ≤ s.size → occAt s.data.toList [45, 45, 62] j = false) ∧ wr = w) (fun x _ => s.size + 1 - (Lib.intOf x).toNat)
  case atStart => exact ⟨0, Nat.zero_le _, rfl, Lib.hid (fun j h => absurd h (Nat.not_lt_zero _)), rfl⟩
  case round =>
    obtain ⟨i, hi, rfl, hok, rfl⟩ := hrel
    by_cases hlt : i + 3 ≤ s.size
    · have hoe := occ_ext s i hlt
      have hi0 : (0 : Int) ≤ (i : Int) := by omega
      have hi1 : (i : Int) + 3 ≤ (s.size : Int) := by omega
      obtain ⟨E, hE⟩ : ∃ E, s.extract i (i + 3) = E := ⟨_, rfl⟩
      rw [hE] at hoe
      obtain ⟨q, hq⟩ : ∃ q, occAt s.data.toList [45, 45, 62] i = q := ⟨_, rfl⟩
      rw [hq] at hoe
      cases q with
      | true =>
        have e := hyes.out i hlt hq
        clear hyes hno hok hq
        subst e
        go_wp2
        go_ret
        exact ⟨rfl, rfl⟩
      | false =>
        have hnx : Hid (∀ j, j < i + 1 → j + 3 ≤ s.size → occAt s.data.toList [45, 45, 62] j = false) := Lib.hid (fun j hj hj3 => by
          by_cases e : j = i
          · subst e; exact hq
          · exact hok.out j (by omega) hj3)
        clear hq
        go_wp2
        exact ⟨⟨i + 1, by omega, by simp, hnx, by first | rfl | trivial⟩, by simp [Lib.intOf]; omega⟩
    · have e := hno.out (fun j hj => hok.out j (by omega) hj)
      clear hno hyes hok
      subst e
      go_wp2
      go_ret
      exact ⟨rfl, rfl⟩
end Go.Proofs.YtghlodpbbghcoaaDoor

/- A text folded: walked. -/
namespace Go.Proofs.YtghlodpbbghcoaaDoor
open Go.Lib Go.RowKit
/-- A text with small letters. -/
def foldL (s : ByteArray) : List UInt8 := s.data.toList.map fun c => UInt8.ofNat (low c.toNat)
theorem foldL_snoc (s : ByteArray) (i : Nat) (h : i < s.size) : (foldL s).take (i + 1) = (foldL s).take i ++ [UInt8.ofNat (low (bt s i))] := by
  have hl : i < (foldL s).length := by unfold foldL; rw [List.length_map]; simpa using h
  rw [List.take_add_one, List.getElem?_eq_getElem hl]
  simp only [foldL, List.getElem_map, Option.toList_some]
  rw [← bt_get s i h]
  rfl

set_option maxRecDepth 8192 in
set_option maxHeartbeats 3200000 in
theorem fold93_any (s : ByteArray) (hs : s.size ≤ 1000000) (w : World) :
    Calls Tryd.prog 93 #[.string s] w fun e w' => e = .returned (.string ⟨(foldL s).toArray⟩) ∧ Below w.heap.size w w' := by
  obtain ⟨i0, hi, hz0, hz1, hz2⟩ := info_parts info5
  have hfl : (foldL s).length = s.size := by unfold foldL; rw [List.length_map]; exact Array.length_toList
  obtain ⟨F, hF⟩ : ∃ F, foldL s = F := ⟨_, rfl⟩
  have hsn : Hid (∀ i, i < s.size → F.take (i + 1) = F.take i ++ [UInt8.ofNat (low (bt s i))]) := Lib.hid (fun i h => by rw [← hF]; exact foldL_snoc s i h)
  rw [hF] at hfl ⊢
  replace hfl := Lib.hid hfl
  clear hF
  go_enter Tryd.func93, Tryd.ntmps93
  go_wp2
  go_loopw [3, 4] (fun v x wr => ∃ (i : Nat) (L : List UInt8), i ≤ s.size ∧ x = .int .i64 i ∧ Hid (L = F.take i) ∧ L.length = i ∧ wr.ownsRow w.heap.size 5 1 v i (byteCells L) ∧ Hid (Below w.heap.size w wr)) (fun _ x _ => s.size - (Lib.intOf x).toNat)
  case atStart => exact ⟨0, [], Nat.zero_le _, rfl, Lib.hid rfl, rfl, World.ownsRow_nil _ _ _ _, Lib.hid (Below.refl _ _)⟩
  case round =>
    obtain ⟨i, L, hi1, rfl, hL, hLl, hrow, hB⟩ := hrel
    have hsz := Lib.hid hB.out.size
    by_cases hlt : i < s.size
    · have hi0 : (0 : Int) ≤ (i : Int) := by omega
      have hi2 : (i : Int) < (s.size : Int) := by omega
      have g1 := bt_get s i hlt
      have hnx := hsn.out i hlt
      have hbl := bt_lt s i
      obtain ⟨c, hc⟩ : ∃ c, bt s i = c := ⟨_, rfl⟩
      rw [hc] at g1 hnx hbl
      clear hc
      have hnx2 : Hid (L ++ [UInt8.ofNat (low c)] = F.take (i + 1)) := Lib.hid (by rw [hL.out, hnx])
      clear hnx
      have hof : ∀ n, n < 256 → (UInt8.ofNat n).toNat = n := fun n h => by simp [Nat.mod_eq_of_lt h]
      by_cases hup : 65 ≤ c ∧ c ≤ 90
      · obtain ⟨h1, h2⟩ := hup
        have hlow : low c = c + 32 := if_pos ⟨h1, h2⟩
        have hcw : ((c : Int) + 32) % 256 = ((c + 32 : Nat) : Int) := by omega
        have hcells : Hid (byteCells L ++ [.int .u8 ((c + 32 : Nat) : Int)] = byteCells (L ++ [UInt8.ofNat (low c)])) := Lib.hid (by simp [byteCells, hlow]; omega)
        have h1' : (65 : Int) ≤ (c : Int) := by omega
        have h2' : (c : Int) ≤ 90 := by omega
        clear hlow hof
        go_wp2_with (at_builtin; refine wpList_append_own _ rfl _ _ 25 rfl w.heap.size 5 i0 (.int .u8 0) 1 1 Tryd.underlying25 hi hz0 hz1 hz2 rfl (by decide) _ _ _ rfl (hrow.alloc _) ⟨_, 0, none⟩ 1 1 [.int .u8 ((c + 32 : Nat) : Int)] rfl rfl (cell_one_new _ _ _) (by simp [Value.oneCell']) (by unfold maxLen; omega) (by omega) (by have := hsz.out; simp; omega) ?_; intro v' w3 hown' hg3 hnil3; go_frame)
        rw [hcells.out] at hown'
        exact ⟨⟨i + 1, L ++ [UInt8.ofNat (low c)], by omega, by simp, hnx2, by simp; omega, hown', Lib.hid ((hB.out.alloc hsz.out _).grown hg3 (by have := hsz.out; simp; omega) (fun j hj => (hrow.lt j hj).1))⟩, by simp [Lib.intOf]; omega⟩
      · have hlow : low c = c := if_neg hup
        have hcells : Hid (byteCells L ++ [.int .u8 (c : Int)] = byteCells (L ++ [UInt8.ofNat (low c)])) := Lib.hid (by simp [byteCells, hlow]; omega)
        clear hlow hof
        by_cases h1 : 65 ≤ c
        · have h2' : ¬ (c : Int) ≤ 90 := by omega
          have h1' : (65 : Int) ≤ (c : Int) := by omega
          clear hup
          go_wp2_with (at_builtin; refine wpList_append_own _ rfl _ _ 25 rfl w.heap.size 5 i0 (.int .u8 0) 1 1 Tryd.underlying25 hi hz0 hz1 hz2 rfl (by decide) _ _ _ rfl (hrow.alloc _) ⟨_, 0, none⟩ 1 1 [.int .u8 (c : Int)] rfl rfl (cell_one_new _ _ _) (by simp [Value.oneCell']) (by unfold maxLen; omega) (by omega) (by have := hsz.out; simp; omega) ?_; intro v' w3 hown' hg3 hnil3; go_frame)
          rw [hcells.out] at hown'
          exact ⟨⟨i + 1, L ++ [UInt8.ofNat (low c)], by omega, by simp, hnx2, by simp; omega, hown', Lib.hid ((hB.out.alloc hsz.out _).grown hg3 (by have := hsz.out; simp; omega) (fun j hj => (hrow.lt j hj).1))⟩, by simp [Lib.intOf]; omega⟩
        · have h1' : ¬ (65 : Int) ≤ (c : Int) := by omega
          clear hup
          go_wp2_with (at_builtin; refine wpList_append_own _ rfl _ _ 25 rfl w.heap.size 5 i0 (.int .u8 0) 1 1 Tryd.underlying25 hi hz0 hz1 hz2 rfl (by decide) _ _ _ rfl (hrow.alloc _) ⟨_, 0, none⟩ 1 1 [.int .u8 (c : Int)] rfl rfl (cell_one_new _ _ _) (by simp [Value.oneCell']) (by unfold maxLen; omega) (by omega) (by have := hsz.out; simp; omega) ?_; intro v' w3 hown' hg3 hnil3; go_frame)
          rw [hcells.out] at hown'
          exact ⟨⟨i + 1, L ++ [UInt8.ofNat (low c)], by omega, by simp, hnx2, by simp; omega, hown', Lib.hid ((hB.out.alloc hsz.out _).grown hg3 (by have := hsz.out; simp; omega) (fun j hj => (hrow.lt j hj).1))⟩, by simp [Lib.intOf]; omega⟩
    · have hin3 : i = s.size := by omega
      have hLF : L = F := by rw [hL.out, hin3, ← hfl.out, List.take_length]
      subst hin3
      subst hLF
      have hcv := conv_row hrow
      go_wp2
      go_ret
      exact ⟨rfl, hB.out⟩
end Go.Proofs.YtghlodpbbghcoaaDoor
