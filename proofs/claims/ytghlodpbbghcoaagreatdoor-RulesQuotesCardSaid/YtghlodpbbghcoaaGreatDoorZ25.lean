/- Small tests by the document: walked. -/
import Derived.Test.YtghlodpbbghcoaaGreatDoorZ22
import Derived.Test.YtghlodpbbghcoaaGreatDoorC7
import Derived.Test.YtghlodpbbghcoaaGreatDoorC8
import Derived.Test.YtghlodpbbghcoaaGreatDoorC9
namespace Go.Proofs.YtghlodpbbghcoaaGreatDoor
open Go.Lib Go.RowKit Go.Maps
set_option maxRecDepth 8192 in
set_option maxHeartbeats 1600000 in
theorem signs_any (s : ByteArray) (hs : s.size ≤ 140737488355328) (w : World) : Calls Tryz.prog 104 #[.string s] w fun e w' => e = .returned (.bool (inB 32 126 s.data.toList)) ∧ w' = w := by
  obtain ⟨r, hr⟩ : ∃ r, inB 32 126 s.data.toList = r := ⟨_, rfl⟩
  rw [hr]
  replace hr := Lib.hid hr
  go_enter Tryz.func104, Tryz.ntmps104
  go_wp2
  go_loop [3] (fun x => ∃ k : Nat, k ≤ s.size ∧ x = .int .i64 k ∧ Hid (∀ j (hj : j < s.size), j < k → ((32 : Nat) : Int) ≤ (s[j].toNat : Int) ∧ (s[j].toNat : Int) ≤ ((126 : Nat) : Int))) (fun x => s.size - (RowKit.intOf x).toNat)
  case atStart => exact ⟨0, Nat.zero_le _, rfl, Lib.hid (fun j _ h => absurd h (Nat.not_lt_zero _))⟩
  case round =>
    obtain ⟨k, hk, rfl, hok⟩ := hrel
    by_cases hlt : k < s.size
    · obtain ⟨q, hq⟩ : ∃ q : Int, (s[k].toNat : Int) = q := ⟨_, rfl⟩
      have hbad : Hid (q < 32 ∨ 126 < q → r = false) := Lib.hid (fun h => by rw [← hr.out]; exact inB_bad hlt (by rw [hq]; exact h))
      have hgood : Hid (32 ≤ q → q ≤ 126 → ∀ j (hj : j < s.size), j < k + 1 → ((32 : Nat) : Int) ≤ (s[j].toNat : Int) ∧ (s[j].toNat : Int) ≤ ((126 : Nat) : Int)) := Lib.hid (fun h1 h2 j hj hjk => by
        by_cases e : j = k
        · subst e
          rw [hq]
          exact ⟨h1, h2⟩
        · exact hok.out j hj (by omega))
      have hi0 : (0 : Int) ≤ (k : Int) := by omega
      have hi1 : (k : Int) < (s.size : Int) := by omega
      by_cases h1 : q < 32
      · have e := hbad.out (.inl h1)
        subst e
        clear hbad hgood
        go_wp2
        go_ret
        exact ⟨rfl, rfl⟩
      · by_cases h2 : 126 < q
        · have e := hbad.out (.inr h2)
          subst e
          clear hbad hgood
          go_wp2
          go_ret
          exact ⟨rfl, rfl⟩
        · have g := Lib.hid (hgood.out (by omega) (by omega))
          clear hbad hgood
          go_wp2
          exact ⟨⟨k + 1, by omega, by simp, g⟩, by simp [RowKit.intOf]; omega⟩
    · have e : r = true := by rw [← hr.out]; exact inB_good (fun j hj => hok.out j hj (by omega))
      subst e
      clear hok
      go_wp2
      go_ret
      exact ⟨rfl, rfl⟩

set_option maxRecDepth 8192 in
set_option maxHeartbeats 1600000 in
theorem scheme_any (s : ByteArray) (hs : s.size ≤ 140737488355328) (w : World) : Calls Tryz.prog 103 #[.string s] w fun e w' => e = .returned (.bool (inB 97 122 s.data.toList && (decide (1 ≤ s.size) && decide (s.size ≤ 16)))) ∧ w' = w := by
  obtain ⟨r, hr⟩ : ∃ r, inB 97 122 s.data.toList = r := ⟨_, rfl⟩
  rw [hr]
  replace hr := Lib.hid hr
  go_enter Tryz.func103, Tryz.ntmps103
  go_wp2
  go_loop [3] (fun x => ∃ k : Nat, k ≤ s.size ∧ x = .int .i64 k ∧ Hid (∀ j (hj : j < s.size), j < k → ((97 : Nat) : Int) ≤ (s[j].toNat : Int) ∧ (s[j].toNat : Int) ≤ ((122 : Nat) : Int))) (fun x => s.size - (RowKit.intOf x).toNat)
  case atStart => exact ⟨0, Nat.zero_le _, rfl, Lib.hid (fun j _ h => absurd h (Nat.not_lt_zero _))⟩
  case round =>
    obtain ⟨k, hk, rfl, hok⟩ := hrel
    by_cases hlt : k < s.size
    · obtain ⟨q, hq⟩ : ∃ q : Int, (s[k].toNat : Int) = q := ⟨_, rfl⟩
      have hbad : Hid (q < 97 ∨ 122 < q → r = false) := Lib.hid (fun h => by rw [← hr.out]; exact inB_bad hlt (by rw [hq]; exact h))
      have hgood : Hid (97 ≤ q → q ≤ 122 → ∀ j (hj : j < s.size), j < k + 1 → ((97 : Nat) : Int) ≤ (s[j].toNat : Int) ∧ (s[j].toNat : Int) ≤ ((122 : Nat) : Int)) := Lib.hid (fun h1 h2 j hj hjk => by
        by_cases e : j = k
        · subst e
          rw [hq]
          exact ⟨h1, h2⟩
        · exact hok.out j hj (by omega))
      have hi0 : (0 : Int) ≤ (k : Int) := by omega
      have hi1 : (k : Int) < (s.size : Int) := by omega
      by_cases h1 : q < 97
      · have e := hbad.out (.inl h1)
        subst e
        clear hbad hgood
        go_wp2
        go_ret
        exact ⟨rfl, rfl⟩
      · by_cases h2 : 122 < q
        · have e := hbad.out (.inr h2)
          subst e
          clear hbad hgood
          go_wp2
          go_ret
          exact ⟨rfl, rfl⟩
        · have g := Lib.hid (hgood.out (by omega) (by omega))
          clear hbad hgood
          go_wp2
          exact ⟨⟨k + 1, by omega, by simp, g⟩, by simp [RowKit.intOf]; omega⟩
    · have e : r = true := by rw [← hr.out]; exact inB_good (fun j hj => hok.out j hj (by omega))
      subst e
      clear hok
      by_cases h1 : 1 ≤ s.size
      · have d1 : (1 : Int) ≤ (s.size : Int) := by omega
        by_cases h2 : s.size ≤ 16
        · have d2 : (s.size : Int) ≤ 16 := by omega
          go_wp2
          go_ret
          simp
        · have d2 : ¬ (s.size : Int) ≤ 16 := by omega
          go_wp2
          go_ret
          simp
      · have d1 : ¬ (1 : Int) ≤ (s.size : Int) := by omega
        go_wp2
        go_ret
        simp


theorem plain13_any (s : ByteArray) (hs : s.size ≤ maxLen) (w : World) : Calls Tryz.prog 29 #[.string s] w fun e w' => e = .returned (.bool (plainP s)) ∧ w' = w := by
  have hn := named3_any s hs w
  obtain ⟨n, hn0⟩ : ∃ n, namedL s.data.toList = n := ⟨_, rfl⟩
  unfold plainP
  rw [hn0] at hn ⊢
  clear hn0
  by_cases h : s.size ≤ 16
  all_goals cases n
  all_goals go_enter Tryz.func29, Tryz.ntmps29
  all_goals go_wp2_with (go_at_call 51; refine hn.mono ?_; rintro e w1 ⟨rfl, rfl⟩)
  all_goals go_ret
  all_goals refine ⟨?_, rfl⟩
  all_goals refine congrArg (fun b => Ending.returned (Value.bool b)) ?_
  all_goals first | (rw [decide_eq_true h]; simp; try omega) | (rw [decide_eq_false h]; simp; try omega)
theorem has_data_star {s : ByteArray} (h : 0 < s.size) : manyP s = decide (s[s.size - 1] = 42) := by
  unfold manyP Lib.hasSuffix
  have hz : s.data.toList.length = s.size := by simp
  have hne : s.data.toList ≠ [] := by intro e; rw [e] at hz; simp at hz; omega
  have hl : s.data.toList.getLast hne = s[s.size - 1] := by
    rw [List.getLast_eq_getElem]
    simp only [hz]
    rfl
  rw [Bool.eq_iff_iff, List.isSuffixOf_iff_suffix, decide_eq_true_eq]
  constructor
  · rintro ⟨l, e⟩
    have : s.data.toList.getLast hne = 42 := by
      have h2 : (l ++ [42]).getLast (by simp) = (42 : UInt8) := by simp
      rw [← h2]
      congr 1
      exact e.symm
    rw [← hl, this]
  · intro e
    refine ⟨s.data.toList.dropLast, ?_⟩
    rw [← e, ← hl]
    exact List.dropLast_concat_getLast hne
theorem stem_val {s : ByteArray} (h : 0 < s.size) (hm : s[s.size - 1] = 42) : stemP s = s.extract 0 (s.size - 1) := by
  have h2 : Lib.hasSuffix s.data.toList [42] = true := by
    have := has_data_star h
    rw [decide_eq_true hm] at this
    exact this
  have hz : s.data.toList.length = s.size := by simp
  unfold stemP Lib.trimSuffix
  rw [h2, if_pos rfl]
  refine (tx_eq ?_).symm
  rw [ByteArray.data_extract, Array.toList_extract, List.extract_eq_take_drop]
  simp
theorem stem_none {s : ByteArray} (h : manyP s = false) : stemP s = s := by
  unfold stemP Lib.trimSuffix
  have : Lib.hasSuffix s.data.toList [42] = false := h
  rw [this]
  exact tx_of s
theorem stem_any (s : ByteArray) (hs : s.size ≤ 140737488355328) (w : World) : Calls Tryz.prog 53 #[.string s] w fun e w' => e = .returned (.tuple #[.string (stemP s), .bool (manyP s)]) ∧ w' = w := by
  by_cases h : 0 < s.size
  · have hst := has_data_star h
    obtain ⟨j, hj⟩ : ∃ j, s.size - 1 = j := ⟨_, rfl⟩
    have hjl : j < s.size := by omega
    have hij : (s.size : Int) - 1 = (j : Int) := by omega
    have hj0 : (0 : Int) ≤ (j : Int) := by omega
    have hj1 : (j : Int) < (s.size : Int) := by omega
    have hj2 : (j : Int) ≤ (s.size : Int) := by omega
    have hp : (0 : Int) < (s.size : Int) := by omega
    have hsv := stem_val h
    simp only [hj] at hst hsv
    obtain ⟨q, hq⟩ : ∃ q : Int, (s[j].toNat : Int) = q := ⟨_, rfl⟩
    by_cases h42 : q = 42
    · subst h42
      have hc : s[j] = 42 := UInt8.toNat_inj.1 (by show s[j].toNat = 42; exact Int.ofNat.inj hq)
      rw [decide_eq_true hc] at hst
      have hsv2 := Lib.hid (hsv hc)
      rw [hst]
      clear hst hsv hc hj
      go_enter Tryz.func53, Tryz.ntmps53
      go_wp2
      go_ret2
      exact ⟨by rw [hsv2.out]; rfl, rfl⟩
    · have e42 : (q == 42) = false := by simpa using h42
      have hm : manyP s = false := by
        rw [hst]
        refine decide_eq_false (fun e => h42 ?_)
        rw [← hq, e]
        rfl
      rw [hm, stem_none hm]
      clear hst hsv hm h42 hj
      go_enter Tryz.func53, Tryz.ntmps53
      go_wp2
      go_ret2
      exact ⟨rfl, rfl⟩
  · have hp : ¬ (0 : Int) < (s.size : Int) := by omega
    have hm : manyP s = false := by
      have hz : s.data.toList.length = s.size := by simp
      have : s.data.toList = [] := List.eq_nil_of_length_eq_zero (by omega)
      unfold manyP
      rw [this]
      rfl
    rw [hm, stem_none hm]
    clear hm
    go_enter Tryz.func53, Tryz.ntmps53
    go_wp2
    go_ret2
    exact ⟨rfl, rfl⟩
end Go.Proofs.YtghlodpbbghcoaaGreatDoor
