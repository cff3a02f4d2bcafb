/- Words of a constraint: walked. -/
import Derived.Test.YtghlodpbbghcoaaGreatDoorZ16
import Derived.Test.YtghlodpbbghcoaaGreatDoorZ2
namespace Go.Proofs.YtghlodpbbghcoaaGreatDoor
open Go.Lib Go.RowKit Go.Maps
def inB (lo hi : Nat) (l : List UInt8) : Bool := l.all fun c => decide (lo ≤ c.toNat) && decide (c.toNat ≤ hi)
theorem inB_bad {lo hi : Nat} {s : ByteArray} {k : Nat} (hk : k < s.size) (h : (s[k].toNat : Int) < lo ∨ (hi : Int) < (s[k].toNat : Int)) : inB lo hi s.data.toList = false := by
  unfold inB
  rw [List.all_eq_false]
  refine ⟨s[k], List.mem_of_getElem? (str_at hk), ?_⟩
  simp
  omega
theorem inB_good {lo hi : Nat} {s : ByteArray} (h : ∀ k (hk : k < s.size), (lo : Int) ≤ (s[k].toNat : Int) ∧ (s[k].toNat : Int) ≤ hi) : inB lo hi s.data.toList = true := by
  unfold inB
  rw [List.all_eq_true]
  intro c hc
  obtain ⟨j, hj, rfl⟩ := List.getElem_of_mem hc
  have := h j (by simpa using hj)
  have e : s.data.toList[j] = s[j]'(by simpa using hj) := rfl
  rw [e]
  simp
  omega

set_option maxRecDepth 8192 in
set_option maxHeartbeats 1600000 in
theorem isValue_any (s : ByteArray) (hs : s.size ≤ 140737488355328) (w : World) : Calls Tryz.prog 114 #[.string s] w fun e w' => e = .returned (.bool (inB 32 126 s.data.toList)) ∧ w' = w := by
  obtain ⟨r, hr⟩ : ∃ r, inB 32 126 s.data.toList = r := ⟨_, rfl⟩
  rw [hr]
  replace hr := Lib.hid hr
  go_enter Tryz.func114, Tryz.ntmps114
  go_wp2
  go_loop [3] (fun x => ∃ k : Nat, k ≤ s.size ∧ x = .int .i64 k ∧ Hid (∀ j (hj : j < s.size), j < k → ((32 : Nat) : Int) ≤ (s[j].toNat : Int) ∧ (s[j].toNat : Int) ≤ ((126 : Nat) : Int))) (fun x => s.size - (RowKit.intOf x).toNat)
  case atStart => exact ⟨0, Nat.zero_le _, rfl, Lib.hid (fun j _ h => absurd h (Nat.not_lt_zero _))⟩
  case round =>
    obtain ⟨k, hk, rfl, hok⟩ := hrel
    by_cases hlt : k < s.size
    · obtain ⟨q, hq⟩ : ∃ q : Int, (s[k].toNat : Int) = q := ⟨_, rfl⟩
      have hbad : Hid (q < 32 ∨ 126 < q → r = false) := Lib.hid (fun h => by rw [← hr.out]; exact inB_bad hlt (by rw [hq]; exact h))
      have hgood : Hid (32 ≤ q → q ≤ 126 → ∀ j (hj : j < s.size), j < k + 1 → ((32 : Nat) : Int) ≤ (s[j].toNat : Int) ∧ (s[j].toNat : Int) ≤ ((126 : Nat) : Int)) := Lib.hid (fun h1 h2 j hj hjk => by
        by_cases e : j = k
        · subst e
          rw [hq]
          exact ⟨h1, h2⟩
        · exact hok.out j hj (by omega))
      have hi0 : (0 : Int) ≤ (k : Int) := by omega
      have hi1 : (k : Int) < (s.size : Int) := by omega
      by_cases h1 : q < 32
      · have e := hbad.out (.inl h1)
        subst e
        clear hbad hgood
        go_wp2
        go_ret
        exact ⟨rfl, rfl⟩
      · by_cases h2 : 126 < q
        · have e := hbad.out (.inr h2)
          subst e
          clear hbad hgood
          go_wp2
          go_ret
          exact ⟨rfl, rfl⟩
        · have g := Lib.hid (hgood.out (by omega) (by omega))
          clear hbad hgood
          go_wp2
          exact ⟨⟨k + 1, by omega, by simp, g⟩, by simp [RowKit.intOf]; omega⟩
    · have e : r = true := by rw [← hr.out]; exact inB_good (fun j hj => hok.out j hj (by omega))
      subst e
      clear hok
      go_wp2
      go_ret
      exact ⟨rfl, rfl⟩

set_option maxRecDepth 8192 in
set_option maxHeartbeats 1600000 in
theorem isScheme_any (s : ByteArray) (hs : s.size ≤ 140737488355328) (w : World) : Calls Tryz.prog 108 #[.string s] w fun e w' => e = .returned (.bool (inB 97 122 s.data.toList && (decide (1 ≤ s.size) && decide (s.size ≤ 16)))) ∧ w' = w := by
  obtain ⟨r, hr⟩ : ∃ r, inB 97 122 s.data.toList = r := ⟨_, rfl⟩
  rw [hr]
  replace hr := Lib.hid hr
  go_enter Tryz.func108, Tryz.ntmps108
  go_wp2
  go_loop [3] (fun x => ∃ k : Nat, k ≤ s.size ∧ x = .int .i64 k ∧ Hid (∀ j (hj : j < s.size), j < k → ((97 : Nat) : Int) ≤ (s[j].toNat : Int) ∧ (s[j].toNat : Int) ≤ ((122 : Nat) : Int))) (fun x => s.size - (RowKit.intOf x).toNat)
  case atStart => exact ⟨0, Nat.zero_le _, rfl, Lib.hid (fun j _ h => absurd h (Nat.not_lt_zero _))⟩
  case round =>
    obtain ⟨k, hk, rfl, hok⟩ := hrel
    by_cases hlt : k < s.size
    · obtain ⟨q, hq⟩ : ∃ q : Int, (s[k].toNat : Int) = q := ⟨_, rfl⟩
      have hbad : Hid (q < 97 ∨ 122 < q → r = false) := Lib.hid (fun h => by rw [← hr.out]; exact inB_bad hlt (by rw [hq]; exact h))
      have hgood : Hid (97 ≤ q → q ≤ 122 → ∀ j (hj : j < s.size), j < k + 1 → ((97 : Nat) : Int) ≤ (s[j].toNat : Int) ∧ (s[j].toNat : Int) ≤ ((122 : Nat) : Int)) := Lib.hid (fun h1 h2 j hj hjk => by
        by_cases e : j = k
        · subst e
          rw [hq]
          exact ⟨h1, h2⟩
        · exact hok.out j hj (by omega))
      have hi0 : (0 : Int) ≤ (k : Int) := by omega
      have hi1 : (k : Int) < (s.size : Int) := by omega
      by_cases h1 : q < 97
      · have e := hbad.out (.inl h1)
        subst e
        clear hbad hgood
        go_wp2
        go_ret
        exact ⟨rfl, rfl⟩
      · by_cases h2 : 122 < q
        · have e := hbad.out (.inr h2)
          subst e
          clear hbad hgood
          go_wp2
          go_ret
          exact ⟨rfl, rfl⟩
        · have g := Lib.hid (hgood.out (by omega) (by omega))
          clear hbad hgood
          go_wp2
          exact ⟨⟨k + 1, by omega, by simp, g⟩, by simp [RowKit.intOf]; omega⟩
    · have e : r = true := by rw [← hr.out]; exact inB_good (fun j hj => hok.out j hj (by omega))
      subst e
      clear hok
      by_cases h1 : 1 ≤ s.size
      · have d1 : (1 : Int) ≤ (s.size : Int) := by omega
        by_cases h2 : s.size ≤ 16
        · have d2 : (s.size : Int) ≤ 16 := by omega
          go_wp2
          go_ret
          simp
        · have d2 : ¬ (s.size : Int) ≤ 16 := by omega
          go_wp2
          go_ret
          simp
      · have d1 : ¬ (1 : Int) ≤ (s.size : Int) := by omega
        go_wp2
        go_ret
        simp

def wordP (s : ByteArray) : Bool := decide (s.size ≤ 40) && inB 32 126 s.data.toList
def schemeP (s : ByteArray) : Bool := inB 97 122 s.data.toList && (decide (1 ≤ s.size) && decide (s.size ≤ 16))
theorem isWord_any (s : ByteArray) (hs : s.size ≤ 140737488355328) (w : World) : Calls Tryz.prog 107 #[.string s] w fun e w' => e = .returned (.bool (wordP s)) ∧ w' = w := by
  have hn := isValue_any s hs w
  obtain ⟨n, hn0⟩ : ∃ n, inB 32 126 s.data.toList = n := ⟨_, rfl⟩
  unfold wordP
  rw [hn0] at hn ⊢
  clear hn0
  by_cases h : s.size ≤ 40
  · go_enter Tryz.func107, Tryz.ntmps107
    go_wp2_with (go_at_call 114; refine hn.mono ?_; rintro e w1 ⟨rfl, rfl⟩)
    go_ret
    simp [h]
  · go_enter Tryz.func107, Tryz.ntmps107
    go_wp2
    go_ret
    simp
end Go.Proofs.YtghlodpbbghcoaaGreatDoor
