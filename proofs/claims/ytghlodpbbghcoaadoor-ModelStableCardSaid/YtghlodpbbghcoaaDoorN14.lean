/- Where a raw element ends: bytes, small letters, prefixes: walked. -/
import Derived.Test.YtghlodpbbghcoaaDoorN4
import Derived.Lib.IndexMore
namespace Go.Proofs.YtghlodpbbghcoaaDoor
open Go.Lib Go.RowKit
/-- A text's byte at a place. -/
def bt (s : ByteArray) (i : Nat) : Nat := (s.data.toList.getD i 0).toNat
theorem bt_get (s : ByteArray) (i : Nat) (h : i < s.size) : s[i].toNat = bt s i := by
  unfold bt
  rw [List.getD_eq_getElem?_getD, List.getElem?_eq_getElem (by simpa using h)]
  rfl
theorem bt_lt (s : ByteArray) (i : Nat) : bt s i < 256 := UInt8.toNat_lt _
theorem bt_extract (s : ByteArray) (a j : Nat) (h : a + j < s.size) : bt (s.extract a s.size) j = bt s (a + j) := by
  unfold bt
  have e : (s.extract a s.size).data.toList = (s.data.toList.take s.size).drop a := by
    rw [ByteArray.data_extract, Array.toList_extract, List.extract_eq_take_drop, List.drop_take]
  rw [e, List.getD_eq_getElem?_getD, List.getD_eq_getElem?_getD, List.getElem?_drop, List.getElem?_take, if_pos h]
def low (n : Nat) : Nat := if 65 ≤ n ∧ n ≤ 90 then n + 32 else n
theorem low_lt {n : Nat} (h : n < 256) : low n < 256 := by unfold low; split <;> omega
def blankN (n : Nat) : Prop := n = 9 ∨ n = 10 ∨ n = 12 ∨ n = 32

set_option maxRecDepth 8192 in
theorem small79_any (n : Nat) (hn : n < 256) (w : World) : Calls Tryd.prog 79 #[.int .u8 n] w fun e w' => e = .returned (.int .u8 (low n : Nat)) ∧ w' = w := by
  go_enter Tryd.func79, Tryd.ntmps79
  by_cases h1 : 65 ≤ n
  · by_cases h2 : n ≤ 90
    · have e : low n = n + 32 := if_pos ⟨h1, h2⟩
      rw [e]
      go_wp2
      go_ret
      refine ⟨?_, rfl⟩
      have e2 : ((n : Int) - 65) % 256 = n - 65 := by omega
      simp
      omega
    · have e : low n = n := if_neg (by omega)
      rw [e]
      go_wp2
      go_ret
      exact ⟨rfl, rfl⟩
  · have e : low n = n := if_neg (by omega)
    rw [e]
    go_wp2
    go_ret
    exact ⟨rfl, rfl⟩
open Classical in
set_option maxRecDepth 8192 in
theorem blank61_any (n : Nat) (w : World) : Calls Tryd.prog 61 #[.int .i32 n] w fun e w' => e = .returned (.bool (decide (blankN n))) ∧ w' = w := by
  obtain ⟨r, hr⟩ : ∃ r, decide (blankN n) = r := ⟨_, rfl⟩
  have hr2 : Hid (r = true ↔ blankN n) := Lib.hid (by rw [← hr]; exact decide_eq_true_iff)
  rw [hr]
  clear hr
  go_enter Tryd.func61, Tryd.ntmps61
  go_wp2
  all_goals go_ret
  all_goals refine ⟨congrArg (fun b => Ending.returned (Value.bool b)) ?_, rfl⟩
  all_goals (rw [Bool.eq_iff_iff, hr2.out]; simp [blankN, *]; try omega)
def pref (s word : ByteArray) : Prop := word.size ≤ s.size ∧ ∀ j, j < word.size → low (bt s j) = bt word j

open Classical in
set_option maxRecDepth 8192 in
set_option maxHeartbeats 1600000 in
theorem prefix_any (s word : ByteArray) (hs : s.size ≤ 1000000) (hw : word.size ≤ 1000000) (w : World) :
    Calls Tryd.prog 60 #[.string s, .string word] w fun e w' => e = .returned (.bool (decide (pref s word))) ∧ Below w.heap.size w w' := by
  obtain ⟨r, hr⟩ : ∃ r, decide (pref s word) = r := ⟨_, rfl⟩
  have hr2 : Hid (r = true ↔ pref s word) := Lib.hid (by rw [← hr]; exact decide_eq_true_iff)
  rw [hr]
  clear hr
  go_enter Tryd.func60, Tryd.ntmps60
  by_cases hlen : s.size < word.size
  · have e : r = false := Bool.eq_false_iff.2 (fun h => by have := (hr2.out.1 h).1; omega)
    subst e
    go_wp2
    go_ret
    exact ⟨rfl, Below.refl _ _⟩
  · go_wp2
    go_loopw [13] (fun x wr => ∃ k : Nat, k ≤ word.size ∧ x = .int .i64 k ∧ Hid (∀ j, j < k → low (bt s j) = bt word j) ∧ Hid (Below w.heap.size w wr)) (fun x _ => word.size - (Lib.intOf x).toNat)
    case atStart => exact ⟨0, Nat.zero_le _, rfl, Lib.hid (fun j h => absurd h (Nat.not_lt_zero _)), Lib.hid (Below.refl _ _)⟩
    case round =>
      obtain ⟨k, hk, rfl, hok, hdr⟩ := hrel
      by_cases hlt : k < word.size
      · have hi0 : (0 : Int) ≤ (k : Int) := by omega
        have hi1 : (k : Int) < (word.size : Int) := by omega
        have hi2 : (k : Int) < (s.size : Int) := by omega
        have g1 := bt_get s k (by omega)
        have g2 := bt_get word k hlt
        obtain ⟨a, ha⟩ : ∃ a, bt s k = a := ⟨_, rfl⟩
        obtain ⟨c, hc⟩ : ∃ c, bt word k = c := ⟨_, rfl⟩
        have hsm := small79_any a (by rw [← ha]; exact bt_lt _ _)
        rw [ha] at g1
        rw [hc] at g2
        have hal : low a < 256 := low_lt (by rw [← ha]; exact bt_lt _ _)
        have hcl : c < 256 := by rw [← hc]; exact bt_lt _ _
        have hnext : Hid (low a = c → ∀ j, j < k + 1 → low (bt s j) = bt word j) := Lib.hid (fun e j hj => by
          by_cases e2 : j = k
          · subst e2; rw [ha, hc]; exact e
          · exact hok.out j (by omega))
        have hno : Hid (low a ≠ c → r = false) := Lib.hid (fun e => Bool.eq_false_iff.2 (fun h => e (by have := (hr2.out.1 h).2 k hlt; rwa [ha, hc] at this)))
        clear ha hc
        obtain ⟨la, hla⟩ : ∃ la, low a = la := ⟨_, rfl⟩
        rw [hla] at hsm hal hnext hno
        clear hla
        go_upto_region 6 with fail
        go_region_with (go_at_call 79; refine (hsm _).mono ?_; rintro e w5 ⟨rfl, rfl⟩)
        all_goals
          by_cases hlc : la = c
          · subst hlc
            go_wp2
            exact ⟨⟨k + 1, by omega, by simp, Lib.hid (hnext.out rfl), Lib.hid hdr.out.drew⟩, by simp [Lib.intOf]; omega⟩
          · have e := hno.out hlc
            subst e
            have hne : (la : Int) ≠ (c : Int) := by omega
            go_wp2
            go_ret
            exact ⟨rfl, hdr.out.drew⟩
      · have hkn : k = word.size := by omega
        subst hkn
        have e : r = true := hr2.out.2 ⟨by omega, hok.out⟩
        subst e
        go_wp2
        go_ret
        exact ⟨rfl, hdr.out⟩
end Go.Proofs.YtghlodpbbghcoaaDoor
