/- Names of elements and attributes, walked: the program's and the document's. -/
import Derived.Test.YtghlodpbbghcoaaGreatDoorAM
import Derived.Test.YtghlodpbbghcoaaGreatDoorProg
import Derived.WalkKit
import Derived.WalkSpells
import Derived.Lib.Hide
import Derived.Deep.DeepCutAuto
import Derived.Lib.Strings
namespace Go.Proofs.YtghlodpbbghcoaaGreatDoor
open Go.Lib Go.RowKit

def letterB (c : UInt8) : Bool := decide (97 ≤ c.toNat ∧ c.toNat ≤ 122)
def nameB (c : UInt8) : Bool := letterB c || decide (48 ≤ c.toNat ∧ c.toNat ≤ 57) || decide (c.toNat = 45)
def nameAt (k : Nat) (c : UInt8) : Bool := letterB c || (decide (k ≠ 0) && nameB c)
/-- Is it an element's name? -/
def namedL : List UInt8 → Bool
  | [] => false
  | c :: t => letterB c && t.all nameB
theorem namedL_iff (l : List UInt8) : namedL l = true ↔ l ≠ [] ∧ ∀ j (h : j < l.length), nameAt j l[j] = true := by
  cases l with
  | nil => simp [namedL]
  | cons c t =>
    unfold namedL
    rw [Bool.and_eq_true]
    constructor
    · rintro ⟨h1, h2⟩
      refine ⟨by simp, fun j h => ?_⟩
      cases j with
      | zero => simp [nameAt, h1]
      | succ j =>
        have := List.all_eq_true.1 h2 (t[j]'(by simpa using h)) (List.getElem_mem _)
        simp [nameAt, this]
    · rintro ⟨_, h⟩
      refine ⟨by have := h 0 (by simp); simpa [nameAt] using this, List.all_eq_true.2 (fun x hx => ?_)⟩
      obtain ⟨j, hj, rfl⟩ := List.getElem_of_mem hx
      have := h (j + 1) (by simpa using hj)
      simp [nameAt] at this
      rcases this with h | h
      · simp [nameB, h]
      · exact h
theorem data_get (s : ByteArray) (k : Nat) (h : k < s.size) : s.data.toList[k]'(by simpa using h) = s[k] := rfl

set_option maxRecDepth 8192 in
set_option maxHeartbeats 3200000 in
theorem named_any (s : ByteArray) (hs : s.size ≤ maxLen) (w : World) :
    Calls Tryz.prog 87 #[.string s] w fun e w' => e = .returned (.bool (namedL s.data.toList)) ∧ w' = w := by
  obtain ⟨r, hr⟩ : ∃ r, namedL s.data.toList = r := ⟨_, rfl⟩
  have hiff := namedL_iff s.data.toList
  rw [hr] at hiff ⊢
  replace hiff := Lib.hid hiff
  clear hr
  have hz : s.data.toList.length = s.size := by simp
  replace hz := Lib.hid hz
  have hmax : s.size ≤ 9223372036854775807 := hs
  go_enter Tryz.func87, Tryz.ntmps87
  go_wp2
  go_loop [8] (fun i => ∃ k : Nat, k ≤ s.size ∧ i = .int .i64 k ∧ Hid (∀ j (h : j < s.size), j < k → nameAt j s[j] = true)) (fun i => s.size - (intOf i).toNat)
  case atStart => exact ⟨0, Nat.zero_le _, rfl, Lib.hid (fun j _ h => absurd h (Nat.not_lt_zero _))⟩
  case round =>
    obtain ⟨k, hk, rfl, hok⟩ := hrel
    by_cases hlt : k < s.size
    · obtain ⟨cb, hcb⟩ : ∃ cb : UInt8, s[k] = cb := ⟨_, rfl⟩
      have hi0 : (0 : Int) ≤ (k : Int) := by omega
      have hi1 : (k : Int) < (s.size : Int) := by omega
      have hc256 := cb.toNat_lt
      obtain ⟨ok, hbad⟩ : ∃ ok, nameAt k cb = ok := ⟨_, rfl⟩
      have hbad2 : Hid (ok = (decide (97 ≤ cb.toNat ∧ cb.toNat ≤ 122) || (decide (k ≠ 0) && (decide (97 ≤ cb.toNat ∧ cb.toNat ≤ 122) || decide (48 ≤ cb.toNat ∧ cb.toNat ≤ 57) || decide (cb.toNat = 45))))) := Lib.hid hbad.symm
      have hgood : Hid (ok = true → ∀ j (h : j < s.size), j < k + 1 → nameAt j s[j] = true) := Lib.hid (fun e j h hj => by
        by_cases e2 : j = k
        · subst e2; rw [hcb, hbad, e]
        · exact hok.out j h (by omega))
      have hno : Hid (ok = false → r = false) := Lib.hid (fun e => by
        refine Bool.eq_false_iff.2 (fun hr => ?_)
        have := (hiff.out.1 hr).2 k (by rw [hz.out]; exact hlt)
        rw [data_get s k hlt, hcb, hbad, e] at this
        cases this)
      clear hbad
      go_upto_region 5 with fail
      generalize cb.toNat = c at *
      go_wp2
      all_goals first
        | (have e : ok = true := by rw [hbad2.out]; clear hgood hno hbad2 hok hz hiff; simp at *; omega
           exact ⟨⟨k + 1, by omega, by simp <;> omega, Lib.hid (hgood.out e)⟩, by simp [intOf]; omega⟩)
        | (have e : ok = false := by rw [hbad2.out]; clear hgood hno hbad2 hok hz hiff; simp at *; omega
           have e2 := hno.out e
           subst e2
           go_ret
           exact ⟨rfl, rfl⟩)
    · have hkn : k = s.size := by omega
      have hr : Hid (r = true ↔ 0 < s.size) := Lib.hid (by
        rw [hiff.out]
        constructor
        · rintro ⟨h1, _⟩
          have := List.length_pos_iff.2 h1
          rw [hz.out] at this
          exact this
        · intro h
          exact ⟨List.length_pos_iff.1 (by rw [hz.out]; exact h), fun j hj => hok.out j (by rw [hz.out] at hj; exact hj) (by rw [hz.out] at hj; omega)⟩)
      subst hkn
      clear hiff hok
      go_wp2
      go_ret
      refine ⟨?_, rfl⟩
      have e : (!s.toList.isEmpty) = r := by
        rw [Bool.eq_iff_iff, hr.out, ByteArray.toList_eq, ← hz.out, Bool.not_eq_true', List.isEmpty_eq_false_iff, List.length_pos_iff]
      rw [← e]
      rfl
end Go.Proofs.YtghlodpbbghcoaaGreatDoor
