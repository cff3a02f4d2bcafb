/- The document's names of elements, walked. -/
import Derived.Test.YtghlodpbbghcoaaGreatDoorC5
import Derived.Deep.CutBlock
namespace Go.Proofs.YtghlodpbbghcoaaGreatDoor
open Go.Lib Go.RowKit

set_option maxRecDepth 8192 in
theorem small3_any (c : UInt8) (w : World) : Calls Tryz.prog 81 #[.int .u8 c.toNat] w fun e w' => e = .returned (.bool (letterB c)) ∧ w' = w := by
  go_enter Tryz.func81, Tryz.ntmps81
  obtain ⟨r, hr⟩ : ∃ r, letterB c = r := ⟨_, rfl⟩
  have hr2 : Hid (r = decide (97 ≤ c.toNat ∧ c.toNat ≤ 122)) := Lib.hid hr.symm
  rw [hr]
  clear hr
  have hc := c.toNat_lt
  generalize c.toNat = n at *
  go_wp2
  all_goals go_ret
  all_goals refine ⟨?_, rfl⟩
  all_goals rw [hr2.out]
  all_goals exact congrArg (fun b => Ending.returned (Value.bool b)) (by rw [Bool.eq_iff_iff]; simp; omega)
theorem namedL_all (s : ByteArray) (h : 0 < s.size) : namedL s.data.toList = (letterB s[0] && s.data.toList.all nameB) := by
  obtain ⟨l, hl⟩ : ∃ l, s.data.toList = l := ⟨_, rfl⟩
  have h0 : s.data.toList[0]'(by simpa using h) = s[0] := rfl
  cases l with
  | nil => have : s.data.toList.length = s.size := by simp
           rw [hl] at this; simp at this; omega
  | cons c t =>
    have e : s[0] = c := by rw [← h0]; simp [hl]
    rw [hl, e, namedL, List.all_cons]
    cases hc : letterB c with
    | false => rfl
    | true => simp [nameB, hc]

set_option maxRecDepth 8192 in
set_option maxHeartbeats 3200000 in
theorem named3_any (s : ByteArray) (hs : s.size ≤ maxLen) (w : World) :
    Calls Tryz.prog 51 #[.string s] w fun e w' => e = .returned (.bool (namedL s.data.toList)) ∧ w' = w := by
  have hmax : s.size ≤ 9223372036854775807 := hs
  have hz : s.data.toList.length = s.size := by simp
  by_cases h0 : 0 < s.size
  · rw [namedL_all s h0]
    obtain ⟨c0, hc0⟩ : ∃ c, s[0] = c := ⟨_, rfl⟩
    obtain ⟨a, ha⟩ : ∃ a, s.data.toList.all nameB = a := ⟨_, rfl⟩
    rw [hc0, ha]
    have hsm := small3_any c0
    obtain ⟨r, hr⟩ : ∃ r, letterB c0 = r := ⟨_, rfl⟩
    rw [hr] at hsm ⊢
    have hall : Hid (a = true ↔ ∀ j (h : j < s.size), nameB s[j] = true) := Lib.hid (by
      rw [← ha, List.all_eq_true]
      constructor
      · exact fun h j hj => h _ (by rw [← data_get s j hj]; exact List.getElem_mem _)
      · intro h x hx
        obtain ⟨j, hj, rfl⟩ := List.getElem_of_mem hx
        exact h j (by rwa [hz] at hj))
    clear ha hr
    replace hz := Lib.hid hz
    go_enter Tryz.func51, Tryz.ntmps51
    go_upto_region 5 with (go_at_call 81; refine (hsm _).mono ?_; rintro e w1 ⟨rfl, rfl⟩)
    go_loop [4] (fun i => ∃ k : Nat, k ≤ s.size ∧ i = .int .i64 k ∧ Hid (∀ j (h : j < s.size), j < k → nameB s[j] = true)) (fun i => s.size - (RowKit.intOf i).toNat)
    case atStart => exact ⟨0, Nat.zero_le _, rfl, Lib.hid (fun j _ h => absurd h (Nat.not_lt_zero _))⟩
    case round =>
      obtain ⟨k, hk, rfl, hok⟩ := hrel
      by_cases hlt : k < s.size
      · obtain ⟨cb, hcb⟩ : ∃ cb : UInt8, s[k] = cb := ⟨_, rfl⟩
        have hi0 : (0 : Int) ≤ (k : Int) := by omega
        have hi1 : (k : Int) < (s.size : Int) := by omega
        have hc256 := cb.toNat_lt
        have hsm2 := small3_any cb
        obtain ⟨ok, hok2⟩ : ∃ ok, nameB cb = ok := ⟨_, rfl⟩
        obtain ⟨le, hle⟩ : ∃ le, letterB cb = le := ⟨_, rfl⟩
        have hbad2 : Hid (ok = (le || decide (48 ≤ cb.toNat ∧ cb.toNat ≤ 57) || decide (cb.toNat = 45))) := Lib.hid (by rw [← hok2, nameB, hle])
        have hgood : Hid (ok = true → ∀ j (h : j < s.size), j < k + 1 → nameB s[j] = true) := Lib.hid (fun e j h hj => by
          by_cases e2 : j = k
          · subst e2; rw [hcb, hok2, e]
          · exact hok.out j h (by omega))
        have hno : Hid (ok = false → a = false) := Lib.hid (fun e => by
          refine Bool.eq_false_iff.2 (fun hr => ?_)
          have := hall.out.1 hr k hlt
          rw [hcb, hok2, e] at this
          cases this)
        rw [hle] at hsm2
        clear hok2 hle
        go_upto_region 8 with (go_at_call 81; refine (hsm2 _).mono ?_; rintro e w2 ⟨rfl, rfl⟩)
        clear hsm2 hsm
        cases le
        all_goals go_wp2
        all_goals first
          | (have e : ok = true := by rw [hbad2.out]; clear hgood hno hbad2 hok hz hall; generalize cb.toNat = c at *; simp at *; omega
             exact ⟨⟨k + 1, by omega, by simp <;> omega, Lib.hid (hgood.out e)⟩, by simp [RowKit.intOf]; omega⟩)
          | (have e : ok = true := by rw [hbad2.out]; rfl
             exact ⟨⟨k + 1, by omega, by simp <;> omega, Lib.hid (hgood.out e)⟩, by simp [RowKit.intOf]; omega⟩)
          | (have e : ok = false := by rw [hbad2.out]; clear hgood hno hbad2 hok hz hall; generalize cb.toNat = c at *; simp at *; omega
             have e2 := hno.out e
             subst e2
             go_ret
             exact ⟨by simp, rfl⟩)
      · have hkn : k = s.size := by omega
        have e : a = true := hall.out.2 (fun j h => hok.out j h (by omega))
        subst hkn
        subst e
        clear hall hok
        go_wp2
        go_ret
        exact ⟨rfl, rfl⟩
  · have h1 : s.data.toList = [] := List.eq_nil_of_length_eq_zero (by omega)
    have h2 : (s.size : Int) = 0 := by omega
    rw [h1]
    go_enter Tryz.func51, Tryz.ntmps51
    go_wp2
    go_ret
    exact ⟨rfl, rfl⟩
end Go.Proofs.YtghlodpbbghcoaaGreatDoor
