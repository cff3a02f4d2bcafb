/- Names of attributes, walked. -/
import Derived.Test.YtghlodpbbghcoaaDoorD1
namespace Go.Proofs.YtghlodpbbghcoaaDoor
open Go.Lib Go.RowKit

/-- May a byte stand in an attribute's name? -/
def attrB (c : UInt8) : Bool := !(decide (65 ≤ c.toNat ∧ c.toNat ≤ 90) || decide (c.toNat = 9) || decide (c.toNat = 10) || decide (c.toNat = 12) || decide (c.toNat = 32) || decide (c.toNat = 47) || decide (c.toNat = 62) || decide (c.toNat = 61))
def attrL (l : List UInt8) : Bool := l.all attrB && (!l.isEmpty && isL l)

set_option maxRecDepth 8192 in
set_option maxHeartbeats 3200000 in
theorem attributed_any (s : ByteArray) (hs : s.size ≤ maxLen) (w : World) (hT : Tabs w) :
    Calls Tryd.prog 68 #[.string s] w fun e w' => e = .returned (.bool (attrL s.data.toList)) ∧ Below w.heap.size w w' := by
  have his := is_any s hs w hT
  obtain ⟨I, hI⟩ : ∃ I, isL s.data.toList = I := ⟨_, rfl⟩
  obtain ⟨a, ha⟩ : ∃ a, s.data.toList.all attrB = a := ⟨_, rfl⟩
  obtain ⟨r, hr⟩ : ∃ r, attrL s.data.toList = r := ⟨_, rfl⟩
  have hr2 : Hid (r = (a && (!s.toList.isEmpty && I))) := Lib.hid (by rw [← hr, attrL, ha, hI, ByteArray.toList_eq])
  rw [hI] at his
  rw [hr]
  have hz : s.data.toList.length = s.size := by simp
  have hafalse : Hid (∀ j (h : j < s.size), attrB s[j] = false → r = false) := Lib.hid (fun j h e => by
    have : a = false := by
      rw [← ha, List.all_eq_false]
      exact ⟨_, List.getElem_mem (show j < s.data.toList.length by rw [hz]; exact h), by rw [data_get s j h, e]; simp⟩
    rw [hr2.out, this]; rfl)
  have hatrue : Hid ((∀ j (h : j < s.size), attrB s[j] = true) → a = true) := Lib.hid (fun h => by
    rw [← ha]
    refine List.all_eq_true.2 (fun x hx => ?_)
    obtain ⟨j, hj, rfl⟩ := List.getElem_of_mem hx
    exact h j (by rw [hz] at hj; exact hj))
  have hmax : s.size ≤ 9223372036854775807 := hs
  clear ha hr hI hT hz
  go_enter Tryd.func68, Tryd.ntmps68
  go_wp2
  go_loop [7] (fun i => ∃ k : Nat, k ≤ s.size ∧ i = .int .i64 k ∧ Hid (∀ j (h : j < s.size), j < k → attrB s[j] = true)) (fun i => s.size - (Lib.intOf i).toNat)
  case atStart => exact ⟨0, Nat.zero_le _, rfl, Lib.hid (fun j _ h => absurd h (Nat.not_lt_zero _))⟩
  case round =>
    obtain ⟨k, hk, rfl, hok⟩ := hrel
    by_cases hlt : k < s.size
    · obtain ⟨cb, hcb⟩ : ∃ cb : UInt8, s[k] = cb := ⟨_, rfl⟩
      have hi0 : (0 : Int) ≤ (k : Int) := by omega
      have hi1 : (k : Int) < (s.size : Int) := by omega
      have hc256 := cb.toNat_lt
      obtain ⟨ok, hbad⟩ : ∃ ok, attrB cb = ok := ⟨_, rfl⟩
      have hbad2 : Hid (ok = !(decide (65 ≤ cb.toNat ∧ cb.toNat ≤ 90) || decide (cb.toNat = 9) || decide (cb.toNat = 10) || decide (cb.toNat = 12) || decide (cb.toNat = 32) || decide (cb.toNat = 47) || decide (cb.toNat = 62) || decide (cb.toNat = 61))) := Lib.hid hbad.symm
      have hgood : Hid (ok = true → ∀ j (h : j < s.size), j < k + 1 → attrB s[j] = true) := Lib.hid (fun e j h hj => by
        by_cases e2 : j = k
        · subst e2; rw [hcb, hbad, e]
        · exact hok.out j h (by omega))
      have hno : Hid (ok = false → r = false) := Lib.hid (fun e => hafalse.out k hlt (by rw [hcb, hbad, e]))
      clear hbad hafalse hatrue hr2 his
      go_upto_region 5 with fail
      generalize cb.toNat = c at *
      go_wp2
      all_goals first
        | (have e : ok = true := by rw [hbad2.out]; clear hgood hno hbad2 hok; simp at *; omega
           exact ⟨⟨k + 1, by omega, by simp <;> omega, Lib.hid (hgood.out e)⟩, by simp [Lib.intOf]; omega⟩)
        | (have e : ok = false := by rw [hbad2.out]; clear hgood hno hbad2 hok; simp at *; omega
           have e2 := hno.out e
           subst e2
           go_ret
           exact ⟨rfl, Below.refl _ _⟩)
    · have hkn : k = s.size := by omega
      have e : a = true := hatrue.out (fun j h => hok.out j h (by omega))
      have hr3 := hr2.out
      rw [e, Bool.true_and] at hr3
      subst hkn
      clear hok hatrue hafalse hr2
      cases hem : s.toList.isEmpty with
      | true =>
        rw [hem] at hr3
        have e2 : r = false := hr3
        clear hr3
        subst e2
        clear e his
        go_wp2
        go_ret
        exact ⟨rfl, Below.refl _ _⟩
      | false =>
        rw [hem] at hr3
        have e2 : r = I := hr3
        clear hr3
        subst e2
        clear e
        go_wp2_with (go_at_call 47; refine his.mono ?_; rintro e w1 ⟨rfl, hB⟩)
        go_ret
        exact ⟨rfl, hB⟩
end Go.Proofs.YtghlodpbbghcoaaDoor
