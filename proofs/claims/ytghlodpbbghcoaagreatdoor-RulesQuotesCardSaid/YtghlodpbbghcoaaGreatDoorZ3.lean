/- A line's item: walked. -/
import Derived.Test.YtghlodpbbghcoaaGreatDoorZ2
import Derived.Test.YtghlodpbbghcoaaGreatDoorShelf
namespace Go.Proofs.YtghlodpbbghcoaaGreatDoor
open Go.RowKit
theorem sgn_iff (c : UInt8) : sgn c = (decide (32 < (c.toNat : Int)) && decide ((c.toNat : Int) ≤ 126) && !((c.toNat : Int) == 34)) := by
  unfold sgn
  have h1 : decide (32 < c) = decide (32 < (c.toNat : Int)) := decide_eq_decide.2 (by rw [UInt8.lt_iff_toNat_lt]; show 32 < c.toNat ↔ _; omega)
  have h2 : decide (c ≤ 126) = decide ((c.toNat : Int) ≤ 126) := decide_eq_decide.2 (by rw [UInt8.le_iff_toNat_le]; show c.toNat ≤ 126 ↔ _; omega)
  have h3 : decide (c ≠ 34) = !((c.toNat : Int) == 34) := by
    rw [Bool.eq_iff_iff, decide_eq_true_eq, Bool.not_eq_true', beq_eq_false_iff_ne]
    constructor
    · intro h e
      exact h (UInt8.toNat_inj.1 (by show c.toNat = 34; omega))
    · rintro h rfl
      exact h rfl
  rw [h1, h2, h3]
theorem bareL_stop {l : List UInt8} {n : Nat} (h : ∀ j c, j < n → l[j]? = some c → sgn c = true) (hn : n ≤ l.length) (hs : ∀ c, l[n]? = some c → sgn c = false) : bareL l = n := by
  unfold bareL
  induction l generalizing n with
  | nil => simp at hn; subst hn; rfl
  | cons c l ih =>
    cases n with
    | zero =>
      have := hs c rfl
      rw [List.takeWhile_cons, this]
      rfl
    | succ n =>
      have := h 0 c (by omega) rfl
      rw [List.takeWhile_cons, this]
      simp only [if_true, List.length_cons]
      rw [ih (n := n) (fun j d hj hd => h (j + 1) d (by omega) (by simpa using hd)) (by simpa using hn) (fun d hd => hs d (by simpa using hd))]
theorem head_quote (s : ByteArray) : Lib.hasPrefix s.data.toList (⟨#[34]⟩ : ByteArray).data.toList = decide (s.data.toList.head? = some 34) := by
  cases s.data.toList with
  | nil => rfl
  | cons c l =>
    by_cases h : c = 34
    · subst h
      rfl
    · have h2 : (34 : UInt8) ≠ c := Ne.symm h
      simp [Lib.hasPrefix, List.isPrefixOf, h, h2]
end Go.Proofs.YtghlodpbbghcoaaGreatDoor
