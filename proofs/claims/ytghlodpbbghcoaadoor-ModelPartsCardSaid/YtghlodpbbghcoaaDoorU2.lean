/- One character, walked. -/
import Derived.Test.YtghlodpbbghcoaaDoorU1
import Derived.Test.YtghlodpbbghcoaaDoorProg
import Derived.WalkKit
import Derived.WalkSpells
import Derived.Lib.Hide
import Derived.Below
import Derived.Deep.DeepCutAuto
namespace Go.Proofs.YtghlodpbbghcoaaDoor
open Go.Lib Go.RowKit

def headN (c : Nat) : Option (Nat × Nat × Nat) :=
  if 192 ≤ c ∧ c < 224 then some (2, c - 192, 128) else if 224 ≤ c ∧ c < 240 then some (3, c - 224, 2048) else if 240 ≤ c ∧ c < 248 then some (4, c - 240, 65536) else none
def contN (l : List UInt8) : Nat → Nat → Nat → Option Nat
  | 0, _, v => some v
  | m + 1, k, v => if (l.getD k 0).toNat / 64 = 2 then contN l m (k + 1) (64 * v + (l.getD k 0).toNat - 128) else none
def oneN (l : List UInt8) : Nat × Nat :=
  if (l.getD 0 0).toNat < 128 then ((l.getD 0 0).toNat, 1)
  else match headN (l.getD 0 0).toNat with
    | none => (65533, 1)
    | some (n, v, least) => if l.length < n then (65533, 1) else
      match contN l (n - 1) 1 v with
      | none => (65533, 1)
      | some v => if v < least ∨ v > 1114111 ∨ (55296 ≤ v ∧ v ≤ 57343) then (65533, 1) else (v, n)
theorem oneN_eq (l : List UInt8) : oneN l = decodeL l := by
  rw [decodeL_N]
  have k0 := (l.getD 0 0).toNat_lt
  have k1 := (l.getD 1 0).toNat_lt
  have k2 := (l.getD 2 0).toNat_lt
  have k3 := (l.getD 3 0).toNat_lt
  unfold oneN headN decodeN
  generalize (l.getD 0 0).toNat = b0 at *
  by_cases h : b0 < 128
  · rw [if_pos h, if_pos h]
  · rw [if_neg h, if_neg h]
    by_cases h2 : 192 ≤ b0 ∧ b0 < 224
    · rw [if_pos h2]
      simp only [contN]
      generalize (l.getD 1 0).toNat = b1 at *
      repeat' split
      all_goals simp_all
      all_goals omega
    · rw [if_neg h2]
      by_cases h3 : 224 ≤ b0 ∧ b0 < 240
      · rw [if_pos h3]
        simp only [contN]
        generalize (l.getD 1 0).toNat = b1 at *
        generalize (l.getD 2 0).toNat = b2 at *
        repeat' split
        all_goals simp_all
        all_goals omega
      · rw [if_neg h3]
        by_cases h4 : 240 ≤ b0 ∧ b0 < 248
        · rw [if_pos h4]
          simp only [contN]
          generalize (l.getD 1 0).toNat = b1 at *
          generalize (l.getD 2 0).toNat = b2 at *
          generalize (l.getD 3 0).toNat = b3 at *
          repeat' split
          all_goals simp_all
          all_goals omega
        · rw [if_neg h4]
          simp only []
          repeat' split
          all_goals simp_all
          all_goals omega
end Go.Proofs.YtghlodpbbghcoaaDoor
