/- Walks over expressions, second part: what the reader sees. -/
import Derived.Test.YtaefhfldgemcnaaR1
import Derived.Test.YtaefhfldgemcnaaP1
import Derived.Test.YtaefhfldgemcnaaW4
import Derived.Lib.IndexAny
import Derived.Deep.QuietTactic
import Derived.BigQuiet
namespace Go.Proofs.Ytaefhfldgemcnaa
open Go.RowKit

/-- A reader lies in block b. -/
structure RdAt (w : World) (b : Nat) (s : ByteArray) (k : Nat) : Prop where
  blk : w.heap[b]? = some (.cells #[.string s, .int .i64 k] 74 (0, 0))
def AtPost (v : Bool) (w : World) (e : Ending) (w' : World) : Prop := e = .returned (.bool v) ∧ ∃ m, w' = w.drewN m

set_option maxHeartbeats 1600000 in
theorem at_any (b : Nat) (s set : ByteArray) (k : Nat) (w : World) (hr : RdAt w b s k) :
    Calls Try.prog 66 #[.pointer (some ⟨b, 0, none⟩), .string set] w (AtPost (atL s k set.data.toList) w) := by
  have c0 : w.cell? ⟨b, 0, none⟩ = some (.string s) := by simp [World.cell?, hr.blk]
  have c1 : w.cell? ⟨b, 1, none⟩ = some (.int .i64 k) := by simp [World.cell?, hr.blk]
  clear hr
  by_cases hlt : k < s.size
  · obtain ⟨cb, hcb⟩ : ∃ cb : UInt8, s[k] = cb := ⟨_, rfl⟩
    have hv : Hid (atL s k set.data.toList = decide (0 ≤ Lib.indexByte set.data.toList cb)) := by show _ = _; unfold atL inL byteAt; rw [dif_pos hlt, hcb, Lib.contains_iff_indexByte, decide_eq_true hlt, Bool.true_and]
    have hi0 : (0 : Int) ≤ (k : Int) := by omega
    have hi1 : (k : Int) < (s.size : Int) := by omega
    have hd : decide ((k : Int) < (s.size : Int)) = true := decide_eq_true hi1
    have HI : Hid (∀ wx, Calls Try.prog 76 #[.string set, .int .u8 cb.toNat] wx fun e w' => e = .returned (.int .i64 (Lib.indexByte set.data.toList cb)) ∧ wx = w') := by
      intro wx
      have := indexByte_any set (cb.toNat : Int) wx
      simpa using this
    go_enter Try.func66, Try.ntmps66
    go_wp2_with fail
    go_quiet ((go_at_call 76; exact quiet_left (HI.out _)))
    go_wp2_with fail
    go_ret
    rw [hv.out]
    exact ⟨rfl, ⟨_, rfl⟩⟩
  · have hv : Hid (atL s k set.data.toList = false) := by show _ = _; unfold atL; rw [decide_eq_false hlt, Bool.false_and]
    have hd : decide ((k : Int) < (s.size : Int)) = false := decide_eq_false (by omega)
    have hd' : ¬ ((k : Int) < (s.size : Int)) := by omega
    go_enter Try.func66, Try.ntmps66
    go_wp2_with fail
    go_quiet (fail)
    go_wp2_with fail
    go_ret
    rw [hv.out]
    exact ⟨rfl, ⟨_, rfl⟩⟩
theorem quiet_at {b : Nat} {s set : ByteArray} {k : Nat} {w : World} {l : List UInt8} (hl : set.data.toList = l) (hr : RdAt w b s k) (n : Nat) :
    Calls Try.prog 66 #[.pointer (some ⟨b, 0, none⟩), .string set] (w.drewN n) fun e w'' => e = .returned (.bool (atL s k l)) ∧ ∃ m, w'' = w.drewN m := by
  subst hl
  refine (at_any b s set k (w.drewN n) ⟨hr.blk⟩).mono ?_
  rintro e w' ⟨rfl, m, rfl⟩
  exact ⟨rfl, n + m, by simp⟩
theorem byteAt_eq {s : ByteArray} {k : Nat} (h : k < s.size) : s[k] = byteAt s k := by unfold byteAt; rw [dif_pos h]
end Go.Proofs.Ytaefhfldgemcnaa
