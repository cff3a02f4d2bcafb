/- Walks over expressions, first part: small tests. -/
import Derived.Test.YtaefhfldgemcnaaProg
import Derived.Test.YtaefhfldgemcnaaW2
import Derived.Lib.Bytealg
namespace Go.Proofs.Ytaefhfldgemcnaa
open Go.RowKit

theorem isSign_any (c : Int) (w : World) :
    Calls Try.prog 58 #[.int .u8 c] w fun e w' => e = .returned (.bool (decide (32 ≤ c) && decide (c ≤ 126))) ∧ w = w' := by
  by_cases h : 32 ≤ c
  · have d1 : decide (32 ≤ c) = true := decide_eq_true h
    go_enter Try.func58, Try.ntmps58
    go_wp2
    go_ret
    simp [h]
  · have d1 : decide (32 ≤ c) = false := decide_eq_false h
    go_enter Try.func58, Try.ntmps58
    go_wp2
    go_ret
    simp
theorem indexByte_any (s : ByteArray) (c : Int) (w : World) :
    Calls Try.prog 76 #[.string s, .int .u8 c] w fun e w' => e = .returned (.int .i64 (Lib.indexByte s.data.toList c.toNat.toUInt8)) ∧ w = w' := by
  have h83 : Calls Try.prog 83 #[.string s, .int .u8 c] w fun e w' => e = .returned (.int .i64 (Lib.indexByte s.data.toList c.toNat.toUInt8)) ∧ w = w' := by
    go_enter Try.func83, Try.ntmps83
    go_wp2
    rw [run_callFunc_extern Try.func88 (by kernel_rfl) (by kernel_rfl) (by kernel_rfl) (e := Extern.BytealgIndexByte.indexByte) (by kernel_rfl), Lib.run_indexByteString]
    simp only [Result.andThen]
    go_wp2
    go_ret
    simp
  go_enter Try.func76, Try.ntmps76
  go_wp2_with fail
  refine h83.mono ?_
  rintro e w' ⟨rfl, rfl⟩
  go_wp2_with fail
  go_ret
  simp
end Go.Proofs.Ytaefhfldgemcnaa
