/- Is a text right? Walked. -/
import Derived.Test.YtghlodpbbghcoaaDoorU1
import Derived.Test.YtghlodpbbghcoaaDoorValid
import Derived.Laws.RangeAny
import Derived.Lib.OthersKept
import Derived.WalkKit
import Derived.WalkSpells
import Derived.Lib.Hide
import Derived.Lib.Walk
namespace Go.Proofs.YtghlodpbbghcoaaDoor
open Go.Lib Go.RowKit

/-- The library's two tables lie as its text lays them. -/
def Tabs (w : World) : Prop := Lib.Utf8Tabs (Tryd.laysValid_ren.g 3) (Tryd.laysValid_ren.g 4) w
def fineR (r : Int) : Bool := decide (r ≠ 0 ∧ r ≠ 13)
theorem isL_eq (l : List UInt8) : isL l = (validD l && (runesL l).all fineR) := rfl

set_option maxRecDepth 8192 in
set_option maxHeartbeats 3200000 in
theorem is_any (s : ByteArray) (hs : s.size ≤ maxLen) (w : World) (hT : Tabs w) :
    Calls Tryd.prog 47 #[.string s] w fun e w' => e = .returned (.bool (isL s.data.toList)) ∧ Below w.heap.size w w' := by
  have hv := Tryd.utf8_ValidString s w hs hT
  obtain ⟨V, hV⟩ : ∃ V, validD s.data.toList = V := ⟨_, rfl⟩
  obtain ⟨a, ha⟩ : ∃ a, (runesL s.data.toList).all fineR = a := ⟨_, rfl⟩
  rw [isL_eq, ha, hV]
  rw [hV] at hv
  replace ha := Lib.hid ha
  clear hV hT
  go_enter Tryd.func47, Tryd.ntmps47
  cases V with
  | false =>
    go_wp2_with (go_at_call 69; refine hv.mono ?_; rintro e w1 ⟨rfl, hB⟩)
    go_ret
    exact ⟨rfl, hB⟩
  | true =>
    go_wp2_with (go_at_call 69; refine hv.mono ?_; rintro e w1 ⟨rfl, hB⟩)
    go_loopw [] (fun wr => ∃ pos, wr = w1.iter s pos ∧ Hid ((runesL (s.data.toList.drop pos)).all fineR = a)) (fun wr => s.size - wr.iterPos w1.heap.size)
    case atStart => exact ⟨0, rfl, ha⟩
    case round =>
      obtain ⟨pos, rfl, hall⟩ := hrel
      by_cases hp : pos < s.size
      · have hne : s.data.toList.drop pos ≠ [] := fun e => by
          have := congrArg List.length e
          rw [List.length_drop, Array.length_toList] at this
          have h2 : s.data.size = s.size := rfl
          simp at this
          omega
        have hnx : ∀ ty, (Instr.next (.pointer (some ⟨w1.heap.size, 0, none⟩)) true ty).run Tryd.prog (w1.iter s pos) = _ := fun ty => run_next_any_at (w1.iter s pos) w1.heap.size s pos ty (World.iter_heap _ _ _) hp
        have hstep := hall.out
        rw [runesL_step _ hne, List.all_cons, List.drop_drop, decodeL_drop] at hstep
        obtain ⟨r, hr⟩ : ∃ r : Nat, (Utf8.decode s pos).1 = r := ⟨_, rfl⟩
        obtain ⟨d, hd⟩ : ∃ d : Nat, (Utf8.decode s pos).2 = d := ⟨_, rfl⟩
        have hd1 : 1 ≤ d := by rw [← hd, ← decodeL_drop]; exact decodeL_width _
        rw [hr, hd] at hstep
        rw [hr, hd, show (w1.iter s pos).iterAt w1.heap.size s (pos + d) = w1.iter s (pos + d) from World.iter_set _ _ _ _] at hnx
        clear hr hd
        by_cases h0 : r = 0
        · subst h0
          have e : a = false := by rw [← hstep]; rfl
          subst e
          go_wp2
          go_ret
          exact ⟨rfl, hB.trans ((Below.refl w1.heap.size w1).alloc (Nat.le_refl _) _ |>.mono hB.size)⟩
        · by_cases h13 : r = 13
          · subst h13
            have e : a = false := by rw [← hstep]; rfl
            subst e
            go_wp2
            go_ret
            exact ⟨rfl, hB.trans ((Below.refl w1.heap.size w1).alloc (Nat.le_refl _) _ |>.mono hB.size)⟩
          · have e : fineR (r : Int) = true := decide_eq_true ⟨by omega, by omega⟩
            rw [e, Bool.true_and] at hstep
            have z0 : ((r : Int) == 0) = false := beq_eq_false_iff_ne.2 (by omega)
            have z13 : ((r : Int) == 13) = false := beq_eq_false_iff_ne.2 (by omega)
            replace hstep := Lib.hid hstep
            go_wp2
            exact ⟨⟨pos + d, rfl, hstep⟩, by rw [World.iterPos_iter, World.iterPos_iter]; omega⟩
      · have hnx : ∀ ty, (Instr.next (.pointer (some ⟨w1.heap.size, 0, none⟩)) true ty).run Tryd.prog (w1.iter s pos) = _ := fun ty => run_next_end_at (w1.iter s pos) w1.heap.size s pos ty (World.iter_heap _ _ _) hp
        have e : a = true := by
          rw [← hall.out, List.drop_eq_nil_of_le (by have h2 : s.data.size = s.size := rfl; simp; omega)]
          rfl
        subst e
        go_wp2
        go_ret
        exact ⟨rfl, hB.trans ((Below.refl w1.heap.size w1).alloc (Nat.le_refl _) _ |>.mono hB.size)⟩
end Go.Proofs.YtghlodpbbghcoaaDoor
