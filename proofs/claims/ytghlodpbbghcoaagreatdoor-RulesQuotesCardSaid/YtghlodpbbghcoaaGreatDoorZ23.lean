/- Whether a flag stands in a list: walked. -/
import Derived.Test.YtghlodpbbghcoaaGreatDoorZ5
namespace Go.Proofs.YtghlodpbbghcoaaGreatDoor
open Go.RowKit
/-- A slice of flags, read. -/
def FlagsAt (w : World) (A : Option Addr) (l : List Bool) : Prop := 0 < l.length → ∃ b o, A = some ⟨b, o, none⟩ ∧ b < w.heap.size ∧ ∀ j (hj : j < l.length), w.cell? ⟨b, o + j, none⟩ = some (.bool l[j])
theorem FlagsAt.below {w w' : World} {A : Option Addr} {l : List Bool} (h : FlagsAt w A l) (hb : Below w.heap.size w w') : FlagsAt w' A l := fun hp => by
  obtain ⟨b, o, e, hw, hc⟩ := h hp
  exact ⟨b, o, e, Nat.lt_of_lt_of_le hw hb.size, fun j hj => (hb.cell (p := ⟨b, o + j, none⟩) hw).trans (hc j hj)⟩
def IdxPost (l : List Bool) (x : Bool) (w : World) (e : Ending) (w' : World) : Prop := (∃ i : Int, e = .returned (.int .i64 i) ∧ decide (0 ≤ i) = l.any (· == x)) ∧ w' = w

set_option maxRecDepth 8192 in
set_option maxHeartbeats 1600000 in
theorem indexFlag_any (A : Option Addr) (cap : Nat) (l : List Bool) (x : Bool) (w : World) (h : FlagsAt w A l) (hc : l.length ≤ cap) (hl : l.length ≤ 140737488355328) : Calls Tryz.prog 102 #[.slice A l.length cap, .bool x] w (IdxPost l x w) := by
  obtain ⟨n, hn⟩ : ∃ n, l.length = n := ⟨_, rfl⟩
  have h' := Lib.hid h
  rw [hn] at hc hl ⊢
  replace hn := Lib.hid hn
  clear h
  obtain ⟨r, hr⟩ : ∃ r, l.any (· == x) = r := ⟨_, rfl⟩
  have hr' : Hid (l.any (· == x) = r) := Lib.hid hr
  have hpost : Hid (∀ i : Int, decide (0 ≤ i) = r → IdxPost l x w (.returned (.int .i64 i)) w) := Lib.hid (fun i e => ⟨⟨i, rfl, by rw [hr'.out]; exact e⟩, rfl⟩)
  clear hr
  go_enter Tryz.func102, Tryz.ntmps102
  go_wp2
  go_loop [8] (fun y => ∃ k : Nat, k ≤ n ∧ y = .int .i64 k ∧ Hid (∀ j (hj : j < l.length), j < k → l[j] ≠ x)) (fun y => n - (intOf y).toNat)
  case atStart => exact ⟨0, Nat.zero_le _, rfl, Lib.hid (fun j _ h => absurd h (Nat.not_lt_zero _))⟩
  case round =>
    obtain ⟨k, hk, rfl, hno⟩ := hrel
    by_cases hlt : k < n
    · have hkl : k < l.length := by rw [hn.out]; exact hlt
      obtain ⟨b, o, rfl, _, hcc⟩ := h'.out (by omega)
      have c0 := hcc k hkl
      obtain ⟨y, hy⟩ : ∃ y, l[k] = y := ⟨_, rfl⟩
      rw [hy] at c0
      have hyes : Hid (x = y → r = true) := Lib.hid (fun e => by
        rw [← hr'.out, List.any_eq_true]
        exact ⟨l[k], List.getElem_mem hkl, by rw [hy, e]; simp⟩)
      have hnext : Hid (x ≠ y → ∀ j (hj : j < l.length), j < k + 1 → l[j] ≠ x) := Lib.hid (fun e j hj hjk => by
        by_cases e2 : j = k
        · subst e2; rw [hy]; exact Ne.symm e
        · exact hno.out j hj (by omega))
      have hi0 : (0 : Int) ≤ (k : Int) := by omega
      have hi1 : (k : Int) < (n : Int) := by omega
      clear hcc hy
      by_cases hxy : x = y
      · have e := hyes.out hxy
        subst hxy e
        clear hyes hnext
        go_wp2
        go_ret
        exact hpost.out _ (decide_eq_true hi0)
      · have g := Lib.hid (hnext.out hxy)
        have exy : (x == y) = false := by simpa using hxy
        clear hyes hnext hxy
        go_wp2
        exact ⟨⟨k + 1, by omega, by simp, g⟩, by simp [intOf]; omega⟩
    · have e : r = false := by
        rw [← hr'.out, List.any_eq_false]
        intro y hy
        obtain ⟨j, hj, rfl⟩ := List.getElem_of_mem hy
        have := hno.out j hj (by have := hn.out; omega)
        simpa using this
      subst e
      go_wp2
      go_ret
      exact hpost.out (-1) rfl
def FlagPost (b : Bool) (w : World) (e : Ending) (w' : World) : Prop := e = .returned (.bool b) ∧ w' = w
theorem hasFlag_any (A : Option Addr) (cap : Nat) (l : List Bool) (x : Bool) (w : World) (h : FlagsAt w A l) (hc : l.length ≤ cap) (hl : l.length ≤ 140737488355328) : Calls Tryz.prog 79 #[.slice A l.length cap, .bool x] w (FlagPost (l.any (· == x)) w) := by
  have hi := indexFlag_any A cap l x w h hc hl
  obtain ⟨n, hn⟩ : ∃ n, l.length = n := ⟨_, rfl⟩
  rw [hn] at hi ⊢
  clear hn h hc hl
  go_enter Tryz.func79, Tryz.ntmps79
  go_wp2_with (go_at_call 102; refine hi.mono ?_; rintro e w1 ⟨⟨i, rfl, hi2⟩, rfl⟩; replace hi2 := Lib.hid hi2)
  go_ret
  exact ⟨by rw [← hi2.out]; rfl, rfl⟩
end Go.Proofs.YtghlodpbbghcoaaGreatDoor
