/- Walks over nets, fifteenth part: Accepts for every net that may be; the document's example. -/
import Derived.Test.YtaefhfldgemcnaaW13
import Derived.Test.YtaefhfldgemcnaaW14
import Derived.Laws.BytesArg
namespace Go.Proofs.Ytaefhfldgemcnaa
open Go.RowKit

theorem accepts_any (n : Net) (s : ByteArray) (A : Option Addr) (c : Nat) (w : World) (hm : n.may = true) (hne : n.edges.length ≤ 1000000) (hs : s.size ≤ 1000000) (hE : EdgesAt w w.heap.size A n.edges) :
    Calls Try.prog 19 #[.agg #[.int .i64 n.st, .int .i64 n.start, .int .i64 n.fin, .slice A n.edges.length c], .string s] w fun e w' => e = .returned (.bool (accB n s.data.toList)) ∧ Below w.heap.size w w' := by
  obtain ⟨h1, _⟩ := may_iff.1 hm
  obtain ⟨st, hst⟩ := Int.eq_ofNat_of_zero_le (show 0 ≤ n.st by omega)
  have := accepts_st n s A c w st hst hm hne hs hE
  rwa [← hst] at this

def liveNet : Net := ⟨2, 0, 1, [⟨0, 1, 97, 99⟩]⟩
theorem liveNet_may : liveNet.may = true := by decide
theorem acc_b : accB liveNet (ByteArray.mk #[98]).data.toList = true := accB_yes (by
  show Eps _ _ _ _
  exact Eps.base ⟨⟨0, 1, 97, 99⟩, List.mem_singleton.2 rfl, by decide, Eps.base rfl, rfl⟩)
theorem acc_d : accB liveNet (ByteArray.mk #[100]).data.toList = false := accB_no (fun h => by
  have key : ∀ q, Eps Edge.none_ liveNet.edges (StepP liveNet.edges 100 (start0 liveNet)) q → False := by
    intro q hq
    induction hq with
    | base h =>
      obtain ⟨e, he, ht, _, _⟩ := h
      have := List.mem_singleton.1 he
      subst this
      revert ht
      decide
    | step he hb _ ih => exact ih
  exact key _ h)

theorem conv_sig {w : World} {base : Nat} {A : Option Addr} {c : Nat} (h : w.ownsRow base 5 1 (.slice A 2 c) 2 [.int .u8 32, .int .u8 97]) : (convert 32 9 (.slice A 2 c)).run Try.prog w = .ok (.string (ByteArray.mk #[32, 97])) w := by
  obtain ⟨b, o, rfl, _, h0⟩ := (CellsAt.of_own h) 0 (by simp)
  have h1 := (CellsAt.of_own h) 1 (by simp)
  obtain ⟨b', o', he, _, h1⟩ := h1
  simp only [Option.some.injEq, Addr.mk.injEq, and_true] at he
  obtain ⟨rfl, rfl⟩ := he
  have e : strOfNums [32, 97] = ByteArray.mk #[32, 97] := by unfold strOfNums; rfl
  have key := run_convert_bytes_arg w 32 5 Try.underlying32 Try.underlying5 b o 2 c [32, 97] rfl (fun i hi => by
    rcases (by omega : i = 0 ∨ i = 1) with rfl | rfl
    · exact h0
    · exact h1) 9 Try.underlying9
  rw [e] at key
  exact key

def LPost (w : World) (e : Ending) (w' : World) : Prop := (∃ A c, e = .returned (.slice A 2 c) ∧ w'.ownsRow w.heap.size 5 1 (.slice A 2 c) 2 [.int .u8 32, .int .u8 97]) ∧ Below w.heap.size w w'
theorem live_signs (A : Option Addr) (c : Nat) (w : World) (hE : EdgesAt w w.heap.size A [⟨0, 1, 97, 99⟩]) :
    Calls Try.prog 21 #[.agg #[.int .i64 2, .int .i64 0, .int .i64 1, .slice A 1 c]] w (LPost w) := by
  refine (signs_any liveNet A c w liveNet_may (by decide) hE).mono ?_
  rintro e w' ⟨⟨v, rfl, A', c', rfl, hown⟩, hb⟩
  have hs : signsL liveNet.edges = [32, 97] := signsL_ac
  rw [hs] at hown
  refine ⟨⟨A', c', ?_, hown⟩, hb⟩
  rw [hs]
  rfl
theorem live_acc (A : Option Addr) (c : Nat) (w : World) (s : ByteArray) (hs : s.size ≤ 1000000) (hE : EdgesAt w w.heap.size A [⟨0, 1, 97, 99⟩]) :
    Calls Try.prog 19 #[.agg #[.int .i64 2, .int .i64 0, .int .i64 1, .slice A 1 c], .string s] w fun e w' => e = .returned (.bool (accB liveNet s.data.toList)) ∧ Below w.heap.size w w' :=
  accepts_any liveNet s A c w liveNet_may (by decide) hs hE
theorem live_may (A : Option Addr) (c : Nat) (w : World) (hE : EdgesAt w w.heap.size A [⟨0, 1, 97, 99⟩]) :
    Calls Try.prog 14 #[.agg #[.int .i64 2, .int .i64 0, .int .i64 1, .slice A 1 c]] w fun e w' => e = .returned (.int .i64 0) ∧ Below w.heap.size w w' :=
  may_yes liveNet A c w liveNet_may (by decide) hE

set_option maxHeartbeats 1600000 in
theorem lives_any (w : World) : Calls Try.prog 17 #[] w fun e w' => e = .returned (.bool true) ∧ Below w.heap.size w w' := by
  have hE : EdgesAt ((w.alloc (.cells #[.int .i64 0, .int .i64 1, .int .u8 97, .int .u8 99] 35)).alloc (.cells #[.int .i64 2, .int .i64 0, .int .i64 1, .slice (some ⟨w.heap.size, 0, none⟩) 1 1] 24)) (w.heap.size + 1) (some ⟨w.heap.size, 0, none⟩) [⟨0, 1, 97, 99⟩] := by
    have hb := blk_alloc (blk_new w (.cells #[.int .i64 0, .int .i64 1, .int .u8 97, .int .u8 99] 35)) (.cells #[.int .i64 2, .int .i64 0, .int .i64 1, .slice (some ⟨w.heap.size, 0, none⟩) 1 1] 24)
    intro j hj
    refine ⟨w.heap.size, 0, rfl, by omega, ?_⟩
    rw [blk_cell hb, Nat.zero_add]
    have hj' : j < 4 := by simpa [flat, edgeCells] using hj
    rcases (by omega : j = 0 ∨ j = 1 ∨ j = 2 ∨ j = 3) with rfl | rfl | rfl | rfl <;> rfl
  have hN := blk_new (w.alloc (.cells #[.int .i64 0, .int .i64 1, .int .u8 97, .int .u8 99] 35)) (.cells #[.int .i64 2, .int .i64 0, .int .i64 1, .slice (some ⟨w.heap.size, 0, none⟩) 1 1] 24)
  go_enter Try.func17, Try.ntmps17
  go_wp2_with fail
  refine (live_signs _ _ _ (hE.more (by simp))).mono ?_
  rintro e w2 ⟨⟨A2, c2, rfl, hown⟩, hb2⟩
  have hcv := conv_sig hown
  simp only [World.size_alloc] at hb2
  have hE2 := hE.below (hb2.mono (by omega))
  have hz2 := hb2.size
  simp only [World.size_alloc] at hz2
  have n0 : w2.heap[w.heap.size + 1]? = some (.cells #[.int .i64 2, .int .i64 0, .int .i64 1, .slice (some ⟨w.heap.size, 0, none⟩) 1 1] 24 (0, 0)) := by
    have := blk_below hN hb2 (by simp)
    simpa using this
  have m0 : w2.cell? ⟨w.heap.size + 1, 0, none⟩ = some (.int .i64 2) := blk_cell n0 0
  have m1 : w2.cell? ⟨w.heap.size + 1, 1, none⟩ = some (.int .i64 0) := blk_cell n0 1
  have m2 : w2.cell? ⟨w.heap.size + 1, 2, none⟩ = some (.int .i64 1) := blk_cell n0 2
  have m3 : w2.cell? ⟨w.heap.size + 1, 3, none⟩ = some (.slice (some ⟨w.heap.size, 0, none⟩) 1 1) := blk_cell n0 3
  have ab := acc_b
  have ad := acc_d
  clear hown
  go_wp2_with fail
  refine (live_acc _ _ _ _ (by decide) (hE2.more (by omega))).mono ?_
  rintro e w3 ⟨rfl, hb3⟩
  rw [ab]
  have hE3 := hE2.below (hb3.mono (by omega))
  have hz3 := hb3.size
  have n3 := blk_below n0 hb3 (by omega)
  have k0 : w3.cell? ⟨w.heap.size + 1, 0, none⟩ = some (.int .i64 2) := blk_cell n3 0
  have k1 : w3.cell? ⟨w.heap.size + 1, 1, none⟩ = some (.int .i64 0) := blk_cell n3 1
  have k2 : w3.cell? ⟨w.heap.size + 1, 2, none⟩ = some (.int .i64 1) := blk_cell n3 2
  have k3 : w3.cell? ⟨w.heap.size + 1, 3, none⟩ = some (.slice (some ⟨w.heap.size, 0, none⟩) 1 1) := blk_cell n3 3
  clear m0 m1 m2 m3 ab
  go_wp2_with fail
  refine (live_acc _ _ _ _ (by decide) (hE3.more (by omega))).mono ?_
  rintro e w4 ⟨rfl, hb4⟩
  rw [ad]
  have hE4 := hE3.below (hb4.mono (by omega))
  have hz4 := hb4.size
  have n4 := blk_below n3 hb4 (by omega)
  have l0 : w4.cell? ⟨w.heap.size + 1, 0, none⟩ = some (.int .i64 2) := blk_cell n4 0
  have l1 : w4.cell? ⟨w.heap.size + 1, 1, none⟩ = some (.int .i64 0) := blk_cell n4 1
  have l2 : w4.cell? ⟨w.heap.size + 1, 2, none⟩ = some (.int .i64 1) := blk_cell n4 2
  have l3 : w4.cell? ⟨w.heap.size + 1, 3, none⟩ = some (.slice (some ⟨w.heap.size, 0, none⟩) 1 1) := blk_cell n4 3
  clear k0 k1 k2 k3 ad
  go_wp2_with fail
  refine (live_may _ _ _ (hE4.more (by omega))).mono ?_
  rintro e w5 ⟨rfl, hb5⟩
  go_wp2_with fail
  go_ret
  refine ⟨rfl, ?_⟩
  have hb0 : Below w.heap.size w w2 := (((Below.refl _ _).alloc (Nat.le_refl _) _).alloc (by simp) _).trans (hb2.mono (by omega))
  exact hb0.trans ((hb3.mono (by omega)).trans ((hb4.mono (by omega)).trans (hb5.mono (by omega))))
end Go.Proofs.Ytaefhfldgemcnaa
