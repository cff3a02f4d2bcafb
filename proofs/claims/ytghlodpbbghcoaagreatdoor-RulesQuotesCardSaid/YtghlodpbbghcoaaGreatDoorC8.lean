/- The document's Closes, walked (M9's text without the words of ModelCloses). -/
import Derived.Test.YtghlodpbbghcoaaGreatDoorC4
import Derived.Deep.DeepCutAuto
import Derived.Deep.CutBlock
namespace Go.Proofs.YtghlodpbbghcoaaGreatDoor
open Go.RowKit

theorem textRow_new (w : World) (cs : Array Value) (zs : List ByteArray) (n : Nat) (hn : zs.length = n := by rfl) (hc : cs.toList = zs.map Value.string := by rfl) :
    TextRow (w.alloc (.cells cs 9)) (.slice (some ⟨w.heap.size, 0, none⟩) n n) zs := by
  subst hn
  refine Or.inr ⟨w.heap.size, rfl, fun j hj => ?_⟩
  rw [Nat.zero_add, World.cell?_alloc_new, ← Array.getElem?_toList, hc, List.getElem?_map, List.getElem?_eq_getElem hj, List.getD_eq_getElem?_getD, List.getElem?_eq_getElem hj]
  rfl
theorem not_of_beq {a b : List UInt8} (h : (a == b) = false) : a ≠ b := by simpa using h
theorem of_beq {a b : List UInt8} (h : (a == b) = true) : a = b := by simpa using h

set_option maxRecDepth 8192 in
set_option maxHeartbeats 3200000 in
theorem refCloses_any (o x : ByteArray) (w : World) :
    Calls Tryz.prog 85 #[.string o, .string x] w fun e w' => e = .returned (.bool (Lib.containsS (closersOf o.data.toList) x)) ∧ Below w.heap.size w w' := by
  have ho : o.data.toList = o.toList := (ByteArray.toList_eq o).symm
  rw [ho]
  clear ho
  obtain ⟨zs, hzs⟩ : ∃ zs, closersOf o.toList = zs := ⟨_, rfl⟩
  have hfew := closersOf_few o.toList
  rw [hzs] at hfew ⊢
  replace hzs := Lib.hid hzs
  go_enter Tryz.func85, Tryz.ntmps85
  go_upto_block 0 with fail
  go_cut [5] (fun v wx => TextRow wx v zs ∧ Below w.heap.size w wx)
  case first =>
    go_wp2
    all_goals go_meet
    all_goals rw [← hzs.out]
    all_goals (first
      | (exfalso; simp_all; done)
      | (rename_i h; have e := of_beq h; refine ⟨?_, (Below.refl _ w).alloc (Nat.le_refl _) _⟩; rw [e]; exact textRow_new w _ _ _)
      | (refine ⟨Or.inl ⟨rfl, ?_⟩, Below.refl _ _⟩; simp_all [closersOf]; done)
      | skip)
  case rest =>
  obtain ⟨hrow, hB⟩ := hcut
  clear hzs
  obtain ⟨A, hv, hc⟩ : ∃ A : Option Addr, u5 = .slice A zs.length zs.length ∧ ∀ j, j < zs.length → ∃ g, A = some ⟨g, 0, none⟩ ∧ wc.cell? ⟨g, j, none⟩ = some (.string (zs.getD j ByteArray.empty)) := by
    rcases hrow with ⟨rfl, rfl⟩ | ⟨g, rfl, hc⟩
    · exact ⟨none, rfl, fun j hj => absurd hj (Nat.not_lt_zero _)⟩
    · exact ⟨_, rfl, fun j hj => ⟨g, rfl, by simpa using hc j hj⟩⟩
  obtain ⟨N, hN⟩ : ∃ N, zs.length = N := ⟨_, rfl⟩
  rw [hN] at hv hc hfew
  subst hv
  replace hN := Lib.hid hN
  clear hrow
  go_wp2
  go_loop [6] (fun i => ∃ k : Nat, k ≤ N ∧ i = .int .i64 k ∧ Hid (∀ j, j < k → zs.getD j ByteArray.empty ≠ x)) (fun i => N - (RowKit.intOf i).toNat)
  case atStart => exact ⟨0, Nat.zero_le _, rfl, Lib.hid (fun j hj => absurd hj (Nat.not_lt_zero _))⟩
  case round =>
    obtain ⟨k, hk, rfl, hne⟩ := hrel
    by_cases hlt : k < N
    · obtain ⟨g, rfl, hck⟩ := hc k hlt
      go_wp2
      · rename_i h _
        go_ret
        refine ⟨?_, hB⟩
        have : Lib.containsS zs x = true := (Lib.containsS_iff zs x).2 (by
          have e := (Lib.bytes_beq_iff _ _).1 h
          have hk' : k < zs.length := by rw [hN.out]; exact hlt
          rw [List.getElem?_eq_getElem hk'] at e
          rw [← (show zs[k] = x from e)]
          exact List.getElem_mem hk')
        rw [this]
        rfl
      · rename_i h
        refine ⟨⟨k + 1, by omega, by simp, Lib.hid (fun j hj => ?_)⟩, by simp [RowKit.intOf]; omega⟩
        by_cases e : j = k
        · subst e
          have := (Lib.bytes_beq_false_iff _ _).1 h
          simpa [List.getD] using this
        · exact hne.out j (by omega)
    · go_wp2
      go_ret
      refine ⟨?_, hB⟩
      have : Lib.containsS zs x = false := by
        refine Bool.eq_false_iff.2 (fun hc => ?_)
        obtain ⟨j, hj, e⟩ := List.getElem_of_mem ((Lib.containsS_iff zs x).1 hc)
        refine hne.out j (by have := hN.out; omega) ?_
        rw [List.getD_eq_getElem?_getD, List.getElem?_eq_getElem hj]
        exact e
      rw [this]
      rfl
end Go.Proofs.YtghlodpbbghcoaaGreatDoor
