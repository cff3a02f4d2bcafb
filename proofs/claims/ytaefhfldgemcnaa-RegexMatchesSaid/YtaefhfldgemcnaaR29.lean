/- Walks over the document's parser: sets of signs; a part is added. -/
import Derived.Test.YtaefhfldgemcnaaR28
import Derived.Deep.RegionHeld3
namespace Go.Proofs.Ytaefhfldgemcnaa
open Go.RowKit

def sgF (m : List Bool) (lo hi : Nat) (i : Nat) : Bool := m.getD i false || (decide (lo ≤ i + 32) && decide (i + 32 ≤ hi))
theorem make95 (w : World) : (Instr.makeSlice 51 (.int .i64 95) (.int .i64 95)).run Try.prog w = .ok (.slice (some ⟨w.heap.size, 0, none⟩) 95 95) (w.alloc (.cells (madeCells #[.bool false] 95) 4)) := by kernel_rfl
def SignsPost (f : Nat → Bool) (w : World) (e : Ending) (w' : World) : Prop := ∃ g, e = .returned (.slice (some ⟨g, 0, none⟩) 95 95) ∧ w.heap.size ≤ g ∧ w'.rowIs g 4 95 (fun i => .bool (f i)) ∧ Below w.heap.size w w'

set_option maxRecDepth 8192 in
set_option maxHeartbeats 3200000 in
theorem refSigns_any (P : Nat → Prop) (A : Option Addr) (n c : Nat) (m : List Bool) (lo hi : UInt8) (w : World) (hm : m.length = n) (hc : CellsIn w P A (m.map Value.bool)) (hP : ∀ g, P g → g < w.heap.size) :
    Calls Try.prog 84 #[.slice A n c, .int .u8 lo.toNat, .int .u8 hi.toNat] w (SignsPost (sgF m lo.toNat hi.toNat) w) := by
  obtain ⟨l, hl⟩ : ∃ l, lo.toNat = l := ⟨_, rfl⟩
  obtain ⟨h, hh⟩ : ∃ h, hi.toNat = h := ⟨_, rfl⟩
  have hl2 := lo.toNat_lt
  have hh2 := hi.toNat_lt
  rw [hl, hh]
  rw [hl] at hl2
  rw [hh] at hh2
  have Hc := Lib.hid hc
  have Hm := Lib.hid hm
  clear hc hm hl hh
  have hmk := make95
  go_enter Try.func84, Try.ntmps84
  go_upto_region 2 with fail
  generalize hW : w.alloc _ = W
  have hR : Hid (W.rowIs w.heap.size 4 95 (fun i => .bool (decide (i < 0) && sgF m l h i))) := by
    subst hW
    show World.rowIs _ _ _ _ _
    refine World.rowIs.congr (World.rowIs_made w (.bool false) 95 4) ?_
    intro j hj
    simp
  have hB : Hid (Below w.heap.size w W) := by subst hW; exact (Below.refl _ _).alloc (Nat.le_refl _) _
  clear hW hmk
  go_wp2_with fail
  go_loopw [8] (fun x wr => ∃ i : Nat, x = .int .i64 i ∧ i ≤ 95 ∧ Hid (wr.rowIs w.heap.size 4 95 (fun j => .bool (decide (j < i) && sgF m l h j))) ∧ Hid (Below w.heap.size w wr)) (fun x _ => 95 - (intOf x).toNat)
  case atStart => exact ⟨0, rfl, by omega, hR, hB⟩
  case round =>
    clear hR hB
    obtain ⟨i, rfl, hi, hR, hB⟩ := hrel
    by_cases hlt : i < 95
    · have hlti : (i : Int) < 95 := by omega
      have q0 : wr.cell? ⟨w.heap.size, i, none⟩ = some (.bool (decide (i < i) && sgF m l h i)) := hR.out.cell hlt
      have qf : wr.frozen? ⟨w.heap.size, i, none⟩ = false := hR.out.frozen i
      have HF : Hid (∀ val, val = sgF m l h i → Hid ((wr.setCell ⟨w.heap.size, i, none⟩ (.bool val)).rowIs w.heap.size 4 95 (fun j => .bool (decide (j < i + 1) && sgF m l h j)))) := by
        rintro val rfl
        show World.rowIs _ _ _ _ _
        refine World.rowIs.congr (hR.out.set i (.bool (sgF m l h i))) ?_
        intro j hj
        by_cases hji : j = i
        · subst hji; simp
        · simp only [hji, if_false]
          congr 2
          rw [decide_eq_decide]
          omega
      have HB : Hid (∀ v, Hid (Below w.heap.size w (wr.setCell ⟨w.heap.size, i, none⟩ v))) := fun v => hB.out.setCell (p := ⟨w.heap.size, i, none⟩) (Nat.le_refl _) v
      have d1 : ∀ (x y : Int), x ≤ y → decide (x ≤ y) = true := fun x y h => decide_eq_true h
      by_cases hin : i < n
      · have hini : (i : Int) < (n : Int) := by omega
        have dn : decide ((i : Int) < (n : Int)) = true := decide_eq_true hini
        obtain ⟨g, o, rfl, hg, hcell⟩ := Hc.out.at_ (j := i) (v := .bool (m.getD i false)) (by
          rw [List.getElem?_map, List.getElem?_eq_getElem (by rw [Hm.out]; exact hin), List.getD_eq_getElem?_getD, List.getElem?_eq_getElem (by rw [Hm.out]; exact hin)]
          rfl)
        have hcell2 := (hB.out.cell (p := ⟨g, o + i, none⟩) (hP g hg)).trans hcell
        have hi0 : (0 : Int) ≤ (i : Int) := by omega
        clear hcell
        cases hb : m.getD i false with
        | true =>
          rw [hb] at hcell2
          have hv : Hid (true = sgF m l h i) := by show _ = _; unfold sgF; rw [hb, Bool.true_or]
          clear hb d1
          go_wp2_with fail
          go_roundw
          case rel => exact ⟨i + 1, by go_num, by omega, HF.out _ hv.out, HB.out _⟩
          case measure => simp [intOf]; omega
        | false =>
          rw [hb] at hcell2
          have hv : Hid ((decide (l ≤ i + 32) && decide (i + 32 ≤ h)) = sgF m l h i) := by show _ = _; unfold sgF; rw [hb, Bool.false_or]
          clear hb d1
          by_cases hlo : l ≤ i + 32
          · have hloi : (l : Int) ≤ (i : Int) + 32 := by omega
            have dl : decide ((l : Int) ≤ (i : Int) + 32) = true := decide_eq_true hloi
            have hv2 : Hid (decide ((i : Int) + 32 ≤ (h : Int)) = sgF m l h i) := by
              show _ = _
              rw [← hv.out, decide_eq_true hlo, Bool.true_and, decide_eq_decide]
              omega
            clear hv
            go_wp2_with fail
            go_roundw
            case rel => exact ⟨i + 1, by go_num, by omega, HF.out _ hv2.out, HB.out _⟩
            case measure => simp [intOf]; omega
          · have dl : decide ((l : Int) ≤ (i : Int) + 32) = false := decide_eq_false (by omega)
            have hloi : ¬ (l : Int) ≤ (i : Int) + 32 := by omega
            have hv2 : Hid (false = sgF m l h i) := by
              show _ = _
              rw [← hv.out, decide_eq_false hlo, Bool.false_and]
            clear hv
            go_wp2_with fail
            go_roundw
            case rel => exact ⟨i + 1, by go_num, by omega, HF.out _ hv2.out, HB.out _⟩
            case measure => simp [intOf]; omega
      · have hini : ¬ (i : Int) < (n : Int) := by omega
        have dn : decide ((i : Int) < (n : Int)) = false := decide_eq_false hini
        have hb : m.getD i false = false := by rw [List.getD_eq_getElem?_getD, List.getElem?_eq_none (by rw [Hm.out]; omega)]; rfl
        have hv : Hid ((decide (l ≤ i + 32) && decide (i + 32 ≤ h)) = sgF m l h i) := by show _ = _; unfold sgF; rw [hb, Bool.false_or]
        clear hb d1
        by_cases hlo : l ≤ i + 32
        · have hloi : (l : Int) ≤ (i : Int) + 32 := by omega
          have dl : decide ((l : Int) ≤ (i : Int) + 32) = true := decide_eq_true hloi
          have hv2 : Hid (decide ((i : Int) + 32 ≤ (h : Int)) = sgF m l h i) := by
            show _ = _
            rw [← hv.out, decide_eq_true hlo, Bool.true_and, decide_eq_decide]
            omega
          clear hv
          go_wp2_with fail
          go_roundw
          case rel => exact ⟨i + 1, by go_num, by omega, HF.out _ hv2.out, HB.out _⟩
          case measure => simp [intOf]; omega
        · have dl : decide ((l : Int) ≤ (i : Int) + 32) = false := decide_eq_false (by omega)
          have hloi : ¬ (l : Int) ≤ (i : Int) + 32 := by omega
          have hv2 : Hid (false = sgF m l h i) := by
            show _ = _
            rw [← hv.out, decide_eq_false hlo, Bool.false_and]
          clear hv
          go_wp2_with fail
          go_roundw
          case rel => exact ⟨i + 1, by go_num, by omega, HF.out _ hv2.out, HB.out _⟩
          case measure => simp [intOf]; omega
    · obtain rfl : i = 95 := by omega
      go_wp2_with fail
      go_ret
      refine ⟨w.heap.size, rfl, Nat.le_refl _, ?_, hB.out⟩
      refine World.rowIs.congr hR.out ?_
      intro j hj
      simp [hj]
end Go.Proofs.Ytaefhfldgemcnaa
