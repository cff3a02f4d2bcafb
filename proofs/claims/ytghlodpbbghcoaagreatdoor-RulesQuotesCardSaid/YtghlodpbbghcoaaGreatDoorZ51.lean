/- The lines of a text: the iterator, walked. -/
import Derived.Test.YtghlodpbbghcoaaGreatDoorZ50
import Derived.RangeFuncNested
import Derived.RangeFuncBound
import Derived.RangeFuncCalls
import Derived.RangeFuncLeaves
import Derived.RangeFuncKeeps
import Derived.Shelf.Abstract
import Derived.Shelf.RegionOpen
import Derived.OwnWalkIn
import Derived.TacticsInMore
import Derived.LoopNIn
import Derived.LoopIn
namespace Go.Proofs.YtghlodpbbghcoaaGreatDoor
open Go.Lib Go.RowKit Go.Shelf
set_option maxHeartbeats 800000 in
theorem lines_any (s : ByteArray) (w : World) :
    Calls Tryz.prog 46 #[.string s] w fun e w' => e = .returned (.func (.func 75) #[] #[.pointer (some ⟨w.heap.size, 0, none⟩)]) ∧ w' = w.alloc (.cells #[.string s] 9) := by
  go_enter Tryz.func46, Tryz.ntmps46
  go_wp2
  go_ret
  exact ⟨rfl, rfl⟩
/-- A line as it comes: how many bytes stand ahead of it, and it. -/
structure LineX (m : Nat) where
  pos : Nat
  line : ByteArray
  le : line.size ≤ m
def lineEnc {m : Nat} (x : LineX m) : Array Value := #[.int .i64 x.pos, .string x.line]
theorem extract_take (s : ByteArray) (k n : Nat) (_ : k + n ≤ s.size) : (s.extract k (k + n)).data.toList = (s.data.toList.drop k).take n := by
  rw [ByteArray.data_extract, Array.toList_extract, List.extract_eq_take_drop]
  congr 1
  omega
/-- The box of the text stays. -/
def StayAt (k : Nat) (w w' : World) : Prop := w'.heap[k]? = w.heap[k]?

set_option maxRecDepth 8192 in
set_option maxHeartbeats 3200000 in
/-- THE ITERATOR'S CONTRACT. -/
theorem lines_stops (s : ByteArray) (hs : s.size ≤ 2000000) (Bx : Nat) (w : World) (hc : w.heap[Bx]? = some (.cells #[.string s] 9)) :
    SeqStopsK Fence.wide 3 Tryz.prog 75 #[.pointer (some ⟨Bx, 0, none⟩)] (lineEnc (m := s.size)) (StayAt Bx) (fun xs => xs.map (fun x => x.line.data.toList) = linesL s.data.toList) (fun xs => xs.map (fun x => x.line.data.toList) <+: linesL s.data.toList) s.size w := fun l J Jx W hW hJ hJx hY h0 => by
  have hBx : Bx < w.heap.size := blk_lt hc
  have hcW : W.heap[Bx]? = some (.cells #[.string s] 9) := (hW.block Bx hBx).trans hc
  have hz : Hid (s.data.toList.length = s.size) := Lib.hid (by simp)
  refine callsIn_of_wp Tryz.func75 rfl trivial ?_ rfl
  simp only [Tryz.ntmps75, List.size_toArray, List.length_cons, List.length_nil, Nat.reduceAdd, Nat.reduceSub, Array.replicate_succ, Array.replicate_zero, List.push_toArray, List.append_toArray, List.nil_append, List.cons_append]
  gi_wp2
  gi_loopw [3] (fun x3 wr => ∃ (k : Nat) (xs : List (LineX s.size)), k ≤ s.size ∧ x3 = .int .i64 k ∧ Hid (linesL s.data.toList = xs.map (fun x => x.line.data.toList) ++ linesL (s.data.toList.drop k)) ∧ Hid (J xs wr) ∧ Hid (xs.length ≤ k) ∧ Hid (wr.heap[Bx]? = some (.cells #[.string s] 9))) (fun x3 _ => s.size - (Lib.intOf x3).toNat)
  case atStart => exact ⟨0, [], Nat.zero_le _, rfl, Lib.hid rfl, Lib.hid h0, Lib.hid (Nat.le_refl _), Lib.hid hcW⟩
  case round =>
    obtain ⟨k, xs, hk, rfl, hxs, hJw, hlen, hbox⟩ := hrel
    have d0 : wr.cell? ⟨Bx, 0, none⟩ = some (.string s) := blk_cell hbox.out 0
    by_cases hlt : k < s.size
    · have hne : s.data.toList.drop k ≠ [] := fun e => by
        have := congrArg List.length e
        rw [List.length_drop, hz.out] at this
        simp at this
        omega
      have hstep := linesL_step _ hne
      have hn0 := lineN_pos _ hne
      have hn1 := lineN_le (s.data.toList.drop k)
      have hni := lineN_index (s.data.toList.drop k)
      have hge := Lib.indexByte_ge (s.data.toList.drop k) 10
      rw [List.length_drop, hz.out] at hn1 hni
      obtain ⟨m, hm⟩ : ∃ m, lineN (s.data.toList.drop k) = m := ⟨_, rfl⟩
      obtain ⟨i, hi⟩ : ∃ i, Lib.indexByte (s.data.toList.drop k) 10 = i := ⟨_, rfl⟩
      rw [hm] at hstep hn0 hn1 hni
      rw [hi] at hge hni
      have hidx : ∀ wx, Calls Tryz.prog 76 #[.string (s.extract k s.size), .int .u8 10] wx fun e w' => e = .returned (.int .i64 i) ∧ w' = wx := fun wx => by
        have h := Tryz.strings_IndexByte (s.extract k s.size) 10 wx
        have e : (s.extract k s.size).data.toList = s.data.toList.drop k := by
          have := extract_take s k (s.size - k) (by omega)
          rw [show k + (s.size - k) = s.size by omega] at this
          rw [this, List.take_of_length_le (by rw [List.length_drop, hz.out]; omega)]
        rw [e] at h
        rw [show ((10 : Int).toNat.toUInt8) = (10 : UInt8) from rfl, hi] at h
        exact h
      obtain ⟨km, hkm⟩ : ∃ km, k + m = km := ⟨_, rfl⟩
      have hline : Hid ((s.extract k (km)).data.toList = (s.data.toList.drop k).take m) := Lib.hid (by rw [← hkm]; exact extract_take s k m (by omega))
      have hdrop : Hid ((s.data.toList.drop k).drop m = s.data.toList.drop (km)) := Lib.hid (by rw [← hkm]; exact List.drop_drop ..)
      have hle : Hid ((s.extract k km).size ≤ s.size) := Lib.hid (by rw [ByteArray.size_extract]; omega)
      obtain ⟨fn, tmps, assign, body, hy, hR⟩ := hY xs (⟨k, s.extract k km, hle.out⟩ : LineX s.size) wr hJw.out (by have := hlen.out; omega)
      have hR2 := RoundIn.mono hR (R' := fun e W' => (e = .returned (.bool true) ∧ J (xs ++ [(⟨k, s.extract k km, hle.out⟩ : LineX s.size)]) W' ∧ W'.heap[Bx]? = some (.cells #[.string s] 9)) ∨ (e = .returned (.bool false) ∧ Jx (xs ++ [(⟨k, s.extract k km, hle.out⟩ : LineX s.size)]) W')) (fun e W' h => h.elim (fun ⟨he, hj, hb⟩ => .inl ⟨he, hj, Eq.trans hb hbox.out⟩) .inr)
      clear hR
      have hxe : lineEnc (⟨k, s.extract k km, hle.out⟩ : LineX s.size) = #[.int .i64 k, .string (s.extract k (km))] := rfl
      rw [hxe] at hy
      clear hxe hne hm hi
      replace hstep := Lib.hid hstep
      have hk0 : (0 : Int) ≤ (k : Int) := by omega
      have hk1 : (k : Int) < (s.size : Int) := by omega
      have hk2 : (k : Int) ≤ (s.size : Int) := by omega
      have hmk : (k : Int) + (m : Int) = (km : Int) := by omega
      have hkm2 : km ≤ s.size := by omega
      have hkm3 : k < km := by omega
      replace hkm := Lib.hid hkm
      have hnew : Hid (linesL s.data.toList = (xs ++ [(⟨k, s.extract k km, hle.out⟩ : LineX s.size)]).map (fun x => x.line.data.toList) ++ linesL (s.data.toList.drop (km))) := Lib.hid (by
        rw [hxs.out, hstep.out, hdrop.out, List.map_append, List.map_singleton, hline.out]
        simp)
      have hpre : Hid ((xs ++ [(⟨k, s.extract k km, hle.out⟩ : LineX s.size)]).map (fun x => x.line.data.toList) <+: linesL s.data.toList) := Lib.hid ⟨_, hnew.out.symm⟩
      have hlen2 : Hid ((xs ++ [(⟨k, s.extract k km, hle.out⟩ : LineX s.size)]).length ≤ km) := Lib.hid (by have := hlen.out; have := hkm.out; simp; omega)
      clear hstep hline hdrop
      by_cases hi1 : i = -1
      · subst hi1
        have hms : (s.size : Int) - (k : Int) = (m : Int) := by simp at hni; omega
        clear hni hge
        gi_wp2_with (first
          | (refine ⟨trivial, ?_⟩; gi_at_call 76; refine (callsIn_wide.2 (hidx _)).mono ?_; rintro e5 w5 ⟨rfl, e6⟩; obtain rfl := e6.symm)
          | ((try refine ⟨fun h => (by cases h), ?_⟩); refine hR2.mono ?_; clear hR2; rintro e W3 (⟨rfl, hJ3, hB3⟩ | ⟨rfl, hx3⟩)))
        · exact ⟨⟨km, xs ++ [(⟨k, s.extract k km, hle.out⟩ : LineX s.size)], by omega, by simp, hnew, Lib.hid hJ3, hlen2, Lib.hid hB3⟩, by simp [Lib.intOf]; omega⟩
        · exact ⟨rfl, _, results_none rfl _ _ _, ⟨_, rfl⟩, .inr ⟨_, hpre.out, hx3⟩⟩
      · obtain rfl : i = (m : Int) - 1 := by rw [if_neg (by omega)] at hni; omega
        have hm0 : ((m : Int) == 0) = false := beq_eq_false_iff_ne.2 (by omega)
        have hkm0 : (0 : Int) ≤ (km : Int) := by omega
        have hkm1 : (km : Int) ≤ (s.size : Int) := by omega
        clear hni hge hi1
        gi_wp2_with (first
          | (refine ⟨trivial, ?_⟩; gi_at_call 76; refine (callsIn_wide.2 (hidx _)).mono ?_; rintro e5 w5 ⟨rfl, e6⟩; obtain rfl := e6.symm)
          | ((try refine ⟨fun h => (by cases h), ?_⟩); refine hR2.mono ?_; clear hR2; rintro e W3 (⟨rfl, hJ3, hB3⟩ | ⟨rfl, hx3⟩)))
        · exact ⟨⟨km, xs ++ [(⟨k, s.extract k km, hle.out⟩ : LineX s.size)], by omega, by simp, hnew, Lib.hid hJ3, hlen2, Lib.hid hB3⟩, by simp [Lib.intOf]; omega⟩
        · exact ⟨rfl, _, results_none rfl _ _ _, ⟨_, rfl⟩, .inr ⟨_, hpre.out, hx3⟩⟩
    · have e : s.data.toList.drop k = [] := List.drop_eq_nil_of_le (by rw [hz.out]; omega)
      gi_wp2
      go_end0
      refine ⟨⟨_, rfl⟩, .inl ⟨xs, ?_, hJw.out⟩⟩
      rw [hxs.out, e]
      simp [linesL]
end Go.Proofs.YtghlodpbbghcoaaGreatDoor
