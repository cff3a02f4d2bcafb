/- Bytes' characters, walked. -/
import Derived.Test.YtghlodpbbghcoaaDoorU3
import Derived.Maps.AppendAt
import Derived.OwnWalk
namespace Go.Proofs.YtghlodpbbghcoaaDoor
open Go.Lib Go.RowKit

/-- Bytes in memory, as a value. -/
structure BytesV (w : World) (A : Option Addr) (n cap : Nat) (l : List UInt8) : Prop where
  len : n = l.length
  cap : n ≤ cap
  at_ : 0 < n → ∃ b o, A = some ⟨b, o, none⟩ ∧ b < w.heap.size ∧ BytesAt w b o l
theorem BytesAt.below {w w' : World} {b o : Nat} {l : List UInt8} (h : BytesAt w b o l) (hb : b < w.heap.size) (hB : Below w.heap.size w w') : BytesAt w' b o l :=
  fun j hj => (hB.cell (p := ⟨b, o + j, none⟩) hb).trans (h j hj)
theorem BytesAt.drop {w : World} {b o : Nat} {l : List UInt8} (h : BytesAt w b o l) (k : Nat) : BytesAt w b (o + k) (l.drop k) := fun j hj => by
  rw [List.length_drop] at hj
  have := h (k + j) (by omega)
  rw [getD_dropU, Nat.add_assoc]
  exact this
theorem info21 : (Tryd.prog.info? 21).map (fun i => (i.zero, i.size, i.bytes)) = some (some (.int .i32 0), 1, 4) := by kernel_rfl
abbrev r32 (r : Int) : Value := .int .i32 r

set_option maxRecDepth 8192 in
set_option maxHeartbeats 3200000 in
theorem runes_any (A : Option Addr) (n cap : Nat) (l : List UInt8) (hbig : n ≤ 1000000) (w : World) (hb : BytesV w A n cap l) :
    Calls Tryd.prog 22 #[.slice A n cap] w fun e w' => ∃ v, e = .returned v ∧ w'.ownsRow w.heap.size 21 1 v (runesL l).length ((runesL l).map r32) ∧ Below w.heap.size w w' := by
  obtain ⟨i0, hi, hz0, hz1, hz2⟩ := info_parts info21
  obtain ⟨hn, hc, hat⟩ := hb
  replace hn := Lib.hid hn
  go_enter Tryd.func22, Tryd.ntmps22
  go_wp2
  go_loopw [3, 4] (fun v x4 wr => ∃ (k : Nat) (pre rest : List Int), k ≤ n ∧ x4 = .int .i64 k ∧ Hid (runesL l = pre ++ rest) ∧ Hid (rest = runesL (l.drop k)) ∧ pre.length ≤ k ∧
      wr.ownsRow w.heap.size 21 1 v pre.length (pre.map r32) ∧ Hid (Below w.heap.size w wr)) (fun _ x4 _ => n - (Lib.intOf x4).toNat)
  case atStart => exact ⟨0, [], _, Nat.zero_le _, rfl, Lib.hid rfl, Lib.hid rfl, Nat.zero_le _, World.ownsRow_nil _ _ _ _, Lib.hid (Below.refl _ _)⟩
  case round =>
    obtain ⟨k, pre, rest, hk, rfl, hpr, hrest, hpk, hrow, hB⟩ := hrel
    by_cases hlt : k < n
    · obtain ⟨b, o, rfl, hbl, hbytes⟩ := hat (by omega)
      have hbytes2 : Hid (BytesAt wr b (o + k) (l.drop k)) := Lib.hid ((hbytes.below hbl hB.out).drop k)
      have hne : l.drop k ≠ [] := fun e => by
        have := congrArg List.length e
        rw [List.length_drop, ← hn.out] at this
        simp at this
        omega
      obtain ⟨r, hr⟩ : ∃ r, (oneN (l.drop k)).1 = r := ⟨_, rfl⟩
      obtain ⟨d, hd⟩ : ∃ d, (oneN (l.drop k)).2 = d := ⟨_, rfl⟩
      have hdl : (l.drop k).length = n - k := by rw [List.length_drop, ← hn.out]
      have hd1 : 1 ≤ d := by rw [← hd, oneN_eq]; exact decodeL_width _
      have hd2 : d ≤ n - k := by rw [← hd, oneN_eq, ← hdl]; exact decodeL_le _ hne
      have hone := one_any b (o + k) (cap - k) (l.drop k) hne (by omega) wr hbytes2.out
      rw [hr, hd, hdl] at hone
      have hstep : Hid (rest = (r : Int) :: runesL (l.drop (k + d))) := Lib.hid (by rw [hrest.out, runesL_step _ hne, ← oneN_eq, hr, hd, List.drop_drop])
      replace hdl := Lib.hid hdl
      replace hr := Lib.hid hr
      replace hd := Lib.hid hd
      have hsz := Lib.hid hB.out.size
      go_wp2_with (first
        | (go_at_call 42; refine hone.mono ?_; rintro e w' ⟨rfl, rfl⟩)
        | (at_builtin; refine wpList_append_own _ rfl _ _ 39 rfl w.heap.size 21 i0 (.int .i32 0) 1 4 Tryd.underlying39 hi hz0 hz1 hz2 rfl (by decide) _ _ _ rfl (hrow.alloc _) ⟨_, 0, none⟩ 1 1 [r32 r] rfl rfl (cell_one_new _ _ _) (by simp [Value.oneCell']) (by unfold maxLen; omega) (by omega) (by have := hsz.out; simp; omega) ?_; intro v' w3 hown' hg3 hnil3; go_frame))
      refine ⟨⟨k + d, pre ++ [(r : Int)], runesL (l.drop (k + d)), by omega, by simp, Lib.hid (by rw [hpr.out, hstep.out]; simp), Lib.hid rfl, by simp; omega, by simpa using hown', Lib.hid ?_⟩, by simp [Lib.intOf]; omega⟩
      exact (hB.out.alloc hsz.out _).grown hg3 (by have := hsz.out; simp; omega) (fun j hj => (hrow.lt j hj).1)
    · have hkn : k = n := by omega
      subst hkn
      have e : rest = [] := by rw [hrest.out, hn.out, List.drop_length]; rfl
      have e2 : Hid (runesL l = pre) := Lib.hid (by rw [hpr.out, e, List.append_nil])
      clear e
      go_wp2
      go_ret
      exact ⟨_, rfl, by rw [e2.out]; exact hrow, hB.out⟩
end Go.Proofs.YtghlodpbbghcoaaDoor
