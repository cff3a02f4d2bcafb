/- A quoted item: walked, and the document's. -/
import Derived.Test.YtghlodpbbghcoaaGreatDoorZ5
namespace Go.Proofs.YtghlodpbbghcoaaGreatDoor
open Go.RowKit
theorem escL_append (a b : List UInt8) : escL (a ++ b) = escL a ++ escL b := by simp [escL]
theorem escL_snoc {l : List UInt8} {i : Nat} {c : UInt8} (h : l[i]? = some c) : escL (l.take (i + 1)) = escL (l.take i) ++ if c = 34 ∨ c = 92 then [92, c] else [c] := by
  rw [List.take_add_one, h, escL_append]
  simp [escL]
theorem escL_length : ∀ l : List UInt8, (escL l).length ≤ 2 * l.length
  | [] => by simp [escL]
  | c :: l => by
    have := escL_length l
    rw [escL_cons, List.length_append, List.length_cons]
    have h : (if c = 34 ∨ c = 92 then [92, c] else [c]).length ≤ 2 := by split <;> simp
    omega
theorem OwnY.first {w : World} {B : Nat} (hB : B ≤ w.heap.size) (c : UInt8) {cs : Array Value} (hcs : cs = #[.int .u8 c.toNat]) : OwnY (w.alloc (.cells cs 5)) B (.slice (some ⟨w.heap.size, 0, none⟩) 1 1) [c] := by
  subst hcs
  exact ⟨_, _, rfl, rfl, .inr ⟨w.heap.size, 1, _, rfl, hB, blk_new w _, Nat.le_refl _, by decide, rfl, rfl⟩⟩
def TextPost (l : List UInt8) (w : World) (e : Ending) (w' : World) : Prop := e = .returned (.string (tx l)) ∧ Below w.heap.size w w'

set_option maxRecDepth 100000 in
set_option maxHeartbeats 3200000 in
theorem quote_any (s : ByteArray) (hs : s.size ≤ 200000) (w : World) : Calls Tryz.prog 22 #[.string s] w (TextPost (quoteL s.data.toList) w) := by
  have hz : Hid (s.data.toList.length = s.size) := Lib.hid (by simp)
  have hO0 := Lib.hid (OwnY.first (w := w) (Nat.le_refl _) 34 (cs := #[.int .u8 34]) rfl)
  have hB0 : Hid (Below w.heap.size w (w.alloc (.cells #[.int .u8 34] 5))) := Lib.hid ((Below.refl _ _).alloc (Nat.le_refl _) _)
  go_enter Tryz.func22, Tryz.ntmps22
  go_wp2
  go_loopw [3, 4] (fun v x4 wr => ∃ i : Nat, x4 = .int .i64 i ∧ i ≤ s.size ∧ Hid (OwnY wr w.heap.size v (34 :: escL (s.data.toList.take i))) ∧ Hid (Below w.heap.size w wr)) (fun _ x4 _ => s.size - (intOf x4).toNat)
  case atStart => exact ⟨0, rfl, Nat.zero_le _, hO0, hB0⟩
  case round =>
    clear hO0 hB0
    obtain ⟨i, rfl, hi, hO, hB⟩ := hrel
    have hbw := hB.out.size
    have hlen : Hid ((34 :: escL (s.data.toList.take i)).length ≤ 1 + 2 * i) := Lib.hid (by
      have := escL_length (s.data.toList.take i)
      have h2 : (s.data.toList.take i).length ≤ i := List.length_take_le _ _
      rw [List.length_cons]
      omega)
    have hL : (34 :: escL (s.data.toList.take i)).length ≤ 900000 := by have := hlen.out; omega
    obtain ⟨L, hLe⟩ : ∃ L, 34 :: escL (s.data.toList.take i) = L := ⟨_, rfl⟩
    rw [hLe] at hO hL
    replace hLe := Lib.hid hLe
    obtain ⟨v, hv⟩ : ∃ v, v = u3 := ⟨_, rfl⟩
    rw [← hv] at hO ⊢
    clear hv hlen
    by_cases hlt : i < s.size
    · have hsi := Lib.hid (str_at hlt)
      obtain ⟨c, hc⟩ : ∃ c : UInt8, s[i] = c := ⟨_, rfl⟩
      rw [hc] at hsi
      obtain ⟨k, hk⟩ : ∃ k : Int, (s[i].toNat : Int) = k := ⟨_, rfl⟩
      have hck : Hid ((c.toNat : Int) = k) := Lib.hid (by rw [← hc]; exact hk)
      have hi0 : (0 : Int) ≤ (i : Int) := by omega
      have hi1 : (i : Int) < (s.size : Int) := by omega
      have hnext : Hid (34 :: escL (s.data.toList.take (i + 1)) = L ++ if c = 34 ∨ c = 92 then [92, c] else [c]) := Lib.hid (by rw [escL_snoc hsi.out, ← hLe.out]; rfl)
      clear hc
      by_cases hq : k = 34 ∨ k = 92
      · have hcq : c = 34 ∨ c = 92 := by
          have := hck.out
          rcases hq with h | h
          · exact .inl (UInt8.toNat_inj.1 (by show c.toNat = 34; omega))
          · exact .inr (UInt8.toNat_inj.1 (by show c.toNat = 92; omega))
        have hn2 : Hid (34 :: escL (s.data.toList.take (i + 1)) = (L ++ [92]) ++ [c]) := Lib.hid (by rw [hnext.out, if_pos hcq]; simp)
        have hL2 : (L ++ [92]).length ≤ 2000000 := by simp; omega
        clear hnext hcq
        rcases hq with rfl | rfl
        all_goals
          go_upto_region 7 with (at_builtin; refine appendByte_any hO.out hbw (by omega) 92 rfl _ _ rfl rfl rfl rfl rfl ?_; intro v5 w5 ho5 hb5 hk5)
          have hB5 := Lib.hid (hB.out.trans hb5)
          have hbw5 := hB5.out.size
          replace ho5 := Lib.hid ho5
          clear hk5 hb5
          go_wp2_with (at_builtin; refine appendByte_any ho5.out hbw5 hL2 c rfl _ _ rfl rfl rfl rfl (by rw [hck.out]) ?_; intro v6 w6 ho6 hb6 hk6)
          exact ⟨⟨i + 1, by simp, by omega, Lib.hid (by rw [hn2.out]; exact ho6), Lib.hid (hB5.out.trans hb6)⟩, by simp [intOf]; omega⟩
      · have e34 : (k == 34) = false := by simp; exact fun h => hq (.inl h)
        have e92 : (k == 92) = false := by simp; exact fun h => hq (.inr h)
        have hn2 : Hid (34 :: escL (s.data.toList.take (i + 1)) = L ++ [c]) := Lib.hid (by
          rw [hnext.out, if_neg]
          rintro (rfl | rfl)
          · exact hq (.inl (by rw [← hck.out]; rfl))
          · exact hq (.inr (by rw [← hck.out]; rfl)))
        clear hnext hq
        go_wp2_with (at_builtin; refine appendByte_any hO.out hbw (by omega) c rfl _ _ rfl rfl rfl rfl (by rw [hck.out]) ?_; intro v6 w6 ho6 hb6 hk6)
        exact ⟨⟨i + 1, by simp, by omega, Lib.hid (by rw [hn2.out]; exact ho6), Lib.hid (hB.out.trans hb6)⟩, by simp [intOf]; omega⟩
    · have hin : i = s.size := by omega
      have hfin : Hid (L ++ [34] = quoteL s.data.toList) := Lib.hid (by
        rw [← hLe.out, hin, List.take_of_length_le (by rw [hz.out]; exact Nat.le_refl _)]
        rfl)
      clear hin
      go_wp2_with (at_builtin; refine appendByte_any hO.out hbw (by omega) 34 rfl _ _ rfl rfl rfl rfl rfl ?_; intro v6 w6 ho6 hb6 hk6; obtain ⟨t, ht, hcv⟩ := conv_Y ho6; have hcv2 := hcv w6 (Below.refl _ _); replace ht := Lib.hid ht; clear hcv ho6 hk6)
      go_ret
      exact ⟨by rw [← hfin.out, tx_eq ht.out]; rfl, hB.out.trans hb6⟩
end Go.Proofs.YtghlodpbbghcoaaGreatDoor
