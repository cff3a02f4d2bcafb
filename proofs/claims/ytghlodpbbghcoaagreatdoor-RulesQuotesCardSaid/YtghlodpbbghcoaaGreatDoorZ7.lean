/- A quoted item, by the document: walked. -/
import Derived.Test.YtghlodpbbghcoaaGreatDoorZ6
namespace Go.Proofs.YtghlodpbbghcoaaGreatDoor
open Go.RowKit
set_option maxRecDepth 100000 in
set_option maxHeartbeats 3200000 in
theorem refQuote_any (s : ByteArray) (hs : s.size ≤ 200000) (w : World) : Calls Tryz.prog 23 #[.string s] w (TextPost (quoteL s.data.toList) w) := by
  have hz : Hid (s.data.toList.length = s.size) := Lib.hid (by simp)
  have hON := Lib.hid (OwnY.nil w w.heap.size)
  go_enter Tryz.func23, Tryz.ntmps23
  go_upto_region 3 with (at_builtin; refine appendByte_any hON.out (Nat.le_refl _) (by simp) 34 rfl _ _ rfl rfl rfl rfl rfl ?_; intro v0 w0 hO0 hB0 hk0)
  replace hO0 := Lib.hid hO0
  replace hB0 := Lib.hid hB0
  clear hk0 hON
  go_wp2
  go_loopw [3, 4] (fun v x4 wr => ∃ i : Nat, x4 = .int .i64 i ∧ i ≤ s.size ∧ Hid (OwnY wr w.heap.size v (34 :: escL (s.data.toList.take i))) ∧ Hid (Below w.heap.size w wr)) (fun _ x4 _ => s.size - (intOf x4).toNat)
  case atStart => exact ⟨0, rfl, Nat.zero_le _, hO0, hB0⟩
  case round =>
    clear hO0 hB0
    obtain ⟨i, rfl, hi, hO, hB⟩ := hrel
    have hbw := hB.out.size
    have hlen : Hid ((34 :: escL (s.data.toList.take i)).length ≤ 1 + 2 * i) := Lib.hid (by
      have := escL_length (s.data.toList.take i)
      have h2 : (s.data.toList.take i).length ≤ i := List.length_take_le _ _
      rw [List.length_cons]
      omega)
    have hL : (34 :: escL (s.data.toList.take i)).length ≤ 900000 := by have := hlen.out; omega
    obtain ⟨L, hLe⟩ : ∃ L, 34 :: escL (s.data.toList.take i) = L := ⟨_, rfl⟩
    rw [hLe] at hO hL
    replace hLe := Lib.hid hLe
    obtain ⟨v, hv⟩ : ∃ v, v = u3 := ⟨_, rfl⟩
    rw [← hv] at hO ⊢
    clear hv hlen
    by_cases hlt : i < s.size
    · have hsi := Lib.hid (str_at hlt)
      obtain ⟨c, hc⟩ : ∃ c : UInt8, s[i] = c := ⟨_, rfl⟩
      rw [hc] at hsi
      obtain ⟨k, hk⟩ : ∃ k : Int, (s[i].toNat : Int) = k := ⟨_, rfl⟩
      have hck : Hid ((c.toNat : Int) = k) := Lib.hid (by rw [← hc]; exact hk)
      have hi0 : (0 : Int) ≤ (i : Int) := by omega
      have hi1 : (i : Int) < (s.size : Int) := by omega
      have hnext : Hid (34 :: escL (s.data.toList.take (i + 1)) = L ++ if c = 34 ∨ c = 92 then [92, c] else [c]) := Lib.hid (by rw [escL_snoc hsi.out, ← hLe.out]; rfl)
      clear hc
      by_cases hq : k = 34 ∨ k = 92
      · have hcq : c = 34 ∨ c = 92 := by
          have := hck.out
          rcases hq with h | h
          · exact .inl (UInt8.toNat_inj.1 (by show c.toNat = 34; omega))
          · exact .inr (UInt8.toNat_inj.1 (by show c.toNat = 92; omega))
        have hn2 : Hid (34 :: escL (s.data.toList.take (i + 1)) = (L ++ [92]) ++ [c]) := Lib.hid (by rw [hnext.out, if_pos hcq]; simp)
        have hL2 : (L ++ [92]).length ≤ 2000000 := by simp; omega
        clear hnext hcq
        rcases hq with rfl | rfl
        all_goals
          go_upto_region 8 with (at_builtin; refine appendByte_any hO.out hbw (by omega) 92 rfl _ _ rfl rfl rfl rfl rfl ?_; intro v5 w5 ho5 hb5 hk5)
          have hB5 := Lib.hid (hB.out.trans hb5)
          have hbw5 := hB5.out.size
          replace ho5 := Lib.hid ho5
          clear hk5 hb5
          go_wp2_with (at_builtin; refine appendByte_any ho5.out hbw5 hL2 c rfl _ _ rfl rfl rfl rfl (by rw [hck.out]) ?_; intro v6 w6 ho6 hb6 hk6)
          exact ⟨⟨i + 1, by simp, by omega, Lib.hid (by rw [hn2.out]; exact ho6), Lib.hid (hB5.out.trans hb6)⟩, by simp [intOf]; omega⟩
      · have e34 : (k == 34) = false := by simp; exact fun h => hq (.inl h)
        have e92 : (k == 92) = false := by simp; exact fun h => hq (.inr h)
        have hn2 : Hid (34 :: escL (s.data.toList.take (i + 1)) = L ++ [c]) := Lib.hid (by
          rw [hnext.out, if_neg]
          rintro (rfl | rfl)
          · exact hq (.inl (by rw [← hck.out]; rfl))
          · exact hq (.inr (by rw [← hck.out]; rfl)))
        clear hnext hq
        go_wp2_with (at_builtin; refine appendByte_any hO.out hbw (by omega) c rfl _ _ rfl rfl rfl rfl (by rw [hck.out]) ?_; intro v6 w6 ho6 hb6 hk6)
        exact ⟨⟨i + 1, by simp, by omega, Lib.hid (by rw [hn2.out]; exact ho6), Lib.hid (hB.out.trans hb6)⟩, by simp [intOf]; omega⟩
    · have hin : i = s.size := by omega
      have hfin : Hid (L ++ [34] = quoteL s.data.toList) := Lib.hid (by
        rw [← hLe.out, hin, List.take_of_length_le (by rw [hz.out]; exact Nat.le_refl _)]
        rfl)
      clear hin
      go_wp2_with (at_builtin; refine appendByte_any hO.out hbw (by omega) 34 rfl _ _ rfl rfl rfl rfl rfl ?_; intro v6 w6 ho6 hb6 hk6; obtain ⟨t, ht, hcv⟩ := conv_Y ho6; have hcv2 := hcv w6 (Below.refl _ _); replace ht := Lib.hid ht; clear hcv ho6 hk6)
      go_ret
      exact ⟨by rw [← hfin.out, tx_eq ht.out]; rfl, hB.out.trans hb6⟩
end Go.Proofs.YtghlodpbbghcoaaGreatDoor
