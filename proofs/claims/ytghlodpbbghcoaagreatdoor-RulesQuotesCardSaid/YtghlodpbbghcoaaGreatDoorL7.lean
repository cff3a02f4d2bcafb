/- The law RulesQuotes: walked. -/
import Derived.Test.YtghlodpbbghcoaaGreatDoorL6
namespace Go.Proofs.YtghlodpbbghcoaaGreatDoor
open Go.Lib Go.RowKit Go.Maps
theorem signL_snoc {l : List UInt8} {k : Nat} {c : UInt8} (h : l[k]? = some c) : signL (l.take (k + 1)) = (signL (l.take k) && (decide (32 ≤ (c.toNat : Int)) && decide ((c.toNat : Int) ≤ 126))) := by
  have e1 : decide (32 ≤ c) = decide (32 ≤ (c.toNat : Int)) := decide_eq_decide.2 (by rw [UInt8.le_iff_toNat_le]; show 32 ≤ c.toNat ↔ _; omega)
  have e2 : decide (c ≤ 126) = decide ((c.toNat : Int) ≤ 126) := decide_eq_decide.2 (by rw [UInt8.le_iff_toNat_le]; show c.toNat ≤ 126 ↔ _; omega)
  unfold signL
  rw [List.take_add_one, h, List.all_append]
  simp [e1, e2]
set_option maxRecDepth 8192 in
set_option maxHeartbeats 6400000 in
theorem rulesQuotes_any (s : ByteArray) (w : World) : Calls Tryz.prog 7 #[.string s] w fun e w' => e = .returned (.bool true) ∧ Below w.heap.size w w' := by
  have hfew := few14_any s 50 w
  obtain ⟨t, ht⟩ : ∃ t, cutN s 50 = t := ⟨_, rfl⟩
  have hts : t.size ≤ 50 := by rw [← ht]; exact cutN_size s 50
  rw [ht] at hfew
  clear ht
  have hz : Hid (t.data.toList.length = t.size) := Lib.hid (by simp)
  have hl14 := fun wx => lives14_any wx
  have hq := fun wx => quote_any t (by omega) wx
  obtain ⟨q, hqd⟩ : ∃ q, tx (quoteL t.data.toList) = q := ⟨_, rfl⟩
  unfold TextPost at hq
  rw [hqd] at hq
  have hqs : q.size ≤ 200000 := by
    rw [← hqd, tx_size]
    have := escL_length t.data.toList
    rw [hz.out] at this
    unfold quoteL
    simp
    omega
  have hit := fun wx => items_any q (by omega) wx
  rw [show q.data.toList = quoteL t.data.toList by rw [← hqd]; rfl, items_quote] at hit
  obtain ⟨sg, hsg⟩ : ∃ sg, signL t.data.toList = sg := ⟨_, rfl⟩
  rw [hsg] at hit
  replace hsg := Lib.hid hsg
  replace hit := Lib.hid hit
  clear hqd hqs
  go_enter Tryz.func7, Tryz.ntmps7
  go_upto_region 3 with (go_at_call 19; refine hfew.mono ?_; rintro e5 w5 ⟨rfl, e6⟩; obtain rfl := e6.symm)
  clear hfew
  go_wp2
  go_loop [3, 4] (fun x3 x4 => ∃ k : Nat, x4 = .int .i64 k ∧ k ≤ t.size ∧ x3 = .bool (signL (t.data.toList.take k))) (fun _ x4 => t.size - (RowKit.intOf x4).toNat)
  case atStart => exact ⟨0, rfl, Nat.zero_le _, by simp [signL]⟩
  case round =>
    obtain ⟨k, rfl, hk, rfl⟩ := hrel
    by_cases hlt : k < t.size
    · obtain ⟨c, hc⟩ : ∃ c : UInt8, t[k] = c := ⟨_, rfl⟩
      have hck : t.data.toList[k]? = some c := by rw [str_at hlt, hc]
      have hnx := signL_snoc hck
      obtain ⟨g1, hg1⟩ : ∃ g1, signL (t.data.toList.take k) = g1 := ⟨_, rfl⟩
      rw [hg1] at hnx ⊢
      have hnx2 := Lib.hid hnx
      have i0 : (0 : Int) ≤ (k : Int) := by omega
      have i1 : (k : Int) < (t.size : Int) := by omega
      clear hnx hck hg1
      cases g1 with
      | true =>
        go_wp2
        all_goals exact ⟨⟨k + 1, by simp, by omega, by rw [hnx2.out]; simp [*]⟩, by simp [RowKit.intOf]; omega⟩
      | false =>
        go_wp2
        all_goals exact ⟨⟨k + 1, by simp, by omega, by rw [hnx2.out]; simp⟩, by simp [RowKit.intOf]; omega⟩
    · have i1 : ¬ (k : Int) < (t.size : Int) := by omega
      have e : signL (t.data.toList.take k) = sg := by rw [List.take_of_length_le (by rw [hz.out]; omega), hsg.out]
      rw [e]
      clear e
      cases sg with
      | false =>
        go_wp2_with (first
          | (go_at_call 22; refine (hq _).mono ?_; rintro e1 w1 ⟨rfl, hB1⟩)
          | (go_at_call 20; refine (hit.out _).mono ?_; rintro e2 w2 ⟨rfl, hB2⟩)
          | (go_at_call 24; refine (hl14 _).mono ?_; rintro e3 w3 ⟨rfl, hB3⟩))
        go_ret
        exact ⟨rfl, (hB1.trans (hB2.mono hB1.size)).trans (hB3.mono (hB1.trans (hB2.mono hB1.size)).size)⟩
      | true =>
        go_wp2_with (first
          | (go_at_call 22; refine (hq _).mono ?_; rintro e1 w1 ⟨rfl, hB1⟩)
          | (go_at_call 20; refine (hit.out _).mono ?_; rintro e2 w2 ⟨⟨vt, vq, rfl, hin⟩, hB2⟩; obtain ⟨A1, c1, rfl, -⟩ := own_form hin.t; obtain ⟨A2, c2, rfl, -⟩ := own_form hin.q; obtain ⟨b1, b2, o1, o2, rfl, rfl, k1, k2⟩ := hin.cellAt (j := 0) (by simp); simp only [List.getElem_cons_zero, Nat.add_zero, tx_of] at k1 k2; replace hin := Lib.hid hin)
          | (go_at_call 24; refine (hl14 _).mono ?_; rintro e3 w3 ⟨rfl, hB3⟩))
        go_ret
        exact ⟨rfl, (hB1.trans (hB2.mono hB1.size)).trans (hB3.mono (hB1.trans (hB2.mono hB1.size)).size)⟩
end Go.Proofs.YtghlodpbbghcoaaGreatDoor
