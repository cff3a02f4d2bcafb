/- The law RulesItems: walked. -/
import Derived.Test.YtghlodpbbghcoaaGreatDoorZ59
import Derived.Test.YtghlodpbbghcoaaGreatDoorZ7
import Derived.Test.YtghlodpbbghcoaaGreatDoorRD
namespace Go.Proofs.YtghlodpbbghcoaaGreatDoor
open Go.Lib Go.RowKit Go.Maps
def cutN (s : ByteArray) (n : Nat) : ByteArray := if n < s.size then s.extract 0 n else s
theorem cutN_size (s : ByteArray) (n : Nat) : (cutN s n).size ≤ n := by
  unfold cutN
  split
  · rw [ByteArray.size_extract]; omega
  · omega
set_option maxRecDepth 8192 in
theorem few14_any (s : ByteArray) (n : Nat) (w : World) : Calls Tryz.prog 19 #[.string s, .int .i64 n] w fun e w' => e = .returned (.string (cutN s n)) ∧ w' = w := by
  go_enter Tryz.func19, Tryz.ntmps19
  by_cases h : n < s.size
  · have h1 : (n : Int) < (s.size : Int) := by omega
    have h2 : (n : Int) ≤ (s.size : Int) := by omega
    go_wp2
    go_ret
    exact ⟨by rw [cutN, if_pos h]; rfl, rfl⟩
  · have h1 : ¬ (n : Int) < (s.size : Int) := by omega
    go_wp2
    go_ret
    exact ⟨by rw [cutN, if_neg h]; rfl, rfl⟩
/-- Items' result, whether there are items or not. -/
theorem items_post2 {r : Option (List (List UInt8 × Bool))} {w : World} {e : Ending} {w' : World} (h : ItemsPost r w e w') :
    ∃ A1 c1 A2 c2, e = .returned (.tuple #[.slice A1 (r.getD []).length c1, .slice A2 (r.getD []).length c2, .bool r.isSome]) ∧ ItemsIn w.heap.size w' (.slice A1 (r.getD []).length c1) (.slice A2 (r.getD []).length c2) (r.getD []) ∧ Below w.heap.size w w' := by
  obtain ⟨h, hB⟩ := h
  cases r with
  | none =>
    subst h
    exact ⟨none, 0, none, 0, rfl, ItemsIn.nil _ _, hB⟩
  | some D =>
    obtain ⟨vt, vq, rfl, hin⟩ := h
    obtain ⟨A1, c1, rfl, -⟩ := own_form hin.t
    obtain ⟨A2, c2, rfl, -⟩ := own_form hin.q
    exact ⟨A1, c1, A2, c2, rfl, hin, hB⟩
theorem ItemsIn.cellAt {B : Nat} {w : World} {A1 A2 : Option Addr} {n c1 c2 : Nat} {D : List (List UInt8 × Bool)} (h : ItemsIn B w (.slice A1 n c1) (.slice A2 n c2) D) {j : Nat} (hj : j < D.length) :
    ∃ b1 b2 o1 o2, A1 = some ⟨b1, o1, none⟩ ∧ A2 = some ⟨b2, o2, none⟩ ∧ w.cell? ⟨b1, o1 + j, none⟩ = some (.string (tx D[j].1)) ∧ w.cell? ⟨b2, o2 + j, none⟩ = some (.bool D[j].2) := by
  have hn : n = D.length := by
    obtain ⟨A, c, e, -⟩ := own_form h.t
    simp only [Value.slice.injEq] at e
    exact e.2.1
  subst hn
  have h1 := CellsAt.of_own h.t
  have h2 := CellsAt.of_own h.q
  obtain ⟨b1, o1, e1, _, k1⟩ := h1 j (by rw [tCells, List.length_map]; exact hj)
  obtain ⟨b2, o2, e2, _, k2⟩ := h2 j (by rw [qCells, List.length_map]; exact hj)
  exact ⟨b1, b2, o1, o2, e1, e2, by rw [k1]; simp [tCells], by rw [k2]; simp [qCells]⟩
set_option maxRecDepth 8192 in
set_option maxHeartbeats 6400000 in
theorem rulesItems_any (s : ByteArray) (w : World) : Calls Tryz.prog 6 #[.string s] w fun e w' => e = .returned (.bool true) ∧ Below w.heap.size w w' := by
  have hfew := few14_any s 100 w
  obtain ⟨t, ht⟩ : ∃ t, cutN s 100 = t := ⟨_, rfl⟩
  have hts : t.size ≤ 100 := by rw [← ht]; exact cutN_size s 100
  rw [ht] at hfew
  clear ht
  have hit := fun wx => items_any t (by omega) wx
  have hri := fun wx => ritems_any t (by omega) wx
  obtain ⟨r, hr⟩ : ∃ r, itemsG t.data.toList = r := ⟨_, rfl⟩
  rw [hr] at hit hri
  have hq := fun wx => quote_any t (by omega) wx
  have hrq := fun wx => refQuote_any t (by omega) wx
  obtain ⟨q, hqd⟩ : ∃ q, tx (quoteL t.data.toList) = q := ⟨_, rfl⟩
  unfold TextPost at hq hrq
  rw [hqd] at hq hrq
  obtain ⟨D, hD⟩ : ∃ D, r.getD [] = D := ⟨_, rfl⟩
  obtain ⟨ok, hok⟩ : ∃ ok, r.isSome = ok := ⟨_, rfl⟩
  have hDl : D.length ≤ 100 := by
    rw [← hD]
    cases r with
    | none => simp
    | some D' =>
      have h1 := (itemsG_length hr).2
      have h2 : t.data.toList.length = t.size := by simp
      simp only [Option.getD_some]
      omega
  have key : ∀ {e : Ending} {wx w' : World}, ItemsPost r wx e w' → ∃ A1 c1 A2 c2, e = .returned (.tuple #[.slice A1 D.length c1, .slice A2 D.length c2, .bool ok]) ∧ ItemsIn wx.heap.size w' (.slice A1 D.length c1) (.slice A2 D.length c2) D ∧ Below wx.heap.size wx w' := fun h => by
    have := items_post2 h
    rw [hD, hok] at this
    exact this
  have key2 : Hid (∀ (e : Ending) (wx w' : World), ItemsPost r wx e w' → ∃ A1 c1 A2 c2, e = .returned (.tuple #[.slice A1 D.length c1, .slice A2 D.length c2, .bool ok]) ∧ ItemsIn wx.heap.size w' (.slice A1 D.length c1) (.slice A2 D.length c2) D ∧ Below wx.heap.size wx w') := Lib.hid (fun _ _ _ h => key h)
  clear key
  obtain ⟨n, hn⟩ : ∃ n, D.length = n := ⟨_, rfl⟩
  have hDn : Hid (D.length = n) := Lib.hid hn
  rw [hn] at hDl
  clear hr hqd hD hok hn
  go_enter Tryz.func6, Tryz.ntmps6
  go_upto_region 6 with (first
    | (go_at_call 19; refine hfew.mono ?_; rintro e5 w5 ⟨rfl, e6⟩; obtain rfl := e6.symm)
    | (go_at_call 20; refine (hit _).mono ?_; rintro e1 w1 hp; obtain ⟨A1, c1, A2, c2, rfl, hin1, hB1⟩ := key2.out _ _ _ hp; rw [hDn.out] at hin1 ⊢; replace hin1 := Lib.hid hin1; replace hB1 := Lib.hid hB1; clear hp)
    | (go_at_call 21; refine (hri _).mono ?_; rintro e2 w2 hp; obtain ⟨A3, c3, A4, c4, rfl, hin2, hB2⟩ := key2.out _ _ _ hp; rw [hDn.out] at hin2 ⊢; replace hin2 := Lib.hid hin2; replace hB2 := Lib.hid hB2; clear hp)
    | (go_at_call 22; refine (hq _).mono ?_; rintro e3 w3 ⟨rfl, hB3⟩; replace hB3 := Lib.hid hB3)
    | (go_at_call 23; refine (hrq _).mono ?_; rintro e4 w4 ⟨rfl, hB4⟩; replace hB4 := Lib.hid hB4))
  have hB14 : Hid (Below w1.heap.size w1 w4) := Lib.hid ((hB2.out.trans (hB3.out.mono hB2.out.size)).trans (hB4.out.mono (hB2.out.trans (hB3.out.mono hB2.out.size)).size))
  have hB24 : Hid (Below w2.heap.size w2 w4) := Lib.hid (hB3.out.trans (hB4.out.mono hB3.out.size))
  have hBw : Hid (Below w.heap.size w w4) := Lib.hid (hB1.out.trans (hB14.out.mono hB1.out.size))
  have i1 : Hid (ItemsIn w.heap.size w4 (.slice A1 n c1) (.slice A2 n c2) D) := Lib.hid (hin1.out.below hB14.out)
  have i2 : Hid (ItemsIn w1.heap.size w4 (.slice A3 n c3) (.slice A4 n c4) D) := Lib.hid (hin2.out.below hB24.out)
  clear hin1 hin2 hB1 hB2 hB3 hB4 hB14 hB24 hq hrq hri hit hfew key2
  clear w2 w3
  obtain ⟨w0, hw0⟩ : ∃ w0 : World, w0 = w4 := ⟨_, rfl⟩
  rw [← hw0] at i1 i2 hBw ⊢
  clear hw0
  clear w4
  have hl14 := fun wx => lives14_any wx
  go_wp2
  go_loopw [9] (fun x9 wr => ∃ k : Nat, x9 = .int .i64 k ∧ k ≤ n ∧ Hid (Below w0.heap.size w0 wr)) (fun x9 _ => n - (RowKit.intOf x9).toNat)
  case atStart => exact ⟨0, rfl, Nat.zero_le _, Lib.hid (Below.refl _ _)⟩
  case round =>
    obtain ⟨k, rfl, hk, hB⟩ := hrel
    by_cases hlt : k < n
    · have hkD : k < D.length := by rw [hDn.out]; exact hlt
      obtain ⟨b1, b2, o1, o2, rfl, rfl, k1, k2⟩ := (i1.out.below hB.out).cellAt hkD
      obtain ⟨b3, b4, o3, o4, rfl, rfl, k3, k4⟩ := (i2.out.below hB.out).cellAt hkD
      obtain ⟨a, ha⟩ : ∃ a, tx D[k].1 = a := ⟨_, rfl⟩
      obtain ⟨bq, hbq⟩ : ∃ bq, D[k].2 = bq := ⟨_, rfl⟩
      rw [ha] at k1 k3
      rw [hbq] at k2 k4
      clear ha hbq
      have i0 : (0 : Int) ≤ (k : Int) := by omega
      have i3 : (k : Int) < (n : Int) := by omega
      go_upto_region 9 with fail
      go_quiet (fail)
      go_wp2
      exact ⟨⟨k + 1, by simp, by omega, Lib.hid (hB.out.trans (below_dN _))⟩, by simp [RowKit.intOf]; omega⟩
    · have i3 : ¬ (k : Int) < (n : Int) := by omega
      go_wp2_with (go_at_call 24; refine (hl14 _).mono ?_; rintro e5 w5 ⟨rfl, hB5⟩)
      go_ret
      exact ⟨rfl, (hBw.out.trans (hB.out.mono hBw.out.size)).trans (hB5.mono (hBw.out.trans (hB.out.mono hBw.out.size)).size)⟩
end Go.Proofs.YtghlodpbbghcoaaGreatDoor
