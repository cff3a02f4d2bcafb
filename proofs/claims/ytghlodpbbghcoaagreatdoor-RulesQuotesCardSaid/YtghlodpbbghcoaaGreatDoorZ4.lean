/- A line's item: walked. -/
import Derived.Test.YtghlodpbbghcoaaGreatDoorZ3
import Derived.Deep.DeepCutAuto
namespace Go.Proofs.YtghlodpbbghcoaaGreatDoor
open Go.RowKit
theorem results_tmp4 {fn : Func} {t u v x : Tmp} (h : fn.results = #[.tmp t, .tmp u, .tmp v, .tmp x]) (tmps : Array Value) (P : Program) (w : World) :
    (results fn tmps).run P w = .ok (.tuple #[tmps.getD t undef, tmps.getD u undef, tmps.getD v undef, tmps.getD x undef]) w := by
  simp [results, h]
def ItemPost (r : Option (List UInt8 × Bool × Nat)) (w : World) (e : Ending) (w' : World) : Prop :=
  (match r with
   | none => ∃ (t : ByteArray) (q : Bool) (n : Int), e = .returned (.tuple #[.string t, .bool q, .int .i64 n, .bool false])
   | some (t, q, n) => e = .returned (.tuple #[.string (tx t), .bool q, .int .i64 n, .bool true])) ∧ Below w.heap.size w w'

set_option maxRecDepth 100000 in
set_option maxHeartbeats 3200000 in
theorem item_any (s : ByteArray) (hs : s.size ≤ 2000000) (w : World) : Calls Tryz.prog 42 #[.string s] w (ItemPost (itemL s.data.toList) w) := by
  have hpre := Tryz.strings_HasPrefix s ⟨#[34]⟩ w
  rw [head_quote] at hpre
  have hz : s.data.toList.length = s.size := by simp
  obtain ⟨r, hr⟩ : ∃ r, itemL s.data.toList = r := ⟨_, rfl⟩
  rw [hr]
  by_cases hq : s.data.toList.head? = some 34
  · have hunq := unquote_any s hs w
    have hr2 : (unqR s.data.toList).map (fun p => (p.1, true, p.2)) = r := by rw [← hr, itemL, if_pos hq]
    obtain ⟨u, hu⟩ : ∃ u, unqR s.data.toList = u := ⟨_, rfl⟩
    rw [hu] at hunq hr2
    rw [decide_eq_true hq] at hpre
    clear hr hu hq hz
    cases u with
    | none =>
      subst hr2
      go_enter Tryz.func42, Tryz.ntmps42
      go_wp2_with (first
        | (go_at_call 35; refine hpre.mono ?_; rintro e w1 ⟨rfl, rfl⟩)
        | (go_at_call 74; refine hunq.mono ?_; rintro e w2 ⟨he, hB⟩; simp only at he; subst he))
      ((try simp only [Exit.inBlock, Exit.then]); refine bodyPost_ret (results_tmp4 rfl _ _ _) rfl ?_)
      exact ⟨⟨_, _, _, rfl⟩, hB⟩
    | some p =>
      obtain ⟨t, n⟩ := p
      subst hr2
      go_enter Tryz.func42, Tryz.ntmps42
      go_wp2_with (first
        | (go_at_call 35; refine hpre.mono ?_; rintro e w1 ⟨rfl, rfl⟩)
        | (go_at_call 74; refine hunq.mono ?_; rintro e w2 ⟨he, hB⟩; simp only at he; subst he))
      ((try simp only [Exit.inBlock, Exit.then]); refine bodyPost_ret (results_tmp4 rfl _ _ _) rfl ?_)
      exact ⟨rfl, hB⟩
  · rw [decide_eq_false hq] at hpre
    have hr2 : Hid ((if bareL s.data.toList = 0 then none else some (s.data.toList.take (bareL s.data.toList), false, bareL s.data.toList)) = r) := Lib.hid (by rw [← hr, itemL, if_neg hq])
    replace hz := Lib.hid hz
    clear hr hq
    go_enter Tryz.func42, Tryz.ntmps42
    go_upto_region 5 with (go_at_call 35; refine hpre.mono ?_; rintro e w1 ⟨rfl, rfl⟩)
    go_loop [9] (fun x => ∃ n : Nat, x = .int .i64 n ∧ n ≤ s.size ∧ Hid (∀ j c, j < n → s.data.toList[j]? = some c → sgn c = true)) (fun x => s.size - (intOf x).toNat)
    case atStart => exact ⟨0, rfl, Nat.zero_le _, Lib.hid (fun j c h => absurd h (Nat.not_lt_zero _))⟩
    case round =>
      obtain ⟨n, rfl, hn, hok⟩ := hrel
      have hn0 : (0 : Int) ≤ (n : Int) := by omega
      have hn1 : (n : Int) ≤ (s.size : Int) := by omega
      have hend : Hid (bareL s.data.toList = n → ItemPost r w1 (.returned (.tuple #[.string (s.extract 0 n), .bool false, .int .i64 n, .bool (decide (0 < n))])) w1) := Lib.hid (fun h => by
        have h2 := hr2.out
        rw [h] at h2
        refine ⟨?_, Below.refl _ _⟩
        by_cases h0 : n = 0
        · rw [if_pos h0] at h2
          subst h2 h0
          exact ⟨_, _, _, rfl⟩
        · rw [if_neg h0] at h2
          subst h2
          have e1 : decide (0 < n) = true := decide_eq_true (by omega)
          have e2 : s.extract 0 n = tx (s.data.toList.take n) := tx_eq (by simp [ByteArray.extract, ByteArray.copySlice])
          show _ = _
          rw [e1, e2])
      have hfin : Hid (((∀ c, s.data.toList[n]? = some c → sgn c = false) → bareL s.data.toList = n)) := Lib.hid (fun h => bareL_stop hok.out (by rw [hz.out]; exact hn) h)
      by_cases hlt : n < s.size
      · have hsi := Lib.hid (str_at hlt)
        obtain ⟨c, hc⟩ : ∃ c : UInt8, s[n] = c := ⟨_, rfl⟩
        rw [hc] at hsi
        obtain ⟨k, hk⟩ : ∃ k : Int, (s[n].toNat : Int) = k := ⟨_, rfl⟩
        have hck : Hid (sgn c = (decide (32 < k) && decide (k ≤ 126) && !(k == 34))) := Lib.hid (by rw [sgn_iff, ← hc, hk])
        have hi1 : (n : Int) < (s.size : Int) := by omega
        clear hc
        by_cases hsg : 32 < k ∧ k ≤ 126 ∧ k ≠ 34
        · obtain ⟨h32, h126, h34⟩ := hsg
          have e34 : (k == 34) = false := by simpa using h34
          have n34 : (k != 34) = true := by simpa [bne] using h34
          have hok2 : Hid (∀ j c, j < n + 1 → s.data.toList[j]? = some c → sgn c = true) := Lib.hid (fun j d hj hd => by
            by_cases e : j = n
            · subst e
              rw [hsi.out] at hd
              cases hd
              rw [hck.out, decide_eq_true h32, decide_eq_true h126, e34]
              rfl
            · exact hok.out j d (by omega) hd)
          clear h34 hfin
          go_wp2
          exact ⟨⟨n + 1, by simp, by omega, hok2⟩, by simp [intOf]; omega⟩
        · have hb : Hid (bareL s.data.toList = n) := Lib.hid (hfin.out (fun d hd => by
            rw [hsi.out] at hd
            cases hd
            rw [hck.out]
            by_cases h1 : 32 < k
            · by_cases h2 : k ≤ 126
              · have : k = 34 := Classical.byContradiction (fun h => hsg ⟨h1, h2, h⟩)
                subst this
                rfl
              · rw [decide_eq_false h2]; simp
            · rw [decide_eq_false h1]; simp))
          have hpost := Lib.hid (hend.out hb.out)
          clear hfin hend hok
          by_cases h32 : 32 < k
          · by_cases h126 : k ≤ 126
            · have h34 : k = 34 := Classical.byContradiction (fun h => hsg ⟨h32, h126, h⟩)
              subst h34
              clear hsg
              go_wp2
              ((try simp only [Exit.inBlock, Exit.then]); refine bodyPost_ret (results_tmp4 rfl _ _ _) rfl ?_)
              exact hpost.out
            · clear hsg
              go_wp2
              ((try simp only [Exit.inBlock, Exit.then]); refine bodyPost_ret (results_tmp4 rfl _ _ _) rfl ?_)
              exact hpost.out
          · clear hsg
            go_wp2
            ((try simp only [Exit.inBlock, Exit.then]); refine bodyPost_ret (results_tmp4 rfl _ _ _) rfl ?_)
            exact hpost.out
      · have hpost := Lib.hid (hend.out (hfin.out (fun d hd => by
          have := (List.getElem?_eq_some_iff.1 hd).1
          rw [hz.out] at this
          omega)))
        clear hfin hend hok
        go_wp2
        ((try simp only [Exit.inBlock, Exit.then]); refine bodyPost_ret (results_tmp4 rfl _ _ _) rfl ?_)
        exact hpost.out
end Go.Proofs.YtghlodpbbghcoaaGreatDoor
