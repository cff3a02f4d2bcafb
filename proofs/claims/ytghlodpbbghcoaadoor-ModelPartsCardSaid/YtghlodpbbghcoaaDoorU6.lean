/- Bytes made right, walked. -/
import Derived.Test.YtghlodpbbghcoaaDoorU5
import Derived.Deep.CutBlock
namespace Go.Proofs.YtghlodpbbghcoaaDoor
open Go.Lib Go.RowKit

def fixR (r : Int) : Int := if r = 13 then 10 else if r = 0 then 65533 else r
theorem rightR_cons (p : Bool) (r : Int) (t : List Int) : rightR p (r :: t) = if r = 10 ∧ p = true then rightR (decide (r = 13)) t else fixR r :: rightR (decide (r = 13)) t := rfl
theorem runesG_range : ∀ (n : Nat) (l : List UInt8), ∀ r ∈ runesG n l, 0 ≤ r ∧ r ≤ 1114111
  | 0, _, r, h => by cases h
  | n + 1, l, r, h => by
    unfold runesG at h
    split at h
    · cases h
    · rcases List.mem_cons.1 h with rfl | h
      · have := decodeL_rune l
        omega
      · exact runesG_range n _ r h
theorem rightR_range : ∀ (p : Bool) (rs : List Int), (∀ r ∈ rs, 0 ≤ r ∧ r ≤ 1114111) → ∀ r ∈ rightR p rs, 0 ≤ r ∧ r ≤ 1114111
  | _, [], _, r, h => by cases h
  | p, a :: t, ha, r, h => by
    rw [rightR_cons] at h
    split at h
    · exact rightR_range _ t (fun x hx => ha x (List.mem_cons_of_mem _ hx)) r h
    · rcases List.mem_cons.1 h with rfl | h
      · have := ha a (by simp)
        unfold fixR
        split
        · omega
        · split <;> omega
      · exact rightR_range _ t (fun x hx => ha x (List.mem_cons_of_mem _ hx)) r h

set_option maxRecDepth 8192 in
set_option maxHeartbeats 6400000 in
theorem right_any (A : Option Addr) (n cap : Nat) (l : List UInt8) (hbig : n ≤ 1000000) (w : World) (hb : BytesV w A n cap l) :
    Calls Tryd.prog 7 #[.slice A n cap] w fun e w' => e = .returned (.string ⟨(rightL l).toArray⟩) ∧ Below w.heap.size w w' := by
  obtain ⟨i0, hi, hz0, hz1, hz2⟩ := info_parts info21
  have hlen := runesL_length l
  have hrange : Hid (∀ r ∈ runesL l, 0 ≤ r ∧ r ≤ 1114111) := Lib.hid (runesG_range _ l)
  have hnl := hb.len
  have hruns := runes_any A n cap l hbig w hb
  obtain ⟨res, hres⟩ : ∃ res, rightL l = res := ⟨_, rfl⟩
  rw [hres]
  obtain ⟨rs, hrs⟩ : ∃ rs, runesL l = rs := ⟨_, rfl⟩
  rw [hrs] at hlen hrange hruns
  have hres2 : Hid (textL (rightR false rs) = res) := Lib.hid (by rw [← hrs]; exact hres)
  obtain ⟨N, hN⟩ : ∃ N, rs.length = N := ⟨_, rfl⟩
  rw [hN] at hlen hruns
  have hNbig : N ≤ 1000000 := by omega
  replace hN := Lib.hid hN
  clear hres hrs hb hnl hlen hbig
  go_enter Tryd.func7, Tryd.ntmps7
  go_wp2_with (go_at_call 22; refine hruns.mono ?_; rintro e w1 ⟨v1, rfl, hrow1, hB1⟩; obtain ⟨A1, cap1, rfl, hcap1, hc1⟩ := own_cell hrow1)
  have hsz1 := Lib.hid hB1.size
  replace hc1 := Lib.hid hc1
  clear hrow1 hruns
  go_loopw [4, 5] (fun v x5 wr => ∃ (k : Nat) (p : Bool) (pre rest : List Int), k ≤ N ∧ x5 = .int .i64 k ∧ Hid (rest = rs.drop k) ∧ Hid (rightR false rs = pre ++ rightR p rest) ∧ Hid (∀ m, k = m + 1 → ∃ r, rs[m]? = some r ∧ p = decide (r = 13)) ∧ Hid (k = 0 → p = false) ∧ pre.length ≤ k ∧
      wr.ownsRow w1.heap.size 21 1 v pre.length (pre.map r32) ∧ Hid (Below w1.heap.size w1 wr)) (fun _ x5 _ => N - (Lib.intOf x5).toNat)
  case atStart => exact ⟨0, false, [], rs, Nat.zero_le _, rfl, Lib.hid rfl, Lib.hid rfl, Lib.hid (fun m h => by cases h), Lib.hid (fun _ => rfl), Nat.le_refl _, World.ownsRow_nil _ _ _ _, Lib.hid (Below.refl _ _)⟩
  case round =>
    obtain ⟨k, p, pre, rest, hk, rfl, hrest, hpre, hprev, hp0, hpk, hrow, hB⟩ := hrel
    by_cases hlt : k < N
    · obtain ⟨b, rfl, hbl, _, hcell⟩ := hc1.out k hlt
      obtain ⟨r, hr⟩ : ∃ r, rs[k]? = some r := ⟨rs[k]'(by rw [hN.out]; exact hlt), List.getElem?_eq_getElem _⟩
      have hrr := hrange.out r (List.mem_of_getElem? hr)
      have hck : wr.cell? ⟨b, k, none⟩ = some (.int .i32 r) := by rw [hB.out.cell (p := ⟨b, k, none⟩) hbl, hcell, List.getElem?_map, hr]; rfl
      have hrest2 : Hid (rest = r :: rs.drop (k + 1)) := Lib.hid (by
        rw [hrest.out]
        obtain ⟨hk', e⟩ := List.getElem?_eq_some_iff.1 hr
        rw [← e, ← List.drop_eq_getElem_cons])
      have hsz := Lib.hid hB.out.size
      have hnext : Hid (∀ m, k + 1 = m + 1 → ∃ r', rs[m]? = some r' ∧ decide (r = 13) = decide (r' = 13)) := Lib.hid (fun m h => ⟨r, by rw [show m = k by omega]; exact hr, rfl⟩)
      clear hcell
      obtain ⟨hr0, hr9⟩ := hrr
      go_upto_region 7 with fail
      go_cut [32] (fun x wx => x = .bool (decide (r = 10) && p) ∧ wx = wr)
      case first =>
        by_cases h10 : r = 10
        · have hdec : (r == 10) = true := by rw [h10]; rfl
          by_cases hk0 : 0 < k
          · obtain ⟨r', hr', hp⟩ := hprev.out (k - 1) (by omega)
            have hcm : wr.cell? ⟨b, k - 1, none⟩ = some (.int .i32 r') := by
              obtain ⟨b', hb', _, _, hcell'⟩ := hc1.out (k - 1) (by omega)
              simp only [Option.some.injEq, Addr.mk.injEq, and_true] at hb'
              subst hb'
              rw [hB.out.cell (p := ⟨b, k - 1, none⟩) hbl, hcell', List.getElem?_map, hr']
              rfl
            have hdp : (r' == 13) = p := by rw [hp]; rfl
            replace h10 := Lib.hid h10
            clear hp hprev hp0
            go_wp2
            go_meet
            exact ⟨by rw [decide_eq_true h10.out]; rfl, rfl⟩
          · have hp := hp0.out (by omega)
            subst hp
            replace h10 := Lib.hid h10
            go_wp2
            go_meet
            exact ⟨by simp, rfl⟩
        · have hdec : (r == 10) = false := beq_eq_false_iff_ne.2 h10
          go_wp2
          go_meet
          exact ⟨by rw [decide_eq_false h10]; rfl, rfl⟩
      case rest =>
      obtain ⟨rfl, rfl⟩ := hcut
      cases hskip : (decide (r = 10) && p) with
      | true =>
        have h10 := hskip
        rw [Bool.and_eq_true, decide_eq_true_eq] at h10
        have hpre3 : Hid (rightR false rs = pre ++ rightR (decide (r = 13)) (rs.drop (k + 1))) := Lib.hid (by rw [hpre.out, hrest2.out, rightR_cons, if_pos ⟨h10.1, h10.2⟩])
        clear h10
        go_wp2
        exact ⟨⟨k + 1, decide (r = 13), pre, rs.drop (k + 1), by omega, by simp, Lib.hid rfl, hpre3, hnext, Lib.hid (fun h => by cases h), by omega, hrow, hB⟩, by simp [Lib.intOf]; omega⟩
      | false =>
        have h10 : ¬ (r = 10 ∧ p = true) := by
          have := hskip
          simpa using this
        have hpre3 : Hid (rightR false rs = (pre ++ [fixR r]) ++ rightR (decide (r = 13)) (rs.drop (k + 1))) := Lib.hid (by rw [hpre.out, hrest2.out, rightR_cons, if_neg h10]; simp)
        clear h10
        obtain ⟨q, hq⟩ : ∃ q, fixR r = q := ⟨_, rfl⟩
        rw [hq] at hpre3
        replace hq := Lib.hid hq
        go_upto_region 12 with fail
        · have hv : q = 10 := by
            rename_i h2
            rw [← hq.out]
            rw [fixR, if_pos (by simpa using h2)]
          rw [hv] at hpre3
          clear hq hv
          go_wp2_with (at_builtin; refine wpList_append_own _ rfl _ _ 39 rfl w1.heap.size 21 i0 (.int .i32 0) 1 4 Tryd.underlying39 hi hz0 hz1 hz2 rfl (by decide) _ _ _ rfl (hrow.alloc _) ⟨_, 0, none⟩ 1 1 [r32 _] rfl rfl (cell_one_new _ _ _) (by simp [Value.oneCell']) (by unfold maxLen; omega) (by omega) (by have := hsz.out; simp; omega) ?_; intro v' w3 hown' hg3 hnil3; go_frame)
          refine ⟨⟨k + 1, decide (r = 13), pre ++ [10], rs.drop (k + 1), by omega, by simp, Lib.hid rfl, hpre3, hnext, Lib.hid (fun h => by cases h), by simp; omega, by simpa using hown', Lib.hid ?_⟩, by simp [Lib.intOf]; omega⟩
          exact (hB.out.alloc hsz.out _).grown hg3 (by have := hsz.out; simp; omega) (fun j hj => (hrow.lt j hj).1)
        · have hv : q = 65533 := by
            rename_i h1 h2
            rw [← hq.out]
            rw [fixR, if_neg (by simpa using h1), if_pos (by simpa using h2)]
          rw [hv] at hpre3
          clear hq hv
          go_wp2_with (at_builtin; refine wpList_append_own _ rfl _ _ 39 rfl w1.heap.size 21 i0 (.int .i32 0) 1 4 Tryd.underlying39 hi hz0 hz1 hz2 rfl (by decide) _ _ _ rfl (hrow.alloc _) ⟨_, 0, none⟩ 1 1 [r32 _] rfl rfl (cell_one_new _ _ _) (by simp [Value.oneCell']) (by unfold maxLen; omega) (by omega) (by have := hsz.out; simp; omega) ?_; intro v' w3 hown' hg3 hnil3; go_frame)
          refine ⟨⟨k + 1, decide (r = 13), pre ++ [65533], rs.drop (k + 1), by omega, by simp, Lib.hid rfl, hpre3, hnext, Lib.hid (fun h => by cases h), by simp; omega, by simpa using hown', Lib.hid ?_⟩, by simp [Lib.intOf]; omega⟩
          exact (hB.out.alloc hsz.out _).grown hg3 (by have := hsz.out; simp; omega) (fun j hj => (hrow.lt j hj).1)
        · have hv : q = r := by
            rename_i h1 h2
            rw [← hq.out]
            rw [fixR, if_neg (by simpa using h1), if_neg (by simpa using h2)]
          rw [hv] at hpre3
          clear hq hv
          go_wp2_with (at_builtin; refine wpList_append_own _ rfl _ _ 39 rfl w1.heap.size 21 i0 (.int .i32 0) 1 4 Tryd.underlying39 hi hz0 hz1 hz2 rfl (by decide) _ _ _ rfl (hrow.alloc _) ⟨_, 0, none⟩ 1 1 [r32 _] rfl rfl (cell_one_new _ _ _) (by simp [Value.oneCell']) (by unfold maxLen; omega) (by omega) (by have := hsz.out; simp; omega) ?_; intro v' w3 hown' hg3 hnil3; go_frame)
          refine ⟨⟨k + 1, decide (r = 13), pre ++ [r], rs.drop (k + 1), by omega, by simp, Lib.hid rfl, hpre3, hnext, Lib.hid (fun h => by cases h), by simp; omega, by simpa using hown', Lib.hid ?_⟩, by simp [Lib.intOf]; omega⟩
          exact (hB.out.alloc hsz.out _).grown hg3 (by have := hsz.out; simp; omega) (fun j hj => (hrow.lt j hj).1)
    · have hkn : k = N := by omega
      have e : rest = [] := by rw [hrest.out, hkn, ← hN.out, List.drop_length]
      have e2 : Hid (textL pre = res) := Lib.hid (by rw [← hres2.out, hpre.out, e]; simp [rightR])
      have e3 : ∀ r ∈ pre, -2147483648 ≤ r ∧ r ≤ 2147483647 := fun r hr => by
        have h1 := rightR_range false rs hrange.out r (by rw [hpre.out]; exact List.mem_append_left _ hr)
        omega
      have htext := text_any u4 pre w1.heap.size (by omega) e3 wr hrow
      subst hkn
      go_wp2_with (go_at_call 23; refine htext.mono ?_; rintro e w2 ⟨rfl, hB2⟩)
      go_ret
      exact ⟨by rw [← e2.out]; rfl, (hB1.trans (hB.out.mono hsz1.out)).trans (hB2.mono (Nat.le_trans hsz1.out hB.out.size))⟩
end Go.Proofs.YtghlodpbbghcoaaDoor
