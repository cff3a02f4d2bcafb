/- The document's names of elements, walked. -/
import Derived.Test.YtghlodpbbghcoaaDoorN4
import Derived.Test.YtghlodpbbghcoaaDoorSA
import Derived.Test.YtghlodpbbghcoaaDoorSC
import Derived.Deep.CutBlock
import Derived.Lib.ConvBytes
namespace Go.Proofs.YtghlodpbbghcoaaDoor
open Go.Lib Go.RowKit

set_option maxRecDepth 8192 in
theorem small3_any (c : UInt8) (w : World) : Calls Tryd.prog 92 #[.int .u8 c.toNat] w fun e w' => e = .returned (.bool (letterB c)) ∧ w' = w := by
  go_enter Tryd.func92, Tryd.ntmps92
  obtain ⟨r, hr⟩ : ∃ r, letterB c = r := ⟨_, rfl⟩
  have hr2 : Hid (r = decide (97 ≤ c.toNat ∧ c.toNat ≤ 122)) := Lib.hid hr.symm
  rw [hr]
  clear hr
  have hc := c.toNat_lt
  generalize c.toNat = n at *
  go_wp2
  all_goals go_ret
  all_goals refine ⟨?_, rfl⟩
  all_goals rw [hr2.out]
  all_goals exact congrArg (fun b => Ending.returned (Value.bool b)) (by rw [Bool.eq_iff_iff]; simp; omega)
theorem namedL_all (s : ByteArray) (h : 0 < s.size) : namedL s.data.toList = (letterB s[0] && s.data.toList.all nameB) := by
  obtain ⟨l, hl⟩ : ∃ l, s.data.toList = l := ⟨_, rfl⟩
  have h0 : s.data.toList[0]'(by simpa using h) = s[0] := rfl
  cases l with
  | nil => have : s.data.toList.length = s.size := by simp
           rw [hl] at this; simp at this; omega
  | cons c t =>
    have e : s[0] = c := by rw [← h0]; simp [hl]
    rw [hl, e, namedL, List.all_cons]
    cases hc : letterB c with
    | false => rfl
    | true => simp [nameB, hc]

set_option maxRecDepth 8192 in
set_option maxHeartbeats 3200000 in
theorem named3_any (s : ByteArray) (hs : s.size ≤ maxLen) (w : World) :
    Calls Tryd.prog 71 #[.string s] w fun e w' => e = .returned (.bool (namedL s.data.toList)) ∧ w' = w := by
  have hmax : s.size ≤ 9223372036854775807 := hs
  have hz : s.data.toList.length = s.size := by simp
  by_cases h0 : 0 < s.size
  · rw [namedL_all s h0]
    obtain ⟨c0, hc0⟩ : ∃ c, s[0] = c := ⟨_, rfl⟩
    obtain ⟨a, ha⟩ : ∃ a, s.data.toList.all nameB = a := ⟨_, rfl⟩
    rw [hc0, ha]
    have hsm := small3_any c0
    obtain ⟨r, hr⟩ : ∃ r, letterB c0 = r := ⟨_, rfl⟩
    rw [hr] at hsm ⊢
    have hall : Hid (a = true ↔ ∀ j (h : j < s.size), nameB s[j] = true) := Lib.hid (by
      rw [← ha, List.all_eq_true]
      constructor
      · exact fun h j hj => h _ (by rw [← data_get s j hj]; exact List.getElem_mem _)
      · intro h x hx
        obtain ⟨j, hj, rfl⟩ := List.getElem_of_mem hx
        exact h j (by rwa [hz] at hj))
    clear ha hr
    replace hz := Lib.hid hz
    go_enter Tryd.func71, Tryd.ntmps71
    go_upto_region 5 with (go_at_call 92; refine (hsm _).mono ?_; rintro e w1 ⟨rfl, rfl⟩)
    go_loop [4] (fun i => ∃ k : Nat, k ≤ s.size ∧ i = .int .i64 k ∧ Hid (∀ j (h : j < s.size), j < k → nameB s[j] = true)) (fun i => s.size - (Lib.intOf i).toNat)
    case atStart => exact ⟨0, Nat.zero_le _, rfl, Lib.hid (fun j _ h => absurd h (Nat.not_lt_zero _))⟩
    case round =>
      obtain ⟨k, hk, rfl, hok⟩ := hrel
      by_cases hlt : k < s.size
      · obtain ⟨cb, hcb⟩ : ∃ cb : UInt8, s[k] = cb := ⟨_, rfl⟩
        have hi0 : (0 : Int) ≤ (k : Int) := by omega
        have hi1 : (k : Int) < (s.size : Int) := by omega
        have hc256 := cb.toNat_lt
        have hsm2 := small3_any cb
        obtain ⟨ok, hok2⟩ : ∃ ok, nameB cb = ok := ⟨_, rfl⟩
        obtain ⟨le, hle⟩ : ∃ le, letterB cb = le := ⟨_, rfl⟩
        have hbad2 : Hid (ok = (le || decide (48 ≤ cb.toNat ∧ cb.toNat ≤ 57) || decide (cb.toNat = 45))) := Lib.hid (by rw [← hok2, nameB, hle])
        have hgood : Hid (ok = true → ∀ j (h : j < s.size), j < k + 1 → nameB s[j] = true) := Lib.hid (fun e j h hj => by
          by_cases e2 : j = k
          · subst e2; rw [hcb, hok2, e]
          · exact hok.out j h (by omega))
        have hno : Hid (ok = false → a = false) := Lib.hid (fun e => by
          refine Bool.eq_false_iff.2 (fun hr => ?_)
          have := hall.out.1 hr k hlt
          rw [hcb, hok2, e] at this
          cases this)
        rw [hle] at hsm2
        clear hok2 hle
        go_upto_region 8 with (go_at_call 92; refine (hsm2 _).mono ?_; rintro e w2 ⟨rfl, rfl⟩)
        clear hsm2 hsm
        cases le
        all_goals go_wp2
        all_goals first
          | (have e : ok = true := by rw [hbad2.out]; clear hgood hno hbad2 hok hz hall; generalize cb.toNat = c at *; simp at *; omega
             exact ⟨⟨k + 1, by omega, by simp <;> omega, Lib.hid (hgood.out e)⟩, by simp [Lib.intOf]; omega⟩)
          | (have e : ok = true := by rw [hbad2.out]; rfl
             exact ⟨⟨k + 1, by omega, by simp <;> omega, Lib.hid (hgood.out e)⟩, by simp [Lib.intOf]; omega⟩)
          | (have e : ok = false := by rw [hbad2.out]; clear hgood hno hbad2 hok hz hall; generalize cb.toNat = c at *; simp at *; omega
             have e2 := hno.out e
             subst e2
             go_ret
             exact ⟨by simp, rfl⟩)
      · have hkn : k = s.size := by omega
        have e : a = true := hall.out.2 (fun j h => hok.out j h (by omega))
        subst hkn
        subst e
        clear hall hok
        go_wp2
        go_ret
        exact ⟨rfl, rfl⟩
  · have h1 : s.data.toList = [] := List.eq_nil_of_length_eq_zero (by omega)
    have h2 : (s.size : Int) = 0 := by omega
    rw [h1]
    go_enter Tryd.func71, Tryd.ntmps71
    go_wp2
    go_ret
    exact ⟨rfl, rfl⟩
end Go.Proofs.YtghlodpbbghcoaaDoor

/- Bytes made right, walked. -/
namespace Go.Proofs.YtghlodpbbghcoaaDoor
open Go.Lib Go.RowKit

def fixR (r : Int) : Int := if r = 13 then 10 else if r = 0 then 65533 else r
theorem rightR_cons (p : Bool) (r : Int) (t : List Int) : rightR p (r :: t) = if r = 10 ∧ p = true then rightR (decide (r = 13)) t else fixR r :: rightR (decide (r = 13)) t := rfl
theorem runesG_range : ∀ (n : Nat) (l : List UInt8), ∀ r ∈ runesG n l, 0 ≤ r ∧ r ≤ 1114111
  | 0, _, r, h => by cases h
  | n + 1, l, r, h => by
    unfold runesG at h
    split at h
    · cases h
    · rcases List.mem_cons.1 h with rfl | h
      · have := decodeL_rune l
        omega
      · exact runesG_range n _ r h
theorem rightR_range : ∀ (p : Bool) (rs : List Int), (∀ r ∈ rs, 0 ≤ r ∧ r ≤ 1114111) → ∀ r ∈ rightR p rs, 0 ≤ r ∧ r ≤ 1114111
  | _, [], _, r, h => by cases h
  | p, a :: t, ha, r, h => by
    rw [rightR_cons] at h
    split at h
    · exact rightR_range _ t (fun x hx => ha x (List.mem_cons_of_mem _ hx)) r h
    · rcases List.mem_cons.1 h with rfl | h
      · have := ha a (by simp)
        unfold fixR
        split
        · omega
        · split <;> omega
      · exact rightR_range _ t (fun x hx => ha x (List.mem_cons_of_mem _ hx)) r h

set_option maxRecDepth 8192 in
set_option maxHeartbeats 6400000 in
theorem right_any (A : Option Addr) (n cap : Nat) (l : List UInt8) (hbig : n ≤ 1000000) (w : World) (hb : BytesV w A n cap l) :
    Calls Tryd.prog 7 #[.slice A n cap] w fun e w' => e = .returned (.string ⟨(rightL l).toArray⟩) ∧ Below w.heap.size w w' := by
  obtain ⟨i0, hi, hz0, hz1, hz2⟩ := info_parts info21
  have hlen := runesL_length l
  have hrange : Hid (∀ r ∈ runesL l, 0 ≤ r ∧ r ≤ 1114111) := Lib.hid (runesG_range _ l)
  have hnl := hb.len
  have hruns := runes_any A n cap l hbig w hb
  obtain ⟨res, hres⟩ : ∃ res, rightL l = res := ⟨_, rfl⟩
  rw [hres]
  obtain ⟨rs, hrs⟩ : ∃ rs, runesL l = rs := ⟨_, rfl⟩
  rw [hrs] at hlen hrange hruns
  have hres2 : Hid (textL (rightR false rs) = res) := Lib.hid (by rw [← hrs]; exact hres)
  obtain ⟨N, hN⟩ : ∃ N, rs.length = N := ⟨_, rfl⟩
  rw [hN] at hlen hruns
  have hNbig : N ≤ 1000000 := by omega
  replace hN := Lib.hid hN
  clear hres hrs hb hnl hlen hbig
  go_enter Tryd.func7, Tryd.ntmps7
  go_wp2_with (go_at_call 22; refine hruns.mono ?_; rintro e w1 ⟨v1, rfl, hrow1, hB1⟩; obtain ⟨A1, cap1, rfl, hcap1, hc1⟩ := own_cell hrow1)
  have hsz1 := Lib.hid hB1.size
  replace hc1 := Lib.hid hc1
  clear hrow1 hruns
  go_loopw [4, 5] (fun v x5 wr => ∃ (k : Nat) (p : Bool) (pre rest : List Int), k ≤ N ∧ x5 = .int .i64 k ∧ Hid (rest = rs.drop k) ∧ Hid (rightR false rs = pre ++ rightR p rest) ∧ Hid (∀ m, k = m + 1 → ∃ r, rs[m]? = some r ∧ p = decide (r = 13)) ∧ Hid (k = 0 → p = false) ∧ pre.length ≤ k ∧
      wr.ownsRow w1.heap.size 21 1 v pre.length (pre.map r32) ∧ Hid (Below w1.heap.size w1 wr)) (fun _ x5 _ => N - (Lib.intOf x5).toNat)
  case atStart => exact ⟨0, false, [], rs, Nat.zero_le _, rfl, Lib.hid rfl, Lib.hid rfl, Lib.hid (fun m h => by cases h), Lib.hid (fun _ => rfl), Nat.le_refl _, World.ownsRow_nil _ _ _ _, Lib.hid (Below.refl _ _)⟩
  case round =>
    obtain ⟨k, p, pre, rest, hk, rfl, hrest, hpre, hprev, hp0, hpk, hrow, hB⟩ := hrel
    by_cases hlt : k < N
    · obtain ⟨b, rfl, hbl, _, hcell⟩ := hc1.out k hlt
      obtain ⟨r, hr⟩ : ∃ r, rs[k]? = some r := ⟨rs[k]'(by rw [hN.out]; exact hlt), List.getElem?_eq_getElem _⟩
      have hrr := hrange.out r (List.mem_of_getElem? hr)
      have hck : wr.cell? ⟨b, k, none⟩ = some (.int .i32 r) := by rw [hB.out.cell (p := ⟨b, k, none⟩) hbl, hcell, List.getElem?_map, hr]; rfl
      have hrest2 : Hid (rest = r :: rs.drop (k + 1)) := Lib.hid (by
        rw [hrest.out]
        obtain ⟨hk', e⟩ := List.getElem?_eq_some_iff.1 hr
        rw [← e, ← List.drop_eq_getElem_cons])
      have hsz := Lib.hid hB.out.size
      have hnext : Hid (∀ m, k + 1 = m + 1 → ∃ r', rs[m]? = some r' ∧ decide (r = 13) = decide (r' = 13)) := Lib.hid (fun m h => ⟨r, by rw [show m = k by omega]; exact hr, rfl⟩)
      clear hcell
      obtain ⟨hr0, hr9⟩ := hrr
      go_upto_region 7 with fail
      go_cut [32] (fun x wx => x = .bool (decide (r = 10) && p) ∧ wx = wr)
      case first =>
        by_cases h10 : r = 10
        · have hdec : (r == 10) = true := by rw [h10]; rfl
          by_cases hk0 : 0 < k
          · obtain ⟨r', hr', hp⟩ := hprev.out (k - 1) (by omega)
            have hcm : wr.cell? ⟨b, k - 1, none⟩ = some (.int .i32 r') := by
              obtain ⟨b', hb', _, _, hcell'⟩ := hc1.out (k - 1) (by omega)
              simp only [Option.some.injEq, Addr.mk.injEq, and_true] at hb'
              subst hb'
              rw [hB.out.cell (p := ⟨b, k - 1, none⟩) hbl, hcell', List.getElem?_map, hr']
              rfl
            have hdp : (r' == 13) = p := by rw [hp]; rfl
            replace h10 := Lib.hid h10
            clear hp hprev hp0
            go_wp2
            go_meet
            exact ⟨by rw [decide_eq_true h10.out]; rfl, rfl⟩
          · have hp := hp0.out (by omega)
            subst hp
            replace h10 := Lib.hid h10
            go_wp2
            go_meet
            exact ⟨by simp, rfl⟩
        · have hdec : (r == 10) = false := beq_eq_false_iff_ne.2 h10
          go_wp2
          go_meet
          exact ⟨by rw [decide_eq_false h10]; rfl, rfl⟩
      case rest =>
      obtain ⟨rfl, rfl⟩ := hcut
      cases hskip : (decide (r = 10) && p) with
      | true =>
        have h10 := hskip
        rw [Bool.and_eq_true, decide_eq_true_eq] at h10
        have hpre3 : Hid (rightR false rs = pre ++ rightR (decide (r = 13)) (rs.drop (k + 1))) := Lib.hid (by rw [hpre.out, hrest2.out, rightR_cons, if_pos ⟨h10.1, h10.2⟩])
        clear h10
        go_wp2
        exact ⟨⟨k + 1, decide (r = 13), pre, rs.drop (k + 1), by omega, by simp, Lib.hid rfl, hpre3, hnext, Lib.hid (fun h => by cases h), by omega, hrow, hB⟩, by simp [Lib.intOf]; omega⟩
      | false =>
        have h10 : ¬ (r = 10 ∧ p = true) := by
          have := hskip
          simpa using this
        have hpre3 : Hid (rightR false rs = (pre ++ [fixR r]) ++ rightR (decide (r = 13)) (rs.drop (k + 1))) := Lib.hid (by rw [hpre.out, hrest2.out, rightR_cons, if_neg h10]; simp)
        clear h10
        obtain ⟨q, hq⟩ : ∃ q, fixR r = q := ⟨_, rfl⟩
        rw [hq] at hpre3
        replace hq := Lib.hid hq
        go_upto_region 12 with fail
        · have hv : q = 10 := by
            rename_i h2
            rw [← hq.out]
            rw [fixR, if_pos (by simpa using h2)]
          rw [hv] at hpre3
          clear hq hv
          go_wp2_with (at_builtin; refine wpList_append_own _ rfl _ _ 39 rfl w1.heap.size 21 i0 (.int .i32 0) 1 4 Tryd.underlying39 hi hz0 hz1 hz2 rfl (by decide) _ _ _ rfl (hrow.alloc _) ⟨_, 0, none⟩ 1 1 [r32 _] rfl rfl (cell_one_new _ _ _) (by simp [Value.oneCell']) (by unfold maxLen; omega) (by omega) (by have := hsz.out; simp; omega) ?_; intro v' w3 hown' hg3 hnil3; go_frame)
          refine ⟨⟨k + 1, decide (r = 13), pre ++ [10], rs.drop (k + 1), by omega, by simp, Lib.hid rfl, hpre3, hnext, Lib.hid (fun h => by cases h), by simp; omega, by simpa using hown', Lib.hid ?_⟩, by simp [Lib.intOf]; omega⟩
          exact (hB.out.alloc hsz.out _).grown hg3 (by have := hsz.out; simp; omega) (fun j hj => (hrow.lt j hj).1)
        · have hv : q = 65533 := by
            rename_i h1 h2
            rw [← hq.out]
            rw [fixR, if_neg (by simpa using h1), if_pos (by simpa using h2)]
          rw [hv] at hpre3
          clear hq hv
          go_wp2_with (at_builtin; refine wpList_append_own _ rfl _ _ 39 rfl w1.heap.size 21 i0 (.int .i32 0) 1 4 Tryd.underlying39 hi hz0 hz1 hz2 rfl (by decide) _ _ _ rfl (hrow.alloc _) ⟨_, 0, none⟩ 1 1 [r32 _] rfl rfl (cell_one_new _ _ _) (by simp [Value.oneCell']) (by unfold maxLen; omega) (by omega) (by have := hsz.out; simp; omega) ?_; intro v' w3 hown' hg3 hnil3; go_frame)
          refine ⟨⟨k + 1, decide (r = 13), pre ++ [65533], rs.drop (k + 1), by omega, by simp, Lib.hid rfl, hpre3, hnext, Lib.hid (fun h => by cases h), by simp; omega, by simpa using hown', Lib.hid ?_⟩, by simp [Lib.intOf]; omega⟩
          exact (hB.out.alloc hsz.out _).grown hg3 (by have := hsz.out; simp; omega) (fun j hj => (hrow.lt j hj).1)
        · have hv : q = r := by
            rename_i h1 h2
            rw [← hq.out]
            rw [fixR, if_neg (by simpa using h1), if_neg (by simpa using h2)]
          rw [hv] at hpre3
          clear hq hv
          go_wp2_with (at_builtin; refine wpList_append_own _ rfl _ _ 39 rfl w1.heap.size 21 i0 (.int .i32 0) 1 4 Tryd.underlying39 hi hz0 hz1 hz2 rfl (by decide) _ _ _ rfl (hrow.alloc _) ⟨_, 0, none⟩ 1 1 [r32 _] rfl rfl (cell_one_new _ _ _) (by simp [Value.oneCell']) (by unfold maxLen; omega) (by omega) (by have := hsz.out; simp; omega) ?_; intro v' w3 hown' hg3 hnil3; go_frame)
          refine ⟨⟨k + 1, decide (r = 13), pre ++ [r], rs.drop (k + 1), by omega, by simp, Lib.hid rfl, hpre3, hnext, Lib.hid (fun h => by cases h), by simp; omega, by simpa using hown', Lib.hid ?_⟩, by simp [Lib.intOf]; omega⟩
          exact (hB.out.alloc hsz.out _).grown hg3 (by have := hsz.out; simp; omega) (fun j hj => (hrow.lt j hj).1)
    · have hkn : k = N := by omega
      have e : rest = [] := by rw [hrest.out, hkn, ← hN.out, List.drop_length]
      have e2 : Hid (textL pre = res) := Lib.hid (by rw [← hres2.out, hpre.out, e]; simp [rightR])
      have e3 : ∀ r ∈ pre, -2147483648 ≤ r ∧ r ≤ 2147483647 := fun r hr => by
        have h1 := rightR_range false rs hrange.out r (by rw [hpre.out]; exact List.mem_append_left _ hr)
        omega
      have htext := text_any u4 pre w1.heap.size (by omega) e3 wr hrow
      subst hkn
      go_wp2_with (go_at_call 23; refine htext.mono ?_; rintro e w2 ⟨rfl, hB2⟩)
      go_ret
      exact ⟨by rw [← e2.out]; rfl, (hB1.trans (hB.out.mono hsz1.out)).trans (hB2.mono (Nat.le_trans hsz1.out hB.out.size))⟩
end Go.Proofs.YtghlodpbbghcoaaDoor

/- The document's right text, walked. -/
namespace Go.Proofs.YtghlodpbbghcoaaDoor
open Go.Lib Go.RowKit

theorem bytesV_of (w : World) (s : ByteArray) : BytesV (bytesWorld w 5 s) (some ⟨w.heap.size, 0, none⟩) s.size (grownCap w s.size 0 5) s.data.toList :=
  ⟨(Array.length_toList).symm, grownCap_ge w s.size 0 5, fun _ => ⟨_, _, rfl, by rw [bytesWorld_size]; omega, fun j hj => by rw [Nat.zero_add]; exact bytesWorld_cell w 5 s j (by rwa [Array.length_toList] at hj)⟩⟩
theorem below_bytes (w : World) (s : ByteArray) : Below w.heap.size w (bytesWorld w 5 s) :=
  ⟨rfl, rfl, rfl, by rw [bytesWorld_size]; omega, fun k hk => bytesWorld_at_old w 5 s k hk⟩

set_option maxRecDepth 8192 in
set_option maxHeartbeats 1600000 in
theorem is3_any (s : ByteArray) (hs : s.size ≤ 1000000) (w : World) :
    Calls Tryd.prog 74 #[.string s] w fun e w' => e = .returned (.bool (isL s.data.toList)) ∧ Below w.heap.size w w' := by
  have hconv := Lib.run_convert_string_bytes (P := Tryd.prog) w 9 25 5 s Tryd.underlying9 Tryd.underlying25 Tryd.underlying5
  have hright := right_any (some ⟨w.heap.size, 0, none⟩) s.size (grownCap w s.size 0 5) s.data.toList hs _ (bytesV_of w s)
  obtain ⟨W, hW⟩ : ∃ W, bytesWorld w 5 s = W := ⟨_, rfl⟩
  have hBW : Hid (Below w.heap.size w W) := Lib.hid (by rw [← hW]; exact below_bytes w s)
  rw [hW] at hconv hright
  clear hW
  obtain ⟨t, ht⟩ : ∃ t : ByteArray, (⟨(rightL s.data.toList).toArray⟩ : ByteArray) = t := ⟨_, rfl⟩
  have hts : Hid (isL s.data.toList = (t.toList == s.toList)) := Lib.hid (by rw [← ht, ByteArray.toList_mk, ByteArray.toList_eq, isL_iff])
  rw [ht] at hright
  clear ht
  obtain ⟨gc, hgc⟩ : ∃ gc, grownCap w s.size 0 5 = gc := ⟨_, rfl⟩
  rw [hgc] at hconv hright
  clear hgc
  go_enter Tryd.func74, Tryd.ntmps74
  go_wp2_with (go_at_call 7; refine hright.mono ?_; rintro e w2 ⟨rfl, hB2⟩)
  go_ret
  exact ⟨by rw [hts.out]; rfl, hBW.out.trans (hB2.mono hBW.out.size)⟩
end Go.Proofs.YtghlodpbbghcoaaDoor

/- The document's names of attributes, walked. -/
namespace Go.Proofs.YtghlodpbbghcoaaDoor
open Go.Lib Go.RowKit

set_option maxRecDepth 8192 in
set_option maxHeartbeats 6400000 in
theorem attributed3_any (s : ByteArray) (hs : s.size ≤ 1000000) (w : World) :
    Calls Tryd.prog 72 #[.string s] w fun e w' => e = .returned (.bool (attrL s.data.toList)) ∧ Below w.heap.size w w' := by
  have his := is3_any s hs w
  obtain ⟨I, hI⟩ : ∃ I, isL s.data.toList = I := ⟨_, rfl⟩
  obtain ⟨a, ha⟩ : ∃ a, s.data.toList.all attrB = a := ⟨_, rfl⟩
  obtain ⟨r, hr⟩ : ∃ r, attrL s.data.toList = r := ⟨_, rfl⟩
  have hr2 : Hid (r = (a && (!s.toList.isEmpty && I))) := Lib.hid (by rw [← hr, attrL, ha, hI, ByteArray.toList_eq])
  rw [hI] at his
  rw [hr]
  have hz : s.data.toList.length = s.size := by simp
  have hafalse : Hid (∀ j (h : j < s.size), attrB s[j] = false → r = false) := Lib.hid (fun j h e => by
    have : a = false := by
      rw [← ha, List.all_eq_false]
      exact ⟨_, List.getElem_mem (show j < s.data.toList.length by rw [hz]; exact h), by rw [data_get s j h, e]; simp⟩
    rw [hr2.out, this]; rfl)
  have hatrue : Hid ((∀ j (h : j < s.size), attrB s[j] = true) → a = true) := Lib.hid (fun h => by
    rw [← ha]
    refine List.all_eq_true.2 (fun x hx => ?_)
    obtain ⟨j, hj, rfl⟩ := List.getElem_of_mem hx
    exact h j (by rw [hz] at hj; exact hj))
  have hem : Hid ((!s.toList.isEmpty) = decide (0 < s.size)) := Lib.hid (by
    rw [ByteArray.toList_eq, Bool.eq_iff_iff, Bool.not_eq_true', List.isEmpty_eq_false_iff, ← List.length_pos_iff, hz, decide_eq_true_eq])
  have hmax : s.size ≤ 9223372036854775807 := by omega
  clear ha hr hI hz
  go_enter Tryd.func72, Tryd.ntmps72
  go_upto_region 3 with (go_at_call 74; refine his.mono ?_; rintro e w1 ⟨rfl, hB⟩)
  replace hB := Lib.hid hB
  go_loop [4] (fun i => ∃ k : Nat, k ≤ s.size ∧ i = .int .i64 k ∧ Hid (∀ j (h : j < s.size), j < k → attrB s[j] = true)) (fun i => s.size - (Lib.intOf i).toNat)
  case atStart => exact ⟨0, Nat.zero_le _, rfl, Lib.hid (fun j _ h => absurd h (Nat.not_lt_zero _))⟩
  case round =>
    obtain ⟨k, hk, rfl, hok⟩ := hrel
    by_cases hlt : k < s.size
    · obtain ⟨cb, hcb⟩ : ∃ cb : UInt8, s[k] = cb := ⟨_, rfl⟩
      have hi0 : (0 : Int) ≤ (k : Int) := by omega
      have hi1 : (k : Int) < (s.size : Int) := by omega
      have hc256 := cb.toNat_lt
      obtain ⟨ok, hbad⟩ : ∃ ok, attrB cb = ok := ⟨_, rfl⟩
      have hbad2 : Hid (ok = !(decide (65 ≤ cb.toNat ∧ cb.toNat ≤ 90) || decide (cb.toNat = 9) || decide (cb.toNat = 10) || decide (cb.toNat = 12) || decide (cb.toNat = 32) || decide (cb.toNat = 47) || decide (cb.toNat = 62) || decide (cb.toNat = 61))) := Lib.hid hbad.symm
      have hgood : Hid (ok = true → ∀ j (h : j < s.size), j < k + 1 → attrB s[j] = true) := Lib.hid (fun e j h hj => by
        by_cases e2 : j = k
        · subst e2; rw [hcb, hbad, e]
        · exact hok.out j h (by omega))
      have hno : Hid (ok = false → r = false) := Lib.hid (fun e => hafalse.out k hlt (by rw [hcb, hbad, e]))
      clear hbad hafalse hatrue hr2 his hem
      go_upto_region 6 with fail
      generalize cb.toNat = c at *
      go_wp2
      all_goals first
        | (have e : ok = true := by rw [hbad2.out]; clear hgood hno hbad2 hok hB; simp at *; omega
           exact ⟨⟨k + 1, by omega, by simp <;> omega, Lib.hid (hgood.out e)⟩, by simp [Lib.intOf]; omega⟩)
        | (have e : ok = false := by rw [hbad2.out]; clear hgood hno hbad2 hok hB; simp at *; omega
           have e2 := hno.out e
           subst e2
           go_ret
           exact ⟨rfl, hB.out⟩)
    · have hkn : k = s.size := by omega
      have e : a = true := hatrue.out (fun j h => hok.out j h (by omega))
      have hr3 : Hid (r = (decide (0 < s.size) && I)) := Lib.hid (by rw [hr2.out, e, Bool.true_and, hem.out])
      subst hkn
      clear hok hatrue hafalse hr2 hem e his
      cases I
      all_goals go_wp2
      all_goals go_ret
      all_goals refine ⟨?_, hB.out⟩
      all_goals rw [hr3.out]
      · rw [Bool.and_false]; rfl
      · refine congrArg (fun b => Ending.returned (Value.bool b)) ?_
        rw [Bool.and_true, Bool.eq_iff_iff]
end Go.Proofs.YtghlodpbbghcoaaDoor

/- Of a text an element's name, an attribute's name: walked. -/
namespace Go.Proofs.YtghlodpbbghcoaaDoor
open Go.Lib Go.RowKit

def wordsL : List ByteArray := [⟨#[97]⟩, ⟨#[98]⟩, ⟨#[112]⟩, ⟨#[117, 108]⟩, ⟨#[108, 105]⟩, ⟨#[98, 114]⟩, ⟨#[105, 109, 103]⟩, ⟨#[100, 105, 118]⟩, ⟨#[115, 99, 114, 105, 112, 116]⟩, ⟨#[120, 45, 121]⟩]
def attrsL : List ByteArray := [⟨#[105, 100]⟩, ⟨#[104, 114, 101, 102]⟩, ⟨#[116, 105, 116, 108, 101]⟩, ⟨#[100, 97, 116, 97, 45, 97]⟩, ⟨#[111, 110, 99, 108, 105, 99, 107]⟩]
theorem wordsL_small : ∀ j, (wordsL.getD j ByteArray.empty).size ≤ 10 := by
  intro j
  rcases j with _ | _ | _ | _ | _ | _ | _ | _ | _ | _ | j <;> first | decide | exact Nat.zero_le _
theorem attrsL_small : ∀ j, (attrsL.getD j ByteArray.empty).size ≤ 10 := by
  intro j
  rcases j with _ | _ | _ | _ | _ | j <;> first | decide | exact Nat.zero_le _
theorem wordsL_cell (w : World) (j : Nat) (hj : j < 10) : (w.alloc (.cells #[.string ⟨#[97]⟩, .string ⟨#[98]⟩, .string ⟨#[112]⟩, .string ⟨#[117, 108]⟩, .string ⟨#[108, 105]⟩, .string ⟨#[98, 114]⟩, .string ⟨#[105, 109, 103]⟩, .string ⟨#[100, 105, 118]⟩, .string ⟨#[115, 99, 114, 105, 112, 116]⟩, .string ⟨#[120, 45, 121]⟩] 9)).cell? ⟨w.heap.size, j, none⟩ = some (.string (wordsL.getD j ByteArray.empty)) := by
  rw [World.cell?_alloc_new]
  rcases j with _ | _ | _ | _ | _ | _ | _ | _ | _ | _ | j <;> first | rfl | omega
theorem attrsL_cell (w : World) (j : Nat) (hj : j < 5) : (w.alloc (.cells #[.string ⟨#[105, 100]⟩, .string ⟨#[104, 114, 101, 102]⟩, .string ⟨#[116, 105, 116, 108, 101]⟩, .string ⟨#[100, 97, 116, 97, 45, 97]⟩, .string ⟨#[111, 110, 99, 108, 105, 99, 107]⟩] 9)).cell? ⟨w.heap.size, j, none⟩ = some (.string (attrsL.getD j ByteArray.empty)) := by
  rw [World.cell?_alloc_new]
  rcases j with _ | _ | _ | _ | _ | j <;> first | rfl | omega

set_option maxRecDepth 8192 in
set_option maxHeartbeats 3200000 in
theorem attribute_any (s : ByteArray) (hs : s.size ≤ 1000000) (w : World) :
    Calls Tryd.prog 51 #[.string s] w fun e w' => (∃ t : ByteArray, e = .returned (.string t) ∧ t.size ≤ s.size + 10) ∧ Below w.heap.size w w' := by
  have hat := attributed3_any s hs w
  obtain ⟨a, ha⟩ : ∃ a, attrL s.data.toList = a := ⟨_, rfl⟩
  rw [ha] at hat
  clear ha
  have hmax : s.size ≤ 9223372036854775807 := by omega
  obtain ⟨m, hm⟩ : ∃ m, s.size % 5 = m := ⟨_, rfl⟩
  have hm5 : m < 5 := by omega
  have hm2 : (s.size : Int).tmod 5 = (m : Int) := by rw [Int.tmod_eq_emod_of_nonneg (by omega)]; omega
  cases a
  · go_enter Tryd.func51, Tryd.ntmps51
    go_wp2_with (go_at_call 72; refine hat.mono ?_; rintro e w1 ⟨rfl, hB⟩; have hcell := attrsL_cell w1 m hm5)
    go_ret
    exact ⟨⟨attrsL.getD m ByteArray.empty, by rw [List.getD_eq_getElem?_getD]; rfl, by have := attrsL_small m; omega⟩, hB.alloc hB.size _⟩
  · go_enter Tryd.func51, Tryd.ntmps51
    go_wp2_with (go_at_call 72; refine hat.mono ?_; rintro e w1 ⟨rfl, hB⟩)
    go_ret
    exact ⟨⟨s, rfl, by omega⟩, hB⟩

set_option maxRecDepth 8192 in
set_option maxHeartbeats 3200000 in
theorem word_any (s : ByteArray) (hs : s.size ≤ 1000000) (w : World) :
    Calls Tryd.prog 50 #[.string s] w fun e w' => (∃ t : ByteArray, e = .returned (.string t) ∧ t.size ≤ s.size + 10) ∧ Below w.heap.size w w' := by
  have hat := named3_any s (Nat.le_trans hs (by unfold maxLen; decide))
  obtain ⟨a, ha⟩ : ∃ a, namedL s.data.toList = a := ⟨_, rfl⟩
  rw [ha] at hat
  clear ha
  have hmax : s.size ≤ 9223372036854775807 := by omega
  have hcell := wordsL_cell w
  go_enter Tryd.func50, Tryd.ntmps50
  go_upto_region 4 with fail
  obtain ⟨W, hW⟩ : ∃ W, w.alloc (.cells #[.string ⟨#[97]⟩, .string ⟨#[98]⟩, .string ⟨#[112]⟩, .string ⟨#[117, 108]⟩, .string ⟨#[108, 105]⟩, .string ⟨#[98, 114]⟩, .string ⟨#[105, 109, 103]⟩, .string ⟨#[100, 105, 118]⟩, .string ⟨#[115, 99, 114, 105, 112, 116]⟩, .string ⟨#[120, 45, 121]⟩] 9) = W := ⟨_, rfl⟩
  have hB : Hid (Below w.heap.size w W) := Lib.hid (by rw [← hW]; exact (Below.refl _ w).alloc (Nat.le_refl _) _)
  have hWs : Hid (w.heap.size < W.heap.size) := Lib.hid (by rw [← hW]; simp)
  rw [hW] at hcell ⊢
  replace hcell := Lib.hid hcell
  clear hW
  go_loop [4, 5] (fun n i => ∃ k m : Nat, k ≤ s.size ∧ i = .int .i64 k ∧ n = .int .i64 m ∧ m ≤ 255 * k) (fun _ i => s.size - (Lib.intOf i).toNat)
  case atStart => exact ⟨0, 0, Nat.zero_le _, rfl, rfl, Nat.zero_le _⟩
  case round =>
    obtain ⟨k, m, hk, rfl, rfl, hm⟩ := hrel
    by_cases hlt : k < s.size
    · obtain ⟨cb, hcb⟩ : ∃ cb : UInt8, s[k] = cb := ⟨_, rfl⟩
      have hi0 : (0 : Int) ≤ (k : Int) := by omega
      have hi1 : (k : Int) < (s.size : Int) := by omega
      have hc256 := cb.toNat_lt
      have hc2 : (cb.toNat : Int) ≤ 255 := by omega
      go_wp2
      refine ⟨⟨k + 1, m + cb.toNat, by omega, by simp, by simp, by omega⟩, by simp [Lib.intOf]; omega⟩
    · obtain ⟨q, hq⟩ : ∃ q, m % 10 = q := ⟨_, rfl⟩
      have hq10 : q < 10 := by omega
      have hq2 : (m : Int).tmod 10 = (q : Int) := by rw [Int.tmod_eq_emod_of_nonneg (by omega)]; omega
      have hc := hcell.out q hq10
      have hkn : k = s.size := by omega
      subst hkn
      cases a
      · go_wp2_with (go_at_call 71; refine (hat _).mono ?_; rintro e w1 ⟨rfl, rfl⟩)
        go_ret
        exact ⟨⟨wordsL.getD q ByteArray.empty, by rw [List.getD_eq_getElem?_getD]; rfl, by have := wordsL_small q; omega⟩, hB.out⟩
      · go_wp2_with (go_at_call 71; refine (hat _).mono ?_; rintro e w1 ⟨rfl, rfl⟩)
        go_ret
        exact ⟨⟨s, rfl, by omega⟩, hB.out⟩
end Go.Proofs.YtghlodpbbghcoaaDoor

/- An attribute's value looked for: walked (what it tells is not said). -/
namespace Go.Proofs.YtghlodpbbghcoaaDoor
open Go.Lib Go.RowKit

/-- A text, and whether. -/
def ValPost (w : World) (e : Ending) (w' : World) : Prop := (∃ (t : ByteArray) (b : Bool), e = .returned (.tuple #[.string t, .bool b])) ∧ Below w.heap.size w w'

set_option maxRecDepth 8192 in
set_option maxHeartbeats 3200000 in
theorem value_safe (k : Int) (nm tx a : ByteArray) (va vk : Value) (al : List (ByteArray × ByteArray)) (w : World) (hr : ARow w (fun b => b < w.heap.size) va al) (hl : al.length ≤ 1000000) :
    Calls Tryd.prog 52 #[.agg #[.int .i64 k, .string nm, va, .string tx, vk], .string a] w (ValPost w) := by
  obtain ⟨A, cap, rfl, hc, hat⟩ := hr
  obtain ⟨n, hn⟩ : ∃ n, al.length = n := ⟨_, rfl⟩
  rw [hn] at hc hl ⊢
  replace hn := Lib.hid hn
  replace hat := Lib.hid hat
  go_enter Tryd.func52, Tryd.ntmps52
  go_upto_region 2 with fail
  obtain ⟨W, hW⟩ : ∃ W, w.alloc (.cells #[.int .i64 k, .string nm, .slice A n cap, .string tx, vk] 28) = W := ⟨_, rfl⟩
  have hB : Hid (Below w.heap.size w W) := Lib.hid (by rw [← hW]; exact (Below.refl _ w).alloc (Nat.le_refl _) _)
  have hc2 : W.cell? ⟨w.heap.size, 2, none⟩ = some (.slice A n cap) := by rw [← hW, World.cell?_alloc_new]; rfl
  rw [hW]
  clear hW
  go_loop [6] (fun i => ∃ k : Nat, k ≤ n ∧ i = .int .i64 k) (fun i => n - (Lib.intOf i).toNat)
  case atStart => exact ⟨0, Nat.zero_le _, rfl⟩
  case round =>
    obtain ⟨j, hj, rfl⟩ := hrel
    by_cases hlt : j < n
    · obtain ⟨b, o, rfl, hb, h0, h1⟩ := hat.out j (by rw [hn.out]; exact hlt)
      have hi0 : (0 : Int) ≤ (j : Int) := by omega
      have hi1 : (j : Int) < (n : Int) := by omega
      obtain ⟨s0, hs0⟩ : ∃ s, (al[j]'(by rw [hn.out]; exact hlt)).1 = s := ⟨_, rfl⟩
      obtain ⟨s1, hs1⟩ : ∃ s, (al[j]'(by rw [hn.out]; exact hlt)).2 = s := ⟨_, rfl⟩
      rw [hs0] at h0
      rw [hs1] at h1
      have g0 : W.cell? ⟨b, o + j * 2, none⟩ = some (.string s0) := (hB.out.cell (p := ⟨b, o + j * 2, none⟩) hb).trans h0
      have g1 : W.cell? ⟨b, o + j * 2 + 1, none⟩ = some (.string s1) := (hB.out.cell (p := ⟨b, o + j * 2 + 1, none⟩) hb).trans h1
      clear hs0 hs1 h0 h1
      go_wp2
      all_goals first
        | (go_ret2
           exact ⟨⟨s1, true, rfl⟩, hB.out⟩)
        | exact ⟨⟨j + 1, by omega, by simp⟩, by simp [Lib.intOf]; omega⟩
    · have hkn : j = n := by omega
      subst hkn
      go_wp2
      go_ret2
      exact ⟨⟨⟨#[]⟩, false, rfl⟩, hB.out⟩
end Go.Proofs.YtghlodpbbghcoaaDoor
