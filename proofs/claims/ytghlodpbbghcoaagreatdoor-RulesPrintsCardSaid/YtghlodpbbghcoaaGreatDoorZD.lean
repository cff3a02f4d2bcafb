/- The document's void and raw elements: walked. -/
import Derived.Test.YtghlodpbbghcoaaGreatDoorC6
import Derived.Test.YtghlodpbbghcoaaGreatDoorCA
import Derived.Deep.DeepCutAuto
import Derived.Deep.CutBlock
import Derived.Test.YtghlodpbbghcoaaGreatDoorC5
import Derived.Test.YtghlodpbbghcoaaGreatDoorZC
import Derived.StillTailTactics
namespace Go.Proofs.YtghlodpbbghcoaaGreatDoor
open Go.Lib Go.RowKit
set_option maxHeartbeats 800000 in
theorem raw76_any (s : ByteArray) (w : World) : Calls Tryz.prog 84 #[.string s] w fun e w' => e = .returned (.bool (rawB s)) ∧ w' = w := by
  go_enter Tryz.func84, Tryz.ntmps84
  go_wp2
  all_goals go_ret
  all_goals refine ⟨congrArg (fun b => Ending.returned (Value.bool b)) ?_, rfl⟩
  all_goals simp [rawB, *]
set_option maxHeartbeats 1600000 in
theorem void75_any (s : ByteArray) (w : World) : Calls Tryz.prog 83 #[.string s] w fun e w' => e = .returned (.bool (voidB s)) ∧ w' = w := by
  go_enter Tryz.func83, Tryz.ntmps83
  go_wp2
  all_goals go_ret
  all_goals refine ⟨congrArg (fun b => Ending.returned (Value.bool b)) ?_, rfl⟩
  all_goals simp_all [voidB]
end Go.Proofs.YtghlodpbbghcoaaGreatDoor

/- The document's Closes, walked (M9's text without the words of ModelCloses). -/
namespace Go.Proofs.YtghlodpbbghcoaaGreatDoor
open Go.RowKit

theorem textRow_new (w : World) (cs : Array Value) (zs : List ByteArray) (n : Nat) (hn : zs.length = n := by rfl) (hc : cs.toList = zs.map Value.string := by rfl) :
    TextRow (w.alloc (.cells cs 9)) (.slice (some ⟨w.heap.size, 0, none⟩) n n) zs := by
  subst hn
  refine Or.inr ⟨w.heap.size, rfl, fun j hj => ?_⟩
  rw [Nat.zero_add, World.cell?_alloc_new, ← Array.getElem?_toList, hc, List.getElem?_map, List.getElem?_eq_getElem hj, List.getD_eq_getElem?_getD, List.getElem?_eq_getElem hj]
  rfl
theorem not_of_beq {a b : List UInt8} (h : (a == b) = false) : a ≠ b := by simpa using h
theorem of_beq {a b : List UInt8} (h : (a == b) = true) : a = b := by simpa using h

set_option maxRecDepth 8192 in
set_option maxHeartbeats 3200000 in
theorem refCloses_any (o x : ByteArray) (w : World) :
    Calls Tryz.prog 85 #[.string o, .string x] w fun e w' => e = .returned (.bool (Lib.containsS (closersOf o.data.toList) x)) ∧ Below w.heap.size w w' := by
  have ho : o.data.toList = o.toList := (ByteArray.toList_eq o).symm
  rw [ho]
  clear ho
  obtain ⟨zs, hzs⟩ : ∃ zs, closersOf o.toList = zs := ⟨_, rfl⟩
  have hfew := closersOf_few o.toList
  rw [hzs] at hfew ⊢
  replace hzs := Lib.hid hzs
  go_enter Tryz.func85, Tryz.ntmps85
  go_upto_block 0 with fail
  go_cut [5] (fun v wx => TextRow wx v zs ∧ Below w.heap.size w wx)
  case first =>
    go_wp2
    all_goals go_meet
    all_goals rw [← hzs.out]
    all_goals (first
      | (exfalso; simp_all; done)
      | (rename_i h; have e := of_beq h; refine ⟨?_, (Below.refl _ w).alloc (Nat.le_refl _) _⟩; rw [e]; exact textRow_new w _ _ _)
      | (refine ⟨Or.inl ⟨rfl, ?_⟩, Below.refl _ _⟩; simp_all [closersOf]; done)
      | skip)
  case rest =>
  obtain ⟨hrow, hB⟩ := hcut
  clear hzs
  obtain ⟨A, hv, hc⟩ : ∃ A : Option Addr, u5 = .slice A zs.length zs.length ∧ ∀ j, j < zs.length → ∃ g, A = some ⟨g, 0, none⟩ ∧ wc.cell? ⟨g, j, none⟩ = some (.string (zs.getD j ByteArray.empty)) := by
    rcases hrow with ⟨rfl, rfl⟩ | ⟨g, rfl, hc⟩
    · exact ⟨none, rfl, fun j hj => absurd hj (Nat.not_lt_zero _)⟩
    · exact ⟨_, rfl, fun j hj => ⟨g, rfl, by simpa using hc j hj⟩⟩
  obtain ⟨N, hN⟩ : ∃ N, zs.length = N := ⟨_, rfl⟩
  rw [hN] at hv hc hfew
  subst hv
  replace hN := Lib.hid hN
  clear hrow
  go_wp2
  go_loop [6] (fun i => ∃ k : Nat, k ≤ N ∧ i = .int .i64 k ∧ Hid (∀ j, j < k → zs.getD j ByteArray.empty ≠ x)) (fun i => N - (RowKit.intOf i).toNat)
  case atStart => exact ⟨0, Nat.zero_le _, rfl, Lib.hid (fun j hj => absurd hj (Nat.not_lt_zero _))⟩
  case round =>
    obtain ⟨k, hk, rfl, hne⟩ := hrel
    by_cases hlt : k < N
    · obtain ⟨g, rfl, hck⟩ := hc k hlt
      go_wp2
      · rename_i h _
        go_ret
        refine ⟨?_, hB⟩
        have : Lib.containsS zs x = true := (Lib.containsS_iff zs x).2 (by
          have e := (Lib.bytes_beq_iff _ _).1 h
          have hk' : k < zs.length := by rw [hN.out]; exact hlt
          rw [List.getElem?_eq_getElem hk'] at e
          rw [← (show zs[k] = x from e)]
          exact List.getElem_mem hk')
        rw [this]
        rfl
      · rename_i h
        refine ⟨⟨k + 1, by omega, by simp, Lib.hid (fun j hj => ?_)⟩, by simp [RowKit.intOf]; omega⟩
        by_cases e : j = k
        · subst e
          have := (Lib.bytes_beq_false_iff _ _).1 h
          simpa [List.getD] using this
        · exact hne.out j (by omega)
    · go_wp2
      go_ret
      refine ⟨?_, hB⟩
      have : Lib.containsS zs x = false := by
        refine Bool.eq_false_iff.2 (fun hc => ?_)
        obtain ⟨j, hj, e⟩ := List.getElem_of_mem ((Lib.containsS_iff zs x).1 hc)
        refine hne.out j (by have := hN.out; omega) ?_
        rw [List.getD_eq_getElem?_getD, List.getElem?_eq_getElem hj]
        exact e
      rw [this]
      rfl
end Go.Proofs.YtghlodpbbghcoaaGreatDoor

/- The document's names of elements, walked. -/
namespace Go.Proofs.YtghlodpbbghcoaaGreatDoor
open Go.Lib Go.RowKit

set_option maxRecDepth 8192 in
theorem small3_any (c : UInt8) (w : World) : Calls Tryz.prog 81 #[.int .u8 c.toNat] w fun e w' => e = .returned (.bool (letterB c)) ∧ w' = w := by
  go_enter Tryz.func81, Tryz.ntmps81
  obtain ⟨r, hr⟩ : ∃ r, letterB c = r := ⟨_, rfl⟩
  have hr2 : Hid (r = decide (97 ≤ c.toNat ∧ c.toNat ≤ 122)) := Lib.hid hr.symm
  rw [hr]
  clear hr
  have hc := c.toNat_lt
  generalize c.toNat = n at *
  go_wp2
  all_goals go_ret
  all_goals refine ⟨?_, rfl⟩
  all_goals rw [hr2.out]
  all_goals exact congrArg (fun b => Ending.returned (Value.bool b)) (by rw [Bool.eq_iff_iff]; simp; omega)
theorem namedL_all (s : ByteArray) (h : 0 < s.size) : namedL s.data.toList = (letterB s[0] && s.data.toList.all nameB) := by
  obtain ⟨l, hl⟩ : ∃ l, s.data.toList = l := ⟨_, rfl⟩
  have h0 : s.data.toList[0]'(by simpa using h) = s[0] := rfl
  cases l with
  | nil => have : s.data.toList.length = s.size := by simp
           rw [hl] at this; simp at this; omega
  | cons c t =>
    have e : s[0] = c := by rw [← h0]; simp [hl]
    rw [hl, e, namedL, List.all_cons]
    cases hc : letterB c with
    | false => rfl
    | true => simp [nameB, hc]

set_option maxRecDepth 8192 in
set_option maxHeartbeats 3200000 in
theorem named3_any (s : ByteArray) (hs : s.size ≤ maxLen) (w : World) :
    Calls Tryz.prog 51 #[.string s] w fun e w' => e = .returned (.bool (namedL s.data.toList)) ∧ w' = w := by
  have hmax : s.size ≤ 9223372036854775807 := hs
  have hz : s.data.toList.length = s.size := by simp
  by_cases h0 : 0 < s.size
  · rw [namedL_all s h0]
    obtain ⟨c0, hc0⟩ : ∃ c, s[0] = c := ⟨_, rfl⟩
    obtain ⟨a, ha⟩ : ∃ a, s.data.toList.all nameB = a := ⟨_, rfl⟩
    rw [hc0, ha]
    have hsm := small3_any c0
    obtain ⟨r, hr⟩ : ∃ r, letterB c0 = r := ⟨_, rfl⟩
    rw [hr] at hsm ⊢
    have hall : Hid (a = true ↔ ∀ j (h : j < s.size), nameB s[j] = true) := Lib.hid (by
      rw [← ha, List.all_eq_true]
      constructor
      · exact fun h j hj => h _ (by rw [← data_get s j hj]; exact List.getElem_mem _)
      · intro h x hx
        obtain ⟨j, hj, rfl⟩ := List.getElem_of_mem hx
        exact h j (by rwa [hz] at hj))
    clear ha hr
    replace hz := Lib.hid hz
    go_enter Tryz.func51, Tryz.ntmps51
    go_upto_region 5 with (go_at_call 81; refine (hsm _).mono ?_; rintro e w1 ⟨rfl, rfl⟩)
    go_loop [4] (fun i => ∃ k : Nat, k ≤ s.size ∧ i = .int .i64 k ∧ Hid (∀ j (h : j < s.size), j < k → nameB s[j] = true)) (fun i => s.size - (RowKit.intOf i).toNat)
    case atStart => exact ⟨0, Nat.zero_le _, rfl, Lib.hid (fun j _ h => absurd h (Nat.not_lt_zero _))⟩
    case round =>
      obtain ⟨k, hk, rfl, hok⟩ := hrel
      by_cases hlt : k < s.size
      · obtain ⟨cb, hcb⟩ : ∃ cb : UInt8, s[k] = cb := ⟨_, rfl⟩
        have hi0 : (0 : Int) ≤ (k : Int) := by omega
        have hi1 : (k : Int) < (s.size : Int) := by omega
        have hc256 := cb.toNat_lt
        have hsm2 := small3_any cb
        obtain ⟨ok, hok2⟩ : ∃ ok, nameB cb = ok := ⟨_, rfl⟩
        obtain ⟨le, hle⟩ : ∃ le, letterB cb = le := ⟨_, rfl⟩
        have hbad2 : Hid (ok = (le || decide (48 ≤ cb.toNat ∧ cb.toNat ≤ 57) || decide (cb.toNat = 45))) := Lib.hid (by rw [← hok2, nameB, hle])
        have hgood : Hid (ok = true → ∀ j (h : j < s.size), j < k + 1 → nameB s[j] = true) := Lib.hid (fun e j h hj => by
          by_cases e2 : j = k
          · subst e2; rw [hcb, hok2, e]
          · exact hok.out j h (by omega))
        have hno : Hid (ok = false → a = false) := Lib.hid (fun e => by
          refine Bool.eq_false_iff.2 (fun hr => ?_)
          have := hall.out.1 hr k hlt
          rw [hcb, hok2, e] at this
          cases this)
        rw [hle] at hsm2
        clear hok2 hle
        go_upto_region 8 with (go_at_call 81; refine (hsm2 _).mono ?_; rintro e w2 ⟨rfl, rfl⟩)
        clear hsm2 hsm
        cases le
        all_goals go_wp2
        all_goals first
          | (have e : ok = true := by rw [hbad2.out]; clear hgood hno hbad2 hok hz hall; generalize cb.toNat = c at *; simp at *; omega
             exact ⟨⟨k + 1, by omega, by simp <;> omega, Lib.hid (hgood.out e)⟩, by simp [RowKit.intOf]; omega⟩)
          | (have e : ok = true := by rw [hbad2.out]; rfl
             exact ⟨⟨k + 1, by omega, by simp <;> omega, Lib.hid (hgood.out e)⟩, by simp [RowKit.intOf]; omega⟩)
          | (have e : ok = false := by rw [hbad2.out]; clear hgood hno hbad2 hok hz hall; generalize cb.toNat = c at *; simp at *; omega
             have e2 := hno.out e
             subst e2
             go_ret
             exact ⟨by simp, rfl⟩)
      · have hkn : k = s.size := by omega
        have e : a = true := hall.out.2 (fun j h => hok.out j h (by omega))
        subst hkn
        subst e
        clear hall hok
        go_wp2
        go_ret
        exact ⟨rfl, rfl⟩
  · have h1 : s.data.toList = [] := List.eq_nil_of_length_eq_zero (by omega)
    have h2 : (s.size : Int) = 0 := by omega
    rw [h1]
    go_enter Tryz.func51, Tryz.ntmps51
    go_wp2
    go_ret
    exact ⟨rfl, rfl⟩
end Go.Proofs.YtghlodpbbghcoaaGreatDoor

/- Small tests by the document: walked. -/
namespace Go.Proofs.YtghlodpbbghcoaaGreatDoor
open Go.Lib Go.RowKit Go.Maps
set_option maxRecDepth 8192 in
set_option maxHeartbeats 1600000 in
theorem signs_any (s : ByteArray) (hs : s.size ≤ 140737488355328) (w : World) : Calls Tryz.prog 104 #[.string s] w fun e w' => e = .returned (.bool (inB 32 126 s.data.toList)) ∧ w' = w := by
  obtain ⟨r, hr⟩ : ∃ r, inB 32 126 s.data.toList = r := ⟨_, rfl⟩
  rw [hr]
  replace hr := Lib.hid hr
  go_enter Tryz.func104, Tryz.ntmps104
  go_wp2
  go_loop [3] (fun x => ∃ k : Nat, k ≤ s.size ∧ x = .int .i64 k ∧ Hid (∀ j (hj : j < s.size), j < k → ((32 : Nat) : Int) ≤ (s[j].toNat : Int) ∧ (s[j].toNat : Int) ≤ ((126 : Nat) : Int))) (fun x => s.size - (RowKit.intOf x).toNat)
  case atStart => exact ⟨0, Nat.zero_le _, rfl, Lib.hid (fun j _ h => absurd h (Nat.not_lt_zero _))⟩
  case round =>
    obtain ⟨k, hk, rfl, hok⟩ := hrel
    by_cases hlt : k < s.size
    · obtain ⟨q, hq⟩ : ∃ q : Int, (s[k].toNat : Int) = q := ⟨_, rfl⟩
      have hbad : Hid (q < 32 ∨ 126 < q → r = false) := Lib.hid (fun h => by rw [← hr.out]; exact inB_bad hlt (by rw [hq]; exact h))
      have hgood : Hid (32 ≤ q → q ≤ 126 → ∀ j (hj : j < s.size), j < k + 1 → ((32 : Nat) : Int) ≤ (s[j].toNat : Int) ∧ (s[j].toNat : Int) ≤ ((126 : Nat) : Int)) := Lib.hid (fun h1 h2 j hj hjk => by
        by_cases e : j = k
        · subst e
          rw [hq]
          exact ⟨h1, h2⟩
        · exact hok.out j hj (by omega))
      have hi0 : (0 : Int) ≤ (k : Int) := by omega
      have hi1 : (k : Int) < (s.size : Int) := by omega
      by_cases h1 : q < 32
      · have e := hbad.out (.inl h1)
        subst e
        clear hbad hgood
        go_wp2
        go_ret
        exact ⟨rfl, rfl⟩
      · by_cases h2 : 126 < q
        · have e := hbad.out (.inr h2)
          subst e
          clear hbad hgood
          go_wp2
          go_ret
          exact ⟨rfl, rfl⟩
        · have g := Lib.hid (hgood.out (by omega) (by omega))
          clear hbad hgood
          go_wp2
          exact ⟨⟨k + 1, by omega, by simp, g⟩, by simp [RowKit.intOf]; omega⟩
    · have e : r = true := by rw [← hr.out]; exact inB_good (fun j hj => hok.out j hj (by omega))
      subst e
      clear hok
      go_wp2
      go_ret
      exact ⟨rfl, rfl⟩

set_option maxRecDepth 8192 in
set_option maxHeartbeats 1600000 in
theorem scheme_any (s : ByteArray) (hs : s.size ≤ 140737488355328) (w : World) : Calls Tryz.prog 103 #[.string s] w fun e w' => e = .returned (.bool (inB 97 122 s.data.toList && (decide (1 ≤ s.size) && decide (s.size ≤ 16)))) ∧ w' = w := by
  obtain ⟨r, hr⟩ : ∃ r, inB 97 122 s.data.toList = r := ⟨_, rfl⟩
  rw [hr]
  replace hr := Lib.hid hr
  go_enter Tryz.func103, Tryz.ntmps103
  go_wp2
  go_loop [3] (fun x => ∃ k : Nat, k ≤ s.size ∧ x = .int .i64 k ∧ Hid (∀ j (hj : j < s.size), j < k → ((97 : Nat) : Int) ≤ (s[j].toNat : Int) ∧ (s[j].toNat : Int) ≤ ((122 : Nat) : Int))) (fun x => s.size - (RowKit.intOf x).toNat)
  case atStart => exact ⟨0, Nat.zero_le _, rfl, Lib.hid (fun j _ h => absurd h (Nat.not_lt_zero _))⟩
  case round =>
    obtain ⟨k, hk, rfl, hok⟩ := hrel
    by_cases hlt : k < s.size
    · obtain ⟨q, hq⟩ : ∃ q : Int, (s[k].toNat : Int) = q := ⟨_, rfl⟩
      have hbad : Hid (q < 97 ∨ 122 < q → r = false) := Lib.hid (fun h => by rw [← hr.out]; exact inB_bad hlt (by rw [hq]; exact h))
      have hgood : Hid (97 ≤ q → q ≤ 122 → ∀ j (hj : j < s.size), j < k + 1 → ((97 : Nat) : Int) ≤ (s[j].toNat : Int) ∧ (s[j].toNat : Int) ≤ ((122 : Nat) : Int)) := Lib.hid (fun h1 h2 j hj hjk => by
        by_cases e : j = k
        · subst e
          rw [hq]
          exact ⟨h1, h2⟩
        · exact hok.out j hj (by omega))
      have hi0 : (0 : Int) ≤ (k : Int) := by omega
      have hi1 : (k : Int) < (s.size : Int) := by omega
      by_cases h1 : q < 97
      · have e := hbad.out (.inl h1)
        subst e
        clear hbad hgood
        go_wp2
        go_ret
        exact ⟨rfl, rfl⟩
      · by_cases h2 : 122 < q
        · have e := hbad.out (.inr h2)
          subst e
          clear hbad hgood
          go_wp2
          go_ret
          exact ⟨rfl, rfl⟩
        · have g := Lib.hid (hgood.out (by omega) (by omega))
          clear hbad hgood
          go_wp2
          exact ⟨⟨k + 1, by omega, by simp, g⟩, by simp [RowKit.intOf]; omega⟩
    · have e : r = true := by rw [← hr.out]; exact inB_good (fun j hj => hok.out j hj (by omega))
      subst e
      clear hok
      by_cases h1 : 1 ≤ s.size
      · have d1 : (1 : Int) ≤ (s.size : Int) := by omega
        by_cases h2 : s.size ≤ 16
        · have d2 : (s.size : Int) ≤ 16 := by omega
          go_wp2
          go_ret
          simp
        · have d2 : ¬ (s.size : Int) ≤ 16 := by omega
          go_wp2
          go_ret
          simp
      · have d1 : ¬ (1 : Int) ≤ (s.size : Int) := by omega
        go_wp2
        go_ret
        simp


theorem plain13_any (s : ByteArray) (hs : s.size ≤ maxLen) (w : World) : Calls Tryz.prog 29 #[.string s] w fun e w' => e = .returned (.bool (plainP s)) ∧ w' = w := by
  have hn := named3_any s hs w
  obtain ⟨n, hn0⟩ : ∃ n, namedL s.data.toList = n := ⟨_, rfl⟩
  unfold plainP
  rw [hn0] at hn ⊢
  clear hn0
  by_cases h : s.size ≤ 16
  all_goals cases n
  all_goals go_enter Tryz.func29, Tryz.ntmps29
  all_goals go_wp2_with (go_at_call 51; refine hn.mono ?_; rintro e w1 ⟨rfl, rfl⟩)
  all_goals go_ret
  all_goals refine ⟨?_, rfl⟩
  all_goals refine congrArg (fun b => Ending.returned (Value.bool b)) ?_
  all_goals first | (rw [decide_eq_true h]; simp; try omega) | (rw [decide_eq_false h]; simp; try omega)
theorem has_data_star {s : ByteArray} (h : 0 < s.size) : manyP s = decide (s[s.size - 1] = 42) := by
  unfold manyP Lib.hasSuffix
  have hz : s.data.toList.length = s.size := by simp
  have hne : s.data.toList ≠ [] := by intro e; rw [e] at hz; simp at hz; omega
  have hl : s.data.toList.getLast hne = s[s.size - 1] := by
    rw [List.getLast_eq_getElem]
    simp only [hz]
    rfl
  rw [Bool.eq_iff_iff, List.isSuffixOf_iff_suffix, decide_eq_true_eq]
  constructor
  · rintro ⟨l, e⟩
    have : s.data.toList.getLast hne = 42 := by
      have h2 : (l ++ [42]).getLast (by simp) = (42 : UInt8) := by simp
      rw [← h2]
      congr 1
      exact e.symm
    rw [← hl, this]
  · intro e
    refine ⟨s.data.toList.dropLast, ?_⟩
    rw [← e, ← hl]
    exact List.dropLast_concat_getLast hne
theorem stem_val {s : ByteArray} (h : 0 < s.size) (hm : s[s.size - 1] = 42) : stemP s = s.extract 0 (s.size - 1) := by
  have h2 : Lib.hasSuffix s.data.toList [42] = true := by
    have := has_data_star h
    rw [decide_eq_true hm] at this
    exact this
  have hz : s.data.toList.length = s.size := by simp
  unfold stemP Lib.trimSuffix
  rw [h2, if_pos rfl]
  refine (tx_eq ?_).symm
  rw [ByteArray.data_extract, Array.toList_extract, List.extract_eq_take_drop]
  simp
theorem stem_none {s : ByteArray} (h : manyP s = false) : stemP s = s := by
  unfold stemP Lib.trimSuffix
  have : Lib.hasSuffix s.data.toList [42] = false := h
  rw [this]
  exact tx_of s
theorem stem_any (s : ByteArray) (hs : s.size ≤ 140737488355328) (w : World) : Calls Tryz.prog 53 #[.string s] w fun e w' => e = .returned (.tuple #[.string (stemP s), .bool (manyP s)]) ∧ w' = w := by
  by_cases h : 0 < s.size
  · have hst := has_data_star h
    obtain ⟨j, hj⟩ : ∃ j, s.size - 1 = j := ⟨_, rfl⟩
    have hjl : j < s.size := by omega
    have hij : (s.size : Int) - 1 = (j : Int) := by omega
    have hj0 : (0 : Int) ≤ (j : Int) := by omega
    have hj1 : (j : Int) < (s.size : Int) := by omega
    have hj2 : (j : Int) ≤ (s.size : Int) := by omega
    have hp : (0 : Int) < (s.size : Int) := by omega
    have hsv := stem_val h
    simp only [hj] at hst hsv
    obtain ⟨q, hq⟩ : ∃ q : Int, (s[j].toNat : Int) = q := ⟨_, rfl⟩
    by_cases h42 : q = 42
    · subst h42
      have hc : s[j] = 42 := UInt8.toNat_inj.1 (by show s[j].toNat = 42; exact Int.ofNat.inj hq)
      rw [decide_eq_true hc] at hst
      have hsv2 := Lib.hid (hsv hc)
      rw [hst]
      clear hst hsv hc hj
      go_enter Tryz.func53, Tryz.ntmps53
      go_wp2
      go_ret2
      exact ⟨by rw [hsv2.out]; rfl, rfl⟩
    · have e42 : (q == 42) = false := by simpa using h42
      have hm : manyP s = false := by
        rw [hst]
        refine decide_eq_false (fun e => h42 ?_)
        rw [← hq, e]
        rfl
      rw [hm, stem_none hm]
      clear hst hsv hm h42 hj
      go_enter Tryz.func53, Tryz.ntmps53
      go_wp2
      go_ret2
      exact ⟨rfl, rfl⟩
  · have hp : ¬ (0 : Int) < (s.size : Int) := by omega
    have hm : manyP s = false := by
      have hz : s.data.toList.length = s.size := by simp
      have : s.data.toList = [] := List.eq_nil_of_length_eq_zero (by omega)
      unfold manyP
      rw [this]
      rfl
    rw [hm, stem_none hm]
    clear hm
    go_enter Tryz.func53, Tryz.ntmps53
    go_wp2
    go_ret2
    exact ⟨rfl, rfl⟩
end Go.Proofs.YtghlodpbbghcoaaGreatDoor

/- Lists of texts and elements by the document: walked. -/
namespace Go.Proofs.YtghlodpbbghcoaaGreatDoor
open Go.Lib Go.RowKit Go.Maps
theorem StrsAt.take {w : World} {P : Nat → Prop} {A : Option Addr} {n cap : Nat} {l : List ByteArray} (h : StrsAt w P (.slice A n cap) l) {k : Nat} (hk : k ≤ n) : StrsAt w P (.slice A k cap) (l.take k) := by
  obtain ⟨A', n', cap', e, hn, hc, hat⟩ := h.form
  simp only [Value.slice.injEq] at e
  obtain ⟨rfl, rfl, rfl⟩ := e
  have hl : (sCells (l.take k)).length = k := by simp [sCells]; omega
  refine ⟨A, cap, by rw [hl], by rw [hl]; omega, fun j hj => ?_⟩
  rw [hl] at hj
  obtain ⟨b, o, rfl, hb, hcell⟩ := hat (by omega)
  refine ⟨b, o, rfl, hb, fun i hi => ?_⟩
  obtain rfl : i = 0 := by omega
  have := hcell j (by omega)
  rw [Nat.mul_one, Nat.add_zero, this]
  simp [sCells]

set_option maxRecDepth 8192 in
set_option maxHeartbeats 1600000 in
theorem has_any (v : Value) (l : List ByteArray) (x : ByteArray) (P : Nat → Prop) (w : World) (h : StrsAt w P v l) (hl : l.length ≤ 140737488355328) : Calls Tryz.prog 33 #[v, .string x] w fun e w' => e = .returned (.bool (Lib.containsS l x)) ∧ w' = w := by
  obtain ⟨A, n, cap, rfl, hn, hcap, hat⟩ := h.form
  have hn6 : n ≤ 140737488355328 := by omega
  obtain ⟨r, hr⟩ : ∃ r, Lib.containsS l x = r := ⟨_, rfl⟩
  have hri : Hid (r = true ↔ x ∈ l) := Lib.hid (by rw [← hr]; exact Lib.containsS_iff _ _)
  rw [hr]
  replace hn := Lib.hid hn
  replace hat := Lib.hid hat
  clear h hl hr
  go_enter Tryz.func33, Tryz.ntmps33
  go_wp2
  go_loop [5] (fun y => ∃ k : Nat, k ≤ n ∧ y = .int .i64 k ∧ Hid (∀ j (hj : j < l.length), j < k → l[j] ≠ x)) (fun y => n - (RowKit.intOf y).toNat)
  case atStart => exact ⟨0, Nat.zero_le _, rfl, Lib.hid (fun j _ h => absurd h (Nat.not_lt_zero _))⟩
  case round =>
    obtain ⟨k, hk, rfl, hno⟩ := hrel
    by_cases hlt : k < n
    · have hkl : k < l.length := by have := hn.out; omega
      obtain ⟨b, o, rfl, _, hc⟩ := hat.out (by omega)
      have c0 := hc k hkl
      obtain ⟨s, hs⟩ : ∃ s, l[k] = s := ⟨_, rfl⟩
      rw [hs] at c0
      have hyes : Hid (s = x → r = true) := Lib.hid (fun e => hri.out.2 (by rw [← e, ← hs]; exact List.getElem_mem hkl))
      have hnext : Hid (s ≠ x → ∀ j (hj : j < l.length), j < k + 1 → l[j] ≠ x) := Lib.hid (fun e j hj hjk => by
        by_cases e2 : j = k
        · subst e2; rw [hs]; exact e
        · exact hno.out j hj (by omega))
      have hi0 : (0 : Int) ≤ (k : Int) := by omega
      have hi1 : (k : Int) < (n : Int) := by omega
      clear hc hs
      by_cases hsx : s = x
      · have e := hyes.out hsx
        subst hsx e
        clear hyes hnext hri
        go_wp2
        go_ret
        exact ⟨rfl, rfl⟩
      · have g := Lib.hid (hnext.out hsx)
        have ene := ne_toList hsx
        clear hyes hnext hsx
        go_wp2
        exact ⟨⟨k + 1, by omega, by simp, g⟩, by simp [RowKit.intOf]; omega⟩
    · have e : r = false := Bool.eq_false_iff.2 (fun h => by
        obtain ⟨j, hj, e⟩ := List.getElem_of_mem (hri.out.1 h)
        exact hno.out j hj (by have := hn.out; omega) e)
      subst e
      clear hri
      go_wp2
      go_ret
      exact ⟨rfl, rfl⟩

set_option maxRecDepth 8192 in
set_option maxHeartbeats 1600000 in
theorem once_any (v : Value) (l : List ByteArray) (P : Nat → Prop) (w : World) (hP : ∀ k, P k → k < w.heap.size) (h : StrsAt w P v l) (hl : l.length ≤ 140737488355328) : Calls Tryz.prog 86 #[v] w (IsB (!twiceB l) w) := by
  have hst := h
  obtain ⟨A, n, cap, rfl, hn, hcap, hat⟩ := h.form
  have hn6 : n ≤ 140737488355328 := by omega
  obtain ⟨r, hr⟩ : ∃ r, (!twiceB l) = r := ⟨_, rfl⟩
  have hri : Hid (r = true ↔ l.Nodup) := Lib.hid (by rw [← hr, twiceB]; simp)
  rw [hr]
  have hcall : Hid (∀ (k : Nat) (s : ByteArray) (wr : World), k ≤ n → Below w.heap.size w wr → Calls Tryz.prog 33 #[.slice A k cap, .string s] wr fun e w' => e = .returned (.bool (Lib.containsS (l.take k) s)) ∧ w' = wr) := Lib.hid (fun k s wr hk hb =>
    has_any _ (l.take k) s P wr ((hst.take hk).move (Stays.below hb hP) (fun _ h => h)) (by rw [List.length_take]; omega))
  replace hn := Lib.hid hn
  replace hat := Lib.hid hat
  replace hP := Lib.hid hP
  clear h hl hr hst
  go_enter Tryz.func86, Tryz.ntmps86
  go_wp2
  go_loopw [3] (fun y wr => ∃ k : Nat, k ≤ n ∧ y = .int .i64 k ∧ Hid ((l.take k).Nodup) ∧ Hid (Below w.heap.size w wr)) (fun y _ => n - (RowKit.intOf y).toNat)
  case atStart => exact ⟨0, Nat.zero_le _, rfl, Lib.hid (by simp), Lib.hid (Below.refl _ _)⟩
  case round =>
    obtain ⟨k, hk, rfl, hnd, hB⟩ := hrel
    by_cases hlt : k < n
    · have hkl : k < l.length := by have := hn.out; omega
      obtain ⟨b, o, rfl, hPb, hc⟩ := hat.out (by omega)
      have c0 := (hB.out.cell (p := ⟨b, o + k, none⟩) (hP.out b hPb)).trans (hc k hkl)
      obtain ⟨s, hs⟩ : ∃ s, l[k] = s := ⟨_, rfl⟩
      rw [hs] at c0
      have hBd : Hid (Below w.heap.size w wr.drew) := Lib.hid hB.out.drew
      have hca := hcall.out k s wr.drew (by omega) hBd.out
      obtain ⟨cb, hcb⟩ : ∃ cb, Lib.containsS (l.take k) s = cb := ⟨_, rfl⟩
      rw [hcb] at hca
      have hbad : Hid (cb = true → r = false) := Lib.hid (fun e => Bool.eq_false_iff.2 (fun h => by
        have hm : s ∈ l.take k := (Lib.containsS_iff _ _).1 (by rw [hcb, e])
        have hd := hri.out.1 h
        have h2 : l = l.take k ++ (s :: l.drop (k + 1)) := by
          conv => lhs; rw [← List.take_append_drop k l, List.drop_eq_getElem_cons hkl, hs]
        rw [h2, List.nodup_append] at hd
        exact hd.2.2 s hm s (by simp) rfl))
      have hgood : Hid (cb = false → (l.take (k + 1)).Nodup) := Lib.hid (fun e2 => by
        rw [List.take_add_one, List.getElem?_eq_getElem hkl, hs, List.nodup_append]
        refine ⟨hnd.out, by simp, fun a ha c hc e => ?_⟩
        simp at hc
        subst hc e
        have := (Lib.containsS_iff _ _).2 ha
        rw [hcb, e2] at this
        cases this)
      have hi0 : (0 : Int) ≤ (k : Int) := by omega
      have hi1 : (k : Int) < (n : Int) := by omega
      have hi2 : k ≤ cap := by omega
      have hi3 : (k : Int) ≤ (cap : Int) := by omega
      clear hc hs hcb hcall
      go_upto_region 4 with fail
      go_still_tail 7, (by kernel_rfl)
      change wpList _ _ _ _ _ wr.drew
      generalize wr.drew = w2 at hca hBd ⊢
      cases cb with
      | true =>
        have e := hbad.out rfl
        subst e
        clear hbad hgood hri
        go_wp2_with (go_at_call 33; refine hca.mono ?_; rintro e5 w5 ⟨rfl, rfl⟩)
        go_ret
        exact ⟨rfl, hBd.out⟩
      | false =>
        have g := Lib.hid (hgood.out rfl)
        clear hbad hgood
        go_wp2_with (go_at_call 33; refine hca.mono ?_; rintro e5 w5 ⟨rfl, rfl⟩)
        exact ⟨⟨k + 1, by omega, by simp, g, hBd⟩, by simp [RowKit.intOf]; omega⟩
    · have e : r = true := hri.out.2 (by have h2 := hnd.out; rw [show k = l.length by have := hn.out; omega, List.take_length] at h2; exact h2)
      subst e
      clear hri
      go_wp2
      go_ret
      exact ⟨rfl, hB.out⟩
end Go.Proofs.YtghlodpbbghcoaaGreatDoor

/- The element of a name by the document: walked. -/
namespace Go.Proofs.YtghlodpbbghcoaaGreatDoor
open Go.Lib Go.RowKit Go.Maps
set_option maxRecDepth 8192 in
set_option maxHeartbeats 3200000 in
theorem find13_any (vt ve vu : Value) (l : List Elt) (nm : ByteArray) (P : Nat → Prop) (w : World) (hP : ∀ k, P k → k < w.heap.size) (h : EltsAt w P ve l) (ht : ∃ A n c, vt = .slice A n c) (hu : ∃ A n c, vu = .slice A n c) (hl : l.length ≤ 140737488355328) :
    Calls Tryz.prog 30 #[.agg #[vt, ve, vu], .string nm] w (FindPost (findP l nm) P w) := by
  obtain ⟨At, nt, ct, rfl⟩ := ht
  obtain ⟨Au, nu, cu, rfl⟩ := hu
  obtain ⟨A, n, cap, rfl, hn, hcap, hat⟩ := h.form
  have hn6 : n ≤ 140737488355328 := by omega
  obtain ⟨r, hr⟩ : ∃ r, findP l nm = r := ⟨_, rfl⟩
  rw [hr]
  replace hr := Lib.hid hr
  replace hn := Lib.hid hn
  replace hat := Lib.hid hat
  replace hP := Lib.hid hP
  clear h hl
  obtain ⟨w2, hw2⟩ : ∃ w2, (w.alloc (.cells #[.slice At nt ct, .slice A n cap, .slice Au nu cu] 25)).alloc (.cells #[.string ⟨#[]⟩, .slice none 0 0, .slice none 0 0] 30) = w2 := ⟨_, rfl⟩
  have hB2 : Hid (Below w.heap.size w w2) := Lib.hid (by rw [← hw2]; exact ((Below.refl _ _).alloc (Nat.le_refl _) _).alloc (by simp) _)
  have hR2 : Hid (w2.heap[w.heap.size + 1]? = some (.cells #[.string ⟨#[]⟩, .slice none 0 0, .slice none 0 0] 30)) := Lib.hid (by rw [← hw2]; exact blk_new' (by simp))
  have hS2 : Hid (w2.heap.size = w.heap.size + 2) := Lib.hid (by rw [← hw2]; simp)
  have hbx : Hid (w2.heap[w.heap.size]? = some (.cells #[.slice At nt ct, .slice A n cap, .slice Au nu cu] 25)) := Lib.hid (by rw [← hw2]; exact blk_alloc (blk_new _ _) _)
  go_enter Tryz.func30, Tryz.ntmps30
  go_upto_region 1 with fail
  have d1 : w2.cell? ⟨w.heap.size, 1, none⟩ = some (.slice A n cap) := blk_cell hbx.out 1
  clear hw2
  go_wp2
  go_loopw [6] (fun x11 wr => ∃ k : Nat, k ≤ n ∧ x11 = .int .i64 k ∧ Hid (∀ j (hj : j < l.length), j < k → l[j].name ≠ nm) ∧ Hid (Below w2.heap.size w2 wr)) (fun x11 _ => n - (RowKit.intOf x11).toNat)
  case atStart => exact ⟨0, Nat.zero_le _, rfl, Lib.hid (fun j _ h => absurd h (Nat.not_lt_zero _)), Lib.hid (Below.refl _ _)⟩
  case round =>
    obtain ⟨k, hk, rfl, hno, hB⟩ := hrel
    clear d1
    have d1 : wr.cell? ⟨w.heap.size, 1, none⟩ = some (.slice A n cap) := blk_cell (blk_below hbx.out hB.out (blk_lt hbx.out)) 1
    have hBw : Hid (Below w.heap.size w wr) := Lib.hid (hB2.out.trans (hB.out.mono hB2.out.size))
    have hRr : Hid (wr.heap[w.heap.size + 1]? = some (.cells #[.string ⟨#[]⟩, .slice none 0 0, .slice none 0 0] 30)) := Lib.hid (blk_below hR2.out hB.out (by rw [hS2.out]; omega))
    have hlr : Hid (w.heap.size + 1 < wr.heap.size) := Lib.hid (blk_lt hRr.out)
    by_cases hlt : k < n
    · have hkl : k < l.length := by have := hn.out; omega
      obtain ⟨b, o, rfl, hPb, hc⟩ := hat.out (by omega)
      obtain ⟨vk, vr, h0, h1, h2, hvk, hvr⟩ := hc k hkl
      have hbw := hP.out b hPb
      have c0 := (hBw.out.cell (p := ⟨b, o + k * 3, none⟩) hbw).trans h0
      have c1 := (hBw.out.cell (p := ⟨b, o + k * 3 + 1, none⟩) hbw).trans h1
      have c2 := (hBw.out.cell (p := ⟨b, o + k * 3 + 2, none⟩) hbw).trans h2
      have hfin : Hid (StrsAt w P vk l[k].kids ∧ RulsAt w P vr l[k].rules) := Lib.hid ⟨hvk, hvr⟩
      obtain ⟨Ak, nk, ck, rfl, -, -, -⟩ := hvk.form
      obtain ⟨Ar, nr, cr, rfl, -, -, -⟩ := hvr.form
      obtain ⟨s, hs⟩ : ∃ s, l[k].name = s := ⟨_, rfl⟩
      rw [hs] at c0
      have hi0 : (0 : Int) ≤ (k : Int) := by omega
      have hi1 : (k : Int) < (n : Int) := by omega
      replace hs := Lib.hid hs
      clear hc h0 h1 h2
      by_cases hsn : s = nm
      · subst hsn
        have hr1 : r = some l[k] := by rw [← hr.out]; exact findP_some hkl hno.out hs.out
        subst hr1
        have hW3 : Hid (Below w2.heap.size w2 wr) := hB
        have hR3 := hRr
        go_wp2_with ((with_reducible show wpList _ _ _ (⟨none, _, _, _, _, _⟩ :: _) _ _); refine wpList_store_mid rfl 30 _ _ rfl (w.heap.size + 1) 0 #[.string s, .slice Ak nk ck, .slice Ar nr cr] rfl rfl (there_of (cs := [.string ⟨#[]⟩, .slice none 0 0, .slice none 0 0]) hR3.out) info30 (by simp [Value.oneCell']) ?_)
        try simp only [Exit.inBlock, Exit.then]
        refine bodyPost_ret (results_elt rfl _ _ rfl (blk_stored hR3.out [.string s, .slice Ak nk ck, .slice Ar nr cr] rfl)) rfl ⟨⟨.slice Ak nk ck, .slice Ar nr cr, by rw [hs.out]; rfl, ?_, ?_⟩, ?_⟩
        all_goals have hBf := below_setCells (B := w.heap.size) (b := w.heap.size + 1) (by omega) [.string s, .slice Ak nk ck, .slice Ar nr cr] _ 0 (hB2.out.trans (hW3.out.mono hB2.out.size))
        · exact hfin.out.1.move (Stays.below hBf hP.out) (fun _ h => h)
        · exact hfin.out.2.move (Stays.below hBf hP.out) (fun _ h => h)
        · exact hBf
      · have ens := ne_toList hsn
        have hno2 : Hid (∀ j (hj : j < l.length), j < k + 1 → l[j].name ≠ nm) := Lib.hid (fun j hj hjk => by
          by_cases e : j = k
          · subst e; rw [hs.out]; exact hsn
          · exact hno.out j hj (by omega))
        have hB3 := hB
        go_wp2
        exact ⟨⟨k + 1, by omega, by simp, hno2, hB3⟩, by simp [RowKit.intOf]; omega⟩
    · have hkn : k = n := by omega
      have hr1 : r = none := by rw [← hr.out]; exact findP_none (fun j hj => hno.out j hj (by have := hn.out; omega))
      subst hr1
      go_wp2_with ((with_reducible show wpList _ _ _ (⟨none, _, _, _, _, _⟩ :: _) _ _); refine wpList_store_mid rfl 30 _ _ rfl (w.heap.size + 1) 0 #[.string ⟨#[]⟩, .slice none 0 0, .slice none 0 0] rfl rfl (there_of (cs := [.string ⟨#[]⟩, .slice none 0 0, .slice none 0 0]) hRr.out) info30 (by simp [Value.oneCell']) ?_)
      try simp only [Exit.inBlock, Exit.then]
      refine bodyPost_ret (results_elt rfl _ _ rfl (blk_stored hRr.out [.string ⟨#[]⟩, .slice none 0 0, .slice none 0 0] rfl)) rfl ⟨rfl, ?_⟩
      exact below_setCells (B := w.heap.size) (b := w.heap.size + 1) (by omega) _ _ 0 hBw.out
end Go.Proofs.YtghlodpbbghcoaaGreatDoor
