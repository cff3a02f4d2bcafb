/- The words of a constraint, by the document: walked. -/
import Derived.Test.YtghlodpbbghcoaaGreatDoorZ28
import Derived.Test.YtghlodpbbghcoaaGreatDoorZ19
namespace Go.Proofs.YtghlodpbbghcoaaGreatDoor
open Go.Lib Go.RowKit Go.Maps
def pickP (sch : Bool) (s : ByteArray) : Bool := if sch then schemeP s else wordP s
theorem take_snoc_nodup {l : List ByteArray} {k : Nat} {s : ByteArray} (hk : k < l.length) (hs : l[k] = s) (h : (l.take k).Nodup) (hn : ∀ j (hj : j < l.length), j < k → l[j] ≠ s) : (l.take (k + 1)).Nodup := by
  rw [List.take_add_one, List.getElem?_eq_getElem hk, hs, List.nodup_append]
  refine ⟨h, by simp, fun a ha c hc e => ?_⟩
  simp at hc
  subst hc e
  obtain ⟨j, hj, e⟩ := List.getElem_of_mem ha
  rw [List.length_take] at hj
  rw [List.getElem_take] at e
  exact hn j (by omega) (by omega) e
theorem twice_of_two {l : List ByteArray} {j k : Nat} (hj : j < l.length) (hk : k < l.length) (hjk : j < k) (e : l[j] = l[k]) : twiceB l = true := by
  unfold twiceB
  simp only [Bool.not_eq_true', decide_eq_false_iff_not]
  intro h
  have := (List.pairwise_iff_getElem.1 h) j k hj hk hjk
  exact this e

theorem pick_false {n : Nat} {one two : Bool} (h : false = if false then one else (decide (n ≤ 40) && two)) : two = false ∨ (two = true ∧ ¬ n ≤ 40) := by
  cases two
  · exact .inl rfl
  · exact .inr ⟨rfl, by simpa using h⟩
theorem pick_true {n : Nat} {sch one two : Bool} (h : true = if sch then one else (decide (n ≤ 40) && two)) : sch = true ∧ one = true ∨ (sch = false ∧ two = true ∧ ¬ (40 : Int) < (n : Int)) := by
  cases sch
  · simp at h
    exact .inr ⟨rfl, h.2, by omega⟩
  · simp at h
    exact .inl ⟨rfl, h⟩

set_option maxRecDepth 8192 in
set_option maxHeartbeats 3200000 in
theorem words82_any (v : Value) (l : List ByteArray) (sch : Bool) (P : Nat → Prop) (w : World) (hP : ∀ k, P k → k < w.heap.size) (h : StrsAt w P v l) (hl : l.length ≤ 140737488355328) (hsz : ∀ s ∈ l, s.size ≤ 140737488355328) :
    Calls Tryz.prog 82 #[v, .bool sch] w (IsB (wordsP (pickP sch) l) w) := by
  obtain ⟨A, n, cap, rfl, hn, hcap, hat⟩ := h.form
  have hn6 : n ≤ 140737488355328 := by omega
  obtain ⟨r, hr⟩ : ∃ r, wordsP (pickP sch) l = r := ⟨_, rfl⟩
  rw [hr]
  replace hr := Lib.hid hr
  replace hn := Lib.hid hn
  replace hat := Lib.hid hat
  replace hsz := Lib.hid hsz
  replace hP := Lib.hid hP
  clear h hl
  go_enter Tryz.func82, Tryz.ntmps82
  go_wp2
  go_loopw [5] (fun x wr => ∃ k : Nat, k ≤ n ∧ x = .int .i64 k ∧ Hid (∀ j (hj : j < l.length), j < k → pickP sch l[j] = true) ∧ Hid ((l.take k).Nodup) ∧ Hid (Below w.heap.size w wr)) (fun x _ => n - (RowKit.intOf x).toNat)
  case atStart => exact ⟨0, Nat.zero_le _, rfl, Lib.hid (fun j _ h => absurd h (Nat.not_lt_zero _)), Lib.hid (by simp), Lib.hid (Below.refl _ _)⟩
  case round =>
    obtain ⟨k, hk, rfl, hok, hnd, hB⟩ := hrel
    by_cases hlt : k < n
    · have hkl : k < l.length := by have := hn.out; omega
      obtain ⟨b, o, rfl, hPb, hc⟩ := hat.out (by omega)
      have hbw := Lib.hid (hP.out b hPb)
      have c0 := (hB.out.cell (p := ⟨b, o + k, none⟩) hbw.out).trans (hc k hkl)
      replace hc := Lib.hid hc
      obtain ⟨s, hs⟩ : ∃ s, l[k] = s := ⟨_, rfl⟩
      rw [hs] at c0
      have hss := hsz.out s (by rw [← hs]; exact List.getElem_mem hkl)
      have h1 := scheme_any s hss wr
      have h2 := signs_any s hss wr
      rw [show (inB 97 122 s.data.toList && (decide (1 ≤ s.size) && decide (s.size ≤ 16))) = schemeP s from rfl] at h1
      obtain ⟨one, hone⟩ : ∃ b, schemeP s = b := ⟨_, rfl⟩
      obtain ⟨two, htwo⟩ : ∃ b, inB 32 126 s.data.toList = b := ⟨_, rfl⟩
      obtain ⟨pb, hpb⟩ : ∃ b, pickP sch s = b := ⟨_, rfl⟩
      have hpv : Hid (pb = if sch then one else (decide (s.size ≤ 40) && two)) := Lib.hid (by rw [← hpb, pickP, hone, wordP, htwo])
      rw [hone] at h1
      rw [htwo] at h2
      have hbad1 : Hid (pb = false → r = false) := Lib.hid (fun e => by rw [← hr.out, wordsP, all_take_false hkl (by rw [hs, hpb, e])]; simp)
      have hbad2 : Hid (∀ j (hj : j < l.length), j < k → l[j] = s → r = false) := Lib.hid (fun j hj hjk e => by
        rw [← hr.out, wordsP, twice_of_two hj hkl hjk (by rw [e, hs])]
        simp)
      have hgood : Hid (pb = true → ∀ j (hj : j < l.length), j < k + 1 → pickP sch l[j] = true) := Lib.hid (fun e j hj hjk => by
        by_cases e2 : j = k
        · subst e2; rw [hs, hpb, e]
        · exact hok.out j hj (by omega))
      have hgood2 : Hid ((∀ j (hj : j < l.length), j < k → l[j] ≠ s) → (l.take (k + 1)).Nodup) := Lib.hid (fun e => take_snoc_nodup hkl hs hnd.out e)
      have hi0 : (0 : Int) ≤ (k : Int) := by omega
      have hi1 : (k : Int) < (n : Int) := by omega
      replace hs := Lib.hid hs
      clear hone htwo hpb
      go_upto_region 6 with (first
        | (go_at_call 103; refine h1.mono ?_; rintro e5 w5 ⟨rfl, e6⟩; obtain rfl := e6.symm)
        | (go_at_call 104; refine h2.mono ?_; rintro e5 w5 ⟨rfl, e6⟩; obtain rfl := e6.symm))
      clear h1 h2
      cases pb with
      | false =>
        have e := hbad1.out rfl
        subst e
        clear hbad1 hbad2 hgood hgood2 hr hok hnd
        cases sch with
        | true =>
          obtain rfl : one = false := by have := hpv.out; simpa using this.symm
          clear hpv
          go_wp2
          go_ret
          exact ⟨rfl, hB.out⟩
        | false =>
          have hp : two = false ∨ (two = true ∧ ¬ s.size ≤ 40) := pick_false hpv.out
          clear hpv
          rcases hp with rfl | ⟨rfl, hp⟩
          · go_wp2
            go_ret
            exact ⟨rfl, hB.out⟩
          · have hp2 : (40 : Int) < (s.size : Int) := by omega
            go_wp2
            go_ret
            exact ⟨rfl, hB.out⟩
      | true =>
        have g := Lib.hid (hgood.out rfl)
        clear hbad1 hgood
        have hmeet : Hid (sch = true ∧ one = true ∨ (sch = false ∧ two = true ∧ ¬ (40 : Int) < (s.size : Int))) := Lib.hid (pick_true hpv.out)
        clear hpv
        go_cut [45] (fun x wx => x = .bool false ∧ wx = wr)
        case first =>
          rcases hmeet.out with ⟨rfl, rfl⟩ | ⟨rfl, rfl, hp⟩
          all_goals clear hmeet
          · go_wp2
            go_meet
            exact ⟨rfl, rfl⟩
          · go_wp2
            go_meet
            (try rw [decide_eq_false hp]); exact ⟨rfl, rfl⟩
        case rest =>
        obtain ⟨rfl, e6⟩ := hcut
        obtain rfl := e6.symm
        clear hmeet c0
        go_upto_region 8 with fail
        go_wp2
        go_loopw [8] (fun x wq => ∃ q : Nat, q ≤ k ∧ x = .int .i64 q ∧ Hid (∀ j (hj : j < l.length), j < q → l[j] ≠ s) ∧ Hid (Below w.heap.size w wq)) (fun x _ => k - (RowKit.intOf x).toNat)
        case atStart => exact ⟨0, Nat.zero_le _, rfl, Lib.hid (fun j _ h => absurd h (Nat.not_lt_zero _)), hB⟩
        case round =>
          obtain ⟨q, hq, rfl, hne, hB2⟩ := hrel
          by_cases hqk : q < k
          · have hql : q < l.length := by omega
            have e0 := (hB2.out.drew.cell (p := ⟨b, o + q, none⟩) hbw.out).trans (hc.out q hql)
            have e1 := (hB2.out.drew.cell (p := ⟨b, o + k, none⟩) hbw.out).trans (hc.out k hkl)
            rw [hs.out] at e1
            obtain ⟨t, ht⟩ : ∃ t, l[q] = t := ⟨_, rfl⟩
            rw [ht] at e0
            have hj0 : (0 : Int) ≤ (q : Int) := by omega
            have hj1 : (q : Int) < (n : Int) := by omega
            have hj2 : (q : Int) < (k : Int) := by omega
            have hbad3 : Hid (t = s → r = false) := Lib.hid (fun e => hbad2.out q hql hqk (by rw [ht, e]))
            have hne2 : Hid (t ≠ s → ∀ j (hj : j < l.length), j < q + 1 → l[j] ≠ s) := Lib.hid (fun e j hj hjk => by
              by_cases e2 : j = q
              · subst e2; rw [ht]; exact e
              · exact hne.out j hj (by omega))
            clear ht
            by_cases hts : t = s
            · have e := hbad3.out hts
              subst hts e
              clear hbad2 hbad3 hgood2 hr hne2
              go_upto_region 11 with fail
              go_region
              all_goals go_wp2
              all_goals go_ret
              all_goals exact ⟨rfl, hB2.out.drew⟩
            · have g2 := Lib.hid (hne2.out hts)
              have ene := ne_toList hts
              clear hbad3 hne2 hts
              go_upto_region 11 with fail
              go_region
              all_goals go_wp2
              all_goals exact ⟨⟨q + 1, by omega, by simp, g2, Lib.hid hB2.out.drew⟩, by simp [RowKit.intOf]; omega⟩
          · have hqk2 : q = k := by omega
            have g2 := Lib.hid (hgood2.out (by rw [← hqk2]; exact hne.out))
            have hj2 : ¬ (q : Int) < (k : Int) := by omega
            clear hgood2 hbad2
            go_wp2
            exact ⟨⟨k + 1, by omega, by simp, g, g2, hB2⟩, by simp [RowKit.intOf]; omega⟩
    · have hkn : k = n := by omega
      have e : r = decide (n ≤ 8) := by
        rw [← hr.out, wordsP, all_of_at (fun j hj => hok.out j hj (by have := hn.out; omega))]
        have h2 := hnd.out
        rw [show k = l.length by have := hn.out; omega, List.take_length] at h2
        simp [twiceB, h2, hn.out]
      clear hr hok hnd
      by_cases h8 : n ≤ 8
      · have h82 : (n : Int) ≤ 8 := by omega
        rw [decide_eq_true h8] at e
        subst e
        go_wp2
        go_ret
        exact ⟨rfl, hB.out⟩
      · have h82 : ¬ (n : Int) ≤ 8 := by omega
        rw [decide_eq_false h8] at e
        subst e
        go_wp2
        go_ret
        exact ⟨rfl, hB.out⟩
end Go.Proofs.YtghlodpbbghcoaaGreatDoor
