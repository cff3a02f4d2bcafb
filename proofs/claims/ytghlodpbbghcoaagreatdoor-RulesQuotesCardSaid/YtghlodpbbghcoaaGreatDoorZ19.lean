/- Words of a constraint, all of them: walked. -/
import Derived.Test.YtghlodpbbghcoaaGreatDoorZ18
namespace Go.Proofs.YtghlodpbbghcoaaGreatDoor
open Go.Lib Go.RowKit Go.Maps
def wordsP (p : ByteArray → Bool) (l : List ByteArray) : Bool := decide (l.length ≤ 8) && (l.all p && !twiceB l)

set_option maxRecDepth 8192 in
set_option maxHeartbeats 1600000 in
theorem words_wordP (v : Value) (l : List ByteArray) (P : Nat → Prop) (w : World) (_hP : ∀ k, P k → k < w.heap.size) (h : StrsAt w P v l) (hl : l.length ≤ 140737488355328) (hsz : ∀ s ∈ l, s.size ≤ 140737488355328) :
    Calls Tryz.prog 106 #[v, .func (.func 107) #[] #[]] w fun e w' => e = .returned (.bool (wordsP wordP l)) ∧ w' = w := by
  obtain ⟨A, n, cap, rfl, hn, hcap, hat⟩ := h.form
  have hn6 : n ≤ 140737488355328 := by omega
  obtain ⟨r, hr⟩ : ∃ r, wordsP wordP l = r := ⟨_, rfl⟩
  rw [hr]
  replace hr := Lib.hid hr
  replace hn := Lib.hid hn
  replace hat := Lib.hid hat
  replace hsz := Lib.hid hsz
  clear h _hP
  by_cases h8 : 8 < n
  · have e : r = false := by
      rw [← hr.out, wordsP, decide_eq_false (by rw [← hn.out]; omega)]
      rfl
    subst e
    have hi8 : (8 : Int) < (n : Int) := by omega
    go_enter Tryz.func106, Tryz.ntmps106
    go_wp2
    go_ret
    exact ⟨rfl, rfl⟩
  · have hi8 : ¬ (8 : Int) < (n : Int) := by omega
    have hr1 : Hid (r = (l.all wordP && !twiceB l)) := Lib.hid (by
      rw [← hr.out, wordsP, decide_eq_true (by rw [← hn.out]; omega)]
      rfl)
    go_enter Tryz.func106, Tryz.ntmps106
    go_wp2
    go_loop [12] (fun x => ∃ k : Nat, k ≤ n ∧ x = .int .i64 k ∧ Hid (∀ j (hj : j < l.length), j < k → wordP l[j] = true) ∧ Hid ((l.take k).Nodup)) (fun x => n - (RowKit.intOf x).toNat)
    case atStart => exact ⟨0, Nat.zero_le _, rfl, Lib.hid (fun j _ h => absurd h (Nat.not_lt_zero _)), Lib.hid (by simp)⟩
    case round =>
      obtain ⟨k, hk, rfl, hok, hnd⟩ := hrel
      by_cases hlt : k < n
      · have hkl : k < l.length := by have := hn.out; omega
        obtain ⟨b, o, rfl, hPb, hc⟩ := hat.out (by omega)
        have c0 := hc k hkl
        obtain ⟨s, hs⟩ : ∃ s, l[k] = s := ⟨_, rfl⟩
        rw [hs] at c0
        have hss := hsz.out s (by rw [← hs]; exact List.getElem_mem hkl)
        have hpr : Calls Tryz.prog 107 #[.string s] w fun e w' => e = .returned (.bool (wordP s)) ∧ w' = w := isWord_any s hss w
        have hcn : Calls Tryz.prog 40 #[.slice (some ⟨b, o, none⟩) k cap, .string s] w fun e w' => e = .returned (.bool (Lib.containsS (l.take k) s)) ∧ w' = w := by
          have := Tryz.slices_Contains_string b o k cap l s w (by omega) (by omega) (fun j hj => by rw [hc j hj]; simp [List.getD_eq_getElem?_getD, hj])
          exact this
        obtain ⟨pb, hpb⟩ : ∃ pb, wordP s = pb := ⟨_, rfl⟩
        obtain ⟨cb, hcb⟩ : ∃ cb, Lib.containsS (l.take k) s = cb := ⟨_, rfl⟩
        rw [hpb] at hpr
        rw [hcb] at hcn
        have hbad1 : Hid (pb = false → r = false) := Lib.hid (fun e => by rw [hr1.out, all_take_false hkl (by rw [hs, hpb, e])]; rfl)
        have hbad2 : Hid (cb = true → r = false) := Lib.hid (fun e => by
          rw [hr1.out]
          have hm : s ∈ l.take k := (Lib.containsS_iff _ _).1 (by rw [hcb, e])
          have : twiceB l = true := by
            unfold twiceB
            rw [Bool.not_eq_true', decide_eq_false_iff_not]
            intro hd
            have h2 : l = l.take k ++ (s :: l.drop (k + 1)) := by
              conv => lhs; rw [← List.take_append_drop k l, List.drop_eq_getElem_cons hkl, hs]
            rw [h2, List.nodup_append] at hd
            exact hd.2.2 s hm s (by simp) rfl
          rw [this, Bool.not_true, Bool.and_false])
        have hgood : Hid (pb = true → cb = false → (∀ j (hj : j < l.length), j < k + 1 → wordP l[j] = true) ∧ (l.take (k + 1)).Nodup) := Lib.hid (fun e1 e2 => by
          refine ⟨fun j hj hjk => ?_, ?_⟩
          · by_cases e : j = k
            · subst e; rw [hs, hpb, e1]
            · exact hok.out j hj (by omega)
          · rw [List.take_add_one, List.getElem?_eq_getElem hkl, hs, List.nodup_append]
            refine ⟨hnd.out, by simp, fun a ha c hc e => ?_⟩
            simp at hc
            subst hc e
            have := (Lib.containsS_iff _ _).2 ha
            rw [hcb, e2] at this
            cases this)
        have hi0 : (0 : Int) ≤ (k : Int) := by omega
        have hi1 : (k : Int) < (n : Int) := by omega
        have hi2 : k ≤ cap := by omega
        have hi3 : (k : Int) ≤ (cap : Int) := by omega
        clear hc hs hr1 hpb hcb
        cases pb with
        | false =>
          have e := hbad1.out rfl
          subst e
          clear hbad1 hbad2 hgood
          go_wp2_with (go_at_call 107; refine hpr.mono ?_; rintro e5 w5 ⟨rfl, rfl⟩)
          go_ret
          exact ⟨rfl, rfl⟩
        | true =>
          cases cb with
          | true =>
            have e := hbad2.out rfl
            subst e
            clear hbad1 hbad2 hgood
            go_wp2_with (first
              | (go_at_call 107; refine hpr.mono ?_; rintro e5 w5 ⟨rfl, rfl⟩)
              | (go_at_call 40; refine hcn.mono ?_; rintro e5 w5 ⟨rfl, rfl⟩))
            go_ret
            exact ⟨rfl, rfl⟩
          | false =>
            obtain ⟨g1, g2⟩ := hgood.out rfl rfl
            replace g1 := Lib.hid g1
            replace g2 := Lib.hid g2
            clear hbad1 hbad2 hgood
            go_wp2_with (first
              | (go_at_call 107; refine hpr.mono ?_; rintro e5 w5 ⟨rfl, rfl⟩)
              | (go_at_call 40; refine hcn.mono ?_; rintro e5 w5 ⟨rfl, rfl⟩))
            exact ⟨⟨k + 1, by omega, by simp, g1, g2⟩, by simp [RowKit.intOf]; omega⟩
      · have e : r = true := by
          have hkn : k = l.length := by have := hn.out; omega
          have h2 := hnd.out
          rw [hkn, List.take_length] at h2
          rw [hr1.out, all_of_at (fun j hj => hok.out j hj (by omega)), twiceB, decide_eq_true h2]
          rfl
        subst e
        clear hr1
        go_wp2
        go_ret
        exact ⟨rfl, rfl⟩

set_option maxRecDepth 8192 in
set_option maxHeartbeats 1600000 in
theorem words_schemeP (v : Value) (l : List ByteArray) (P : Nat → Prop) (w : World) (_hP : ∀ k, P k → k < w.heap.size) (h : StrsAt w P v l) (hl : l.length ≤ 140737488355328) (hsz : ∀ s ∈ l, s.size ≤ 140737488355328) :
    Calls Tryz.prog 106 #[v, .func (.func 108) #[] #[]] w fun e w' => e = .returned (.bool (wordsP schemeP l)) ∧ w' = w := by
  obtain ⟨A, n, cap, rfl, hn, hcap, hat⟩ := h.form
  have hn6 : n ≤ 140737488355328 := by omega
  obtain ⟨r, hr⟩ : ∃ r, wordsP schemeP l = r := ⟨_, rfl⟩
  rw [hr]
  replace hr := Lib.hid hr
  replace hn := Lib.hid hn
  replace hat := Lib.hid hat
  replace hsz := Lib.hid hsz
  clear h _hP
  by_cases h8 : 8 < n
  · have e : r = false := by
      rw [← hr.out, wordsP, decide_eq_false (by rw [← hn.out]; omega)]
      rfl
    subst e
    have hi8 : (8 : Int) < (n : Int) := by omega
    go_enter Tryz.func106, Tryz.ntmps106
    go_wp2
    go_ret
    exact ⟨rfl, rfl⟩
  · have hi8 : ¬ (8 : Int) < (n : Int) := by omega
    have hr1 : Hid (r = (l.all schemeP && !twiceB l)) := Lib.hid (by
      rw [← hr.out, wordsP, decide_eq_true (by rw [← hn.out]; omega)]
      rfl)
    go_enter Tryz.func106, Tryz.ntmps106
    go_wp2
    go_loop [12] (fun x => ∃ k : Nat, k ≤ n ∧ x = .int .i64 k ∧ Hid (∀ j (hj : j < l.length), j < k → schemeP l[j] = true) ∧ Hid ((l.take k).Nodup)) (fun x => n - (RowKit.intOf x).toNat)
    case atStart => exact ⟨0, Nat.zero_le _, rfl, Lib.hid (fun j _ h => absurd h (Nat.not_lt_zero _)), Lib.hid (by simp)⟩
    case round =>
      obtain ⟨k, hk, rfl, hok, hnd⟩ := hrel
      by_cases hlt : k < n
      · have hkl : k < l.length := by have := hn.out; omega
        obtain ⟨b, o, rfl, hPb, hc⟩ := hat.out (by omega)
        have c0 := hc k hkl
        obtain ⟨s, hs⟩ : ∃ s, l[k] = s := ⟨_, rfl⟩
        rw [hs] at c0
        have hss := hsz.out s (by rw [← hs]; exact List.getElem_mem hkl)
        have hpr : Calls Tryz.prog 108 #[.string s] w fun e w' => e = .returned (.bool (schemeP s)) ∧ w' = w := isScheme_any s hss w
        have hcn : Calls Tryz.prog 40 #[.slice (some ⟨b, o, none⟩) k cap, .string s] w fun e w' => e = .returned (.bool (Lib.containsS (l.take k) s)) ∧ w' = w := by
          have := Tryz.slices_Contains_string b o k cap l s w (by omega) (by omega) (fun j hj => by rw [hc j hj]; simp [List.getD_eq_getElem?_getD, hj])
          exact this
        obtain ⟨pb, hpb⟩ : ∃ pb, schemeP s = pb := ⟨_, rfl⟩
        obtain ⟨cb, hcb⟩ : ∃ cb, Lib.containsS (l.take k) s = cb := ⟨_, rfl⟩
        rw [hpb] at hpr
        rw [hcb] at hcn
        have hbad1 : Hid (pb = false → r = false) := Lib.hid (fun e => by rw [hr1.out, all_take_false hkl (by rw [hs, hpb, e])]; rfl)
        have hbad2 : Hid (cb = true → r = false) := Lib.hid (fun e => by
          rw [hr1.out]
          have hm : s ∈ l.take k := (Lib.containsS_iff _ _).1 (by rw [hcb, e])
          have : twiceB l = true := by
            unfold twiceB
            rw [Bool.not_eq_true', decide_eq_false_iff_not]
            intro hd
            have h2 : l = l.take k ++ (s :: l.drop (k + 1)) := by
              conv => lhs; rw [← List.take_append_drop k l, List.drop_eq_getElem_cons hkl, hs]
            rw [h2, List.nodup_append] at hd
            exact hd.2.2 s hm s (by simp) rfl
          rw [this, Bool.not_true, Bool.and_false])
        have hgood : Hid (pb = true → cb = false → (∀ j (hj : j < l.length), j < k + 1 → schemeP l[j] = true) ∧ (l.take (k + 1)).Nodup) := Lib.hid (fun e1 e2 => by
          refine ⟨fun j hj hjk => ?_, ?_⟩
          · by_cases e : j = k
            · subst e; rw [hs, hpb, e1]
            · exact hok.out j hj (by omega)
          · rw [List.take_add_one, List.getElem?_eq_getElem hkl, hs, List.nodup_append]
            refine ⟨hnd.out, by simp, fun a ha c hc e => ?_⟩
            simp at hc
            subst hc e
            have := (Lib.containsS_iff _ _).2 ha
            rw [hcb, e2] at this
            cases this)
        have hi0 : (0 : Int) ≤ (k : Int) := by omega
        have hi1 : (k : Int) < (n : Int) := by omega
        have hi2 : k ≤ cap := by omega
        have hi3 : (k : Int) ≤ (cap : Int) := by omega
        clear hc hs hr1 hpb hcb
        cases pb with
        | false =>
          have e := hbad1.out rfl
          subst e
          clear hbad1 hbad2 hgood
          go_wp2_with (go_at_call 108; refine hpr.mono ?_; rintro e5 w5 ⟨rfl, rfl⟩)
          go_ret
          exact ⟨rfl, rfl⟩
        | true =>
          cases cb with
          | true =>
            have e := hbad2.out rfl
            subst e
            clear hbad1 hbad2 hgood
            go_wp2_with (first
              | (go_at_call 108; refine hpr.mono ?_; rintro e5 w5 ⟨rfl, rfl⟩)
              | (go_at_call 40; refine hcn.mono ?_; rintro e5 w5 ⟨rfl, rfl⟩))
            go_ret
            exact ⟨rfl, rfl⟩
          | false =>
            obtain ⟨g1, g2⟩ := hgood.out rfl rfl
            replace g1 := Lib.hid g1
            replace g2 := Lib.hid g2
            clear hbad1 hbad2 hgood
            go_wp2_with (first
              | (go_at_call 108; refine hpr.mono ?_; rintro e5 w5 ⟨rfl, rfl⟩)
              | (go_at_call 40; refine hcn.mono ?_; rintro e5 w5 ⟨rfl, rfl⟩))
            exact ⟨⟨k + 1, by omega, by simp, g1, g2⟩, by simp [RowKit.intOf]; omega⟩
      · have e : r = true := by
          have hkn : k = l.length := by have := hn.out; omega
          have h2 := hnd.out
          rw [hkn, List.take_length] at h2
          rw [hr1.out, all_of_at (fun j hj => hok.out j hj (by omega)), twiceB, decide_eq_true h2]
          rfl
        subst e
        clear hr1
        go_wp2
        go_ret
        exact ⟨rfl, rfl⟩
end Go.Proofs.YtghlodpbbghcoaaGreatDoor
