/- Words of a constraint: walked. -/
import Derived.Test.YtghlodpbbghcoaaGreatDoorZA
import Derived.Test.YtghlodpbbghcoaaGreatDoorZB
import Derived.Test.YtghlodpbbghcoaaGreatDoorCA
import Derived.Deep.DeepCutAuto
namespace Go.Proofs.YtghlodpbbghcoaaGreatDoor
open Go.Lib Go.RowKit Go.Maps
def inB (lo hi : Nat) (l : List UInt8) : Bool := l.all fun c => decide (lo ≤ c.toNat) && decide (c.toNat ≤ hi)
theorem inB_bad {lo hi : Nat} {s : ByteArray} {k : Nat} (hk : k < s.size) (h : (s[k].toNat : Int) < lo ∨ (hi : Int) < (s[k].toNat : Int)) : inB lo hi s.data.toList = false := by
  unfold inB
  rw [List.all_eq_false]
  refine ⟨s[k], List.mem_of_getElem? (str_at hk), ?_⟩
  simp
  omega
theorem inB_good {lo hi : Nat} {s : ByteArray} (h : ∀ k (hk : k < s.size), (lo : Int) ≤ (s[k].toNat : Int) ∧ (s[k].toNat : Int) ≤ hi) : inB lo hi s.data.toList = true := by
  unfold inB
  rw [List.all_eq_true]
  intro c hc
  obtain ⟨j, hj, rfl⟩ := List.getElem_of_mem hc
  have := h j (by simpa using hj)
  have e : s.data.toList[j] = s[j]'(by simpa using hj) := rfl
  rw [e]
  simp
  omega

set_option maxRecDepth 8192 in
set_option maxHeartbeats 1600000 in
theorem isValue_any (s : ByteArray) (hs : s.size ≤ 140737488355328) (w : World) : Calls Tryz.prog 114 #[.string s] w fun e w' => e = .returned (.bool (inB 32 126 s.data.toList)) ∧ w' = w := by
  obtain ⟨r, hr⟩ : ∃ r, inB 32 126 s.data.toList = r := ⟨_, rfl⟩
  rw [hr]
  replace hr := Lib.hid hr
  go_enter Tryz.func114, Tryz.ntmps114
  go_wp2
  go_loop [3] (fun x => ∃ k : Nat, k ≤ s.size ∧ x = .int .i64 k ∧ Hid (∀ j (hj : j < s.size), j < k → ((32 : Nat) : Int) ≤ (s[j].toNat : Int) ∧ (s[j].toNat : Int) ≤ ((126 : Nat) : Int))) (fun x => s.size - (RowKit.intOf x).toNat)
  case atStart => exact ⟨0, Nat.zero_le _, rfl, Lib.hid (fun j _ h => absurd h (Nat.not_lt_zero _))⟩
  case round =>
    obtain ⟨k, hk, rfl, hok⟩ := hrel
    by_cases hlt : k < s.size
    · obtain ⟨q, hq⟩ : ∃ q : Int, (s[k].toNat : Int) = q := ⟨_, rfl⟩
      have hbad : Hid (q < 32 ∨ 126 < q → r = false) := Lib.hid (fun h => by rw [← hr.out]; exact inB_bad hlt (by rw [hq]; exact h))
      have hgood : Hid (32 ≤ q → q ≤ 126 → ∀ j (hj : j < s.size), j < k + 1 → ((32 : Nat) : Int) ≤ (s[j].toNat : Int) ∧ (s[j].toNat : Int) ≤ ((126 : Nat) : Int)) := Lib.hid (fun h1 h2 j hj hjk => by
        by_cases e : j = k
        · subst e
          rw [hq]
          exact ⟨h1, h2⟩
        · exact hok.out j hj (by omega))
      have hi0 : (0 : Int) ≤ (k : Int) := by omega
      have hi1 : (k : Int) < (s.size : Int) := by omega
      by_cases h1 : q < 32
      · have e := hbad.out (.inl h1)
        subst e
        clear hbad hgood
        go_wp2
        go_ret
        exact ⟨rfl, rfl⟩
      · by_cases h2 : 126 < q
        · have e := hbad.out (.inr h2)
          subst e
          clear hbad hgood
          go_wp2
          go_ret
          exact ⟨rfl, rfl⟩
        · have g := Lib.hid (hgood.out (by omega) (by omega))
          clear hbad hgood
          go_wp2
          exact ⟨⟨k + 1, by omega, by simp, g⟩, by simp [RowKit.intOf]; omega⟩
    · have e : r = true := by rw [← hr.out]; exact inB_good (fun j hj => hok.out j hj (by omega))
      subst e
      clear hok
      go_wp2
      go_ret
      exact ⟨rfl, rfl⟩

set_option maxRecDepth 8192 in
set_option maxHeartbeats 1600000 in
theorem isScheme_any (s : ByteArray) (hs : s.size ≤ 140737488355328) (w : World) : Calls Tryz.prog 108 #[.string s] w fun e w' => e = .returned (.bool (inB 97 122 s.data.toList && (decide (1 ≤ s.size) && decide (s.size ≤ 16)))) ∧ w' = w := by
  obtain ⟨r, hr⟩ : ∃ r, inB 97 122 s.data.toList = r := ⟨_, rfl⟩
  rw [hr]
  replace hr := Lib.hid hr
  go_enter Tryz.func108, Tryz.ntmps108
  go_wp2
  go_loop [3] (fun x => ∃ k : Nat, k ≤ s.size ∧ x = .int .i64 k ∧ Hid (∀ j (hj : j < s.size), j < k → ((97 : Nat) : Int) ≤ (s[j].toNat : Int) ∧ (s[j].toNat : Int) ≤ ((122 : Nat) : Int))) (fun x => s.size - (RowKit.intOf x).toNat)
  case atStart => exact ⟨0, Nat.zero_le _, rfl, Lib.hid (fun j _ h => absurd h (Nat.not_lt_zero _))⟩
  case round =>
    obtain ⟨k, hk, rfl, hok⟩ := hrel
    by_cases hlt : k < s.size
    · obtain ⟨q, hq⟩ : ∃ q : Int, (s[k].toNat : Int) = q := ⟨_, rfl⟩
      have hbad : Hid (q < 97 ∨ 122 < q → r = false) := Lib.hid (fun h => by rw [← hr.out]; exact inB_bad hlt (by rw [hq]; exact h))
      have hgood : Hid (97 ≤ q → q ≤ 122 → ∀ j (hj : j < s.size), j < k + 1 → ((97 : Nat) : Int) ≤ (s[j].toNat : Int) ∧ (s[j].toNat : Int) ≤ ((122 : Nat) : Int)) := Lib.hid (fun h1 h2 j hj hjk => by
        by_cases e : j = k
        · subst e
          rw [hq]
          exact ⟨h1, h2⟩
        · exact hok.out j hj (by omega))
      have hi0 : (0 : Int) ≤ (k : Int) := by omega
      have hi1 : (k : Int) < (s.size : Int) := by omega
      by_cases h1 : q < 97
      · have e := hbad.out (.inl h1)
        subst e
        clear hbad hgood
        go_wp2
        go_ret
        exact ⟨rfl, rfl⟩
      · by_cases h2 : 122 < q
        · have e := hbad.out (.inr h2)
          subst e
          clear hbad hgood
          go_wp2
          go_ret
          exact ⟨rfl, rfl⟩
        · have g := Lib.hid (hgood.out (by omega) (by omega))
          clear hbad hgood
          go_wp2
          exact ⟨⟨k + 1, by omega, by simp, g⟩, by simp [RowKit.intOf]; omega⟩
    · have e : r = true := by rw [← hr.out]; exact inB_good (fun j hj => hok.out j hj (by omega))
      subst e
      clear hok
      by_cases h1 : 1 ≤ s.size
      · have d1 : (1 : Int) ≤ (s.size : Int) := by omega
        by_cases h2 : s.size ≤ 16
        · have d2 : (s.size : Int) ≤ 16 := by omega
          go_wp2
          go_ret
          simp
        · have d2 : ¬ (s.size : Int) ≤ 16 := by omega
          go_wp2
          go_ret
          simp
      · have d1 : ¬ (1 : Int) ≤ (s.size : Int) := by omega
        go_wp2
        go_ret
        simp

def wordP (s : ByteArray) : Bool := decide (s.size ≤ 40) && inB 32 126 s.data.toList
def schemeP (s : ByteArray) : Bool := inB 97 122 s.data.toList && (decide (1 ≤ s.size) && decide (s.size ≤ 16))
theorem isWord_any (s : ByteArray) (hs : s.size ≤ 140737488355328) (w : World) : Calls Tryz.prog 107 #[.string s] w fun e w' => e = .returned (.bool (wordP s)) ∧ w' = w := by
  have hn := isValue_any s hs w
  obtain ⟨n, hn0⟩ : ∃ n, inB 32 126 s.data.toList = n := ⟨_, rfl⟩
  unfold wordP
  rw [hn0] at hn ⊢
  clear hn0
  by_cases h : s.size ≤ 40
  · go_enter Tryz.func107, Tryz.ntmps107
    go_wp2_with (go_at_call 114; refine hn.mono ?_; rintro e w1 ⟨rfl, rfl⟩)
    go_ret
    simp [h]
  · go_enter Tryz.func107, Tryz.ntmps107
    go_wp2
    go_ret
    simp
end Go.Proofs.YtghlodpbbghcoaaGreatDoor

/- Words of a constraint, all of them: walked. -/
namespace Go.Proofs.YtghlodpbbghcoaaGreatDoor
open Go.Lib Go.RowKit Go.Maps
def wordsP (p : ByteArray → Bool) (l : List ByteArray) : Bool := decide (l.length ≤ 8) && (l.all p && !twiceB l)

set_option maxRecDepth 8192 in
set_option maxHeartbeats 1600000 in
theorem words_wordP (v : Value) (l : List ByteArray) (P : Nat → Prop) (w : World) (_hP : ∀ k, P k → k < w.heap.size) (h : StrsAt w P v l) (hl : l.length ≤ 140737488355328) (hsz : ∀ s ∈ l, s.size ≤ 140737488355328) :
    Calls Tryz.prog 106 #[v, .func (.func 107) #[] #[]] w fun e w' => e = .returned (.bool (wordsP wordP l)) ∧ w' = w := by
  obtain ⟨A, n, cap, rfl, hn, hcap, hat⟩ := h.form
  have hn6 : n ≤ 140737488355328 := by omega
  obtain ⟨r, hr⟩ : ∃ r, wordsP wordP l = r := ⟨_, rfl⟩
  rw [hr]
  replace hr := Lib.hid hr
  replace hn := Lib.hid hn
  replace hat := Lib.hid hat
  replace hsz := Lib.hid hsz
  clear h _hP
  by_cases h8 : 8 < n
  · have e : r = false := by
      rw [← hr.out, wordsP, decide_eq_false (by rw [← hn.out]; omega)]
      rfl
    subst e
    have hi8 : (8 : Int) < (n : Int) := by omega
    go_enter Tryz.func106, Tryz.ntmps106
    go_wp2
    go_ret
    exact ⟨rfl, rfl⟩
  · have hi8 : ¬ (8 : Int) < (n : Int) := by omega
    have hr1 : Hid (r = (l.all wordP && !twiceB l)) := Lib.hid (by
      rw [← hr.out, wordsP, decide_eq_true (by rw [← hn.out]; omega)]
      rfl)
    go_enter Tryz.func106, Tryz.ntmps106
    go_wp2
    go_loop [12] (fun x => ∃ k : Nat, k ≤ n ∧ x = .int .i64 k ∧ Hid (∀ j (hj : j < l.length), j < k → wordP l[j] = true) ∧ Hid ((l.take k).Nodup)) (fun x => n - (RowKit.intOf x).toNat)
    case atStart => exact ⟨0, Nat.zero_le _, rfl, Lib.hid (fun j _ h => absurd h (Nat.not_lt_zero _)), Lib.hid (by simp)⟩
    case round =>
      obtain ⟨k, hk, rfl, hok, hnd⟩ := hrel
      by_cases hlt : k < n
      · have hkl : k < l.length := by have := hn.out; omega
        obtain ⟨b, o, rfl, hPb, hc⟩ := hat.out (by omega)
        have c0 := hc k hkl
        obtain ⟨s, hs⟩ : ∃ s, l[k] = s := ⟨_, rfl⟩
        rw [hs] at c0
        have hss := hsz.out s (by rw [← hs]; exact List.getElem_mem hkl)
        have hpr : Calls Tryz.prog 107 #[.string s] w fun e w' => e = .returned (.bool (wordP s)) ∧ w' = w := isWord_any s hss w
        have hcn : Calls Tryz.prog 40 #[.slice (some ⟨b, o, none⟩) k cap, .string s] w fun e w' => e = .returned (.bool (Lib.containsS (l.take k) s)) ∧ w' = w := by
          have := Tryz.slices_Contains_string b o k cap l s w (by omega) (by omega) (fun j hj => by rw [hc j hj]; simp [List.getD_eq_getElem?_getD, hj])
          exact this
        obtain ⟨pb, hpb⟩ : ∃ pb, wordP s = pb := ⟨_, rfl⟩
        obtain ⟨cb, hcb⟩ : ∃ cb, Lib.containsS (l.take k) s = cb := ⟨_, rfl⟩
        rw [hpb] at hpr
        rw [hcb] at hcn
        have hbad1 : Hid (pb = false → r = false) := Lib.hid (fun e => by rw [hr1.out, all_take_false hkl (by rw [hs, hpb, e])]; rfl)
        have hbad2 : Hid (cb = true → r = false) := Lib.hid (fun e => by
          rw [hr1.out]
          have hm : s ∈ l.take k := (Lib.containsS_iff _ _).1 (by rw [hcb, e])
          have : twiceB l = true := by
            unfold twiceB
            rw [Bool.not_eq_true', decide_eq_false_iff_not]
            intro hd
            have h2 : l = l.take k ++ (s :: l.drop (k + 1)) := by
              conv => lhs; rw [← List.take_append_drop k l, List.drop_eq_getElem_cons hkl, hs]
            rw [h2, List.nodup_append] at hd
            exact hd.2.2 s hm s (by simp) rfl
          rw [this, Bool.not_true, Bool.and_false])
        have hgood : Hid (pb = true → cb = false → (∀ j (hj : j < l.length), j < k + 1 → wordP l[j] = true) ∧ (l.take (k + 1)).Nodup) := Lib.hid (fun e1 e2 => by
          refine ⟨fun j hj hjk => ?_, ?_⟩
          · by_cases e : j = k
            · subst e; rw [hs, hpb, e1]
            · exact hok.out j hj (by omega)
          · rw [List.take_add_one, List.getElem?_eq_getElem hkl, hs, List.nodup_append]
            refine ⟨hnd.out, by simp, fun a ha c hc e => ?_⟩
            simp at hc
            subst hc e
            have := (Lib.containsS_iff _ _).2 ha
            rw [hcb, e2] at this
            cases this)
        have hi0 : (0 : Int) ≤ (k : Int) := by omega
        have hi1 : (k : Int) < (n : Int) := by omega
        have hi2 : k ≤ cap := by omega
        have hi3 : (k : Int) ≤ (cap : Int) := by omega
        clear hc hs hr1 hpb hcb
        cases pb with
        | false =>
          have e := hbad1.out rfl
          subst e
          clear hbad1 hbad2 hgood
          go_wp2_with (go_at_call 107; refine hpr.mono ?_; rintro e5 w5 ⟨rfl, rfl⟩)
          go_ret
          exact ⟨rfl, rfl⟩
        | true =>
          cases cb with
          | true =>
            have e := hbad2.out rfl
            subst e
            clear hbad1 hbad2 hgood
            go_wp2_with (first
              | (go_at_call 107; refine hpr.mono ?_; rintro e5 w5 ⟨rfl, rfl⟩)
              | (go_at_call 40; refine hcn.mono ?_; rintro e5 w5 ⟨rfl, rfl⟩))
            go_ret
            exact ⟨rfl, rfl⟩
          | false =>
            obtain ⟨g1, g2⟩ := hgood.out rfl rfl
            replace g1 := Lib.hid g1
            replace g2 := Lib.hid g2
            clear hbad1 hbad2 hgood
            go_wp2_with (first
              | (go_at_call 107; refine hpr.mono ?_; rintro e5 w5 ⟨rfl, rfl⟩)
              | (go_at_call 40; refine hcn.mono ?_; rintro e5 w5 ⟨rfl, rfl⟩))
            exact ⟨⟨k + 1, by omega, by simp, g1, g2⟩, by simp [RowKit.intOf]; omega⟩
      · have e : r = true := by
          have hkn : k = l.length := by have := hn.out; omega
          have h2 := hnd.out
          rw [hkn, List.take_length] at h2
          rw [hr1.out, all_of_at (fun j hj => hok.out j hj (by omega)), twiceB, decide_eq_true h2]
          rfl
        subst e
        clear hr1
        go_wp2
        go_ret
        exact ⟨rfl, rfl⟩

set_option maxRecDepth 8192 in
set_option maxHeartbeats 1600000 in
theorem words_schemeP (v : Value) (l : List ByteArray) (P : Nat → Prop) (w : World) (_hP : ∀ k, P k → k < w.heap.size) (h : StrsAt w P v l) (hl : l.length ≤ 140737488355328) (hsz : ∀ s ∈ l, s.size ≤ 140737488355328) :
    Calls Tryz.prog 106 #[v, .func (.func 108) #[] #[]] w fun e w' => e = .returned (.bool (wordsP schemeP l)) ∧ w' = w := by
  obtain ⟨A, n, cap, rfl, hn, hcap, hat⟩ := h.form
  have hn6 : n ≤ 140737488355328 := by omega
  obtain ⟨r, hr⟩ : ∃ r, wordsP schemeP l = r := ⟨_, rfl⟩
  rw [hr]
  replace hr := Lib.hid hr
  replace hn := Lib.hid hn
  replace hat := Lib.hid hat
  replace hsz := Lib.hid hsz
  clear h _hP
  by_cases h8 : 8 < n
  · have e : r = false := by
      rw [← hr.out, wordsP, decide_eq_false (by rw [← hn.out]; omega)]
      rfl
    subst e
    have hi8 : (8 : Int) < (n : Int) := by omega
    go_enter Tryz.func106, Tryz.ntmps106
    go_wp2
    go_ret
    exact ⟨rfl, rfl⟩
  · have hi8 : ¬ (8 : Int) < (n : Int) := by omega
    have hr1 : Hid (r = (l.all schemeP && !twiceB l)) := Lib.hid (by
      rw [← hr.out, wordsP, decide_eq_true (by rw [← hn.out]; omega)]
      rfl)
    go_enter Tryz.func106, Tryz.ntmps106
    go_wp2
    go_loop [12] (fun x => ∃ k : Nat, k ≤ n ∧ x = .int .i64 k ∧ Hid (∀ j (hj : j < l.length), j < k → schemeP l[j] = true) ∧ Hid ((l.take k).Nodup)) (fun x => n - (RowKit.intOf x).toNat)
    case atStart => exact ⟨0, Nat.zero_le _, rfl, Lib.hid (fun j _ h => absurd h (Nat.not_lt_zero _)), Lib.hid (by simp)⟩
    case round =>
      obtain ⟨k, hk, rfl, hok, hnd⟩ := hrel
      by_cases hlt : k < n
      · have hkl : k < l.length := by have := hn.out; omega
        obtain ⟨b, o, rfl, hPb, hc⟩ := hat.out (by omega)
        have c0 := hc k hkl
        obtain ⟨s, hs⟩ : ∃ s, l[k] = s := ⟨_, rfl⟩
        rw [hs] at c0
        have hss := hsz.out s (by rw [← hs]; exact List.getElem_mem hkl)
        have hpr : Calls Tryz.prog 108 #[.string s] w fun e w' => e = .returned (.bool (schemeP s)) ∧ w' = w := isScheme_any s hss w
        have hcn : Calls Tryz.prog 40 #[.slice (some ⟨b, o, none⟩) k cap, .string s] w fun e w' => e = .returned (.bool (Lib.containsS (l.take k) s)) ∧ w' = w := by
          have := Tryz.slices_Contains_string b o k cap l s w (by omega) (by omega) (fun j hj => by rw [hc j hj]; simp [List.getD_eq_getElem?_getD, hj])
          exact this
        obtain ⟨pb, hpb⟩ : ∃ pb, schemeP s = pb := ⟨_, rfl⟩
        obtain ⟨cb, hcb⟩ : ∃ cb, Lib.containsS (l.take k) s = cb := ⟨_, rfl⟩
        rw [hpb] at hpr
        rw [hcb] at hcn
        have hbad1 : Hid (pb = false → r = false) := Lib.hid (fun e => by rw [hr1.out, all_take_false hkl (by rw [hs, hpb, e])]; rfl)
        have hbad2 : Hid (cb = true → r = false) := Lib.hid (fun e => by
          rw [hr1.out]
          have hm : s ∈ l.take k := (Lib.containsS_iff _ _).1 (by rw [hcb, e])
          have : twiceB l = true := by
            unfold twiceB
            rw [Bool.not_eq_true', decide_eq_false_iff_not]
            intro hd
            have h2 : l = l.take k ++ (s :: l.drop (k + 1)) := by
              conv => lhs; rw [← List.take_append_drop k l, List.drop_eq_getElem_cons hkl, hs]
            rw [h2, List.nodup_append] at hd
            exact hd.2.2 s hm s (by simp) rfl
          rw [this, Bool.not_true, Bool.and_false])
        have hgood : Hid (pb = true → cb = false → (∀ j (hj : j < l.length), j < k + 1 → schemeP l[j] = true) ∧ (l.take (k + 1)).Nodup) := Lib.hid (fun e1 e2 => by
          refine ⟨fun j hj hjk => ?_, ?_⟩
          · by_cases e : j = k
            · subst e; rw [hs, hpb, e1]
            · exact hok.out j hj (by omega)
          · rw [List.take_add_one, List.getElem?_eq_getElem hkl, hs, List.nodup_append]
            refine ⟨hnd.out, by simp, fun a ha c hc e => ?_⟩
            simp at hc
            subst hc e
            have := (Lib.containsS_iff _ _).2 ha
            rw [hcb, e2] at this
            cases this)
        have hi0 : (0 : Int) ≤ (k : Int) := by omega
        have hi1 : (k : Int) < (n : Int) := by omega
        have hi2 : k ≤ cap := by omega
        have hi3 : (k : Int) ≤ (cap : Int) := by omega
        clear hc hs hr1 hpb hcb
        cases pb with
        | false =>
          have e := hbad1.out rfl
          subst e
          clear hbad1 hbad2 hgood
          go_wp2_with (go_at_call 108; refine hpr.mono ?_; rintro e5 w5 ⟨rfl, rfl⟩)
          go_ret
          exact ⟨rfl, rfl⟩
        | true =>
          cases cb with
          | true =>
            have e := hbad2.out rfl
            subst e
            clear hbad1 hbad2 hgood
            go_wp2_with (first
              | (go_at_call 108; refine hpr.mono ?_; rintro e5 w5 ⟨rfl, rfl⟩)
              | (go_at_call 40; refine hcn.mono ?_; rintro e5 w5 ⟨rfl, rfl⟩))
            go_ret
            exact ⟨rfl, rfl⟩
          | false =>
            obtain ⟨g1, g2⟩ := hgood.out rfl rfl
            replace g1 := Lib.hid g1
            replace g2 := Lib.hid g2
            clear hbad1 hbad2 hgood
            go_wp2_with (first
              | (go_at_call 108; refine hpr.mono ?_; rintro e5 w5 ⟨rfl, rfl⟩)
              | (go_at_call 40; refine hcn.mono ?_; rintro e5 w5 ⟨rfl, rfl⟩))
            exact ⟨⟨k + 1, by omega, by simp, g1, g2⟩, by simp [RowKit.intOf]; omega⟩
      · have e : r = true := by
          have hkn : k = l.length := by have := hn.out; omega
          have h2 := hnd.out
          rw [hkn, List.take_length] at h2
          rw [hr1.out, all_of_at (fun j hj => hok.out j hj (by omega)), twiceB, decide_eq_true h2]
          rfl
        subst e
        clear hr1
        go_wp2
        go_ret
        exact ⟨rfl, rfl⟩
end Go.Proofs.YtghlodpbbghcoaaGreatDoor

/- Whether a constraint may be: walked (of an automaton what is given of it). -/
namespace Go.Proofs.YtghlodpbbghcoaaGreatDoor
open Go.Lib Go.RowKit Go.Maps
/-- May a constraint be? (mt: may an expression's automaton be?) -/
def conP (mt : ByteArray → Bool) (k : Int) (ws : List ByteArray) (rx : ByteArray) : Bool :=
  if k = 1 then decide (ws.length = 0) && rx.toList.isEmpty
  else if k = 2 then (decide (0 < ws.length) && wordsP wordP ws) && rx.toList.isEmpty
  else if k = 3 then wordsP schemeP ws && rx.toList.isEmpty
  else if k = 4 then decide (ws.length = 0) && mt rx
  else false
def ErrPost (b : Bool) (w : World) (e : Ending) (w' : World) : Prop := ∃ x : Int, e = .returned (.int .i64 x) ∧ decide (x = 0) = b ∧ Below w.heap.size w w'

set_option maxRecDepth 8192 in
set_option maxHeartbeats 3200000 in
theorem langMay_any (mt : ByteArray → Bool) (k : Int) (vw : Value) (ws : List ByteArray) (rx : ByteArray) (P : Nat → Prop) (w : World) (hP : ∀ k, P k → k < w.heap.size) (h : StrsAt w P vw ws) (hl : ws.length ≤ 140737488355328) (hsz : ∀ s ∈ ws, s.size ≤ 140737488355328)
    (hmt : k = 4 → ∀ W', Below w.heap.size w W' → Calls Tryz.prog 109 #[.string rx] W' (IsB (mt rx) W')) :
    Calls Tryz.prog 93 #[.agg #[.int .i64 k, vw, .string rx]] w (ErrPost (conP mt k ws rx) w) := by
  have hw : Hid (∀ wr : World, Below w.heap.size w wr → (Calls Tryz.prog 106 #[vw, .func (.func 107) #[] #[]] wr fun e w' => e = .returned (.bool (wordsP wordP ws)) ∧ w' = wr) ∧ (Calls Tryz.prog 106 #[vw, .func (.func 108) #[] #[]] wr fun e w' => e = .returned (.bool (wordsP schemeP ws)) ∧ w' = wr)) := Lib.hid (fun wr hb =>
    have h' := h.move (Stays.below hb hP) (fun _ h => h)
    have hP' := fun k hk => Nat.lt_of_lt_of_le (hP k hk) hb.size
    ⟨words_wordP vw ws P wr hP' h' hl hsz, words_schemeP vw ws P wr hP' h' hl hsz⟩)
  obtain ⟨A, n, cap, rfl, hn, -, -⟩ := h.form
  have hn6 : n ≤ 140737488355328 := by omega
  obtain ⟨r, hr⟩ : ∃ r, conP mt k ws rx = r := ⟨_, rfl⟩
  rw [hr]
  replace hr := Lib.hid hr
  replace hmt := Lib.hid hmt
  replace hn := Lib.hid hn
  clear h hl hsz hP
  have hB1 : Hid (Below w.heap.size w (w.alloc (.cells #[.int .i64 k, .slice A n cap, .string rx] 32))) := Lib.hid ((Below.refl _ _).alloc (Nat.le_refl _) _)
  have hX := blk_new w (.cells #[.int .i64 k, .slice A n cap, .string rx] 32)
  have d0 := blk_cell hX 0
  have d1 := blk_cell hX 1
  have d2 := blk_cell hX 2
  simp only [List.getElem?_toArray, List.getElem?_cons_zero, List.getElem?_cons_succ] at d0 d1 d2
  obtain ⟨re, hre⟩ : ∃ re, rx.toList.isEmpty = re := ⟨_, rfl⟩
  clear hX
  by_cases h1 : k = 1
  · subst h1
    have e : Hid (r = (decide (n = 0) && re)) := Lib.hid (by rw [← hr.out, conP, if_pos rfl, hre, ← hn.out])
    by_cases h0 : n = 0
    · have e2 : r = re := by rw [e.out, decide_eq_true h0]; rfl
      subst e2 h0
      clear e
      cases r
      all_goals
        go_enter Tryz.func93, Tryz.ntmps93
        go_wp2
        go_ret
      · exact ⟨10, rfl, rfl, hB1.out⟩
      · exact ⟨0, rfl, rfl, hB1.out⟩
    · have e2 : r = false := by rw [e.out, decide_eq_false h0]; rfl
      subst e2
      have hb0 : ((n : Int) == 0) = false := by simp; omega
      clear e
      go_enter Tryz.func93, Tryz.ntmps93
      go_wp2
      go_ret
      exact ⟨10, rfl, rfl, hB1.out⟩
  · have e1 : (k == 1) = false := by simpa using h1
    by_cases h2 : k = 2
    · subst h2
      obtain ⟨wp, hwp⟩ : ∃ wp, wordsP wordP ws = wp := ⟨_, rfl⟩
      have e : Hid (r = ((decide (0 < n) && wp) && re)) := Lib.hid (by rw [← hr.out, conP, if_neg (by decide), if_pos rfl, hre, hwp, ← hn.out])
      have hwc := (hw.out _ hB1.out).1
      rw [hwp] at hwc
      clear h1 hwp e1
      by_cases h0 : 0 < n
      · have hpos : (0 : Int) < (n : Int) := by omega
        have e2 : Hid (r = (wp && re)) := Lib.hid (by rw [e.out, decide_eq_true h0]; rfl)
        clear e
        cases wp with
        | false =>
          have e3 : r = false := by rw [e2.out]; rfl
          subst e3
          go_enter Tryz.func93, Tryz.ntmps93
          go_wp2_with (go_at_call 106; refine hwc.mono ?_; rintro e5 w5 ⟨rfl, rfl⟩)
          go_ret
          exact ⟨10, rfl, rfl, hB1.out⟩
        | true =>
          have e3 : r = re := by rw [e2.out]; rfl
          subst e3
          clear e2
          cases r
          all_goals
            go_enter Tryz.func93, Tryz.ntmps93
            go_wp2_with (go_at_call 106; refine hwc.mono ?_; rintro e5 w5 ⟨rfl, rfl⟩)
            go_ret
          · exact ⟨10, rfl, rfl, hB1.out⟩
          · exact ⟨0, rfl, rfl, hB1.out⟩
      · have e3 : r = false := by rw [e.out, decide_eq_false h0]; rfl
        subst e3
        have hpos : ¬ (0 : Int) < (n : Int) := by omega
        clear e
        go_enter Tryz.func93, Tryz.ntmps93
        go_wp2
        go_ret
        exact ⟨10, rfl, rfl, hB1.out⟩
    · have e2' : (k == 2) = false := by simpa using h2
      by_cases h3 : k = 3
      · subst h3
        obtain ⟨wp, hwp⟩ : ∃ wp, wordsP schemeP ws = wp := ⟨_, rfl⟩
        have e : Hid (r = (wp && re)) := Lib.hid (by rw [← hr.out, conP, if_neg (by decide), if_neg (by decide), if_pos rfl, hre, hwp])
        have hwc := (hw.out _ hB1.out).2
        rw [hwp] at hwc
        clear h1 h2 hwp e1 e2'
        cases wp with
        | false =>
          have e3 : r = false := by rw [e.out]; rfl
          subst e3
          go_enter Tryz.func93, Tryz.ntmps93
          go_wp2_with (go_at_call 106; refine hwc.mono ?_; rintro e5 w5 ⟨rfl, rfl⟩)
          go_ret
          exact ⟨10, rfl, rfl, hB1.out⟩
        | true =>
          have e3 : r = re := by rw [e.out]; rfl
          subst e3
          clear e
          cases r
          all_goals
            go_enter Tryz.func93, Tryz.ntmps93
            go_wp2_with (go_at_call 106; refine hwc.mono ?_; rintro e5 w5 ⟨rfl, rfl⟩)
            go_ret
          · exact ⟨10, rfl, rfl, hB1.out⟩
          · exact ⟨0, rfl, rfl, hB1.out⟩
      · have e3' : (k == 3) = false := by simpa using h3
        by_cases h4 : k = 4
        · subst h4
          obtain ⟨mb, hmb⟩ : ∃ mb, mt rx = mb := ⟨_, rfl⟩
          have e : Hid (r = (decide (n = 0) && mb)) := Lib.hid (by rw [← hr.out, conP, if_neg (by decide), if_neg (by decide), if_neg (by decide), if_pos rfl, hmb, ← hn.out])
          have hmc := hmt.out rfl _ hB1.out
          rw [hmb] at hmc
          clear h1 h2 h3 hmb e1 e2' e3'
          by_cases h0 : n = 0
          · have e2 : r = mb := by rw [e.out, decide_eq_true h0]; rfl
            subst e2 h0
            clear e
            cases r
            all_goals
              go_enter Tryz.func93, Tryz.ntmps93
              go_wp2_with (go_at_call 109; refine hmc.mono ?_; rintro e5 w5 ⟨rfl, hB5⟩)
              go_ret
            · exact ⟨10, rfl, rfl, hB1.out.trans (hB5.mono hB1.out.size)⟩
            · exact ⟨0, rfl, rfl, hB1.out.trans (hB5.mono hB1.out.size)⟩
          · have e2 : r = false := by rw [e.out, decide_eq_false h0]; rfl
            subst e2
            have hb0 : ((n : Int) == 0) = false := by simp; omega
            clear e
            go_enter Tryz.func93, Tryz.ntmps93
            go_wp2
            go_ret
            exact ⟨10, rfl, rfl, hB1.out⟩
        · have e4' : (k == 4) = false := by simpa using h4
          have e : r = false := by rw [← hr.out, conP, if_neg h1, if_neg h2, if_neg h3, if_neg h4]
          subst e
          clear h1 h2 h3 h4
          go_enter Tryz.func93, Tryz.ntmps93
          go_wp2
          go_ret
          exact ⟨10, rfl, rfl, hB1.out⟩
end Go.Proofs.YtghlodpbbghcoaaGreatDoor

/- Patterns; an element's rules: walked. -/
namespace Go.Proofs.YtghlodpbbghcoaaGreatDoor
open Go.Lib Go.RowKit Go.Maps
def stemP (s : ByteArray) : ByteArray := tx (Lib.trimSuffix s.data.toList [42])
def manyP (s : ByteArray) : Bool := Lib.hasSuffix s.data.toList [42]
theorem stemP_size (s : ByteArray) : (stemP s).size ≤ s.size := by
  unfold stemP
  rw [tx_size, Lib.trimSuffix]
  have hz : s.data.toList.length = s.size := by simp
  split
  · rw [List.length_take]; omega
  · omega
theorem pattern_any (s : ByteArray) (hs : s.size ≤ 140737488355328) (w : World) : Calls Tryz.prog 34 #[.string s] w fun e w' => e = .returned (.tuple #[.string (stemP s), .bool (manyP s), .bool (plainP (stemP s))]) ∧ w' = w := by
  have hc : Calls Tryz.prog 47 #[.string s, .string ⟨#[42]⟩] w fun e w' => e = .returned (.tuple #[.string (stemP s), .bool (manyP s)]) ∧ w' = w := Tryz.strings_CutSuffix s ⟨#[42]⟩ w (by omega)
  have hsz := stemP_size s
  have hp := plain_any (stemP s) (by unfold maxLen; omega) w
  obtain ⟨a, ha⟩ : ∃ a, stemP s = a := ⟨_, rfl⟩
  obtain ⟨b, hb⟩ : ∃ b, manyP s = b := ⟨_, rfl⟩
  rw [ha] at hc hp ⊢
  rw [hb] at hc ⊢
  obtain ⟨c, hc2⟩ : ∃ c, plainP a = c := ⟨_, rfl⟩
  rw [hc2] at hp ⊢
  clear ha hb hc2 hsz
  go_enter Tryz.func34, Tryz.ntmps34
  go_wp2_with (first
    | (go_at_call 47; refine hc.mono ?_; rintro e w1 ⟨rfl, rfl⟩)
    | (go_at_call 55; refine hp.mono ?_; rintro e w1 ⟨rfl, rfl⟩))
  go_ret3
  exact ⟨rfl, rfl⟩
/-- May a rule's name be, and be required? -/
def rul1 (r : Rul) : Bool := plainP (stemP r.name) && !(manyP r.name && r.req)
def rul2 (mt : ByteArray → Bool) (r : Rul) : Bool := conP mt r.kind r.words r.regex
def rulesP (mt : ByteArray → Bool) (l : List Rul) : Bool := (decide (l.length ≤ 8) && !twiceB (l.map Rul.name)) && (l.all rul1 && l.all (rul2 mt))
/-- Sizes that memory holds. -/
def Rul.Fit (r : Rul) : Prop := r.name.size ≤ 140737488355328 ∧ r.words.length ≤ 140737488355328 ∧ ∀ s ∈ r.words, s.size ≤ 140737488355328

set_option maxRecDepth 8192 in
set_option maxHeartbeats 3200000 in
theorem rules_any (mt : ByteArray → Bool) (v : Value) (l : List Rul) (P : Nat → Prop) (w : World) (hP : ∀ k, P k → k < w.heap.size) (h : RulsAt w P v l) (hl : l.length ≤ 140737488355328) (hsz : ∀ r ∈ l, r.Fit)
    (hmt : ∀ r ∈ l, r.kind = 4 → ∀ W', Below w.heap.size w W' → Calls Tryz.prog 109 #[.string r.regex] W' (IsB (mt r.regex) W')) :
    Calls Tryz.prog 63 #[v] w (IsB (rulesP mt l) w) := by
  have htw := twice_ruls v l P w hP h hl (fun s hs => by have := (hsz s hs).1; unfold maxLen; omega)
  obtain ⟨A, n, cap, rfl, hn, hcap, hat⟩ := h.form
  have hn6 : n ≤ 140737488355328 := by omega
  obtain ⟨r, hr⟩ : ∃ r, rulesP mt l = r := ⟨_, rfl⟩
  rw [hr]
  replace hr := Lib.hid hr
  replace hn := Lib.hid hn
  replace hat := Lib.hid hat
  replace hsz := Lib.hid hsz
  replace hP := Lib.hid hP
  replace hmt := Lib.hid hmt
  clear h
  by_cases h8 : 8 < n
  · have e : r = false := by
      rw [← hr.out, rulesP, decide_eq_false (by rw [← hn.out]; omega)]
      rfl
    subst e
    have hi8 : (8 : Int) < (n : Int) := by omega
    clear htw
    go_enter Tryz.func63, Tryz.ntmps63
    go_wp2
    go_ret
    exact ⟨rfl, Below.refl _ _⟩
  · have hi8 : ¬ (8 : Int) < (n : Int) := by omega
    obtain ⟨tb, htb⟩ : ∃ tb, twiceB (l.map Rul.name) = tb := ⟨_, rfl⟩
    rw [htb] at htw
    have hr1 : Hid (r = (!tb && (l.all rul1 && l.all (rul2 mt)))) := Lib.hid (by
      rw [← hr.out, rulesP, decide_eq_true (by rw [← hn.out]; omega), htb]
      rfl)
    clear htb
    cases tb with
    | true =>
      have e : r = false := by rw [hr1.out]; rfl
      subst e
      go_enter Tryz.func63, Tryz.ntmps63
      go_wp2_with (go_at_call 91; refine htw.mono ?_; rintro e5 w5 ⟨rfl, hB5⟩)
      go_ret
      exact ⟨rfl, hB5⟩
    | false =>
      have hr2 : Hid (r = (l.all rul1 && l.all (rul2 mt))) := Lib.hid (by rw [hr1.out]; rfl)
      clear hr1
      go_enter Tryz.func63, Tryz.ntmps63
      go_upto_region 3 with (go_at_call 91; refine htw.mono ?_; rintro e5 w5 ⟨rfl, hB5⟩)
      replace hB5 := Lib.hid hB5
      clear htw
      go_wp2
      go_loopw [19] (fun x wr => ∃ k : Nat, k ≤ n ∧ x = .int .i64 k ∧ Hid (∀ j (hj : j < l.length), j < k → rul1 l[j] = true) ∧ Hid (Below w.heap.size w wr)) (fun x _ => n - (RowKit.intOf x).toNat)
      case atStart => exact ⟨0, Nat.zero_le _, rfl, Lib.hid (fun j _ h => absurd h (Nat.not_lt_zero _)), hB5⟩
      case round =>
        clear hB5
        obtain ⟨k, hk, rfl, hok, hB⟩ := hrel
        by_cases hlt : k < n
        · have hkl : k < l.length := by have := hn.out; omega
          obtain ⟨b, o, rfl, hPb, hc⟩ := hat.out (by omega)
          obtain ⟨vw, h0, h1, h2, h3, h4, hvw⟩ := hc k hkl
          have hbw := hP.out b hPb
          have c0 := (hB.out.cell (p := ⟨b, o + k * 5, none⟩) hbw).trans h0
          have c1 := (hB.out.cell (p := ⟨b, o + k * 5 + 1, none⟩) hbw).trans h1
          have c2 := (hB.out.cell (p := ⟨b, o + k * 5 + 2, none⟩) hbw).trans h2
          have c3 := (hB.out.cell (p := ⟨b, o + k * 5 + 3, none⟩) hbw).trans h3
          have c4 := (hB.out.cell (p := ⟨b, o + k * 5 + 4, none⟩) hbw).trans h4
          obtain ⟨Ak, nk, ck, rfl, -, -, -⟩ := hvw.form
          obtain ⟨x, hx⟩ : ∃ x, l[k] = x := ⟨_, rfl⟩
          have hxs := (hsz.out x (by rw [← hx]; exact List.getElem_mem hkl)).1
          rw [hx] at c0 c1 c3 c4
          have hbad : Hid (rul1 x = false → r = false) := Lib.hid (fun e => by rw [hr2.out, all_take_false hkl (by rw [hx, e])]; rfl)
          have hgood : Hid (rul1 x = true → ∀ j (hj : j < l.length), j < k + 1 → rul1 l[j] = true) := Lib.hid (fun e j hj hjk => by
            by_cases e2 : j = k
            · subst e2; rw [hx]; exact e
            · exact hok.out j hj (by omega))
          have hi0 : (0 : Int) ≤ (k : Int) := by omega
          have hi1 : (k : Int) < (n : Int) := by omega
          obtain ⟨nm, kd, ws, rx, rq⟩ := x
          simp only at c0 c1 c3 c4 hxs
          clear hc hx h0 h1 h2 h3 h4 hvw
          have hpat := fun W => pattern_any nm hxs W
          obtain ⟨a1, ha1⟩ : ∃ a, stemP nm = a := ⟨_, rfl⟩
          obtain ⟨mb, hmb⟩ : ∃ a, manyP nm = a := ⟨_, rfl⟩
          obtain ⟨pb, hpb⟩ : ∃ a, plainP a1 = a := ⟨_, rfl⟩
          rw [ha1, hmb, hpb] at hpat
          have hrul : Hid (rul1 ⟨nm, kd, ws, rx, rq⟩ = (pb && !(mb && rq))) := Lib.hid (by rw [rul1]; simp only [ha1, hmb, hpb])
          have hBn : Hid (Below w.heap.size w (wr.alloc (.cells #[.string nm, .int .i64 kd, .slice Ak nk ck, .string rx, .bool rq] 34))) := Lib.hid (hB.out.alloc hB.out.size _)
          rw [hrul.out] at hbad hgood
          clear ha1 hmb hpb hrul
          cases pb with
          | false =>
            have e := hbad.out rfl
            subst e
            clear hbad hgood hr2
            go_wp2_with (go_at_call 34; refine (hpat _).mono ?_; rintro e5 w5 ⟨rfl, rfl⟩)
            go_ret
            exact ⟨rfl, hBn.out⟩
          | true =>
            cases mb with
            | false =>
              have g := Lib.hid (hgood.out rfl)
              clear hbad hgood
              go_wp2_with (go_at_call 34; refine (hpat _).mono ?_; rintro e5 w5 ⟨rfl, rfl⟩)
              exact ⟨⟨k + 1, by omega, by simp, g, hBn⟩, by simp [RowKit.intOf]; omega⟩
            | true =>
              cases rq with
              | false =>
                have g := Lib.hid (hgood.out rfl)
                clear hbad hgood
                go_wp2_with (go_at_call 34; refine (hpat _).mono ?_; rintro e5 w5 ⟨rfl, rfl⟩)
                exact ⟨⟨k + 1, by omega, by simp, g, hBn⟩, by simp [RowKit.intOf]; omega⟩
              | true =>
                have e := hbad.out rfl
                subst e
                clear hbad hgood hr2
                go_wp2_with (go_at_call 34; refine (hpat _).mono ?_; rintro e5 w5 ⟨rfl, rfl⟩)
                go_ret
                exact ⟨rfl, hBn.out⟩
        · have hr3 : Hid (r = l.all (rul2 mt)) := Lib.hid (by rw [hr2.out, all_of_at (fun j hj => hok.out j hj (by have := hn.out; omega))]; rfl)
          have hkn : k = n := by omega
          subst hkn
          clear hr2 hok
          obtain ⟨wo, rfl⟩ : ∃ wo : World, wo = wr := ⟨_, rfl⟩
          go_wp2
          go_loopw [42] (fun x wr => ∃ i : Nat, i ≤ k ∧ x = .int .i64 i ∧ Hid (∀ j (hj : j < l.length), j < i → rul2 mt l[j] = true) ∧ Hid (Below w.heap.size w wr)) (fun x _ => k - (RowKit.intOf x).toNat)
          case atStart => exact ⟨0, Nat.zero_le _, rfl, Lib.hid (fun j _ h => absurd h (Nat.not_lt_zero _)), hB⟩
          case round =>
            clear hB
            obtain ⟨i, hi, rfl, hok, hB⟩ := hrel
            by_cases hlt : i < k
            · have hkl : i < l.length := by have := hn.out; omega
              obtain ⟨b, o, rfl, hPb, hc⟩ := hat.out (by omega)
              obtain ⟨vw, h0, h1, h2, h3, h4, hvw⟩ := hc i hkl
              have hbw := hP.out b hPb
              have c0 := (hB.out.cell (p := ⟨b, o + i * 5, none⟩) hbw).trans h0
              have c1 := (hB.out.cell (p := ⟨b, o + i * 5 + 1, none⟩) hbw).trans h1
              have c2 := (hB.out.cell (p := ⟨b, o + i * 5 + 2, none⟩) hbw).trans h2
              have c3 := (hB.out.cell (p := ⟨b, o + i * 5 + 3, none⟩) hbw).trans h3
              have c4 := (hB.out.cell (p := ⟨b, o + i * 5 + 4, none⟩) hbw).trans h4
              obtain ⟨x, hx⟩ : ∃ x, l[i] = x := ⟨_, rfl⟩
              have hmem : x ∈ l := by rw [← hx]; exact List.getElem_mem hkl
              obtain ⟨hx1, hx2, hx3⟩ := hsz.out x hmem
              have hmx := hmt.out x hmem
              rw [hx] at c0 c1 c3 c4 hvw
              have hvw' := Lib.hid hvw
              have hbad : Hid (rul2 mt x = false → r = false) := Lib.hid (fun e => by rw [hr3.out, all_take_false hkl (by rw [hx, e])])
              have hgood : Hid (rul2 mt x = true → ∀ j (hj : j < l.length), j < i + 1 → rul2 mt l[j] = true) := Lib.hid (fun e j hj hjk => by
                by_cases e2 : j = i
                · subst e2; rw [hx]; exact e
                · exact hok.out j hj (by omega))
              have hi0 : (0 : Int) ≤ (i : Int) := by omega
              have hi1 : (i : Int) < (k : Int) := by omega
              obtain ⟨nm, kd, ws, rx, rq⟩ := x
              simp only at c0 c1 c3 c4 hx1 hx2 hx3 hmx hvw hvw'
              obtain ⟨Ak, nk, ck, rfl, -, -, -⟩ := hvw.form
              have hBn : Hid (Below w.heap.size w (wr.alloc (.cells #[.string nm, .int .i64 kd, .slice Ak nk ck, .string rx, .bool rq] 34))) := Lib.hid (hB.out.alloc hB.out.size _)
              have hcall := langMay_any mt kd (.slice Ak nk ck) ws rx P (wr.alloc (.cells #[.string nm, .int .i64 kd, .slice Ak nk ck, .string rx, .bool rq] 34)) (fun k hk => Nat.lt_of_lt_of_le (hP.out k hk) hBn.out.size) (hvw'.out.move (Stays.below hBn.out hP.out) (fun _ h => h)) hx2 hx3 (fun e W' hb => hmx e W' (hBn.out.trans (hb.mono hBn.out.size)))
              obtain ⟨cb, hcb⟩ : ∃ cb, conP mt kd ws rx = cb := ⟨_, rfl⟩
              rw [hcb] at hcall
              have hrul : Hid (rul2 mt ⟨nm, kd, ws, rx, rq⟩ = cb) := Lib.hid hcb
              rw [hrul.out] at hbad hgood
              clear hc hx h0 h1 h2 h3 h4 hvw hvw' hmem hx1 hx2 hx3 hmx hcb hrul
              cases cb with
              | false =>
                have e := hbad.out rfl
                subst e
                clear hbad hgood hr3
                go_wp2_with (go_at_call 93; refine hcall.mono ?_; rintro e5 w5 ⟨x, rfl, hx, hB5⟩; have hx0 : ¬ x = 0 := of_decide_eq_false hx; have hx1 : (x != 0) = true := by simpa [bne] using hx0)
                go_ret
                exact ⟨rfl, hBn.out.trans (hB5.mono hBn.out.size)⟩
              | true =>
                have g := Lib.hid (hgood.out rfl)
                clear hbad hgood
                go_wp2_with (go_at_call 93; refine hcall.mono ?_; rintro e5 w5 ⟨x, rfl, hx, hB5⟩; obtain rfl : x = 0 := of_decide_eq_true hx)
                exact ⟨⟨i + 1, by omega, by simp, g, Lib.hid (hBn.out.trans (hB5.mono hBn.out.size))⟩, by simp [RowKit.intOf]; omega⟩
            · have e : r = true := by rw [hr3.out]; exact all_of_at (fun j hj => hok.out j hj (by have := hn.out; omega))
              subst e
              clear hr3
              go_wp2
              go_ret
              exact ⟨rfl, hB.out⟩
end Go.Proofs.YtghlodpbbghcoaaGreatDoor

/- Whether an element's kids may be: walked. -/
namespace Go.Proofs.YtghlodpbbghcoaaGreatDoor
open Go.Lib Go.RowKit Go.Maps
def closesP (nm s : ByteArray) : Bool := Lib.containsS (closersOf nm.data.toList) s
/-- May a name not stand in an element? -/
def kidBad (nm s : ByteArray) : Bool := voidB nm || (rawB nm && !(s.toList == textN)) || closesP nm s
def kidsP (el : List Elt) (nm : ByteArray) (l : List ByteArray) : Bool := listedP el l && l.all fun s => !kidBad nm s

set_option maxRecDepth 8192 in
set_option maxHeartbeats 3200000 in
theorem kids_any (vt ve vu vk vr : Value) (nm : ByteArray) (el : List Elt) (l : List ByteArray) (P : Nat → Prop) (w : World) (hP : ∀ k, P k → k < w.heap.size) (he : EltsAt w P ve el) (ht : ∃ A n c, vt = .slice A n c) (hu : ∃ A n c, vu = .slice A n c) (hv : StrsAt w P vk l) (hr : ∃ A n c, vr = .slice A n c)
    (hel : el.length ≤ 140737488355328) (hl : l.length ≤ 140737488355328) (hsz : ∀ s ∈ l, s.size ≤ maxLen) (hnm : nm.size ≤ maxLen) : Calls Tryz.prog 62 #[.agg #[vt, ve, vu], .agg #[.string nm, vk, vr]] w (IsB (kidsP el nm l) w) := by
  have hli : Hid (∀ wr : World, Below w.heap.size w wr → Calls Tryz.prog 61 #[.agg #[vt, ve, vu], vk] wr (IsB (listedP el l) wr)) := Lib.hid (fun wr hb =>
    listed_any vt ve vu vk el l P wr (fun k hk => Nat.lt_of_lt_of_le (hP k hk) hb.size) (he.move (Stays.below hb hP) (fun _ h => h)) ht hu (hv.move (Stays.below hb hP) (fun _ h => h)) hel hl hsz)
  obtain ⟨At, nt, ct, rfl⟩ := ht
  obtain ⟨Au, nu, cu, rfl⟩ := hu
  obtain ⟨Ar, nr, cr, rfl⟩ := hr
  obtain ⟨Ae, ne, ce, rfl, -, -, -⟩ := he.form
  obtain ⟨A, n, cap, rfl, hn, hcap, hat⟩ := hv.form
  have hn6 : n ≤ 140737488355328 := by omega
  obtain ⟨r, hr⟩ : ∃ r, kidsP el nm l = r := ⟨_, rfl⟩
  rw [hr]
  replace hr := Lib.hid hr
  replace hn := Lib.hid hn
  replace hat := Lib.hid hat
  replace hP := Lib.hid hP
  clear he hv hel hl hsz
  obtain ⟨w1, hw1⟩ : ∃ w1, (w.alloc (.cells #[.slice At nt ct, .slice Ae ne ce, .slice Au nu cu] 25)).alloc (.cells #[.string nm, .slice A n cap, .slice Ar nr cr] 30) = w1 := ⟨_, rfl⟩
  have hB1 : Hid (Below w.heap.size w w1) := Lib.hid (by rw [← hw1]; exact ((Below.refl _ _).alloc (Nat.le_refl _) _).alloc (by simp) _)
  have hbx : Hid (w1.heap[w.heap.size]? = some (.cells #[.slice At nt ct, .slice Ae ne ce, .slice Au nu cu] 25)) := Lib.hid (by rw [← hw1]; exact blk_alloc (blk_new _ _) _)
  have hby : Hid (w1.heap[w.heap.size + 1]? = some (.cells #[.string nm, .slice A n cap, .slice Ar nr cr] 30)) := Lib.hid (by rw [← hw1]; exact blk_new' (by simp))
  obtain ⟨lp, hlp⟩ : ∃ lp, listedP el l = lp := ⟨_, rfl⟩
  rw [hlp] at hli
  have hr1 : Hid (r = (lp && l.all fun s => !kidBad nm s)) := Lib.hid (by rw [← hr.out, kidsP, hlp])
  clear hlp
  go_enter Tryz.func62, Tryz.ntmps62
  go_upto_region 1 with fail
  have d0 : w1.cell? ⟨w.heap.size, 0, none⟩ = some (.slice At nt ct) := blk_cell hbx.out 0
  have d1 : w1.cell? ⟨w.heap.size, 1, none⟩ = some (.slice Ae ne ce) := blk_cell hbx.out 1
  have d2 : w1.cell? ⟨w.heap.size, 2, none⟩ = some (.slice Au nu cu) := blk_cell hbx.out 2
  have e1 : w1.cell? ⟨w.heap.size + 1, 1, none⟩ = some (.slice A n cap) := blk_cell hby.out 1
  clear hw1
  cases lp with
  | false =>
    have e : r = false := by rw [hr1.out]; rfl
    subst e
    go_wp2_with (go_at_call 61; refine (hli.out _ hB1.out).mono ?_; rintro e5 w5 ⟨rfl, hB5⟩)
    go_ret
    exact ⟨rfl, hB1.out.trans (hB5.mono hB1.out.size)⟩
  | true =>
    have hr2 : Hid (r = l.all fun s => !kidBad nm s) := Lib.hid (by rw [hr1.out, Bool.true_and])
    go_upto_region 3 with (go_at_call 61; refine (hli.out _ hB1.out).mono ?_; rintro e5 w5 ⟨rfl, hB5⟩)
    have hB5' : Hid (Below w1.heap.size w1 w5) := Lib.hid hB5
    have f1 : w5.cell? ⟨w.heap.size + 1, 1, none⟩ = some (.slice A n cap) := blk_cell (blk_below hby.out hB5 (blk_lt hby.out)) 1
    clear d0 d1 d2 e1 hB5
    go_wp2
    go_loopw [15] (fun x15 wr => ∃ k : Nat, k ≤ n ∧ x15 = .int .i64 k ∧ Hid (∀ j (hj : j < l.length), j < k → kidBad nm l[j] = false) ∧ Hid (Below w1.heap.size w1 wr)) (fun x15 _ => n - (RowKit.intOf x15).toNat)
    case atStart => exact ⟨0, Nat.zero_le _, rfl, Lib.hid (fun j _ h => absurd h (Nat.not_lt_zero _)), hB5'⟩
    case round =>
      obtain ⟨k, hk, rfl, hok, hB⟩ := hrel
      clear f1 hB5' hli
      have hBw : Hid (Below w.heap.size w wr) := Lib.hid (hB1.out.trans (hB.out.mono hB1.out.size))
      have g0 : wr.cell? ⟨w.heap.size + 1, 0, none⟩ = some (.string nm) := blk_cell (blk_below hby.out hB.out (blk_lt hby.out)) 0
      by_cases hlt : k < n
      · have hkl : k < l.length := by have := hn.out; omega
        obtain ⟨b, o, rfl, hPb, hc⟩ := hat.out (by omega)
        have c0 := (hBw.out.cell (p := ⟨b, o + k, none⟩) (hP.out b hPb)).trans (hc k hkl)
        obtain ⟨s, hs⟩ : ∃ s, l[k] = s := ⟨_, rfl⟩
        rw [hs] at c0
        have hi0 : (0 : Int) ≤ (k : Int) := by omega
        have hi1 : (k : Int) < (n : Int) := by omega
        have hvd := void_any nm wr
        have hrw := raw_any nm wr
        have hcl := closes_any nm s hnm wr
        obtain ⟨bv, hbv⟩ : ∃ b, voidB nm = b := ⟨_, rfl⟩
        obtain ⟨br, hbr⟩ : ∃ b, rawB nm = b := ⟨_, rfl⟩
        obtain ⟨bc, hbc⟩ : ∃ b, Lib.containsS (closersOf nm.data.toList) s = b := ⟨_, rfl⟩
        obtain ⟨t, ht⟩ : ∃ t, (s.toList == textN) = t := ⟨_, rfl⟩
        have hkb : Hid (kidBad nm l[k] = ((bv || (br && !t)) || bc)) := Lib.hid (by rw [hs, kidBad, closesP, hbv, hbr, hbc, ht])
        rw [hbv] at hvd
        rw [hbr] at hrw
        rw [hbc] at hcl
        unfold textN at ht
        have ht2 : (s.toList != [35, 116, 101, 120, 116]) = !t := by rw [bne, ht]
        have hbad : Hid (kidBad nm l[k] = true → r = false) := Lib.hid (fun e => by rw [hr2.out, all_take_false hkl (by rw [e]; rfl)])
        have hgood : Hid (kidBad nm l[k] = false → ∀ j (hj : j < l.length), j < k + 1 → kidBad nm l[j] = false) := Lib.hid (fun e j hj hjk => by
          by_cases e2 : j = k
          · subst e2; exact e
          · exact hok.out j hj (by omega))
        clear hc hs hr2 hr1 hbv hbr hbc
        obtain ⟨bad, hbd⟩ : ∃ bad, ((bv || (br && !t)) || bc) = bad := ⟨_, rfl⟩
        have hbd2 := Lib.hid hbd
        clear hbd
        go_upto_region 6 with fail
        go_cut [36] (fun x wx => x = .bool bad ∧ Hid (Below wr.heap.size wr wx))
        case first =>
          have hbd := hbd2.out
          clear hbad hgood hkb
          cases bv with
          | true =>
            have e : bad = true := by rw [← hbd]; rfl
            subst e
            clear hbd
            go_wp2_with (go_at_call 88; refine hvd.mono ?_; rintro e5 w5 ⟨rfl, rfl⟩)
            go_meet
            exact ⟨rfl, Lib.hid (Below.refl _ _)⟩
          | false =>
            cases hbt : (br && !t) with
            | true =>
              have e : bad = true := by rw [← hbd, hbt]; rfl
              subst e
              obtain ⟨rfl, ht3⟩ : br = true ∧ t = false := by simpa using hbt
              subst ht3
              clear hbd hbt
              go_wp2_with (first
                | (go_at_call 88; refine hvd.mono ?_; rintro e5 w5 ⟨rfl, rfl⟩)
                | (go_at_call 89; refine hrw.mono ?_; rintro e5 w5 ⟨rfl, rfl⟩))
              go_meet
              exact ⟨rfl, Lib.hid (Below.refl _ _)⟩
            | false =>
              have e : bc = bad := by rw [← hbd, hbt]; simp
              subst e
              clear hbd
              cases br with
              | false =>
                clear hbt
                go_wp2_with (first
                  | (go_at_call 88; refine hvd.mono ?_; rintro e5 w5 ⟨rfl, rfl⟩)
                  | (go_at_call 89; refine hrw.mono ?_; rintro e5 w5 ⟨rfl, rfl⟩)
                  | (go_at_call 90; refine hcl.mono ?_; rintro e5 w5 ⟨rfl, hB5⟩))
                go_meet
                exact ⟨rfl, Lib.hid hB5⟩
              | true =>
                obtain rfl : t = true := by simpa using hbt
                clear hbt
                go_wp2_with (first
                  | (go_at_call 88; refine hvd.mono ?_; rintro e5 w5 ⟨rfl, rfl⟩)
                  | (go_at_call 89; refine hrw.mono ?_; rintro e5 w5 ⟨rfl, rfl⟩)
                  | (go_at_call 90; refine hcl.mono ?_; rintro e5 w5 ⟨rfl, hB5⟩))
                go_meet
                exact ⟨rfl, Lib.hid hB5⟩
        case rest =>
        obtain ⟨rfl, hB5⟩ := hcut
        rw [hbd2.out] at hkb
        have hB6 : Hid (Below w1.heap.size w1 wc) := Lib.hid (hB.out.trans (hB5.out.mono hB.out.size))
        cases bad with
        | true =>
          have e := hbad.out hkb.out
          subst e
          clear hbad hgood
          go_wp2
          go_ret
          exact ⟨rfl, hB1.out.trans (hB6.out.mono hB1.out.size)⟩
        | false =>
          have g := Lib.hid (hgood.out hkb.out)
          clear hbad hgood
          go_wp2
          exact ⟨⟨k + 1, by omega, by simp, g, hB6⟩, by simp [RowKit.intOf]; omega⟩
      · have hall : r = true := by rw [hr2.out]; exact all_of_at (fun j hj => by rw [hok.out j hj (by have := hn.out; omega)]; rfl)
        subst hall
        clear hr1 hr2
        go_wp2
        go_ret
        exact ⟨rfl, hBw.out⟩
end Go.Proofs.YtghlodpbbghcoaaGreatDoor

/- Whether a policy may be: walked (of automata what is given of them). -/
namespace Go.Proofs.YtghlodpbbghcoaaGreatDoor
open Go.Lib Go.RowKit Go.Maps
def elt1 (el : List Elt) (e : Elt) : Bool := plainP e.name && kidsP el e.name e.kids
def mayA (p : Pol) : Bool := !twiceB (p.elts.map Elt.name) && (!twiceB p.unwrap && listedP p.elts p.top)
def mayP (mt : ByteArray → Bool) (p : Pol) : Bool := (decide (p.elts.length ≤ 12) && decide (p.unwrap.length ≤ 12)) && (mayA p && (p.unwrap.all plainP && (p.elts.all (elt1 p.elts) && p.elts.all fun e => rulesP mt e.rules)))
def Elt.Fit (e : Elt) : Prop := e.name.size ≤ 140737488355328 ∧ e.kids.length ≤ 140737488355328 ∧ (∀ s ∈ e.kids, s.size ≤ 140737488355328) ∧ e.rules.length ≤ 140737488355328 ∧ ∀ r ∈ e.rules, r.Fit
structure Pol.Fit (p : Pol) : Prop where
  top : p.top.length ≤ 140737488355328 ∧ ∀ s ∈ p.top, s.size ≤ 140737488355328
  unwrap : p.unwrap.length ≤ 140737488355328 ∧ ∀ s ∈ p.unwrap, s.size ≤ 140737488355328
  elts : p.elts.length ≤ 140737488355328 ∧ ∀ e ∈ p.elts, e.Fit

set_option maxRecDepth 100000 in
set_option maxHeartbeats 6400000 in
theorem polMay_any (mt : ByteArray → Bool) (vt ve vu : Value) (p : Pol) (P : Nat → Prop) (w : World) (hP : ∀ k, P k → k < w.heap.size) (h : PolAt w P vt ve vu p) (hf : p.Fit)
    (hmt : ∀ e ∈ p.elts, ∀ r ∈ e.rules, r.kind = 4 → ∀ W', Below w.heap.size w W' → Calls Tryz.prog 109 #[.string r.regex] W' (IsB (mt r.regex) W')) :
    Calls Tryz.prog 36 #[.agg #[vt, ve, vu]] w (ErrPost (mayP mt p) w) := by
  have hm : 140737488355328 ≤ maxLen := by unfold maxLen; omega
  have hPb : ∀ {wr : World}, Below w.heap.size w wr → ∀ k, P k → k < wr.heap.size := fun hb k hk => Nat.lt_of_lt_of_le (hP k hk) hb.size
  have hpol : ∀ {wr : World}, Below w.heap.size w wr → PolAt wr P vt ve vu p := fun hb => h.move (Stays.below hb hP) (fun _ h => h)
  have hsl : ∀ {v : Value} {l : List ByteArray}, StrsAt w P v l → ∃ A n c, v = .slice A n c := fun h => by
    obtain ⟨A, n, c, e, _⟩ := h.form
    exact ⟨A, n, c, e⟩
  have C57 : Hid (∀ wr, Below w.heap.size w wr → Calls Tryz.prog 57 #[ve, .func (.func 58) #[] #[]] wr (IsB (twiceB (p.elts.map Elt.name)) wr)) := Lib.hid (fun wr hb => twice_elts ve p.elts P wr (hPb hb) (hpol hb).elts hf.elts.1 (fun e he => by have := (hf.elts.2 e he).1; omega))
  have C59 : Hid (∀ wr, Below w.heap.size w wr → Calls Tryz.prog 59 #[vu, .func (.func 60) #[] #[]] wr (IsB (twiceB p.unwrap) wr)) := Lib.hid (fun wr hb => twice_texts vu p.unwrap P wr (hPb hb) (hpol hb).unwrap hf.unwrap.1 (fun s hs => by have := hf.unwrap.2 s hs; omega))
  have C61 : Hid (∀ wr, Below w.heap.size w wr → Calls Tryz.prog 61 #[.agg #[vt, ve, vu], vt] wr (IsB (listedP p.elts p.top) wr)) := Lib.hid (fun wr hb => listed_any vt ve vu vt p.elts p.top P wr (hPb hb) (hpol hb).elts (hsl h.top) (hsl h.unwrap) (hpol hb).top hf.elts.1 hf.top.1 (fun s hs => by have := hf.top.2 s hs; omega))
  have C62 : Hid (∀ wr, Below w.heap.size w wr → ∀ e ∈ p.elts, ∀ vk vr, StrsAt w P vk e.kids → RulsAt w P vr e.rules → Calls Tryz.prog 62 #[.agg #[vt, ve, vu], .agg #[.string e.name, vk, vr]] wr (IsB (kidsP p.elts e.name e.kids) wr)) := Lib.hid (fun wr hb e he vk vr h1 h2 =>
    kids_any vt ve vu vk vr e.name p.elts e.kids P wr (hPb hb) (hpol hb).elts (hsl h.top) (hsl h.unwrap) (h1.move (Stays.below hb hP) (fun _ h => h)) (by obtain ⟨A, n, c, e, _⟩ := h2.form; exact ⟨A, n, c, e⟩) hf.elts.1 (hf.elts.2 e he).2.1 (fun s hs => by have := (hf.elts.2 e he).2.2.1 s hs; omega) (by have := (hf.elts.2 e he).1; omega))
  have C63 : Hid (∀ wr, Below w.heap.size w wr → ∀ e ∈ p.elts, ∀ vr, RulsAt w P vr e.rules → Calls Tryz.prog 63 #[vr] wr (IsB (rulesP mt e.rules) wr)) := Lib.hid (fun wr hb e he vr h2 =>
    rules_any mt vr e.rules P wr (hPb hb) (h2.move (Stays.below hb hP) (fun _ h => h)) (hf.elts.2 e he).2.2.2.1 (hf.elts.2 e he).2.2.2.2 (fun r hr hk W' hb2 => hmt e he r hr hk W' (hb.trans (hb2.mono hb.size))))
  obtain ⟨At, nt, ct, rfl⟩ := hsl h.top
  obtain ⟨Au, nu, cu, rfl, hnu, hcu, hau⟩ := h.unwrap.form
  obtain ⟨Ae, ne, ce, rfl, hne, hce, hae⟩ := h.elts.form
  have hfe := hf.elts.1
  have hfu := hf.unwrap.1
  have hne6 : ne ≤ 140737488355328 := by omega
  have hnu6 : nu ≤ 140737488355328 := by omega
  obtain ⟨r, hr⟩ : ∃ r, mayP mt p = r := ⟨_, rfl⟩
  rw [hr]
  replace hr := Lib.hid hr
  replace hnu := Lib.hid hnu
  replace hne := Lib.hid hne
  replace hau := Lib.hid hau
  replace hae := Lib.hid hae
  replace hP := Lib.hid hP
  replace hf := Lib.hid hf
  obtain ⟨w1, hw1⟩ : ∃ w1, w.alloc (.cells #[.slice At nt ct, .slice Ae ne ce, .slice Au nu cu] 25) = w1 := ⟨_, rfl⟩
  have hB1 : Hid (Below w.heap.size w w1) := Lib.hid (by rw [← hw1]; exact (Below.refl _ _).alloc (Nat.le_refl _) _)
  have hbx : Hid (w1.heap[w.heap.size]? = some (.cells #[.slice At nt ct, .slice Ae ne ce, .slice Au nu cu] 25)) := Lib.hid (by rw [← hw1]; exact blk_new _ _)
  have hX : Hid (∀ wr, Below w1.heap.size w1 wr → wr.cell? ⟨w.heap.size, 0, none⟩ = some (.slice At nt ct) ∧ wr.cell? ⟨w.heap.size, 1, none⟩ = some (.slice Ae ne ce) ∧ wr.cell? ⟨w.heap.size, 2, none⟩ = some (.slice Au nu cu)) := Lib.hid (fun wr hb => by
    have hx := blk_below hbx.out hb (blk_lt hbx.out)
    exact ⟨blk_cell hx 0, blk_cell hx 1, blk_cell hx 2⟩)
  clear h hmt hPb hpol hsl hfe hfu
  obtain ⟨a, ha⟩ : ∃ a, mayA p = a := ⟨_, rfl⟩
  by_cases hbig : 12 < ne ∨ 12 < nu
  · have e : r = false := by
      rw [← hr.out, mayP]
      rcases hbig with hb | hb
      · rw [decide_eq_false (p := p.elts.length ≤ 12) (by rw [← hne.out]; omega)]; rfl
      · rw [decide_eq_false (p := p.unwrap.length ≤ 12) (by rw [← hnu.out]; omega)]; simp
    subst e
    clear ha
    go_enter Tryz.func36, Tryz.ntmps36
    go_upto_region 1 with fail
    obtain ⟨d0, d1, d2⟩ := hX.out w1 (Below.refl _ _)
    clear hw1
    by_cases h12 : 12 < ne
    · have hi : (12 : Int) < (ne : Int) := by omega
      clear hbig
      go_wp2
      go_ret
      exact ⟨10, rfl, rfl, hB1.out⟩
    · have hi : ¬ (12 : Int) < (ne : Int) := by omega
      have hi2 : (12 : Int) < (nu : Int) := by omega
      clear hbig h12
      go_wp2
      go_ret
      exact ⟨10, rfl, rfl, hB1.out⟩
  · have hr1 : Hid (r = (a && (p.unwrap.all plainP && (p.elts.all (elt1 p.elts) && p.elts.all fun e => rulesP mt e.rules)))) := Lib.hid (by
      rw [← hr.out, mayP, decide_eq_true (p := p.elts.length ≤ 12) (by rw [← hne.out]; omega), decide_eq_true (p := p.unwrap.length ≤ 12) (by rw [← hnu.out]; omega), ha]
      rfl)
    have hi : ¬ (12 : Int) < (ne : Int) := by omega
    have hi2 : ¬ (12 : Int) < (nu : Int) := by omega
    obtain ⟨t1, ht1⟩ : ∃ t, twiceB (p.elts.map Elt.name) = t := ⟨_, rfl⟩
    obtain ⟨t2, ht2⟩ : ∃ t, twiceB p.unwrap = t := ⟨_, rfl⟩
    obtain ⟨lt, hlt⟩ : ∃ t, listedP p.elts p.top = t := ⟨_, rfl⟩
    rw [mayA, ht1, ht2, hlt] at ha
    rw [ht1] at C57
    rw [ht2] at C59
    rw [hlt] at C61
    have ha' := Lib.hid ha
    clear ht1 ht2 hlt ha hbig
    go_enter Tryz.func36, Tryz.ntmps36
    go_upto_region 1 with fail
    obtain ⟨d0, d1, d2⟩ := hX.out w1 (Below.refl _ _)
    clear hw1
    go_upto_region 3 with fail
    go_cut [33] (fun x wx => x = .bool (!a) ∧ Hid (Below w1.heap.size w1 wx))
    case first =>
      have ha := ha'.out
      clear C62 C63 hr1
      cases t1 with
      | true =>
        have e : a = false := by rw [← ha]; rfl
        subst e
        clear ha
        go_wp2_with (go_at_call 57; refine (C57.out _ hB1.out).mono ?_; rintro e5 w5 ⟨rfl, hB5⟩)
        go_meet
        exact ⟨rfl, Lib.hid hB5⟩
      | false =>
        cases t2 with
        | true =>
          have e : a = false := by rw [← ha]; rfl
          subst e
          clear ha
          go_wp2_with (first
            | (go_at_call 57; refine (C57.out _ hB1.out).mono ?_; rintro e5 w5 ⟨rfl, hB5⟩; have hb5 := Lib.hid (hB1.out.trans (hB5.mono hB1.out.size)); obtain ⟨f0, f1, f2⟩ := hX.out w5 hB5)
            | (go_at_call 59; refine (C59.out _ hb5.out).mono ?_; rintro e6 w6 ⟨rfl, hB6⟩))
          go_meet
          exact ⟨rfl, Lib.hid (hB5.trans (hB6.mono hB5.size))⟩
        | false =>
          have e : a = lt := by rw [← ha]; simp
          subst e
          clear ha
          go_wp2_with (first
            | (go_at_call 57; refine (C57.out _ hB1.out).mono ?_; rintro e5 w5 ⟨rfl, hB5⟩; have hb5 := Lib.hid (hB1.out.trans (hB5.mono hB1.out.size)); obtain ⟨f0, f1, f2⟩ := hX.out w5 hB5)
            | (go_at_call 59; refine (C59.out _ hb5.out).mono ?_; rintro e6 w6 ⟨rfl, hB6⟩; have hB6' := Lib.hid (hB5.trans (hB6.mono hB5.size)); have hb6 := Lib.hid (hb5.out.trans (hB6.mono hb5.out.size)); obtain ⟨g0, g1, g2⟩ := hX.out w6 hB6'.out)
            | (go_at_call 61; refine (C61.out _ hb6.out).mono ?_; rintro e7 w7 ⟨rfl, hB7⟩))
          go_meet
          exact ⟨rfl, Lib.hid (hB6'.out.trans (hB7.mono hB6'.out.size))⟩
    case rest =>
    obtain ⟨rfl, hB2⟩ := hcut
    clear d0 d1 d2 C57 C59 C61 ha'
    have hBc : Hid (Below w.heap.size w wc) := Lib.hid (hB1.out.trans (hB2.out.mono hB1.out.size))
    cases a with
    | false =>
      have e : r = false := by rw [hr1.out]; rfl
      subst e
      go_wp2
      go_ret
      exact ⟨10, rfl, rfl, hBc.out⟩
    | true =>
      have hr2 : Hid (r = (p.unwrap.all plainP && (p.elts.all (elt1 p.elts) && p.elts.all fun e => rulesP mt e.rules))) := Lib.hid (by rw [hr1.out]; rfl)
      clear hr1
      go_upto_region 5 with fail
      obtain ⟨d0, d1, d2⟩ := hX.out wc hB2.out
      obtain ⟨wd, hwd⟩ : ∃ wd : World, wd = wc := ⟨_, rfl⟩
      rw [← hwd] at hB2 hBc d0 d1 d2 ⊢
      clear hwd
      go_wp2
      go_loopw [37] (fun x wr => ∃ k : Nat, k ≤ nu ∧ x = .int .i64 k ∧ wr = wd ∧ Hid (∀ j (hj : j < p.unwrap.length), j < k → plainP p.unwrap[j] = true)) (fun x _ => nu - (RowKit.intOf x).toNat)
      case atStart => exact ⟨0, Nat.zero_le _, rfl, rfl, Lib.hid (fun j _ h => absurd h (Nat.not_lt_zero _))⟩
      case round =>
        obtain ⟨k, hk, rfl, rfl, hok⟩ := hrel
        by_cases hlt : k < nu
        · have hkl : k < p.unwrap.length := by have := hnu.out; omega
          obtain ⟨b, o, rfl, hPb, hc⟩ := hau.out (by omega)
          have c0 := (hBc.out.cell (p := ⟨b, o + k, none⟩) (hP.out b hPb)).trans (hc k hkl)
          obtain ⟨s, hs⟩ : ∃ s, p.unwrap[k] = s := ⟨_, rfl⟩
          rw [hs] at c0
          have hss := hf.out.unwrap.2 s (by rw [← hs]; exact List.getElem_mem hkl)
          have hpl := fun W => plain_any s (by omega) W
          obtain ⟨pb, hpb⟩ : ∃ pb, plainP s = pb := ⟨_, rfl⟩
          rw [hpb] at hpl
          have hbad : Hid (pb = false → r = false) := Lib.hid (fun e => by rw [hr2.out, all_take_false hkl (by rw [hs, hpb, e])]; rfl)
          have hgood : Hid (pb = true → ∀ j (hj : j < p.unwrap.length), j < k + 1 → plainP p.unwrap[j] = true) := Lib.hid (fun e j hj hjk => by
            by_cases e2 : j = k
            · subst e2; rw [hs, hpb]; exact e
            · exact hok.out j hj (by omega))
          have hi0 : (0 : Int) ≤ (k : Int) := by omega
          have hi1 : (k : Int) < (nu : Int) := by omega
          clear hc hs hpb d0 d1 d2
          cases pb with
          | false =>
            have e := hbad.out rfl
            subst e
            clear hbad hgood hr2
            go_wp2_with (go_at_call 55; refine (hpl _).mono ?_; rintro e5 w5 ⟨rfl, rfl⟩)
            go_ret
            exact ⟨10, rfl, rfl, hBc.out⟩
          | true =>
            have g := Lib.hid (hgood.out rfl)
            clear hbad hgood
            go_wp2_with (go_at_call 55; refine (hpl _).mono ?_; rintro e5 w5 ⟨rfl, rfl⟩)
            exact ⟨⟨k + 1, by omega, by simp, trivial, g⟩, by simp [RowKit.intOf]; omega⟩
        · have hr3 : Hid (r = (p.elts.all (elt1 p.elts) && p.elts.all fun e => rulesP mt e.rules)) := Lib.hid (by rw [hr2.out, all_of_at (fun j hj => hok.out j hj (by have := hnu.out; omega))]; rfl)
          have hkn : k = nu := by omega
          subst hkn
          clear hr2 hok
          go_upto_region 11 with fail
          obtain ⟨we, hwe⟩ : ∃ we : World, we = wr := ⟨_, rfl⟩
          rw [← hwe] at hB2 hBc d0 d1 d2 ⊢
          clear hwe
          go_wp2
          go_loopw [48] (fun x wr => ∃ k : Nat, k ≤ ne ∧ x = .int .i64 k ∧ Hid (Below w1.heap.size w1 wr) ∧ Hid (∀ j (hj : j < p.elts.length), j < k → elt1 p.elts p.elts[j] = true)) (fun x _ => ne - (RowKit.intOf x).toNat)
          case atStart => exact ⟨0, Nat.zero_le _, rfl, hB2, Lib.hid (fun j _ h => absurd h (Nat.not_lt_zero _))⟩
          case round =>
            clear hB2 hBc d0 d1 d2
            obtain ⟨i, hik, rfl, hB, hok⟩ := hrel
            have hBw : Hid (Below w.heap.size w wr) := Lib.hid (hB1.out.trans (hB.out.mono hB1.out.size))
            by_cases hlt : i < ne
            · have hkl : i < p.elts.length := by have := hne.out; omega
              obtain ⟨b, o, rfl, hPb, hc⟩ := hae.out (by omega)
              obtain ⟨vk, vr, h0, h1, h2, hvk, hvr⟩ := hc i hkl
              have hbw := hP.out b hPb
              have c0 := (hBw.out.cell (p := ⟨b, o + i * 3, none⟩) hbw).trans h0
              have c1 := (hBw.out.cell (p := ⟨b, o + i * 3 + 1, none⟩) hbw).trans h1
              have c2 := (hBw.out.cell (p := ⟨b, o + i * 3 + 2, none⟩) hbw).trans h2
              have hmem : p.elts[i] ∈ p.elts := List.getElem_mem hkl
              have hkc := Lib.hid (fun W hb => C62.out W hb _ hmem vk vr hvk hvr)
              have hnz := (hf.out.elts.2 _ hmem).1
              obtain ⟨Ak, nk, ck, rfl, -, -, -⟩ := hvk.form
              obtain ⟨Ar, nr, cr, rfl, -, -, -⟩ := hvr.form
              have hel : Hid (elt1 p.elts p.elts[i] = (plainP p.elts[i].name && kidsP p.elts p.elts[i].name p.elts[i].kids)) := Lib.hid rfl
              obtain ⟨nm, hnm⟩ : ∃ s, p.elts[i].name = s := ⟨_, rfl⟩
              obtain ⟨kp, hkp⟩ : ∃ s, kidsP p.elts p.elts[i].name p.elts[i].kids = s := ⟨_, rfl⟩
              rw [hkp] at hkc hel
              rw [hnm] at c0 hkc hnz hel
              have hpl := fun W => plain_any nm (by omega) W
              obtain ⟨pb, hpb⟩ : ∃ pb, plainP nm = pb := ⟨_, rfl⟩
              rw [hpb] at hpl hel
              have hbad : Hid ((pb && kp) = false → r = false) := Lib.hid (fun e => by rw [hr3.out, all_take_false hkl (by rw [hel.out, e])]; rfl)
              have hgood : Hid ((pb && kp) = true → ∀ j (hj : j < p.elts.length), j < i + 1 → elt1 p.elts p.elts[j] = true) := Lib.hid (fun e j hj hjk => by
                by_cases e2 : j = i
                · subst e2; rw [hel.out]; exact e
                · exact hok.out j hj (by omega))
              have hi0 : (0 : Int) ≤ (i : Int) := by omega
              have hi1 : (i : Int) < (ne : Int) := by omega
              have hB3 : Hid (Below w1.heap.size w1 (wr.alloc (.cells #[.string nm, .slice Ak nk ck, .slice Ar nr cr] 30))) := Lib.hid (hB.out.alloc hB.out.size _)
              have hB4 : Hid (Below w.heap.size w (wr.alloc (.cells #[.string nm, .slice Ak nk ck, .slice Ar nr cr] 30))) := Lib.hid (hB1.out.trans (hB3.out.mono hB1.out.size))
              obtain ⟨d0, d1, d2⟩ := hX.out _ hB3.out
              clear hc h0 h1 h2 hvk hvr hmem hel hnm hkp hpb
              cases pb with
              | false =>
                have e := hbad.out rfl
                subst e
                clear hbad hgood hr3
                go_wp2_with (go_at_call 55; refine (hpl _).mono ?_; rintro e5 w5 ⟨rfl, rfl⟩)
                go_ret
                exact ⟨10, rfl, rfl, hB4.out⟩
              | true =>
                cases kp with
                | false =>
                  have e := hbad.out rfl
                  subst e
                  clear hbad hgood hr3
                  go_wp2_with (first
                    | (go_at_call 55; refine (hpl _).mono ?_; rintro e5 w5 ⟨rfl, rfl⟩)
                    | (go_at_call 62; refine (hkc.out _ hB4.out).mono ?_; rintro e6 w6 ⟨rfl, hB6⟩))
                  go_ret
                  exact ⟨10, rfl, rfl, hB4.out.trans (hB6.mono hB4.out.size)⟩
                | true =>
                  have g := Lib.hid (hgood.out rfl)
                  clear hbad hgood
                  go_wp2_with (first
                    | (go_at_call 55; refine (hpl _).mono ?_; rintro e5 w5 ⟨rfl, rfl⟩)
                    | (go_at_call 62; refine (hkc.out _ hB4.out).mono ?_; rintro e6 w6 ⟨rfl, hB6⟩))
                  exact ⟨⟨i + 1, by omega, by simp, Lib.hid (hB3.out.trans (hB6.mono hB3.out.size)), g⟩, by simp [RowKit.intOf]; omega⟩
            · have hr4 : Hid (r = p.elts.all fun e => rulesP mt e.rules) := Lib.hid (by rw [hr3.out, all_of_at (fun j hj => hok.out j hj (by have := hne.out; omega))]; rfl)
              have hin : i = ne := by omega
              subst hin
              clear hr3 hok C62
              obtain ⟨d0, d1, d2⟩ := hX.out wr hB.out
              obtain ⟨wf, hwf⟩ : ∃ wf : World, wf = wr := ⟨_, rfl⟩
              rw [← hwf] at hB hBw d0 d1 d2 ⊢
              clear hwf
              go_wp2
              go_loopw [66] (fun x wr => ∃ k : Nat, k ≤ i ∧ x = .int .i64 k ∧ Hid (Below w1.heap.size w1 wr) ∧ Hid (∀ j (hj : j < p.elts.length), j < k → rulesP mt p.elts[j].rules = true)) (fun x _ => i - (RowKit.intOf x).toNat)
              case atStart => exact ⟨0, Nat.zero_le _, rfl, hB, Lib.hid (fun j _ h => absurd h (Nat.not_lt_zero _))⟩
              case round =>
                clear hB hBw d0 d1 d2
                obtain ⟨m, hmi, rfl, hB, hok⟩ := hrel
                have hBw : Hid (Below w.heap.size w wr) := Lib.hid (hB1.out.trans (hB.out.mono hB1.out.size))
                by_cases hlt : m < i
                · have hkl : m < p.elts.length := by have := hne.out; omega
                  obtain ⟨b, o, rfl, hPb, hc⟩ := hae.out (by omega)
                  obtain ⟨vk, vr, h0, h1, h2, hvk, hvr⟩ := hc m hkl
                  have hbw := hP.out b hPb
                  have c0 := (hBw.out.cell (p := ⟨b, o + m * 3, none⟩) hbw).trans h0
                  have c1 := (hBw.out.cell (p := ⟨b, o + m * 3 + 1, none⟩) hbw).trans h1
                  have c2 := (hBw.out.cell (p := ⟨b, o + m * 3 + 2, none⟩) hbw).trans h2
                  have hmem : p.elts[m] ∈ p.elts := List.getElem_mem hkl
                  have hkc := Lib.hid (fun W hb => C63.out W hb _ hmem vr hvr)
                  obtain ⟨Ak, nk, ck, rfl, -, -, -⟩ := hvk.form
                  obtain ⟨Ar, nr, cr, rfl, -, -, -⟩ := hvr.form
                  obtain ⟨nm, hnm⟩ : ∃ s, p.elts[m].name = s := ⟨_, rfl⟩
                  obtain ⟨kp, hkp⟩ : ∃ s, rulesP mt p.elts[m].rules = s := ⟨_, rfl⟩
                  rw [hkp] at hkc
                  rw [hnm] at c0
                  have hbad : Hid (kp = false → r = false) := Lib.hid (fun e => by rw [hr4.out, all_take_false hkl (by rw [hkp, e])])
                  have hgood : Hid (kp = true → ∀ j (hj : j < p.elts.length), j < m + 1 → rulesP mt p.elts[j].rules = true) := Lib.hid (fun e j hj hjk => by
                    by_cases e2 : j = m
                    · subst e2; rw [hkp]; exact e
                    · exact hok.out j hj (by omega))
                  have hi0 : (0 : Int) ≤ (m : Int) := by omega
                  have hi1 : (m : Int) < (i : Int) := by omega
                  have hB3 : Hid (Below w1.heap.size w1 (wr.alloc (.cells #[.string nm, .slice Ak nk ck, .slice Ar nr cr] 30))) := Lib.hid (hB.out.alloc hB.out.size _)
                  have hB4 : Hid (Below w.heap.size w (wr.alloc (.cells #[.string nm, .slice Ak nk ck, .slice Ar nr cr] 30))) := Lib.hid (hB1.out.trans (hB3.out.mono hB1.out.size))
                  clear hc h0 h1 h2 hvk hvr hmem hnm hkp
                  cases kp with
                  | false =>
                    have e := hbad.out rfl
                    subst e
                    clear hbad hgood hr4
                    go_wp2_with (go_at_call 63; refine (hkc.out _ hB4.out).mono ?_; rintro e6 w6 ⟨rfl, hB6⟩)
                    go_ret
                    exact ⟨10, rfl, rfl, hB4.out.trans (hB6.mono hB4.out.size)⟩
                  | true =>
                    have g := Lib.hid (hgood.out rfl)
                    clear hbad hgood
                    go_wp2_with (go_at_call 63; refine (hkc.out _ hB4.out).mono ?_; rintro e6 w6 ⟨rfl, hB6⟩)
                    exact ⟨⟨m + 1, by omega, by simp, Lib.hid (hB3.out.trans (hB6.mono hB3.out.size)), g⟩, by simp [RowKit.intOf]; omega⟩
                · have e : r = true := by rw [hr4.out]; exact all_of_at (fun j hj => hok.out j hj (by have := hne.out; omega))
                  subst e
                  clear hr4
                  go_wp2
                  go_ret
                  exact ⟨0, rfl, rfl, hBw.out⟩
end Go.Proofs.YtghlodpbbghcoaaGreatDoor
