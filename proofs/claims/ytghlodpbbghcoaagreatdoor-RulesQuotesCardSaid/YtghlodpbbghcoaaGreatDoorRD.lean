/- A line's item by the document: the plain part. No program in sight. -/
import Derived.Test.YtghlodpbbghcoaaGreatDoorZ6
namespace Go.Proofs.YtghlodpbbghcoaaGreatDoor
theorem takeWhile_stop {p : UInt8 → Bool} {l : List UInt8} {n : Nat} (h : ∀ j c, j < n → l[j]? = some c → p c = true) (hn : n ≤ l.length) (hs : ∀ c, l[n]? = some c → p c = false) : (l.takeWhile p).length = n := by
  induction l generalizing n with
  | nil => simp at hn; subst hn; rfl
  | cons c l ih =>
    cases n with
    | zero =>
      have := hs c rfl
      rw [List.takeWhile_cons, this]
      rfl
    | succ n =>
      have := h 0 c (by omega) rfl
      rw [List.takeWhile_cons, this]
      simp only [if_true, List.length_cons]
      rw [ih (n := n) (fun j d hj hd => h (j + 1) d (by omega) (by simpa using hd)) (by simpa using hn) (fun d hd => hs d (by simpa using hd))]
theorem takeWhile_ge {p : UInt8 → Bool} {l : List UInt8} {n : Nat} (h : ∀ j c, j < n → l[j]? = some c → p c = true) (hn : n ≤ l.length) : n ≤ (l.takeWhile p).length := by
  induction l generalizing n with
  | nil => simp at hn; subst hn; exact Nat.le_refl _
  | cons c l ih =>
    cases n with
    | zero => exact Nat.zero_le _
    | succ n =>
      have := h 0 c (by omega) rfl
      rw [List.takeWhile_cons, this]
      simp only [if_true, List.length_cons]
      have := ih (n := n) (fun j d hj hd => h (j + 1) d (by omega) (by simpa using hd)) (by simpa using hn)
      omega
theorem mem_tw {p : UInt8 → Bool} : ∀ {l : List UInt8} {x : UInt8}, x ∈ l.takeWhile p → p x = true
  | [], x, h => by simp at h
  | c :: l, x, h => by
    rw [List.takeWhile_cons] at h
    split at h
    · rename_i hc
      rcases List.mem_cons.1 h with rfl | h
      · exact hc
      · exact mem_tw h
    · simp at h
def bareEnd (l : List UInt8) : Nat := (l.takeWhile fun c => c != 32).length
/-- The item at a place, by the document. -/
def ritemAt (l : List UInt8) (k : Nat) : Option (List UInt8 × Bool × Nat) :=
  if l[k]? = some 34 then (unqAt l (k + 1) []).map fun p => (p.1, true, p.2)
  else if bareEnd (l.drop k) = 0 ∨ ((l.drop k).take (bareEnd (l.drop k))).all sgn = false then none else some ((l.drop k).take (bareEnd (l.drop k)), false, k + bareEnd (l.drop k))
theorem sgn_32 : sgn 32 = false := by decide
theorem sgn_ne {c : UInt8} (h : sgn c = true) : (c != 32) = true := by
  simp [bne]
  rintro rfl
  rw [sgn_32] at h
  cases h
theorem ritem_bad {l : List UInt8} {k i : Nat} {c : UInt8} (h34 : l[k]? ≠ some 34) (hk : k ≤ i) (h : ∀ j d, k ≤ j → j < i → l[j]? = some d → sgn d = true) (hc : l[i]? = some c) (hne : c ≠ 32) (hs : sgn c = false) : ritemAt l k = none := by
  unfold ritemAt
  rw [if_neg h34, if_pos]
  right
  have hil := (List.getElem?_eq_some_iff.1 hc).1
  have hge : i - k + 1 ≤ bareEnd (l.drop k) := by
    refine takeWhile_ge (fun j d hj hd => ?_) (by rw [List.length_drop]; omega)
    rw [List.getElem?_drop] at hd
    by_cases e : j = i - k
    · subst e
      rw [show k + (i - k) = i by omega, hc] at hd
      cases hd
      simpa [bne] using hne
    · exact sgn_ne (h (k + j) d (by omega) (by omega) hd)
  rw [List.all_eq_false]
  refine ⟨c, ?_, by rw [hs]; simp⟩
  have : ((l.drop k).take (bareEnd (l.drop k)))[i - k]? = some c := by
    rw [List.getElem?_take, if_pos (by omega), List.getElem?_drop, show k + (i - k) = i by omega, hc]
  exact List.mem_of_getElem? this
theorem ritem_end {l : List UInt8} {k i : Nat} (h34 : l[k]? ≠ some 34) (hk : k ≤ i) (hi : i ≤ l.length) (h : ∀ j d, k ≤ j → j < i → l[j]? = some d → sgn d = true) (hc : ∀ c, l[i]? = some c → c = 32) : ritemAt l k = if i = k then none else some ((l.drop k).take (i - k), false, i) := by
  have he : bareEnd (l.drop k) = i - k := by
    refine takeWhile_stop (fun j d hj hd => ?_) (by rw [List.length_drop]; omega) (fun d hd => ?_)
    · rw [List.getElem?_drop] at hd
      exact sgn_ne (h (k + j) d (by omega) (by omega) hd)
    · rw [List.getElem?_drop, show k + (i - k) = i by omega] at hd
      rw [hc d hd]
      rfl
  unfold ritemAt
  rw [if_neg h34, he]
  by_cases hik : i = k
  · rw [if_pos hik, if_pos (.inl (by omega))]
  · have hall : ((l.drop k).take (i - k)).all sgn = true := by
      rw [List.all_eq_true]
      intro d hd
      obtain ⟨j, hj, rfl⟩ := List.getElem_of_mem hd
      rw [List.length_take, List.length_drop] at hj
      refine h (k + j) _ (by omega) (by omega) ?_
      rw [List.getElem_take, List.getElem_drop, List.getElem?_eq_getElem]
    rw [if_neg hik, if_neg]
    · rw [show k + (i - k) = i by omega]
    · rintro (h0 | h0)
      · omega
      · rw [hall] at h0; cases h0
theorem head_drop (l : List UInt8) (k : Nat) : (l.drop k).head? = l[k]? := by rw [List.head?_drop]
theorem unqAt_le {l : List UInt8} {k : Nat} {t : List UInt8} {n : Nat} (h : unqAt l k [] = some (t, n)) : k < n ∧ n ≤ l.length := by
  unfold unqAt at h
  cases hu : unqL (l.drop k) with
  | none => rw [hu] at h; cases h
  | some p =>
    obtain ⟨t2, n2⟩ := p
    rw [hu] at h
    simp only [Option.map_some, Option.some.injEq, Prod.mk.injEq] at h
    obtain ⟨_, rfl⟩ := h
    have := unqL_le _ _ (Nat.le_refl _) _ _ hu
    rw [List.length_drop] at this
    omega
theorem ritem_le {l t : List UInt8} {k e : Nat} {q : Bool} (h : ritemAt l k = some (t, q, e)) : k < e ∧ e ≤ l.length := by
  unfold ritemAt at h
  split at h
  · cases hu : unqAt l (k + 1) [] with
    | none => rw [hu] at h; cases h
    | some p =>
      obtain ⟨t2, n2⟩ := p
      rw [hu] at h
      simp only [Option.map_some, Option.some.injEq, Prod.mk.injEq] at h
      obtain ⟨_, _, rfl⟩ := h
      have := unqAt_le hu
      omega
  · split at h
    · cases h
    · rename_i hn
      simp only [Option.some.injEq, Prod.mk.injEq] at h
      obtain ⟨_, _, rfl⟩ := h
      have h1 : bareEnd (l.drop k) ≤ (l.drop k).length := (List.takeWhile_sublist _).length_le
      have h2 : bareEnd (l.drop k) ≠ 0 := fun e => hn (.inl e)
      rw [List.length_drop] at h1
      omega
/-- Both readings of an item say the same of the items. -/
theorem item_both {l : List UInt8} {k : Nat} : (∀ t q e, ritemAt l k = some (t, q, e) → itemL (l.drop k) = some (t, q, e - k)) ∧ (ritemAt l k = none → itemsG (l.drop k) = none) := by
  by_cases h34 : l[k]? = some 34
  · have e1 : unqR (l.drop k) = (unqL (l.drop (k + 1))).map fun p => (p.1, p.2 + 1) := by
      unfold unqR
      rw [List.drop_drop]
    have e2 : itemL (l.drop k) = (unqR (l.drop k)).map fun p => (p.1, true, p.2) := by
      unfold itemL
      rw [head_drop, if_pos h34]
    have e3 : ritemAt l k = (unqAt l (k + 1) []).map fun p => (p.1, true, p.2) := by
      unfold ritemAt
      rw [if_pos h34]
    rw [e2, e3, e1]
    unfold unqAt
    cases hu : unqL (l.drop (k + 1)) with
    | none =>
      refine ⟨fun t q e h => by (cases h), fun _ => itemsG_none ?_⟩
      rw [e2, e1, hu]
      rfl
    | some p =>
      obtain ⟨t2, n2⟩ := p
      refine ⟨fun t q e h => ?_, fun h => by (cases h)⟩
      simp only [Option.map_some, Option.some.injEq, Prod.mk.injEq, List.nil_append] at h ⊢
      obtain ⟨rfl, rfl, rfl⟩ := h
      exact ⟨rfl, rfl, by omega⟩
  · have hhd : (l.drop k).head? ≠ some 34 := by rw [head_drop]; exact h34
    obtain ⟨j, hj⟩ : ∃ j, bareEnd (l.drop k) = j := ⟨_, rfl⟩
    have hjl : j ≤ (l.drop k).length := by rw [← hj]; exact (List.takeWhile_sublist _).length_le
    have hin : ∀ i c, i < j → (l.drop k)[i]? = some c → c ≠ 32 := by
      intro i c hi hc
      have h1 : ((l.drop k).takeWhile fun c => c != 32)[i]? = some c := by
        rw [List.getElem?_eq_getElem (by rw [← hj] at hi; exact hi), ← hc, List.getElem?_eq_getElem (by omega)]
        congr 1
        exact (List.IsPrefix.getElem (List.takeWhile_prefix _) _)
      have h2 := List.mem_of_getElem? h1
      have := mem_tw h2
      simpa [bne] using this
    have hst : ∀ c, (l.drop k)[j]? = some c → c = 32 := by
      intro c hc
      refine Classical.byContradiction fun hne => ?_
      have := takeWhile_ge (p := fun c => c != 32) (l := l.drop k) (n := j + 1) (fun i d hi hd => by
        by_cases e : i = j
        · subst e; rw [hc] at hd; cases hd; simpa [bne] using hne
        · simpa [bne] using hin i d (by omega) hd) (by have := (List.getElem?_eq_some_iff.1 hc).1; omega)
      unfold bareEnd at hj
      omega
    cases hall : ((l.drop k).take j).all sgn with
    | true =>
      have hb : bareL (l.drop k) = j := by
        refine bareL_stop (fun i c hi hc => ?_) hjl (fun c hc => by rw [hst c hc]; exact sgn_32)
        refine List.all_eq_true.1 hall c (List.mem_of_getElem? (i := i) ?_)
        rw [List.getElem?_take, if_pos hi, hc]
      have e2 : itemL (l.drop k) = if j = 0 then none else some ((l.drop k).take j, false, j) := by
        unfold itemL
        rw [if_neg hhd, hb]
      have e3 : ritemAt l k = if j = 0 then none else some ((l.drop k).take j, false, k + j) := by
        unfold ritemAt
        rw [if_neg h34, hj, hall]
        simp
      rw [e2, e3]
      by_cases h0 : j = 0
      · rw [if_pos h0, if_pos h0]
        exact ⟨fun t q e h => by (cases h), fun _ => itemsG_none (by rw [e2, if_pos h0])⟩
      · rw [if_neg h0, if_neg h0]
        refine ⟨fun t q e h => ?_, fun h => by (cases h)⟩
        simp only [Option.some.injEq, Prod.mk.injEq] at h ⊢
        obtain ⟨rfl, rfl, rfl⟩ := h
        exact ⟨rfl, rfl, by omega⟩
    | false =>
      have e3 : ritemAt l k = none := by
        unfold ritemAt
        rw [if_neg h34, hj, if_pos (.inr hall)]
      rw [e3]
      refine ⟨fun t q e h => by (cases h), fun _ => ?_⟩
      obtain ⟨b, hb⟩ : ∃ b, bareL (l.drop k) = b := ⟨_, rfl⟩
      have hbl : b ≤ (l.drop k).length := by rw [← hb]; exact bareL_le _
      have hbj : b < j := by
        refine Classical.byContradiction fun hge => ?_
        have : ((l.drop k).take j).all sgn = true := by
          rw [List.all_eq_true]
          intro d hd
          have h1 : d ∈ (l.drop k).takeWhile sgn := by
            have hp : (l.drop k).take j = ((l.drop k).takeWhile sgn).take j := by
              have h2 : (l.drop k).takeWhile sgn = (l.drop k).take b := by
                have := List.prefix_iff_eq_take.1 (List.takeWhile_prefix (p := sgn) (l := l.drop k))
                rw [this]
                unfold bareL at hb
                rw [hb]
              rw [h2, List.take_take, Nat.min_eq_left (by omega)]
            rw [hp] at hd
            exact List.mem_of_mem_take hd
          exact mem_tw h1
        rw [this] at hall
        cases hall
      have e2 : itemL (l.drop k) = if b = 0 then none else some ((l.drop k).take b, false, b) := by
        unfold itemL
        rw [if_neg hhd, hb]
      by_cases h0 : b = 0
      · exact itemsG_none (by rw [e2, if_pos h0])
      · rw [if_neg h0] at e2
        refine itemsG_bad e2 (by omega) (fun hc => ?_)
        exact hin b 32 hbj hc rfl
theorem ritems_bad {l t : List UInt8} {k e : Nat} {q : Bool} (h : ritemAt l k = some (t, q, e)) (he : e < l.length) (hb : l[e]? ≠ some 32) : itemsG (l.drop k) = none := by
  have := ritem_le h
  exact itemsG_bad (item_both.1 t q e h) (by rw [List.length_drop]; omega) (by rw [List.getElem?_drop, show k + (e - k) = e by omega]; exact hb)
theorem ritems_end {l t : List UInt8} {k e : Nat} {q : Bool} (h : ritemAt l k = some (t, q, e)) (he : e = l.length) : itemsG (l.drop k) = some [(t, q)] := by
  have := ritem_le h
  exact itemsG_end (item_both.1 t q e h) (by rw [List.length_drop]; omega)
theorem ritems_go {l t : List UInt8} {k e : Nat} {q : Bool} (h : ritemAt l k = some (t, q, e)) (he : e < l.length) (hb : l[e]? = some 32) : itemsG (l.drop k) = (itemsG (l.drop (e + 1))).map fun r => (t, q) :: r := by
  have := ritem_le h
  have := itemsG_go (item_both.1 t q e h) (by rw [List.length_drop]; omega) (by rw [List.getElem?_drop, show k + (e - k) = e by omega]; exact hb)
  rw [this, List.drop_drop, show k + (e - k + 1) = e + 1 by omega]
end Go.Proofs.YtghlodpbbghcoaaGreatDoor

/- A line's item by the document: walked. -/
namespace Go.Proofs.YtghlodpbbghcoaaGreatDoor
open Go.RowKit
def RItemPost (r : Option (List UInt8 × Bool × Nat)) (w : World) (e : Ending) (w' : World) : Prop :=
  (match r with
   | none => ∃ (t : ByteArray) (q : Bool), e = .returned (.tuple #[.string t, .bool q, .int .i64 (-1)])
   | some (t, q, n) => e = .returned (.tuple #[.string (tx t), .bool q, .int .i64 n])) ∧ Below w.heap.size w w'

set_option maxRecDepth 100000 in
set_option maxHeartbeats 3200000 in
theorem ritem_quoted (s : ByteArray) (k : Nat) (hs : s.size ≤ 2000000) (hk : k < s.size) (h34 : s.data.toList[k]? = some 34) (w : World) : Calls Tryz.prog 43 #[.string s, .int .i64 k] w (RItemPost (ritemAt s.data.toList k) w) := by
  have hz : Hid (s.data.toList.length = s.size) := Lib.hid (by simp)
  obtain ⟨R, hR⟩ : ∃ R, unqAt s.data.toList (k + 1) [] = R := ⟨_, rfl⟩
  have hR0 : Hid (unqAt s.data.toList (k + 1) [] = R) := Lib.hid hR
  have hrr : ritemAt s.data.toList k = R.map fun p => (p.1, true, p.2) := by
    unfold ritemAt
    rw [if_pos h34, hR]
  rw [hrr]
  have hk0 : (0 : Int) ≤ (k : Int) := by omega
  have hk1 : (k : Int) < (s.size : Int) := by omega
  have hsk : s[k] = 34 := by
    rw [str_at hk] at h34
    exact Option.some.inj h34
  clear hR hrr h34
  go_enter Tryz.func43, Tryz.ntmps43
  go_upto_region 4 with fail
  clear hsk
  go_loopw [7, 8] (fun v x8 wr => ∃ (i : Nat) (L : List UInt8), x8 = .int .i64 i ∧ i ≤ s.size + 1 ∧ L.length ≤ i ∧ Hid (OwnY wr w.heap.size v L) ∧ Hid (unqAt s.data.toList i L = R) ∧ Hid (Below w.heap.size w wr)) (fun _ x8 _ => s.size + 1 - (intOf x8).toNat)
  case atStart => exact ⟨k + 1, [], by simp, by omega, by simp, Lib.hid (OwnY.nil _ _), hR0, Lib.hid (Below.refl _ _)⟩
  case round =>
    obtain ⟨i, L, rfl, hi, hL, hown, hres, hB⟩ := hrel
    clear hR0 hk0 hk1 hk
    by_cases hlt : i < s.size
    · have hsi := Lib.hid (str_at hlt)
      obtain ⟨c, hc⟩ : ∃ c : UInt8, s[i] = c := ⟨_, rfl⟩
      rw [hc] at hsi
      obtain ⟨q, hq⟩ : ∃ q : Int, (s[i].toNat : Int) = q := ⟨_, rfl⟩
      have hck : Hid ((c.toNat : Int) = q) := Lib.hid (by rw [← hc]; exact hq)
      have hi0 : (0 : Int) ≤ (i : Int) := by omega
      have hi1 : (i : Int) < (s.size : Int) := by omega
      have hBw := Lib.hid hB.out.size
      clear hc
      by_cases h34 : q = 34
      · subst h34
        have hc34 : c = 34 := by
          have := hck.out
          exact UInt8.toNat_inj.1 (by show c.toNat = 34; omega)
        have hR1 : R = some (L, i + 1) := by rw [← hres.out]; exact unqAt_quote (by rw [hsi.out, hc34])
        subst hR1
        obtain ⟨t, ht, hcv⟩ := conv_Y hown.out
        have hcv2 := hcv wr (Below.refl _ _)
        replace ht := Lib.hid ht
        clear hcv hres
        go_wp2
        go_ret3
        refine ⟨?_, hB.out⟩
        rw [tx_eq ht.out]
        rfl
      · have e34 : (q == 34) = false := by simpa using h34
        have hne : Hid (c ≠ 34) := Lib.hid (fun e => h34 (by rw [← hck.out, e]; rfl))
        by_cases h92 : q = 92
        · subst h92
          have hc92 : c = 92 := by
            have := hck.out
            exact UInt8.toNat_inj.1 (by show c.toNat = 92; omega)
          subst hc92
          clear h34 e34 hne
          obtain ⟨j, hj⟩ : ∃ j : Nat, j = i + 1 := ⟨_, rfl⟩
          have hij : (i : Int) + 1 = (j : Int) := by omega
          by_cases hjs : j = s.size
          · have hR1 : R = none := by rw [← hres.out]; exact unqAt_cut hsi.out (by rw [hz.out]; omega)
            subst hR1
            have hjs2 : (s.size : Int) = (j : Int) := by omega
            have hjs3 : s.size = j := hjs.symm
            clear hres hj hjs
            go_wp2
            go_ret3
            exact ⟨⟨_, _, rfl⟩, hB.out⟩
          · have hjl : j < s.size := by omega
            have hsj := Lib.hid (str_at hjl)
            obtain ⟨d, hd⟩ : ∃ d : UInt8, s[j] = d := ⟨_, rfl⟩
            rw [hd] at hsj
            obtain ⟨k2, hk2⟩ : ∃ k2 : Int, (s[j].toNat : Int) = k2 := ⟨_, rfl⟩
            have hdk : Hid ((d.toNat : Int) = k2) := Lib.hid (by rw [← hd]; exact hk2)
            have hj0 : (0 : Int) ≤ (j : Int) := by omega
            have hj1 : (j : Int) < (s.size : Int) := by omega
            have hj3 : ¬ s.size ≤ j := by omega
            have hj' := Lib.hid hj
            clear hd hjs hj
            by_cases hok : k2 = 34 ∨ k2 = 92
            · have hR1 : Hid (unqAt s.data.toList (i + 2) (L ++ [d]) = R) := Lib.hid (by
                rw [← hres.out]
                refine (unqAt_esc hsi.out (by rw [← hj'.out]; exact hsj.out) ?_).symm
                have := hdk.out
                rcases hok with h | h
                · exact .inl (UInt8.toNat_inj.1 (by show d.toNat = 34; omega))
                · exact .inr (UInt8.toNat_inj.1 (by show d.toNat = 92; omega)))
              clear hres
              rcases hok with rfl | rfl
              all_goals
                go_wp2_with (at_builtin; refine appendByte_any hown.out hBw.out (by omega) d rfl _ _ rfl rfl rfl rfl (by rw [hdk.out]) ?_; intro v' w' ho' hb' hk')
                exact ⟨⟨i + 2, L ++ [d], by simp; omega, by omega, by simp; omega, Lib.hid ho', hR1, Lib.hid (hB.out.trans hb')⟩, by simp [intOf]; omega⟩
            · have hR1 : R = none := by
                rw [← hres.out]
                refine unqAt_wrong hsi.out (by rw [← hj'.out]; exact hsj.out) (fun h => hok ?_)
                have := hdk.out
                rcases h with rfl | rfl
                · exact .inl (by rw [← this]; rfl)
                · exact .inr (by rw [← this]; rfl)
              subst hR1
              have n34 : (k2 != 34) = true := by simp [bne]; exact fun h => hok (.inl h)
              have n92 : (k2 != 92) = true := by simp [bne]; exact fun h => hok (.inr h)
              clear hres hok
              go_wp2
              go_ret3
              exact ⟨⟨_, _, rfl⟩, hB.out⟩
        · have e92 : (q == 92) = false := by simpa using h92
          have hne2 : Hid (c ≠ 92) := Lib.hid (fun e => h92 (by rw [← hck.out, e]; rfl))
          by_cases hbad : q < 32 ∨ 126 < q
          · have hR1 : R = none := by
              rw [← hres.out]
              refine unqAt_bad hsi.out hne.out ?_
              have := hck.out
              rcases hbad with h | h
              · exact .inl (UInt8.lt_iff_toNat_lt.2 (by show c.toNat < 32; omega))
              · exact .inr (UInt8.lt_iff_toNat_lt.2 (by show 126 < c.toNat; omega))
            subst hR1
            by_cases h32 : q < 32
            · clear hres h34 h92 hbad
              go_wp2
              go_ret3
              exact ⟨⟨_, _, rfl⟩, hB.out⟩
            · have h126 : 126 < q := by omega
              clear hres h34 h92 hbad
              go_wp2
              go_ret3
              exact ⟨⟨_, _, rfl⟩, hB.out⟩
          · have h32 : ¬ q < 32 := fun h => hbad (.inl h)
            have h126 : ¬ 126 < q := fun h => hbad (.inr h)
            have hgood : Hid (¬ (c < 32 ∨ 126 < c)) := Lib.hid (by
              have := hck.out
              rintro (h | h)
              · have h2 : c.toNat < 32 := UInt8.lt_iff_toNat_lt.1 h
                omega
              · have h2 : 126 < c.toNat := UInt8.lt_iff_toNat_lt.1 h
                omega)
            have hR1 : Hid (unqAt s.data.toList (i + 1) (L ++ [c]) = R) := Lib.hid (by rw [← hres.out]; exact (unqAt_sign hsi.out hne.out hgood.out hne2.out).symm)
            clear hres h34 h92 hne hne2 hgood hbad
            go_wp2_with (at_builtin; refine appendByte_any hown.out hBw.out (by omega) c rfl _ _ rfl rfl rfl rfl (by rw [hck.out]) ?_; intro v' w' ho' hb' hk')
            exact ⟨⟨i + 1, L ++ [c], by simp, by omega, by simp; omega, Lib.hid ho', hR1, Lib.hid (hB.out.trans hb')⟩, by simp [intOf]; omega⟩
    · have hR1 : R = none := by rw [← hres.out]; exact unqAt_end (by rw [hz.out]; omega)
      subst hR1
      go_wp2
      go_ret3
      exact ⟨⟨_, _, rfl⟩, hB.out⟩
end Go.Proofs.YtghlodpbbghcoaaGreatDoor

/- A line's bare item by the document: walked. -/
namespace Go.Proofs.YtghlodpbbghcoaaGreatDoor
open Go.RowKit
set_option maxRecDepth 100000 in
set_option maxHeartbeats 3200000 in
theorem ritem_bare (s : ByteArray) (k : Nat) (hs : s.size ≤ 2000000) (hk : k ≤ s.size) (h34 : s.data.toList[k]? ≠ some 34) (w : World) : Calls Tryz.prog 43 #[.string s, .int .i64 k] w (RItemPost (ritemAt s.data.toList k) w) := by
  have hz : Hid (s.data.toList.length = s.size) := Lib.hid (by simp)
  obtain ⟨R, hR⟩ : ∃ R, ritemAt s.data.toList k = R := ⟨_, rfl⟩
  have hR0 : Hid (ritemAt s.data.toList k = R) := Lib.hid hR
  rw [hR]
  have hk0 : (0 : Int) ≤ (k : Int) := by omega
  have h34' := Lib.hid h34
  clear hR h34
  go_enter Tryz.func43, Tryz.ntmps43
  go_upto_region 2 with fail
  go_cut [20] (fun x wx => x = .bool false ∧ wx = w)
  case first =>
    by_cases hlt : k < s.size
    · obtain ⟨c, hc⟩ : ∃ c : UInt8, s[k] = c := ⟨_, rfl⟩
      obtain ⟨q, hq⟩ : ∃ q : Int, (s[k].toNat : Int) = q := ⟨_, rfl⟩
      have e34 : (q == 34) = false := by
        simp
        intro e
        refine h34'.out ?_
        rw [str_at hlt]
        refine congrArg some (UInt8.toNat_inj.1 ?_)
        show s[k].toNat = 34
        omega
      have hk1 : (k : Int) < (s.size : Int) := by omega
      clear hc
      go_wp2
      go_meet
      exact ⟨rfl, rfl⟩
    · go_wp2
      go_meet
      exact ⟨rfl, rfl⟩
  case rest =>
  obtain ⟨rfl, rfl⟩ := hcut
  go_wp2
  go_loop [10] (fun x => ∃ n : Nat, x = .int .i64 n ∧ k ≤ n ∧ n ≤ s.size ∧ Hid (∀ j d, k ≤ j → j < n → s.data.toList[j]? = some d → sgn d = true)) (fun x => s.size - (intOf x).toNat)
  case atStart => exact ⟨k, rfl, Nat.le_refl _, hk, Lib.hid (fun j d h1 h2 => by omega)⟩
  case round =>
    obtain ⟨n, rfl, hkn, hn, hok⟩ := hrel
    have hn0 : (0 : Int) ≤ (n : Int) := by omega
    have hn1 : (n : Int) ≤ (s.size : Int) := by omega
    have hend : Hid ((∀ c, s.data.toList[n]? = some c → c = 32) → R = if n = k then none else some ((s.data.toList.drop k).take (n - k), false, n)) := Lib.hid (fun h => by
      rw [← hR0.out]
      exact ritem_end h34'.out hkn (by rw [hz.out]; exact hn) hok.out h)
    have hx : Hid (s.extract k n = tx ((s.data.toList.drop k).take (n - k))) := Lib.hid (tx_eq (by rw [ByteArray.data_extract, Array.toList_extract, List.extract_eq_take_drop]))
    by_cases hlt : n < s.size
    · have hsi := Lib.hid (str_at hlt)
      obtain ⟨c, hc⟩ : ∃ c : UInt8, s[n] = c := ⟨_, rfl⟩
      rw [hc] at hsi
      obtain ⟨q, hq⟩ : ∃ q : Int, (s[n].toNat : Int) = q := ⟨_, rfl⟩
      have hcq : Hid ((c.toNat : Int) = q) := Lib.hid (by rw [← hc]; exact hq)
      have hsg : Hid (sgn c = (decide (32 < q) && decide (q ≤ 126) && !(q == 34))) := Lib.hid (by rw [sgn_iff, ← hc, hq])
      have hi1 : (n : Int) < (s.size : Int) := by omega
      clear hc
      by_cases h32 : q = 32
      · subst h32
        have hc32 : c = 32 := by
          have := hcq.out
          exact UInt8.toNat_inj.1 (by show c.toNat = 32; omega)
        have hR1 := hend.out (fun d hd => by rw [hsi.out] at hd; cases hd; exact hc32)
        clear hend
        by_cases hnk : n = k
        · subst hnk
          rw [if_pos rfl] at hR1
          subst hR1
          go_wp2
          go_ret3
          exact ⟨⟨_, _, rfl⟩, Below.refl _ _⟩
        · rw [if_neg hnk] at hR1
          subst hR1
          have e1 : (n == k) = false := by simpa using hnk
          have e2 : ((n : Int) == (k : Int)) = false := by simp; omega
          have e3 : (k : Int) ≤ (n : Int) := by omega
          clear hnk
          go_wp2
          go_ret3
          exact ⟨by show Ending.returned _ = Ending.returned _; rw [← hx.out]; rfl, Below.refl _ _⟩
      · have e32 : (q != 32) = true := by simpa [bne] using h32
        have hne : Hid (c ≠ 32) := Lib.hid (fun e => h32 (by rw [← hcq.out, e]; rfl))
        by_cases hgood : 33 ≤ q ∧ q ≤ 126 ∧ q ≠ 34
        · obtain ⟨g1, g2, g3⟩ := hgood
          have g1' : ¬ q < 33 := by omega
          have g2' : ¬ 126 < q := by omega
          have e34 : (q == 34) = false := by simpa using g3
          have hok2 : Hid (∀ j d, k ≤ j → j < n + 1 → s.data.toList[j]? = some d → sgn d = true) := Lib.hid (fun j d h1 h2 hd => by
            by_cases e : j = n
            · subst e
              rw [hsi.out] at hd
              cases hd
              rw [hsg.out, decide_eq_true (by omega : 32 < q), decide_eq_true g2, e34]
              rfl
            · exact hok.out j d h1 (by omega) hd)
          clear hend h32 g3 hne
          go_wp2
          exact ⟨⟨n + 1, by simp, by omega, by omega, hok2⟩, by simp [intOf]; omega⟩
        · have hR1 : R = none := by
            rw [← hR0.out]
            refine ritem_bad h34'.out hkn hok.out hsi.out hne.out ?_
            rw [hsg.out]
            by_cases h1 : 32 < q
            · by_cases h2 : q ≤ 126
              · have : q = 34 := Classical.byContradiction (fun h => hgood ⟨by omega, h2, h⟩)
                subst this
                rfl
              · rw [decide_eq_false h2]; simp
            · rw [decide_eq_false h1]; simp
          subst hR1
          clear hend
          by_cases h1 : q < 33
          · clear hgood h32
            go_wp2
            go_ret3
            exact ⟨⟨_, _, rfl⟩, Below.refl _ _⟩
          · by_cases h2 : 126 < q
            · clear hgood h32
              go_wp2
              go_ret3
              exact ⟨⟨_, _, rfl⟩, Below.refl _ _⟩
            · have h3 : q = 34 := Classical.byContradiction (fun h => hgood ⟨by omega, by omega, h⟩)
              subst h3
              clear hgood h32
              go_wp2
              go_ret3
              exact ⟨⟨_, _, rfl⟩, Below.refl _ _⟩
    · have hR1 := hend.out (fun d hd => by
        have := (List.getElem?_eq_some_iff.1 hd).1
        rw [hz.out] at this
        omega)
      clear hend
      by_cases hnk : n = k
      · subst hnk
        rw [if_pos rfl] at hR1
        subst hR1
        go_wp2
        go_ret3
        exact ⟨⟨_, _, rfl⟩, Below.refl _ _⟩
      · rw [if_neg hnk] at hR1
        subst hR1
        have e1 : (n == k) = false := by simpa using hnk
        have e2 : ((n : Int) == (k : Int)) = false := by simp; omega
        have e3 : (k : Int) ≤ (n : Int) := by omega
        clear hnk
        go_wp2
        go_ret3
        exact ⟨by show Ending.returned _ = Ending.returned _; rw [← hx.out]; rfl, Below.refl _ _⟩
theorem ritem_any (s : ByteArray) (k : Nat) (hs : s.size ≤ 2000000) (hk : k ≤ s.size) (w : World) : Calls Tryz.prog 43 #[.string s, .int .i64 k] w (RItemPost (ritemAt s.data.toList k) w) := by
  by_cases h34 : s.data.toList[k]? = some 34
  · have := (List.getElem?_eq_some_iff.1 h34).1
    exact ritem_quoted s k hs (by simpa using this) h34 w
  · exact ritem_bare s k hs hk h34 w
end Go.Proofs.YtghlodpbbghcoaaGreatDoor

/- A line's items by the document: walked. -/
namespace Go.Proofs.YtghlodpbbghcoaaGreatDoor
open Go.RowKit
set_option maxRecDepth 100000 in
set_option maxHeartbeats 3200000 in
theorem ritems_any (s : ByteArray) (hs : s.size ≤ 2000000) (w : World) : Calls Tryz.prog 21 #[.string s] w (ItemsPost (itemsG s.data.toList) w) := by
  have hz : Hid (s.data.toList.length = s.size) := Lib.hid (by simp)
  obtain ⟨r, hr⟩ : ∃ r, itemsG s.data.toList = r := ⟨_, rfl⟩
  rw [hr]
  replace hr := Lib.hid hr
  go_enter Tryz.func21, Tryz.ntmps21
  go_wp2
  go_loopw [5, 6, 7] (fun vt vq x7 wr => ∃ (k : Nat) (D : List (List UInt8 × Bool)), x7 = .int .i64 k ∧ k ≤ s.size ∧ D.length ≤ k ∧ Hid ((itemsG (s.data.toList.drop k)).map (fun m => D ++ m) = r) ∧ Hid (ItemsIn w.heap.size wr vt vq D) ∧ Hid (Below w.heap.size w wr)) (fun _ _ x7 _ => s.size + 1 - (intOf x7).toNat)
  case atStart => exact ⟨0, [], rfl, by omega, by simp, Lib.hid (by rw [← hr.out]; simp), Lib.hid (ItemsIn.nil _ _), Lib.hid (Below.refl _ _)⟩
  case round =>
    obtain ⟨k, D, rfl, hk, hDk, hres, hin, hB⟩ := hrel
    have hitem := ritem_any s k hs hk wr
    obtain ⟨vt, hvt⟩ : ∃ v, v = u5 := ⟨_, rfl⟩
    obtain ⟨vq, hvq⟩ : ∃ v, v = u6 := ⟨_, rfl⟩
    rw [← hvt, ← hvq] at hin ⊢
    clear hvt hvq
    cases hI : ritemAt s.data.toList k with
    | none =>
      have e : r = none := by rw [← hres.out, item_both.2 hI]; rfl
      rw [hI] at hitem
      subst e
      clear hI hres
      go_wp2_with (go_at_call 43; refine hitem.mono ?_; rintro e w5 ⟨he, hB5⟩; obtain ⟨t, q, rfl⟩ := he)
      go_ret3
      exact ⟨rfl, hB.out.trans (hB5.mono hB.out.size)⟩
    | some p =>
      obtain ⟨t, q, n⟩ := p
      rw [hI] at hitem
      have hle := ritem_le hI
      rw [hz.out] at hle
      obtain ⟨hkn, hnl⟩ := hle
      replace hI := Lib.hid hI
      have hn0 : (0 : Int) ≤ (n : Int) := by omega
      have hnn : ¬ (n : Int) < 0 := by omega
      have hwz := Lib.hid hB.out.size
      go_upto_region 5 with (go_at_call 43; refine hitem.mono ?_; rintro e w5 ⟨he, hB5⟩; simp only at he; subst he; have hin5 := Lib.hid (hin.out.below hB5); have hB5w := Lib.hid (hB.out.trans (hB5.mono hB.out.size)); have hz5 := hB5w.out.size)
      replace hB5 := Lib.hid hB5
      clear hitem
      by_cases hend : n = s.size
      · have hnl2 : ¬ n < s.size := by omega
        have hnl3 : s.size ≤ n := by omega
        have e : r = some (D ++ [(t, q)]) := by rw [← hres.out, ritems_end hI.out (by rw [hz.out]; exact hend)]; rfl
        subst e
        clear hres hend
        go_wp2_with (first
          | (at_builtin; refine wpList_append_new_at info9 Tryz.underlying22 rfl (by decide) (by decide) w.heap.size hin5.out.t 1 rfl _ _ rfl rfl rfl (by simp) rfl rfl (by omega) hz5 ?_; intro vt' w6 hown6 hbel6 hgt6 hgrow6 hnew6; have hq6 := Lib.hid (hin5.out.q.kept hgrow6 (own_apart hin5.out.q hin5.out.t (by decide))); have hz6 : w.heap.size ≤ w6.heap.size := (by omega); replace hown6 := Lib.hid hown6; clear hgrow6 hnew6)
          | (at_builtin; refine wpList_append_new_at info4 Tryz.underlying51 rfl (by decide) (by decide) w.heap.size hq6.out 1 rfl _ _ rfl rfl rfl (by simp) rfl rfl (by omega) hz6 ?_; intro vq' w7 hown7 hbel7 hgt7 hgrow7 hnew7))
        go_ret3
        refine ⟨⟨_, _, rfl, ⟨?_, ?_⟩⟩, (hB5w.out.trans hbel6).trans hbel7⟩
        · have := hown6.out.kept hgrow7 (own_apart hown6.out hq6.out (by decide))
          rw [List.length_append]
          simpa [tCells] using this
        · rw [List.length_append]
          simpa [qCells] using hown7
      · have hlt : n < s.size := by omega
        have hsi := Lib.hid (str_at hlt)
        obtain ⟨c, hc⟩ : ∃ c : UInt8, s[n] = c := ⟨_, rfl⟩
        rw [hc] at hsi
        obtain ⟨x, hx⟩ : ∃ x : Int, (s[n].toNat : Int) = x := ⟨_, rfl⟩
        have hck : Hid ((c.toNat : Int) = x) := Lib.hid (by rw [← hc]; exact hx)
        have hi1 : (n : Int) < (s.size : Int) := by omega
        have hnl' : Hid (n < s.data.toList.length) := Lib.hid (by rw [hz.out]; exact hlt)
        have hnl3 : ¬ s.size ≤ n := by omega
        clear hc hend
        by_cases h32 : x = 32
        · subst h32
          have hc32 : c = 32 := by
            have := hck.out
            exact UInt8.toNat_inj.1 (by show c.toNat = 32; omega)
          have hres2 : Hid ((itemsG (s.data.toList.drop (n + 1))).map (fun z => (D ++ [(t, q)]) ++ z) = r) := Lib.hid (by
            rw [← hres.out, ritems_go hI.out hnl'.out (by rw [hsi.out, hc32])]
            cases itemsG (s.data.toList.drop (n + 1)) with
            | none => rfl
            | some z => simp)
          clear hres
          go_wp2_with (first
            | (at_builtin; refine wpList_append_new_at info9 Tryz.underlying22 rfl (by decide) (by decide) w.heap.size hin5.out.t 1 rfl _ _ rfl rfl rfl (by simp) rfl rfl (by omega) hz5 ?_; intro vt' w6 hown6 hbel6 hgt6 hgrow6 hnew6; have hq6 := Lib.hid (hin5.out.q.kept hgrow6 (own_apart hin5.out.q hin5.out.t (by decide))); have hz6 : w.heap.size ≤ w6.heap.size := (by omega); replace hown6 := Lib.hid hown6; clear hgrow6 hnew6)
            | (at_builtin; refine wpList_append_new_at info4 Tryz.underlying51 rfl (by decide) (by decide) w.heap.size hq6.out 1 rfl _ _ rfl rfl rfl (by simp) rfl rfl (by omega) hz6 ?_; intro vq' w7 hown7 hbel7 hgt7 hgrow7 hnew7))
          refine ⟨⟨n + 1, D ++ [(t, q)], by simp, by omega, by simp; omega, hres2, Lib.hid ⟨?_, ?_⟩, Lib.hid ((hB5w.out.trans hbel6).trans hbel7)⟩, by simp [intOf]; omega⟩
          · have := hown6.out.kept hgrow7 (own_apart hown6.out hq6.out (by decide))
            rw [List.length_append]
            simpa [tCells] using this
          · rw [List.length_append]
            simpa [qCells] using hown7
        · have hne : Hid (c ≠ 32) := Lib.hid (fun e => h32 (by rw [← hck.out, e]; rfl))
          have e : r = none := by
            rw [← hres.out, ritems_bad hI.out hnl'.out (by rw [hsi.out]; exact fun h => hne.out (by simpa using h))]
            rfl
          have n32 : (x != 32) = true := by simpa [bne] using h32
          subst e
          clear hres h32
          go_wp2
          go_ret3
          exact ⟨rfl, hB5w.out⟩
end Go.Proofs.YtghlodpbbghcoaaGreatDoor
