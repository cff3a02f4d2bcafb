/- Where a raw element ends: walked. -/
import Derived.Test.YtghlodpbbghcoaaDoorN14
import Derived.Test.YtghlodpbbghcoaaDoorShelf
namespace Go.Proofs.YtghlodpbbghcoaaDoor
open Go.Lib Go.RowKit
/-- Does a raw element of a name end at a place? -/
def endsP (s name : ByteArray) (p : Nat) : Prop :=
  p + 2 + name.size < s.size ∧ bt s p = 60 ∧ bt s (p + 1) = 47 ∧ (∀ j, j < name.size → low (bt s (p + 2 + j)) = bt name j) ∧ (blankN (bt s (p + 2 + name.size)) ∨ bt s (p + 2 + name.size) = 47 ∨ bt s (p + 2 + name.size) = 62)
def EndsIs (s name : ByteArray) (v : Int) : Prop := (v = -1 ∧ ∀ p, ¬ endsP s name p) ∨ ∃ p : Nat, v = p ∧ endsP s name p ∧ ∀ q, q < p → ¬ endsP s name q
theorem EndsIs.one {s name : ByteArray} {v u : Int} (h : EndsIs s name v) (g : EndsIs s name u) : v = u := by
  rcases h with ⟨rfl, h⟩ | ⟨p, rfl, hp, hq⟩ <;> rcases g with ⟨rfl, g⟩ | ⟨p', rfl, gp, gq⟩
  · rfl
  · exact absurd gp (h _)
  · exact absurd hp (g _)
  · rcases Nat.lt_trichotomy p p' with h1 | h1 | h1
    · exact absurd hp (gq _ h1)
    · rw [h1]
    · exact absurd gp (hq _ h1)
/-- The cell of internal/bytealg.MaxLen. -/
def MaxAt (w : World) : Prop := ∃ m : Int, w.cell? ⟨2, 0, none⟩ = some (.int .i64 m)
theorem MaxAt.below {w w' : World} (h : MaxAt w) (hb : Below w.heap.size w w') : MaxAt w' := by
  obtain ⟨m, hm⟩ := h
  exact ⟨m, (hb.cell (p := ⟨2, 0, none⟩) (World.block_lt_of_cell? w _ hm)).trans hm⟩
theorem occ_bt (s : ByteArray) (i : Nat) : occAt s.data.toList [60, 47] i = true ↔ (i + 2 ≤ s.size ∧ bt s i = 60 ∧ bt s (i + 1) = 47) := by
  obtain ⟨l, hl⟩ : ∃ l, s.data.toList = l := ⟨_, rfl⟩
  have hz : s.size = l.length := by rw [← hl]; exact Array.length_toList.symm
  unfold occAt bt
  rw [hl, hz]
  by_cases h : i + 2 ≤ l.length
  · rw [List.drop_eq_getElem_cons (by omega), List.drop_eq_getElem_cons (by omega : i + 1 < l.length)]
    have e1 : l.getD i 0 = l[i] := by rw [List.getD_eq_getElem?_getD, List.getElem?_eq_getElem (by omega)]; rfl
    have e2 : l.getD (i + 1) 0 = l[i + 1] := by rw [List.getD_eq_getElem?_getD, List.getElem?_eq_getElem (by omega)]; rfl
    rw [e1, e2]
    simp only [List.isPrefixOf, Bool.and_true, Bool.and_eq_true, beq_iff_eq]
    constructor
    · rintro ⟨a, b⟩
      exact ⟨h, by rw [← a]; rfl, by rw [← b]; rfl⟩
    · rintro ⟨_, a, b⟩
      exact ⟨UInt8.toNat_inj.1 a.symm, UInt8.toNat_inj.1 b.symm⟩
  · have hd : (l.drop i).length < 2 := by rw [List.length_drop]; omega
    constructor
    · intro h2
      exfalso
      revert h2 hd
      cases l.drop i with
      | nil => intro _ h2; cases h2
      | cons a t =>
        cases t with
        | nil => intro _ h2; simp [List.isPrefixOf] at h2
        | cons b t => intro h3; simp at h3; omega
    · rintro ⟨h2, _⟩
      exact absurd h2 h
/-- What strings.Index tells of the rest of a text. -/
theorem index_from (s : ByteArray) (i : Nat) (hi : i ≤ s.size) :
    (index (s.extract i s.size).data.toList [60, 47] = -1 ∧ ∀ p, i ≤ p → ¬ (p + 2 ≤ s.size ∧ bt s p = 60 ∧ bt s (p + 1) = 47)) ∨
    ∃ p : Nat, i ≤ p ∧ index (s.extract i s.size).data.toList [60, 47] = ((p - i : Nat) : Int) ∧ (p + 2 ≤ s.size ∧ bt s p = 60 ∧ bt s (p + 1) = 47) ∧ ∀ q, i ≤ q → q < p → ¬ (q + 2 ≤ s.size ∧ bt s q = 60 ∧ bt s (q + 1) = 47) := by
  have hz : (s.extract i s.size).size = s.size - i := by rw [ByteArray.size_extract]; omega
  have hzl : (s.extract i s.size).data.toList.length = s.size - i := by rw [← hz]; exact Array.length_toList
  have tr : ∀ j, (j + 2 ≤ (s.extract i s.size).size ∧ bt (s.extract i s.size) j = 60 ∧ bt (s.extract i s.size) (j + 1) = 47) ↔ (i + j + 2 ≤ s.size ∧ bt s (i + j) = 60 ∧ bt s (i + j + 1) = 47) := by
    intro j
    rw [hz]
    constructor
    · rintro ⟨h1, h2, h3⟩
      rw [bt_extract _ _ _ (by omega)] at h2 h3
      exact ⟨by omega, h2, by rw [← h3]; rfl⟩
    · rintro ⟨h1, h2, h3⟩
      refine ⟨by omega, ?_, ?_⟩
      · rw [bt_extract _ _ _ (by omega)]; exact h2
      · rw [bt_extract _ _ _ (by omega)]; exact h3
  rcases index_spec (s.extract i s.size).data.toList [60, 47] with ⟨h1, h2⟩ | ⟨j, h1, h2, h3, h4⟩
  · left
    refine ⟨h1, fun p hp hc => ?_⟩
    have := h2 (p - i) (by rw [hzl]; omega)
    have h5 := (occ_bt (s.extract i s.size) (p - i)).2 ((tr _).2 (by rw [show i + (p - i) = p by omega]; exact hc))
    rw [h5] at this
    cases this
  · right
    refine ⟨i + j, by omega, by rw [h1]; congr 1; omega, (tr j).1 ((occ_bt _ _).1 h3), fun q hq hq2 hc => ?_⟩
    have := h4 (q - i) (by omega)
    have h5 := (occ_bt (s.extract i s.size) (q - i)).2 ((tr _).2 (by rw [show i + (q - i) = q by omega]; exact hc))
    rw [h5] at this
    cases this

open Classical in
set_option maxRecDepth 8192 in
set_option maxHeartbeats 3200000 in
theorem ends_any (s name : ByteArray) (hs : s.size ≤ 1000000) (hn : name.size ≤ 1000) (w : World) (hM : MaxAt w) :
    Calls Tryd.prog 38 #[.string s, .string name] w fun e w' => ∃ v : Int, e = .returned (.int .i64 v) ∧ EndsIs s name v ∧ Below w.heap.size w w' := by
  go_enter Tryd.func38, Tryd.ntmps38
  go_wp2
  go_loopw [5] (fun x wr => ∃ i : Nat, i ≤ s.size ∧ x = .int .i64 i ∧ Hid (∀ p, p < i → ¬ endsP s name p) ∧ Hid (Below w.heap.size w wr)) (fun x _ => s.size - (Lib.intOf x).toNat)
  case atStart => exact ⟨0, Nat.zero_le _, rfl, Lib.hid (fun p h => absurd h (Nat.not_lt_zero _)), Lib.hid (Below.refl _ _)⟩
  case round =>
    obtain ⟨i, hi, rfl, hok, hB⟩ := hrel
    obtain ⟨m, hm⟩ := hM.below hB.out
    have hi0 : (0 : Int) ≤ (i : Int) := by omega
    have hi1 : (i : Int) ≤ (s.size : Int) := by omega
    have hix := Tryd.strings_Index (s.extract i s.size) ⟨#[60, 47]⟩ m wr (by rw [ByteArray.size_extract]; omega) hm
    obtain ⟨ix, hixe⟩ : ∃ ix, index (s.extract i s.size).data.toList [60, 47] = ix := ⟨_, rfl⟩
    have hidx := index_from s i hi
    rw [hixe] at hidx
    have hix2 : Calls Tryd.prog 59 #[.string (s.extract i s.size), .string ⟨#[60, 47]⟩] wr fun e w' => e = .returned (.int .i64 ix) ∧ w' = wr := by rw [← hixe]; exact hix
    clear hixe hix hm
    rcases hidx with ⟨rfl, hno⟩ | ⟨p, hip, rfl, ⟨hp2, hp60, hp47⟩, hlast⟩
    · go_wp2_with (go_at_call 59; refine hix2.mono ?_; rintro e w2 ⟨rfl, rfl⟩)
      go_ret
      refine ⟨-1, rfl, .inl ⟨rfl, fun p hp => ?_⟩, hB.out⟩
      rcases Nat.lt_or_ge p i with h | h
      · exact hok.out p h hp
      · exact hno p h ⟨by have := hp.1; omega, hp.2.1, hp.2.2.1⟩
    · obtain ⟨d, hd⟩ : ∃ d, p - i = d := ⟨_, rfl⟩
      rw [hd] at hix2
      have hsum : (i : Int) + (d : Int) = (p : Int) := by omega
      have hp0 : (0 : Int) ≤ (p : Int) := by omega
      have hp3 : (p : Int) + 2 ≤ (s.size : Int) := by omega
      have hnext : Hid (¬ endsP s name p → ∀ q, q < p + 2 → ¬ endsP s name q) := Lib.hid (fun hp q hq he => by
        rcases Nat.lt_or_ge q i with h | h
        · exact hok.out q h he
        · rcases Nat.lt_or_ge q p with h2 | h2
          · exact hlast q h h2 ⟨by have := he.1; omega, he.2.1, he.2.2.1⟩
          · by_cases h3 : q = p
            · subst h3; exact hp he
            · have : q = p + 1 := by omega
              subst this
              have := he.2.1
              rw [hp47] at this
              cases this)
      have hfirst : Hid (∀ q, q < p → ¬ endsP s name q) := Lib.hid (fun q hq he => by
        rcases Nat.lt_or_ge q i with h | h
        · exact hok.out q h he
        · exact hlast q h hq ⟨by have := he.1; omega, he.2.1, he.2.2.1⟩)
      obtain ⟨R, hR⟩ : ∃ R, s.extract (p + 2) s.size = R := ⟨_, rfl⟩
      have hRz : R.size = s.size - (p + 2) := by rw [← hR, ByteArray.size_extract]; omega
      have hRb : Hid (∀ j, j < R.size → bt R j = bt s (p + 2 + j)) := Lib.hid (fun j hj => by rw [← hR]; exact bt_extract _ _ _ (by omega))
      have hR1 : Hid (R.size ≤ 1000000) := Lib.hid (by omega)
      have hRz2 : Hid (p + 2 + R.size = s.size) := Lib.hid (by omega)
      replace hlast := Lib.hid hlast
      clear hok hRz hd
      by_cases hq : R.size = name.size
      · have hqe : (R.size : Int) = (name.size : Int) := by omega
        have hbad := hnext.out (fun he => by have := he.1; have := hRz2.out; omega)
        replace hbad := Lib.hid hbad
        clear hq
        go_wp2_with (go_at_call 59; refine hix2.mono ?_; rintro e w2 ⟨rfl, rfl⟩)
        exact ⟨⟨p + 2, by omega, by simp, hbad, hB⟩, by simp [Lib.intOf]; omega⟩
      · have hqe : ¬ (R.size : Int) = (name.size : Int) := by omega
        have hpre := prefix_any R name hR1.out (by omega)
        obtain ⟨pf, hpf⟩ : ∃ pf, decide (pref R name) = pf := ⟨_, rfl⟩
        rw [hpf] at hpre
        cases pf with
        | false =>
          have hnp := of_decide_eq_false hpf
          have hbad := hnext.out (fun he => hnp ⟨by have := he.1; have := hRz2.out; omega, fun j hj => by rw [hRb.out j (by have := he.1; have := hRz2.out; omega)]; exact he.2.2.2.1 j hj⟩)
          replace hbad := Lib.hid hbad
          clear hpf hnp
          go_wp2_with (first
            | (go_at_call 59; refine hix2.mono ?_; rintro e w2 ⟨rfl, rfl⟩)
            | (go_at_call 60; refine (hpre _).mono ?_; rintro e w3 ⟨rfl, hB3⟩))
          exact ⟨⟨p + 2, by omega, by simp, hbad, Lib.hid (hB.out.trans (hB3.mono hB.out.size))⟩, by simp [Lib.intOf]; omega⟩
        | true =>
          have hp := of_decide_eq_true hpf
          have hlt : name.size < R.size := by have := hp.1; omega
          have hn0 : (0 : Int) ≤ (name.size : Int) := by omega
          have hn1 : (name.size : Int) < (R.size : Int) := by omega
          have g1 := bt_get R name.size hlt
          have g2 := hRb.out name.size hlt
          have hcl := bt_lt R name.size
          obtain ⟨c, hc⟩ : ∃ c, bt R name.size = c := ⟨_, rfl⟩
          rw [hc] at g1 g2 hcl
          have hbl := blank61_any c
          obtain ⟨bl, hble⟩ : ∃ bl, decide (blankN c) = bl := ⟨_, rfl⟩
          rw [hble] at hbl
          have hyes : Hid ((blankN c ∨ c = 47 ∨ c = 62) → endsP s name p) := Lib.hid (fun h => ⟨by have := hRz2.out; omega, hp60, hp47, fun j hj => by rw [← hRb.out j (by omega)]; exact hp.2 j hj, by rw [← g2]; exact h⟩)
          have hnot : Hid (¬ (blankN c ∨ c = 47 ∨ c = 62) → ∀ q, q < p + 2 → ¬ endsP s name q) := Lib.hid (fun h => hnext.out (fun he => h (by rw [g2]; exact he.2.2.2.2)))
          clear hpf hc g2 hp
          cases bl with
          | true =>
            have he := hyes.out (.inl (of_decide_eq_true hble))
            replace he := Lib.hid he
            clear hble
            go_wp2_with (first
              | (go_at_call 59; refine hix2.mono ?_; rintro e w2 ⟨rfl, rfl⟩)
              | (go_at_call 60; refine (hpre _).mono ?_; rintro e w3 ⟨rfl, hB3⟩)
              | (go_at_call 61; refine (hbl _).mono ?_; rintro e w4 ⟨rfl, rfl⟩))
            go_ret
            exact ⟨p, rfl, .inr ⟨p, rfl, he.out, hfirst.out⟩, hB.out.trans (hB3.mono hB.out.size)⟩
          | false =>
            have hb := of_decide_eq_false hble
            clear hble
            by_cases h47 : c = 47
            · have he := hyes.out (.inr (.inl h47))
              replace he := Lib.hid he
              subst h47
              go_wp2_with (first
                | (go_at_call 59; refine hix2.mono ?_; rintro e w2 ⟨rfl, rfl⟩)
                | (go_at_call 60; refine (hpre _).mono ?_; rintro e w3 ⟨rfl, hB3⟩)
                | (go_at_call 61; refine (hbl _).mono ?_; rintro e w4 ⟨rfl, rfl⟩))
              go_ret
              exact ⟨p, rfl, .inr ⟨p, rfl, he.out, hfirst.out⟩, hB.out.trans (hB3.mono hB.out.size)⟩
            · by_cases h62 : c = 62
              · have he := hyes.out (.inr (.inr h62))
                replace he := Lib.hid he
                subst h62
                go_wp2_with (first
                  | (go_at_call 59; refine hix2.mono ?_; rintro e w2 ⟨rfl, rfl⟩)
                  | (go_at_call 60; refine (hpre _).mono ?_; rintro e w3 ⟨rfl, hB3⟩)
                  | (go_at_call 61; refine (hbl _).mono ?_; rintro e w4 ⟨rfl, rfl⟩))
                go_ret
                exact ⟨p, rfl, .inr ⟨p, rfl, he.out, hfirst.out⟩, hB.out.trans (hB3.mono hB.out.size)⟩
              · have hbad := hnot.out (fun h => h.elim hb (fun h => h.elim h47 h62))
                replace hbad := Lib.hid hbad
                have n47 : ((c : Int) == 47) = false := by simp; omega
                have n62 : ((c : Int) == 62) = false := by simp; omega
                go_wp2_with (first
                  | (go_at_call 59; refine hix2.mono ?_; rintro e w2 ⟨rfl, rfl⟩)
                  | (go_at_call 60; refine (hpre _).mono ?_; rintro e w3 ⟨rfl, hB3⟩)
                  | (go_at_call 61; refine (hbl _).mono ?_; rintro e w4 ⟨rfl, rfl⟩))
                exact ⟨⟨p + 2, by omega, by simp, hbad, Lib.hid (hB.out.trans (hB3.mono hB.out.size))⟩, by simp [Lib.intOf]; omega⟩
end Go.Proofs.YtghlodpbbghcoaaDoor
