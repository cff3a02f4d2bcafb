/- Where a raw element ends, by the document: walked. -/
import Derived.Test.YtghlodpbbghcoaaDoorSF
namespace Go.Proofs.YtghlodpbbghcoaaDoor
open Go.Lib Go.RowKit
theorem bt_ext (A B : ByteArray) : (A.toList == B.toList) = true ↔ A.size = B.size ∧ ∀ j, j < A.size → bt A j = bt B j := by
  rw [beq_iff_eq, ByteArray.toList_eq, ByteArray.toList_eq]
  have ha : A.data.toList.length = A.size := Array.length_toList
  have hb : B.data.toList.length = B.size := Array.length_toList
  constructor
  · intro h
    exact ⟨by rw [← ha, ← hb, h], fun j _ => by unfold bt; rw [h]⟩
  · rintro ⟨h1, h2⟩
    refine List.ext_getElem (by omega) (fun j h3 h4 => ?_)
    have := h2 j (by omega)
    unfold bt at this
    rw [List.getD_eq_getElem?_getD, List.getD_eq_getElem?_getD, List.getElem?_eq_getElem h3, List.getElem?_eq_getElem h4] at this
    exact UInt8.toNat_inj.1 this
theorem bt_sub (s : ByteArray) (a b j : Nat) (h : a + j < b) (hb : b ≤ s.size) : bt (s.extract a b) j = bt s (a + j) := by
  unfold bt
  have e : (s.extract a b).data.toList = (s.data.toList.take b).drop a := by
    rw [ByteArray.data_extract, Array.toList_extract, List.extract_eq_take_drop, List.drop_take]
  rw [e, List.getD_eq_getElem?_getD, List.getD_eq_getElem?_getD, List.getElem?_drop, List.getElem?_take, if_pos h]
theorem bt_app (A B : ByteArray) (j : Nat) : bt (A ++ B) j = if j < A.size then bt A j else bt B (j - A.size) := by
  have ha : A.data.toList.length = A.size := Array.length_toList
  unfold bt
  rw [ByteArray.data_append, Array.toList_append, List.getD_eq_getElem?_getD, List.getD_eq_getElem?_getD, List.getD_eq_getElem?_getD]
  split
  · rename_i h
    rw [List.getElem?_append_left (by omega)]
  · rename_i h
    rw [List.getElem?_append_right (by omega), ha]
theorem bt_fold (E : ByteArray) (j : Nat) (h : j < E.size) : bt ⟨(foldL E).toArray⟩ j = low (bt E j) := by
  have hl : j < E.data.toList.length := by rw [Array.length_toList]; exact h
  unfold bt
  show ((foldL E).getD j 0).toNat = _
  rw [List.getD_eq_getElem?_getD, List.getD_eq_getElem?_getD, foldL, List.getElem?_map, List.getElem?_eq_getElem hl]
  have := low_lt (UInt8.toNat_lt (E.data.toList[j]))
  simp only [Option.map_some, Option.getD_some]
  have hof : ∀ m, m < 256 → (UInt8.ofNat m).toNat = m := fun m h => by simp [Nat.mod_eq_of_lt h]
  exact hof _ this
theorem low_60 {n : Nat} : low n = 60 ↔ n = 60 := by unfold low; split <;> omega
theorem low_47 {n : Nat} : low n = 47 ↔ n = 47 := by unfold low; split <;> omega
theorem pat_iff (s name : ByteArray) (i : Nat) (h : i + (2 + name.size) ≤ s.size) :
    ((⟨(foldL (s.extract i (i + (2 + name.size)))).toArray⟩ : ByteArray).toList == ((⟨#[60, 47]⟩ : ByteArray) ++ name).toList) = true ↔ bt s i = 60 ∧ bt s (i + 1) = 47 ∧ ∀ j, j < name.size → low (bt s (i + 2 + j)) = bt name j := by
  have hez : (s.extract i (i + (2 + name.size))).size = 2 + name.size := by rw [ByteArray.size_extract]; omega
  have htz : (⟨(foldL (s.extract i (i + (2 + name.size)))).toArray⟩ : ByteArray).size = 2 + name.size := by
    show (foldL _).toArray.size = _
    rw [List.size_toArray, foldL, List.length_map, Array.length_toList]
    exact hez
  have h2 : (⟨#[60, 47]⟩ : ByteArray).size = 2 := rfl
  rw [bt_ext, htz, ByteArray.size_append, h2]
  have key : ∀ j, j < 2 + name.size → bt ⟨(foldL (s.extract i (i + (2 + name.size)))).toArray⟩ j = low (bt s (i + j)) := fun j hj => by
    rw [bt_fold _ _ (by rw [hez]; exact hj), bt_sub _ _ _ _ (by omega) h]
  constructor
  · rintro ⟨_, g⟩
    refine ⟨?_, ?_, fun j hj => ?_⟩
    · have := g 0 (by omega)
      rw [key 0 (by omega), bt_app, h2, if_pos (by decide)] at this
      exact low_60.1 this
    · have := g 1 (by omega)
      rw [key 1 (by omega), bt_app, h2, if_pos (by decide)] at this
      exact low_47.1 this
    · have := g (2 + j) (by omega)
      rw [key (2 + j) (by omega), bt_app, h2, if_neg (by omega), Nat.add_sub_cancel_left] at this
      rw [← this]
      congr 2
      omega
  · rintro ⟨g0, g1, g2⟩
    refine ⟨rfl, fun j hj => ?_⟩
    rw [key j hj, bt_app, h2]
    split
    · rename_i hj2
      rcases j with _ | _ | j
      · exact low_60.2 g0
      · exact low_47.2 g1
      · omega
    · have := g2 (j - 2) (by omega)
      rw [show i + 2 + (j - 2) = i + j by omega] at this
      exact this

open Classical in
set_option maxRecDepth 8192 in
set_option maxHeartbeats 3200000 in
theorem ends77_any (s name : ByteArray) (hs : s.size ≤ 1000000) (hn : name.size ≤ 1000) (w : World) :
    Calls Tryd.prog 77 #[.string s, .string name] w fun e w' => ∃ v : Int, e = .returned (.int .i64 v) ∧ EndsIs s name v ∧ Below w.heap.size w w' := by
  obtain ⟨n, hnn⟩ : ∃ n, 2 + name.size = n := ⟨_, rfl⟩
  have hpat := pat_iff s name
  rw [hnn] at hpat
  have hN : (2 : Int) + (name.size : Int) = (n : Int) := by omega
  have hn2 : n ≤ 1002 := by omega
  obtain ⟨U, hU⟩ : ∃ U, (⟨#[60, 47]⟩ : ByteArray) ++ name = U := ⟨_, rfl⟩
  rw [hU] at hpat
  have hend : Hid (∀ i, i + n < s.size → (endsP s name i ↔ (bt s i = 60 ∧ bt s (i + 1) = 47 ∧ ∀ j, j < name.size → low (bt s (i + 2 + j)) = bt name j) ∧ (blankN (bt s (i + n)) ∨ bt s (i + n) = 47 ∨ bt s (i + n) = 62))) := Lib.hid (fun i hi => by
    unfold endsP
    rw [show i + 2 + name.size = i + n by omega]
    exact ⟨fun ⟨_, a, b, c, d⟩ => ⟨⟨a, b, c⟩, d⟩, fun ⟨⟨a, b, c⟩, d⟩ => ⟨hi, a, b, c, d⟩⟩)
  have hpast : Hid (∀ i, s.size ≤ i + n → ¬ endsP s name i) := Lib.hid (fun i hi he => by have := he.1; omega)
  replace hpat := Lib.hid hpat
  have hsum : 2 + name.size ≤ maxLen := by unfold maxLen; omega
  replace hnn := Lib.hid hnn
  go_enter Tryd.func77, Tryd.ntmps77
  go_wp2
  go_loopw [6] (fun x wr => ∃ i : Nat, i ≤ s.size ∧ x = .int .i64 i ∧ Hid (∀ p, p < i → ¬ endsP s name p) ∧ Hid (Below w.heap.size w wr)) (fun x _ => s.size + 1 - (Lib.intOf x).toNat)
  case atStart => exact ⟨0, Nat.zero_le _, rfl, Lib.hid (fun p h => absurd h (Nat.not_lt_zero _)), Lib.hid (Below.refl _ _)⟩
  case round =>
    obtain ⟨i, hi, rfl, hok, hB⟩ := hrel
    by_cases hlt : i + n < s.size
    · have hi0 : (0 : Int) ≤ (i : Int) := by omega
      have hi1 : (i : Int) + (n : Int) < (s.size : Int) := by omega
      have hi2 : (0 : Int) ≤ (i : Int) + (n : Int) := by omega
      have hin : (i : Int) + (n : Int) = ((i + n : Nat) : Int) := by omega
      have g1 := bt_get s (i + n) hlt
      have hcl := bt_lt s (i + n)
      have hp := hpat.out i (by omega)
      have he := hend.out i hlt
      obtain ⟨c, hc⟩ : ∃ c, bt s (i + n) = c := ⟨_, rfl⟩
      rw [hc] at g1 hcl he
      clear hc
      obtain ⟨E, hE⟩ : ∃ E, s.extract i (i + n) = E := ⟨_, rfl⟩
      have hEz : E.size ≤ 1000000 := by rw [← hE, ByteArray.size_extract]; omega
      rw [hE] at hp
      have hfold := fold93_any E hEz
      obtain ⟨T, hT⟩ : ∃ T, (⟨(foldL E).toArray⟩ : ByteArray) = T := ⟨_, rfl⟩
      rw [hT] at hp hfold
      rw [← hp] at he
      replace he := Lib.hid he
      clear hp hT hEz
      have hno : Hid (¬ endsP s name i → ∀ p, p < i + 1 → ¬ endsP s name p) := Lib.hid (fun h p hp => by
        by_cases e2 : p = i
        · subst e2; exact h
        · exact hok.out p (by omega))
      have hbl := blank94_any c
      obtain ⟨m, hm⟩ : ∃ m, i + n = m := ⟨_, rfl⟩
      have hin2 : (i : Int) + (n : Int) = (m : Int) := by omega
      have hm0 : (0 : Int) ≤ (m : Int) := by omega
      have hm1 : (m : Int) < (s.size : Int) := by omega
      have hm2 : (i : Int) ≤ (m : Int) := by omega
      simp only [hm] at g1 hE
      clear hin hi1 hi2
      replace hm := Lib.hid hm
      obtain ⟨q, hq⟩ : ∃ q, (T.toList == U.toList) = q := ⟨_, rfl⟩
      rw [hq] at he
      obtain ⟨bl, hble⟩ : ∃ bl, decide (blankN c) = bl := ⟨_, rfl⟩
      rw [hble] at hbl
      have hN2 : 2 + name.size ≤ maxLen := hsum
      cases q with
      | false =>
        have hno2 := Lib.hid (hno.out (fun h => by have := (he.out.1 h).1; cases this))
        clear he hno hble
        go_wp2_with (first
            | (go_at_call 93; refine (hfold _).mono ?_; rintro e5 w5 ⟨rfl, hB5⟩)
            | (go_at_call 94; refine (hbl _).mono ?_; rintro e6 w6 ⟨rfl, rfl⟩))
        exact ⟨⟨i + 1, by omega, by simp, hno2, Lib.hid (hB.out.trans (hB5.mono hB.out.size))⟩, by simp [Lib.intOf]; omega⟩
      | true =>
        cases bl with
        | true =>
          have hyes := Lib.hid (he.out.2 ⟨rfl, .inl (of_decide_eq_true hble)⟩)
          clear he hno hble
          go_wp2_with (first
            | (go_at_call 93; refine (hfold _).mono ?_; rintro e5 w5 ⟨rfl, hB5⟩)
            | (go_at_call 94; refine (hbl _).mono ?_; rintro e6 w6 ⟨rfl, rfl⟩))
          go_ret
          exact ⟨i, rfl, .inr ⟨i, rfl, hyes.out, hok.out⟩, hB.out.trans (hB5.mono hB.out.size)⟩
        | false =>
          have hb := of_decide_eq_false hble
          clear hble
          by_cases h47 : c = 47
          · have hyes := Lib.hid (he.out.2 ⟨rfl, .inr (.inl h47)⟩)
            clear he hno hb
            subst h47
            go_wp2_with (first
            | (go_at_call 93; refine (hfold _).mono ?_; rintro e5 w5 ⟨rfl, hB5⟩)
            | (go_at_call 94; refine (hbl _).mono ?_; rintro e6 w6 ⟨rfl, rfl⟩))
            go_ret
            exact ⟨i, rfl, .inr ⟨i, rfl, hyes.out, hok.out⟩, hB.out.trans (hB5.mono hB.out.size)⟩
          · by_cases h62 : c = 62
            · have hyes := Lib.hid (he.out.2 ⟨rfl, .inr (.inr h62)⟩)
              clear he hno hb
              subst h62
              go_wp2_with (first
            | (go_at_call 93; refine (hfold _).mono ?_; rintro e5 w5 ⟨rfl, hB5⟩)
            | (go_at_call 94; refine (hbl _).mono ?_; rintro e6 w6 ⟨rfl, rfl⟩))
              go_ret
              exact ⟨i, rfl, .inr ⟨i, rfl, hyes.out, hok.out⟩, hB.out.trans (hB5.mono hB.out.size)⟩
            · have hno2 := Lib.hid (hno.out (fun h => by have := (he.out.1 h).2; exact this.elim hb (fun h => h.elim h47 h62)))
              have n47 : ((c : Int) == 47) = false := by simp; omega
              have n62 : ((c : Int) == 62) = false := by simp; omega
              clear he hno hb
              go_wp2_with (first
            | (go_at_call 93; refine (hfold _).mono ?_; rintro e5 w5 ⟨rfl, hB5⟩)
            | (go_at_call 94; refine (hbl _).mono ?_; rintro e6 w6 ⟨rfl, rfl⟩))
              exact ⟨⟨i + 1, by omega, by simp, hno2, Lib.hid (hB.out.trans (hB5.mono hB.out.size))⟩, by simp [Lib.intOf]; omega⟩
    · have hall : ∀ p, ¬ endsP s name p := fun p hp => by
        rcases Nat.lt_or_ge p i with h | h
        · exact hok.out p h hp
        · exact hpast.out p (by omega) hp
      have hi1 : ¬ (i : Int) + (n : Int) < (s.size : Int) := by omega
      replace hall := Lib.hid hall
      go_wp2
      go_ret
      exact ⟨-1, rfl, .inl ⟨rfl, hall.out⟩, hB.out⟩
end Go.Proofs.YtghlodpbbghcoaaDoor
