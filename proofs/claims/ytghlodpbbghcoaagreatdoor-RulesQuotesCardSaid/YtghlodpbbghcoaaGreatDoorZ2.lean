/- Quoted texts, read: walked. -/
import Derived.Test.YtghlodpbbghcoaaGreatDoorZ1
import Derived.Test.YtghlodpbbghcoaaGreatDoorY
namespace Go.Proofs.YtghlodpbbghcoaaGreatDoor
open Go.RowKit
/-- What is still to be read in quotes, at a place, with what has been read. -/
def unqAt (l : List UInt8) (i : Nat) (L : List UInt8) : Option (List UInt8 × Nat) := (unqL (l.drop i)).map fun p => (L ++ p.1, p.2 + i)
theorem drop_at {l : List UInt8} {i : Nat} {c : UInt8} (h : l[i]? = some c) : l.drop i = c :: l.drop (i + 1) := by
  obtain ⟨hl, he⟩ := List.getElem?_eq_some_iff.1 h
  rw [List.drop_eq_getElem_cons hl, he]
theorem unqAt_end {l : List UInt8} {i : Nat} {L : List UInt8} (h : l.length ≤ i) : unqAt l i L = none := by
  unfold unqAt
  rw [List.drop_eq_nil_of_le h]
  rfl
theorem unqAt_quote {l : List UInt8} {i : Nat} {L : List UInt8} (h : l[i]? = some 34) : unqAt l i L = some (L, i + 1) := by
  unfold unqAt
  rw [drop_at h, unqL_cons, if_pos rfl]
  simp
  omega
theorem unqAt_bad {l : List UInt8} {i : Nat} {L : List UInt8} {c : UInt8} (h : l[i]? = some c) (h1 : c ≠ 34) (h2 : c < 32 ∨ 126 < c) : unqAt l i L = none := by
  unfold unqAt
  rw [drop_at h, unqL_cons, if_neg h1, if_pos h2]
  rfl
theorem unqAt_cut {l : List UInt8} {i : Nat} {L : List UInt8} (h : l[i]? = some 92) (h2 : l.length ≤ i + 1) : unqAt l i L = none := by
  unfold unqAt
  rw [drop_at h, unqL_cons, if_neg (by decide), if_neg (by decide), if_pos rfl, List.drop_eq_nil_of_le h2]
  rfl
theorem unqAt_wrong {l : List UInt8} {i : Nat} {L : List UInt8} {d : UInt8} (h : l[i]? = some 92) (h2 : l[i + 1]? = some d) (h3 : ¬ (d = 34 ∨ d = 92)) : unqAt l i L = none := by
  unfold unqAt
  rw [drop_at h, unqL_cons, if_neg (by decide), if_neg (by decide), if_pos rfl, drop_at h2]
  simp only [if_neg h3, Option.map_none]
theorem unqAt_esc {l : List UInt8} {i : Nat} {L : List UInt8} {d : UInt8} (h : l[i]? = some 92) (h2 : l[i + 1]? = some d) (h3 : d = 34 ∨ d = 92) : unqAt l i L = unqAt l (i + 2) (L ++ [d]) := by
  unfold unqAt
  rw [drop_at h, unqL_cons, if_neg (by decide), if_neg (by decide), if_pos rfl, drop_at h2]
  simp only [if_pos h3]
  cases unqL (l.drop (i + 1 + 1)) with
  | none => rfl
  | some p => simp; omega
theorem unqAt_sign {l : List UInt8} {i : Nat} {L : List UInt8} {c : UInt8} (h : l[i]? = some c) (h1 : c ≠ 34) (h2 : ¬ (c < 32 ∨ 126 < c)) (h3 : c ≠ 92) : unqAt l i L = unqAt l (i + 1) (L ++ [c]) := by
  unfold unqAt
  rw [drop_at h, unqL_cons, if_neg h1, if_neg h2, if_neg h3]
  cases unqL (l.drop (i + 1)) with
  | none => rfl
  | some p => simp; omega
theorem unqR_start (l : List UInt8) : unqR l = unqAt l 1 [] := by
  unfold unqR unqAt
  rfl
theorem str_at {s : ByteArray} {i : Nat} (h : i < s.size) : s.data.toList[i]? = some s[i] := by
  rw [List.getElem?_eq_getElem (by simpa using h)]
  rfl
theorem u8_lt {c : UInt8} {n : Nat} (hn : n < 256) (h : (c.toNat : Int) < (n : Int)) : c < UInt8.ofNat n := by
  rw [UInt8.lt_iff_toNat_lt, UInt8.toNat_ofNat_of_lt' (by exact hn)]
  omega
/-- WHAT unquote GIVES. -/
def UnqPost (r : Option (List UInt8 × Nat)) (w : World) (e : Ending) (w' : World) : Prop :=
  (match r with
   | none => e = .returned (.tuple #[.string ⟨#[]⟩, .int .i64 0, .bool false])
   | some (t, n) => e = .returned (.tuple #[.string (tx t), .int .i64 n, .bool true])) ∧ Below w.heap.size w w'

set_option maxRecDepth 100000 in
set_option maxHeartbeats 3200000 in
theorem unquote_any (s : ByteArray) (hs : s.size ≤ 2000000) (w : World) : Calls Tryz.prog 74 #[.string s] w (UnqPost (unqR s.data.toList) w) := by
  have hz : s.data.toList.length = s.size := by simp
  obtain ⟨R, hR⟩ : ∃ R, unqR s.data.toList = R := ⟨_, rfl⟩
  rw [hR]
  have hR0 : Hid (unqAt s.data.toList 1 [] = R) := Lib.hid (by rw [← unqR_start, hR])
  replace hz := Lib.hid hz
  clear hR
  go_enter Tryz.func74, Tryz.ntmps74
  go_wp2
  go_loopw [5, 6] (fun v x6 wr => ∃ (i : Nat) (L : List UInt8), x6 = .int .i64 i ∧ i ≤ s.size + 1 ∧ L.length ≤ i ∧ Hid (OwnY wr w.heap.size v L) ∧ Hid (unqAt s.data.toList i L = R) ∧ Hid (Below w.heap.size w wr)) (fun _ x6 _ => s.size + 1 - (intOf x6).toNat)
  case atStart => exact ⟨1, [], rfl, by omega, by simp, Lib.hid (OwnY.nil _ _), hR0, Lib.hid (Below.refl _ _)⟩
  case round =>
    obtain ⟨i, L, rfl, hi, hL, hown, hres, hB⟩ := hrel
    by_cases hlt : i < s.size
    · have hsi := Lib.hid (str_at hlt)
      obtain ⟨c, hc⟩ : ∃ c : UInt8, s[i] = c := ⟨_, rfl⟩
      rw [hc] at hsi
      obtain ⟨k, hk⟩ : ∃ k : Int, (s[i].toNat : Int) = k := ⟨_, rfl⟩
      have hck : Hid ((c.toNat : Int) = k) := Lib.hid (by rw [← hc]; exact hk)
      have hi0 : (0 : Int) ≤ (i : Int) := by omega
      have hi1 : (i : Int) < (s.size : Int) := by omega
      have hBw := Lib.hid hB.out.size
      clear hc
      by_cases h34 : k = 34
      · subst h34
        have hc34 : c = 34 := by
          have := hck.out
          exact UInt8.toNat_inj.1 (by show c.toNat = 34; omega)
        have hR1 : R = some (L, i + 1) := by rw [← hres.out]; exact unqAt_quote (by rw [hsi.out, hc34])
        subst hR1
        obtain ⟨t, ht, hcv⟩ := conv_Y hown.out
        have hcv2 := hcv wr (Below.refl _ _)
        replace ht := Lib.hid ht
        clear hcv hres
        go_wp2
        go_ret3
        refine ⟨?_, hB.out⟩
        rw [tx_eq ht.out]
        rfl
      · have e34 : (k == 34) = false := by simpa using h34
        have hne : Hid (c ≠ 34) := Lib.hid (fun e => h34 (by rw [← hck.out, e]; rfl))
        by_cases hbad : k < 32 ∨ 126 < k
        · have hR1 : R = none := by
            rw [← hres.out]
            refine unqAt_bad hsi.out hne.out ?_
            have := hck.out
            rcases hbad with h | h
            · exact .inl (UInt8.lt_iff_toNat_lt.2 (by show c.toNat < 32; omega))
            · exact .inr (UInt8.lt_iff_toNat_lt.2 (by show 126 < c.toNat; omega))
          subst hR1
          by_cases h32 : k < 32
          · clear hres h34 hbad
            go_wp2
            go_ret3
            exact ⟨rfl, hB.out⟩
          · have h126 : 126 < k := by omega
            clear hres h34 hbad
            go_wp2
            go_ret3
            exact ⟨rfl, hB.out⟩
        · have h32 : ¬ k < 32 := fun h => hbad (.inl h)
          have h126 : ¬ 126 < k := fun h => hbad (.inr h)
          have hgood : Hid (¬ (c < 32 ∨ 126 < c)) := Lib.hid (by
            have := hck.out
            rintro (h | h)
            · have h2 : c.toNat < 32 := UInt8.lt_iff_toNat_lt.1 h
              omega
            · have h2 : 126 < c.toNat := UInt8.lt_iff_toNat_lt.1 h
              omega)
          clear hbad
          by_cases h92 : k = 92
          · subst h92
            have hc92 : c = 92 := by
              have := hck.out
              exact UInt8.toNat_inj.1 (by show c.toNat = 92; omega)
            subst hc92
            clear h34 e34 hne hgood h32 h126
            obtain ⟨j, hj⟩ : ∃ j : Nat, j = i + 1 := ⟨_, rfl⟩
            have hij : (i : Int) + 1 = (j : Int) := by omega
            by_cases hjs : j = s.size
            · have hR1 : R = none := by rw [← hres.out]; exact unqAt_cut hsi.out (by rw [hz.out]; omega)
              subst hR1
              have hjs2 : (s.size : Int) = (j : Int) := by omega
              have hjs3 : s.size = j := hjs.symm
              clear hres hj hjs
              go_wp2
              go_ret3
              exact ⟨rfl, hB.out⟩
            · have hjl : j < s.size := by omega
              have hsj := Lib.hid (str_at hjl)
              obtain ⟨d, hd⟩ : ∃ d : UInt8, s[j] = d := ⟨_, rfl⟩
              rw [hd] at hsj
              obtain ⟨k2, hk2⟩ : ∃ k2 : Int, (s[j].toNat : Int) = k2 := ⟨_, rfl⟩
              have hdk : Hid ((d.toNat : Int) = k2) := Lib.hid (by rw [← hd]; exact hk2)
              have hj0 : (0 : Int) ≤ (j : Int) := by omega
              have hj1 : (j : Int) < (s.size : Int) := by omega
              have ej : (j == s.size) = false := by simpa using hjs
              have ej2 : ((j : Int) == (s.size : Int)) = false := by simp; omega
              have hj' := Lib.hid hj
              clear hd hjs hj
              by_cases hok : k2 = 34 ∨ k2 = 92
              · have hR1 : Hid (unqAt s.data.toList (i + 2) (L ++ [d]) = R) := Lib.hid (by
                  rw [← hres.out]
                  refine (unqAt_esc hsi.out (by rw [← hj'.out]; exact hsj.out) ?_).symm
                  have := hdk.out
                  rcases hok with h | h
                  · exact .inl (UInt8.toNat_inj.1 (by show d.toNat = 34; omega))
                  · exact .inr (UInt8.toNat_inj.1 (by show d.toNat = 92; omega)))
                clear hres
                rcases hok with rfl | rfl
                all_goals
                  go_wp2_with (at_builtin; refine appendByte_any hown.out hBw.out (by omega) d rfl _ _ rfl rfl rfl rfl (by rw [hdk.out]) ?_; intro v' w' ho' hb' hk')
                  exact ⟨⟨i + 2, L ++ [d], by simp; omega, by omega, by simp; omega, Lib.hid ho', hR1, Lib.hid (hB.out.trans hb')⟩, by simp [intOf]; omega⟩
              · have hR1 : R = none := by
                  rw [← hres.out]
                  refine unqAt_wrong hsi.out (by rw [← hj'.out]; exact hsj.out) (fun h => hok ?_)
                  have := hdk.out
                  rcases h with rfl | rfl
                  · exact .inl (by rw [← this]; rfl)
                  · exact .inr (by rw [← this]; rfl)
                subst hR1
                have n34 : (k2 != 34) = true := by simp [bne]; exact fun h => hok (.inl h)
                have n92 : (k2 != 92) = true := by simp [bne]; exact fun h => hok (.inr h)
                clear hres hok
                go_wp2
                go_ret3
                exact ⟨rfl, hB.out⟩
          · have e92 : (k == 92) = false := by simpa using h92
            have hne2 : Hid (c ≠ 92) := Lib.hid (fun e => h92 (by rw [← hck.out, e]; rfl))
            have hR1 : Hid (unqAt s.data.toList (i + 1) (L ++ [c]) = R) := Lib.hid (by rw [← hres.out]; exact (unqAt_sign hsi.out hne.out hgood.out hne2.out).symm)
            clear hres h34 h92 hne hne2 hgood
            go_wp2_with (at_builtin; refine appendByte_any hown.out hBw.out (by omega) c rfl _ _ rfl rfl rfl rfl (by rw [hck.out]) ?_; intro v' w' ho' hb' hk')
            exact ⟨⟨i + 1, L ++ [c], by simp, by omega, by simp; omega, Lib.hid ho', hR1, Lib.hid (hB.out.trans hb')⟩, by simp [intOf]; omega⟩
    · have hR1 : R = none := by rw [← hres.out]; exact unqAt_end (by rw [hz.out]; omega)
      subst hR1
      go_wp2
      go_ret3
      exact ⟨rfl, hB.out⟩
end Go.Proofs.YtghlodpbbghcoaaGreatDoor
