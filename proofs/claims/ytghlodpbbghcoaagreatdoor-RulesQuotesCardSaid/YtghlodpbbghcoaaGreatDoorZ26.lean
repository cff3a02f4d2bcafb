/- Lists of texts and elements by the document: walked. -/
import Derived.Test.YtghlodpbbghcoaaGreatDoorZ25
import Derived.StillTailTactics
namespace Go.Proofs.YtghlodpbbghcoaaGreatDoor
open Go.Lib Go.RowKit Go.Maps
theorem StrsAt.take {w : World} {P : Nat → Prop} {A : Option Addr} {n cap : Nat} {l : List ByteArray} (h : StrsAt w P (.slice A n cap) l) {k : Nat} (hk : k ≤ n) : StrsAt w P (.slice A k cap) (l.take k) := by
  obtain ⟨A', n', cap', e, hn, hc, hat⟩ := h.form
  simp only [Value.slice.injEq] at e
  obtain ⟨rfl, rfl, rfl⟩ := e
  have hl : (sCells (l.take k)).length = k := by simp [sCells]; omega
  refine ⟨A, cap, by rw [hl], by rw [hl]; omega, fun j hj => ?_⟩
  rw [hl] at hj
  obtain ⟨b, o, rfl, hb, hcell⟩ := hat (by omega)
  refine ⟨b, o, rfl, hb, fun i hi => ?_⟩
  obtain rfl : i = 0 := by omega
  have := hcell j (by omega)
  rw [Nat.mul_one, Nat.add_zero, this]
  simp [sCells]

set_option maxRecDepth 8192 in
set_option maxHeartbeats 1600000 in
theorem has_any (v : Value) (l : List ByteArray) (x : ByteArray) (P : Nat → Prop) (w : World) (h : StrsAt w P v l) (hl : l.length ≤ 140737488355328) : Calls Tryz.prog 33 #[v, .string x] w fun e w' => e = .returned (.bool (Lib.containsS l x)) ∧ w' = w := by
  obtain ⟨A, n, cap, rfl, hn, hcap, hat⟩ := h.form
  have hn6 : n ≤ 140737488355328 := by omega
  obtain ⟨r, hr⟩ : ∃ r, Lib.containsS l x = r := ⟨_, rfl⟩
  have hri : Hid (r = true ↔ x ∈ l) := Lib.hid (by rw [← hr]; exact Lib.containsS_iff _ _)
  rw [hr]
  replace hn := Lib.hid hn
  replace hat := Lib.hid hat
  clear h hl hr
  go_enter Tryz.func33, Tryz.ntmps33
  go_wp2
  go_loop [5] (fun y => ∃ k : Nat, k ≤ n ∧ y = .int .i64 k ∧ Hid (∀ j (hj : j < l.length), j < k → l[j] ≠ x)) (fun y => n - (RowKit.intOf y).toNat)
  case atStart => exact ⟨0, Nat.zero_le _, rfl, Lib.hid (fun j _ h => absurd h (Nat.not_lt_zero _))⟩
  case round =>
    obtain ⟨k, hk, rfl, hno⟩ := hrel
    by_cases hlt : k < n
    · have hkl : k < l.length := by have := hn.out; omega
      obtain ⟨b, o, rfl, _, hc⟩ := hat.out (by omega)
      have c0 := hc k hkl
      obtain ⟨s, hs⟩ : ∃ s, l[k] = s := ⟨_, rfl⟩
      rw [hs] at c0
      have hyes : Hid (s = x → r = true) := Lib.hid (fun e => hri.out.2 (by rw [← e, ← hs]; exact List.getElem_mem hkl))
      have hnext : Hid (s ≠ x → ∀ j (hj : j < l.length), j < k + 1 → l[j] ≠ x) := Lib.hid (fun e j hj hjk => by
        by_cases e2 : j = k
        · subst e2; rw [hs]; exact e
        · exact hno.out j hj (by omega))
      have hi0 : (0 : Int) ≤ (k : Int) := by omega
      have hi1 : (k : Int) < (n : Int) := by omega
      clear hc hs
      by_cases hsx : s = x
      · have e := hyes.out hsx
        subst hsx e
        clear hyes hnext hri
        go_wp2
        go_ret
        exact ⟨rfl, rfl⟩
      · have g := Lib.hid (hnext.out hsx)
        have ene := ne_toList hsx
        clear hyes hnext hsx
        go_wp2
        exact ⟨⟨k + 1, by omega, by simp, g⟩, by simp [RowKit.intOf]; omega⟩
    · have e : r = false := Bool.eq_false_iff.2 (fun h => by
        obtain ⟨j, hj, e⟩ := List.getElem_of_mem (hri.out.1 h)
        exact hno.out j hj (by have := hn.out; omega) e)
      subst e
      clear hri
      go_wp2
      go_ret
      exact ⟨rfl, rfl⟩

set_option maxRecDepth 8192 in
set_option maxHeartbeats 1600000 in
theorem once_any (v : Value) (l : List ByteArray) (P : Nat → Prop) (w : World) (hP : ∀ k, P k → k < w.heap.size) (h : StrsAt w P v l) (hl : l.length ≤ 140737488355328) : Calls Tryz.prog 86 #[v] w (IsB (!twiceB l) w) := by
  have hst := h
  obtain ⟨A, n, cap, rfl, hn, hcap, hat⟩ := h.form
  have hn6 : n ≤ 140737488355328 := by omega
  obtain ⟨r, hr⟩ : ∃ r, (!twiceB l) = r := ⟨_, rfl⟩
  have hri : Hid (r = true ↔ l.Nodup) := Lib.hid (by rw [← hr, twiceB]; simp)
  rw [hr]
  have hcall : Hid (∀ (k : Nat) (s : ByteArray) (wr : World), k ≤ n → Below w.heap.size w wr → Calls Tryz.prog 33 #[.slice A k cap, .string s] wr fun e w' => e = .returned (.bool (Lib.containsS (l.take k) s)) ∧ w' = wr) := Lib.hid (fun k s wr hk hb =>
    has_any _ (l.take k) s P wr ((hst.take hk).move (Stays.below hb hP) (fun _ h => h)) (by rw [List.length_take]; omega))
  replace hn := Lib.hid hn
  replace hat := Lib.hid hat
  replace hP := Lib.hid hP
  clear h hl hr hst
  go_enter Tryz.func86, Tryz.ntmps86
  go_wp2
  go_loopw [3] (fun y wr => ∃ k : Nat, k ≤ n ∧ y = .int .i64 k ∧ Hid ((l.take k).Nodup) ∧ Hid (Below w.heap.size w wr)) (fun y _ => n - (RowKit.intOf y).toNat)
  case atStart => exact ⟨0, Nat.zero_le _, rfl, Lib.hid (by simp), Lib.hid (Below.refl _ _)⟩
  case round =>
    obtain ⟨k, hk, rfl, hnd, hB⟩ := hrel
    by_cases hlt : k < n
    · have hkl : k < l.length := by have := hn.out; omega
      obtain ⟨b, o, rfl, hPb, hc⟩ := hat.out (by omega)
      have c0 := (hB.out.cell (p := ⟨b, o + k, none⟩) (hP.out b hPb)).trans (hc k hkl)
      obtain ⟨s, hs⟩ : ∃ s, l[k] = s := ⟨_, rfl⟩
      rw [hs] at c0
      have hBd : Hid (Below w.heap.size w wr.drew) := Lib.hid hB.out.drew
      have hca := hcall.out k s wr.drew (by omega) hBd.out
      obtain ⟨cb, hcb⟩ : ∃ cb, Lib.containsS (l.take k) s = cb := ⟨_, rfl⟩
      rw [hcb] at hca
      have hbad : Hid (cb = true → r = false) := Lib.hid (fun e => Bool.eq_false_iff.2 (fun h => by
        have hm : s ∈ l.take k := (Lib.containsS_iff _ _).1 (by rw [hcb, e])
        have hd := hri.out.1 h
        have h2 : l = l.take k ++ (s :: l.drop (k + 1)) := by
          conv => lhs; rw [← List.take_append_drop k l, List.drop_eq_getElem_cons hkl, hs]
        rw [h2, List.nodup_append] at hd
        exact hd.2.2 s hm s (by simp) rfl))
      have hgood : Hid (cb = false → (l.take (k + 1)).Nodup) := Lib.hid (fun e2 => by
        rw [List.take_add_one, List.getElem?_eq_getElem hkl, hs, List.nodup_append]
        refine ⟨hnd.out, by simp, fun a ha c hc e => ?_⟩
        simp at hc
        subst hc e
        have := (Lib.containsS_iff _ _).2 ha
        rw [hcb, e2] at this
        cases this)
      have hi0 : (0 : Int) ≤ (k : Int) := by omega
      have hi1 : (k : Int) < (n : Int) := by omega
      have hi2 : k ≤ cap := by omega
      have hi3 : (k : Int) ≤ (cap : Int) := by omega
      clear hc hs hcb hcall
      go_upto_region 4 with fail
      go_still_tail 7, (by kernel_rfl)
      change wpList _ _ _ _ _ wr.drew
      generalize wr.drew = w2 at hca hBd ⊢
      cases cb with
      | true =>
        have e := hbad.out rfl
        subst e
        clear hbad hgood hri
        go_wp2_with (go_at_call 33; refine hca.mono ?_; rintro e5 w5 ⟨rfl, rfl⟩)
        go_ret
        exact ⟨rfl, hBd.out⟩
      | false =>
        have g := Lib.hid (hgood.out rfl)
        clear hbad hgood
        go_wp2_with (go_at_call 33; refine hca.mono ?_; rintro e5 w5 ⟨rfl, rfl⟩)
        exact ⟨⟨k + 1, by omega, by simp, g, hBd⟩, by simp [RowKit.intOf]; omega⟩
    · have e : r = true := hri.out.2 (by have h2 := hnd.out; rw [show k = l.length by have := hn.out; omega, List.take_length] at h2; exact h2)
      subst e
      clear hri
      go_wp2
      go_ret
      exact ⟨rfl, hB.out⟩
end Go.Proofs.YtghlodpbbghcoaaGreatDoor
