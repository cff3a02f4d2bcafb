/- Whether names may be listed: walked. -/
import Derived.Test.YtghlodpbbghcoaaGreatDoorZ15
namespace Go.Proofs.YtghlodpbbghcoaaGreatDoor
open Go.Lib Go.RowKit Go.Maps
def textN : List UInt8 := [35, 116, 101, 120, 116]
def commN : List UInt8 := [35, 99, 111, 109, 109, 101, 110, 116]
/-- May a name stand in a list? -/
def nameOk (el : List Elt) (s : ByteArray) : Bool := (findP el s).isSome || (s.toList == textN || s.toList == commN)
/-- May a list stand? -/
def listedP (el : List Elt) (l : List ByteArray) : Bool := decide (l.length ≤ el.length + 2) && (l.all (nameOk el) && !twiceB l)
theorem all_take_false {α : Type} {p : α → Bool} {l : List α} {k : Nat} (hk : k < l.length) (h : p l[k] = false) : l.all p = false := by
  rw [List.all_eq_false]
  exact ⟨_, List.getElem_mem hk, by rw [h]; simp⟩
theorem all_of_at {α : Type} {p : α → Bool} {l : List α} (h : ∀ j (hj : j < l.length), p l[j] = true) : l.all p = true := by
  rw [List.all_eq_true]
  intro x hx
  obtain ⟨j, hj, rfl⟩ := List.getElem_of_mem hx
  exact h j hj

set_option maxRecDepth 8192 in
set_option maxHeartbeats 3200000 in
theorem listed_any (vt ve vu v : Value) (el : List Elt) (l : List ByteArray) (P : Nat → Prop) (w : World) (hP : ∀ k, P k → k < w.heap.size) (he : EltsAt w P ve el) (ht : ∃ A n c, vt = .slice A n c) (hu : ∃ A n c, vu = .slice A n c) (hv : StrsAt w P v l)
    (hel : el.length ≤ 140737488355328) (hl : l.length ≤ 140737488355328) (hsz : ∀ s ∈ l, s.size ≤ maxLen) : Calls Tryz.prog 61 #[.agg #[vt, ve, vu], v] w (IsB (listedP el l) w) := by
  have hfind : Hid (∀ (s : ByteArray) (wr : World), Below w.heap.size w wr → Calls Tryz.prog 17 #[.agg #[vt, ve, vu], .string s] wr (FindPost (findP el s) P wr)) := Lib.hid (fun s wr hb =>
    find_any vt ve vu el s P wr (fun k hk => Nat.lt_of_lt_of_le (hP k hk) hb.size) (he.move (Stays.below hb hP) (fun _ h => h)) ht hu hel)
  have htw : Hid (∀ wr : World, Below w.heap.size w wr → Calls Tryz.prog 59 #[v, .func (.func 60) #[] #[]] wr (IsB (twiceB l) wr)) := Lib.hid (fun wr hb =>
    twice_texts v l P wr (fun k hk => Nat.lt_of_lt_of_le (hP k hk) hb.size) (hv.move (Stays.below hb hP) (fun _ h => h)) hl hsz)
  obtain ⟨At, nt, ct, rfl⟩ := ht
  obtain ⟨Au, nu, cu, rfl⟩ := hu
  obtain ⟨Ae, ne, ce, rfl, hne, -, -⟩ := he.form
  obtain ⟨A, n, cap, rfl, hn, hcap, hat⟩ := hv.form
  have hn6 : n ≤ 140737488355328 := by omega
  have hne6 : ne ≤ 140737488355328 := by omega
  obtain ⟨r, hr⟩ : ∃ r, listedP el l = r := ⟨_, rfl⟩
  rw [hr]
  replace hr := Lib.hid hr
  replace hne := Lib.hid hne
  replace hn := Lib.hid hn
  replace hat := Lib.hid hat
  replace hP := Lib.hid hP
  clear he hv hel hl hsz
  obtain ⟨w1, hw1⟩ : ∃ w1, w.alloc (.cells #[.slice At nt ct, .slice Ae ne ce, .slice Au nu cu] 25) = w1 := ⟨_, rfl⟩
  have hB1 : Hid (Below w.heap.size w w1) := Lib.hid (by rw [← hw1]; exact (Below.refl _ _).alloc (Nat.le_refl _) _)
  have hbx : Hid (w1.heap[w.heap.size]? = some (.cells #[.slice At nt ct, .slice Ae ne ce, .slice Au nu cu] 25)) := Lib.hid (by rw [← hw1]; exact blk_new _ _)
  by_cases hbig : ne + 2 < n
  · have e : r = false := by
      rw [← hr.out, listedP, decide_eq_false (by rw [← hn.out, ← hne.out]; omega)]
      rfl
    subst e
    have hbi : (ne : Int) + 2 < (n : Int) := by omega
    go_enter Tryz.func61, Tryz.ntmps61
    go_upto_region 1 with fail
    have d1 : w1.cell? ⟨w.heap.size, 1, none⟩ = some (.slice Ae ne ce) := blk_cell hbx.out 1
    clear hw1
    go_wp2
    go_ret
    exact ⟨rfl, hB1.out⟩
  · have hr1 : Hid (r = (l.all (nameOk el) && !twiceB l)) := Lib.hid (by
      rw [← hr.out, listedP, decide_eq_true (by rw [← hn.out, ← hne.out]; omega)]
      rfl)
    have hbi : ¬ (ne : Int) + 2 < (n : Int) := by omega
    go_enter Tryz.func61, Tryz.ntmps61
    go_upto_region 1 with fail
    have d1 : w1.cell? ⟨w.heap.size, 1, none⟩ = some (.slice Ae ne ce) := blk_cell hbx.out 1
    clear hw1
    go_upto_region 3 with fail
    go_wp2
    go_loopw [18] (fun x18 wr => ∃ k : Nat, k ≤ n ∧ x18 = .int .i64 k ∧ Hid (∀ j (hj : j < l.length), j < k → nameOk el l[j] = true) ∧ Hid (Below w1.heap.size w1 wr)) (fun x18 _ => n - (RowKit.intOf x18).toNat)
    case atStart => exact ⟨0, Nat.zero_le _, rfl, Lib.hid (fun j _ h => absurd h (Nat.not_lt_zero _)), Lib.hid (Below.refl _ _)⟩
    case round =>
      obtain ⟨k, hk, rfl, hok, hB⟩ := hrel
      clear d1 hbi hbig
      have hBw : Hid (Below w.heap.size w wr) := Lib.hid (hB1.out.trans (hB.out.mono hB1.out.size))
      have hX := blk_below hbx.out hB.out (blk_lt hbx.out)
      by_cases hlt : k < n
      · have hkl : k < l.length := by have := hn.out; omega
        obtain ⟨b, o, rfl, hPb, hc⟩ := hat.out (by omega)
        have c0 := (hBw.out.cell (p := ⟨b, o + k, none⟩) (hP.out b hPb)).trans (hc k hkl)
        obtain ⟨s, hs⟩ : ∃ s, l[k] = s := ⟨_, rfl⟩
        rw [hs] at c0
        have d0 : wr.cell? ⟨w.heap.size, 0, none⟩ = some (.slice At nt ct) := blk_cell hX 0
        have d1 : wr.cell? ⟨w.heap.size, 1, none⟩ = some (.slice Ae ne ce) := blk_cell hX 1
        have d2 : wr.cell? ⟨w.heap.size, 2, none⟩ = some (.slice Au nu cu) := blk_cell hX 2
        have hi0 : (0 : Int) ≤ (k : Int) := by omega
        have hi1 : (k : Int) < (n : Int) := by omega
        obtain ⟨t, ht⟩ : ∃ t, (s.toList == textN) = t := ⟨_, rfl⟩
        obtain ⟨c, hc2⟩ : ∃ c, (s.toList == commN) = c := ⟨_, rfl⟩
        have hnk : Hid (nameOk el l[k] = ((findP el s).isSome || (t || c))) := Lib.hid (by rw [hs, nameOk, ht, hc2])
        have hbad : Hid (nameOk el l[k] = false → r = false) := Lib.hid (fun e => by rw [hr1.out, all_take_false hkl e]; rfl)
        have hgood : Hid (nameOk el l[k] = true → ∀ j (hj : j < l.length), j < k + 1 → nameOk el l[j] = true) := Lib.hid (fun e j hj hjk => by
          by_cases e2 : j = k
          · subst e2; exact e
          · exact hok.out j hj (by omega))
        have hfs := hfind.out s wr hBw.out
        unfold textN at ht
        unfold commN at hc2
        have ht2 : (s.toList != [35, 116, 101, 120, 116]) = !t := by rw [bne, ht]
        have hc3 : (s.toList != [35, 99, 111, 109, 109, 101, 110, 116]) = !c := by rw [bne, hc2]
        clear hc hs hr1 hX
        cases hf : findP el s with
        | some x =>
          rw [hf] at hfs hnk
          have g := hgood.out (by rw [hnk.out]; rfl)
          replace g := Lib.hid g
          clear hf hgood hbad hnk
          go_upto_region 7 with (go_at_call 17; refine hfs.mono ?_; rintro e5 w5 ⟨he, hB5⟩; simp only at he; obtain ⟨vk, vr, rfl, hk5, hr5⟩ := he; obtain ⟨Ak, nk, ck, rfl, -, -, -⟩ := hk5.form; obtain ⟨Ar, nr, cr, rfl, -, -, -⟩ := hr5.form; clear hk5 hr5)
          have hB6 : Hid (Below w1.heap.size w1 (w5.alloc (.cells #[.string x.name, .slice Ak nk ck, .slice Ar nr cr] 30))) := Lib.hid ((hB.out.trans (hB5.mono hB.out.size)).alloc (Nat.le_trans hB.out.size hB5.size) _)
          go_wp2
          exact ⟨⟨k + 1, by omega, by simp, g, hB6⟩, by simp [RowKit.intOf]; omega⟩
        | none =>
          rw [hf] at hfs hnk
          clear hf
          go_upto_region 7 with (go_at_call 17; refine hfs.mono ?_; rintro e5 w5 ⟨he, hB5⟩; simp only at he; subst he)
          have hB6 : Hid (Below w1.heap.size w1 (w5.alloc (.cells #[.string ⟨#[]⟩, .slice none 0 0, .slice none 0 0] 30))) := Lib.hid ((hB.out.trans (hB5.mono hB.out.size)).alloc (Nat.le_trans hB.out.size hB5.size) _)
          cases t with
          | true =>
            have g := Lib.hid (hgood.out (by rw [hnk.out]; rfl))
            clear hgood hbad hnk
            go_wp2
            exact ⟨⟨k + 1, by omega, by simp, g, hB6⟩, by simp [RowKit.intOf]; omega⟩
          | false =>
            cases c with
            | true =>
              have g := Lib.hid (hgood.out (by rw [hnk.out]; rfl))
              clear hgood hbad hnk
              go_wp2
              exact ⟨⟨k + 1, by omega, by simp, g, hB6⟩, by simp [RowKit.intOf]; omega⟩
            | false =>
              have e := hbad.out (by rw [hnk.out]; rfl)
              subst e
              clear hgood hbad hnk
              go_wp2
              go_ret
              exact ⟨rfl, hB1.out.trans (hB6.out.mono hB1.out.size)⟩
      · have hkn : k = n := by omega
        have hall : Hid (r = !twiceB l) := Lib.hid (by rw [hr1.out, all_of_at (fun j hj => hok.out j hj (by have := hn.out; omega))]; rfl)
        have htl := htw.out wr hBw.out
        obtain ⟨tb, htb⟩ : ∃ tb, twiceB l = tb := ⟨_, rfl⟩
        rw [htb] at htl hall
        subst hkn
        clear htb hr1
        go_wp2_with (go_at_call 59; refine htl.mono ?_; rintro e5 w5 ⟨rfl, hB5⟩)
        go_ret
        exact ⟨by rw [hall.out]; rfl, hBw.out.trans (hB5.mono hBw.out.size)⟩
end Go.Proofs.YtghlodpbbghcoaaGreatDoor
