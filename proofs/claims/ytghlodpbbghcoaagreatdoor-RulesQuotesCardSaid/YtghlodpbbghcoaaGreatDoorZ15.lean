/- The element of a name: walked. -/
import Derived.Test.YtghlodpbbghcoaaGreatDoorZ14
import Derived.Test.YtghlodpbbghcoaaGreatDoorCel
namespace Go.Proofs.YtghlodpbbghcoaaGreatDoor
open Go.Lib Go.RowKit Go.Maps
def findP (l : List Elt) (nm : ByteArray) : Option Elt := l.find? fun e => decide (e.name = nm)
theorem findP_some {l : List Elt} {nm : ByteArray} {k : Nat} (hk : k < l.length) (h : ∀ j (hj : j < l.length), j < k → l[j].name ≠ nm) (he : l[k].name = nm) : findP l nm = some l[k] := by
  unfold findP
  rw [List.find?_eq_some_iff_getElem]
  exact ⟨by simpa using he, k, hk, rfl, fun j hj => by simpa using h j (by omega) hj⟩
theorem findP_none {l : List Elt} {nm : ByteArray} (h : ∀ j (hj : j < l.length), l[j].name ≠ nm) : findP l nm = none := by
  unfold findP
  rw [List.find?_eq_none]
  intro x hx
  obtain ⟨j, hj, rfl⟩ := List.getElem_of_mem hx
  simpa using h j hj
theorem ne_toList {a b : ByteArray} (h : a ≠ b) : (a.toList == b.toList) = false := by
  rw [beq_eq_false_iff_ne]
  intro e
  rw [ByteArray.toList_eq, ByteArray.toList_eq] at e
  exact h (bytes_ext e)
def FindPost (r : Option Elt) (P : Nat → Prop) (w : World) (e : Ending) (w' : World) : Prop :=
  (match r with
   | none => e = .returned (.tuple #[.agg #[.string ⟨#[]⟩, .slice none 0 0, .slice none 0 0], .bool false])
   | some x => ∃ vk vr, e = .returned (.tuple #[.agg #[.string x.name, vk, vr], .bool true]) ∧ StrsAt w' P vk x.kids ∧ RulsAt w' P vr x.rules) ∧ Below w.heap.size w w'

set_option maxRecDepth 8192 in
set_option maxHeartbeats 3200000 in
theorem find_any (vt ve vu : Value) (l : List Elt) (nm : ByteArray) (P : Nat → Prop) (w : World) (hP : ∀ k, P k → k < w.heap.size) (h : EltsAt w P ve l) (ht : ∃ A n c, vt = .slice A n c) (hu : ∃ A n c, vu = .slice A n c) (hl : l.length ≤ 140737488355328) :
    Calls Tryz.prog 17 #[.agg #[vt, ve, vu], .string nm] w (FindPost (findP l nm) P w) := by
  obtain ⟨At, nt, ct, rfl⟩ := ht
  obtain ⟨Au, nu, cu, rfl⟩ := hu
  obtain ⟨A, n, cap, rfl, hn, hcap, hat⟩ := h.form
  have hn6 : n ≤ 140737488355328 := by omega
  obtain ⟨r, hr⟩ : ∃ r, findP l nm = r := ⟨_, rfl⟩
  rw [hr]
  replace hr := Lib.hid hr
  replace hn := Lib.hid hn
  replace hat := Lib.hid hat
  replace hP := Lib.hid hP
  clear h hl
  obtain ⟨w2, hw2⟩ : ∃ w2, (w.alloc (.cells #[.slice At nt ct, .slice A n cap, .slice Au nu cu] 25)).alloc (.cells #[.string ⟨#[]⟩, .slice none 0 0, .slice none 0 0] 30) = w2 := ⟨_, rfl⟩
  have hB2 : Hid (Below w.heap.size w w2) := Lib.hid (by rw [← hw2]; exact ((Below.refl _ _).alloc (Nat.le_refl _) _).alloc (by simp) _)
  have hR2 : Hid (w2.heap[w.heap.size + 1]? = some (.cells #[.string ⟨#[]⟩, .slice none 0 0, .slice none 0 0] 30)) := Lib.hid (by rw [← hw2]; exact blk_new' (by simp))
  have hS2 : Hid (w2.heap.size = w.heap.size + 2) := Lib.hid (by rw [← hw2]; simp)
  have hbx : Hid (w2.heap[w.heap.size]? = some (.cells #[.slice At nt ct, .slice A n cap, .slice Au nu cu] 25)) := Lib.hid (by rw [← hw2]; exact blk_alloc (blk_new _ _) _)
  go_enter Tryz.func17, Tryz.ntmps17
  go_upto_region 1 with fail
  have d1 : w2.cell? ⟨w.heap.size, 1, none⟩ = some (.slice A n cap) := blk_cell hbx.out 1
  clear hw2
  go_wp2
  go_loopw [11] (fun x11 wr => ∃ k : Nat, k ≤ n ∧ x11 = .int .i64 k ∧ Hid (∀ j (hj : j < l.length), j < k → l[j].name ≠ nm) ∧ Hid (Below w2.heap.size w2 wr)) (fun x11 _ => n - (RowKit.intOf x11).toNat)
  case atStart => exact ⟨0, Nat.zero_le _, rfl, Lib.hid (fun j _ h => absurd h (Nat.not_lt_zero _)), Lib.hid (Below.refl _ _)⟩
  case round =>
    obtain ⟨k, hk, rfl, hno, hB⟩ := hrel
    clear d1
    have hBw : Hid (Below w.heap.size w wr) := Lib.hid (hB2.out.trans (hB.out.mono hB2.out.size))
    have hRr : Hid (wr.heap[w.heap.size + 1]? = some (.cells #[.string ⟨#[]⟩, .slice none 0 0, .slice none 0 0] 30)) := Lib.hid (blk_below hR2.out hB.out (by rw [hS2.out]; omega))
    have hlr : Hid (w.heap.size + 1 < wr.heap.size) := Lib.hid (blk_lt hRr.out)
    by_cases hlt : k < n
    · have hkl : k < l.length := by have := hn.out; omega
      obtain ⟨b, o, rfl, hPb, hc⟩ := hat.out (by omega)
      obtain ⟨vk, vr, h0, h1, h2, hvk, hvr⟩ := hc k hkl
      have hbw := hP.out b hPb
      have c0 := (hBw.out.cell (p := ⟨b, o + k * 3, none⟩) hbw).trans h0
      have c1 := (hBw.out.cell (p := ⟨b, o + k * 3 + 1, none⟩) hbw).trans h1
      have c2 := (hBw.out.cell (p := ⟨b, o + k * 3 + 2, none⟩) hbw).trans h2
      have hfin : Hid (StrsAt w P vk l[k].kids ∧ RulsAt w P vr l[k].rules) := Lib.hid ⟨hvk, hvr⟩
      obtain ⟨Ak, nk, ck, rfl, -, -, -⟩ := hvk.form
      obtain ⟨Ar, nr, cr, rfl, -, -, -⟩ := hvr.form
      obtain ⟨s, hs⟩ : ∃ s, l[k].name = s := ⟨_, rfl⟩
      rw [hs] at c0
      have hi0 : (0 : Int) ≤ (k : Int) := by omega
      have hi1 : (k : Int) < (n : Int) := by omega
      replace hs := Lib.hid hs
      clear hc h0 h1 h2
      by_cases hsn : s = nm
      · subst hsn
        have hr1 : r = some l[k] := by rw [← hr.out]; exact findP_some hkl hno.out hs.out
        subst hr1
        have hW3 : Hid (Below w2.heap.size w2 (wr.alloc (.cells #[.string s, .slice Ak nk ck, .slice Ar nr cr] 30))) := Lib.hid (hB.out.alloc hB.out.size _)
        have hR3 : Hid ((wr.alloc (.cells #[.string s, .slice Ak nk ck, .slice Ar nr cr] 30)).heap[w.heap.size + 1]? = some (.cells #[.string ⟨#[]⟩, .slice none 0 0, .slice none 0 0] 30)) := Lib.hid (blk_alloc hRr.out _)
        go_wp2_with ((with_reducible show wpList _ _ _ (⟨none, _, _, _, _, _⟩ :: _) _ _); refine wpList_store_mid rfl 30 _ _ rfl (w.heap.size + 1) 0 #[.string s, .slice Ak nk ck, .slice Ar nr cr] rfl rfl (there_of (cs := [.string ⟨#[]⟩, .slice none 0 0, .slice none 0 0]) hR3.out) info30 (by simp [Value.oneCell']) ?_)
        try simp only [Exit.inBlock, Exit.then]
        refine bodyPost_ret (results_elt rfl _ _ rfl (blk_stored hR3.out [.string s, .slice Ak nk ck, .slice Ar nr cr] rfl)) rfl ⟨⟨.slice Ak nk ck, .slice Ar nr cr, by rw [hs.out]; rfl, ?_, ?_⟩, ?_⟩
        all_goals have hBf := below_setCells (B := w.heap.size) (b := w.heap.size + 1) (by omega) [.string s, .slice Ak nk ck, .slice Ar nr cr] _ 0 (hB2.out.trans (hW3.out.mono hB2.out.size))
        · exact hfin.out.1.move (Stays.below hBf hP.out) (fun _ h => h)
        · exact hfin.out.2.move (Stays.below hBf hP.out) (fun _ h => h)
        · exact hBf
      · have ens := ne_toList hsn
        have hno2 : Hid (∀ j (hj : j < l.length), j < k + 1 → l[j].name ≠ nm) := Lib.hid (fun j hj hjk => by
          by_cases e : j = k
          · subst e; rw [hs.out]; exact hsn
          · exact hno.out j hj (by omega))
        have hB3 : Hid (Below w2.heap.size w2 (wr.alloc (.cells #[.string s, .slice Ak nk ck, .slice Ar nr cr] 30))) := Lib.hid (hB.out.alloc hB.out.size _)
        go_wp2
        exact ⟨⟨k + 1, by omega, by simp, hno2, hB3⟩, by simp [RowKit.intOf]; omega⟩
    · have hkn : k = n := by omega
      have hr1 : r = none := by rw [← hr.out]; exact findP_none (fun j hj => hno.out j hj (by have := hn.out; omega))
      subst hr1
      go_wp2_with ((with_reducible show wpList _ _ _ (⟨none, _, _, _, _, _⟩ :: _) _ _); refine wpList_store_mid rfl 30 _ _ rfl (w.heap.size + 1) 0 #[.string ⟨#[]⟩, .slice none 0 0, .slice none 0 0] rfl rfl (there_of (cs := [.string ⟨#[]⟩, .slice none 0 0, .slice none 0 0]) hRr.out) info30 (by simp [Value.oneCell']) ?_)
      try simp only [Exit.inBlock, Exit.then]
      refine bodyPost_ret (results_elt rfl _ _ rfl (blk_stored hRr.out [.string ⟨#[]⟩, .slice none 0 0, .slice none 0 0] rfl)) rfl ⟨rfl, ?_⟩
      exact below_setCells (B := w.heap.size) (b := w.heap.size + 1) (by omega) _ _ 0 hBw.out
end Go.Proofs.YtghlodpbbghcoaaGreatDoor
