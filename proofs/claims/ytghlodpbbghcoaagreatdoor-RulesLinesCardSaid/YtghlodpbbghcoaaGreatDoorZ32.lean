/- Of names those that may stand in an element's list, by the document: walked. -/
import Derived.Test.YtghlodpbbghcoaaGreatDoorZ31
import Derived.Deep.RegionLaw
namespace Go.Proofs.YtghlodpbbghcoaaGreatDoor
open Go.Lib Go.RowKit Go.Maps
def fitStep (el : List Elt) (nm : ByteArray) (out : List ByteArray) (s : ByteArray) : List ByteArray := if kids13P el nm (out ++ [s]) then out ++ [s] else out
def fittingP (el : List Elt) (nm : ByteArray) (l : List ByteArray) : List ByteArray := (l.take 8).foldl (fitStep el nm) []
theorem cells_new (w : World) (cs : List Value) (t : TypeId) : ∀ j u, cs[j]? = some u → (w.alloc (.cells cs.toArray t)).cell? ((⟨w.heap.size, 0, none⟩ : Addr).add j) = some u := by
  intro j u hj
  have hadd : (⟨w.heap.size, 0, none⟩ : Addr).add j = ⟨w.heap.size, j, none⟩ := by unfold Addr.add; split <;> simp_all
  rw [hadd, World.cell?_alloc_new]
  simpa using hj
theorem cells_of {w : World} {g : Nat} {cs : List Value} {t : TypeId} (h : w.heap[g]? = some (.cells cs.toArray t (0, 0))) : ∀ j u, cs[j]? = some u → w.cell? ((⟨g, 0, none⟩ : Addr).add j) = some u := by
  intro j u hj
  have hadd : (⟨g, 0, none⟩ : Addr).add j = ⟨g, j, none⟩ := by unfold Addr.add; split <;> simp_all
  rw [hadd, blk_cell h]
  simpa using hj
theorem fold_take {l : List ByteArray} {k : Nat} (hk : k < l.length) (f : List ByteArray → ByteArray → List ByteArray) : (l.take (k + 1)).foldl f [] = f ((l.take k).foldl f []) l[k] := by
  rw [List.take_add_one, List.getElem?_eq_getElem hk, List.foldl_append]
  rfl
theorem fold_len (el : List Elt) (nm : ByteArray) : ∀ (l : List ByteArray) (o : List ByteArray), (l.foldl (fitStep el nm) o).length ≤ o.length + l.length := by
  intro l
  induction l with
  | nil => intro o; simp
  | cons s l ih =>
    intro o
    have := ih (fitStep el nm o s)
    have h2 : (fitStep el nm o s).length ≤ o.length + 1 := by unfold fitStep; split <;> simp
    simp only [List.foldl_cons, List.length_cons]
    omega
def FitPost (r : List ByteArray) (w : World) (e : Ending) (w' : World) : Prop := ∃ v, e = .returned v ∧ OwnS w' w.heap.size v r ∧ Below w.heap.size w w'

set_option maxRecDepth 8192 in
set_option maxHeartbeats 6400000 in
theorem fitting_any (vt ve vu vk : Value) (nm : ByteArray) (el : List Elt) (l : List ByteArray) (P : Nat → Prop) (w : World) (hP : ∀ k, P k → k < w.heap.size) (he : EltsAt w P ve el) (ht : ∃ A n c, vt = .slice A n c) (hu : ∃ A n c, vu = .slice A n c) (hv : StrsAt w P vk l)
    (hel : el.length ≤ 140737488355328) (hl : l.length ≤ 140737488355328) : Calls Tryz.prog 32 #[.agg #[vt, ve, vu], .string nm, vk] w (FitPost (fittingP el nm l) w) := by
  have hki : Hid (∀ (v : Value) (o : List ByteArray) (wr : World), Below w.heap.size w wr → OwnS wr w.heap.size v o → o.length ≤ 100 → Calls Tryz.prog 54 #[.agg #[vt, ve, vu], .string nm, v] wr (IsB (kids13P el nm o) wr)) := Lib.hid (fun v o wr hb hv hol =>
    kids13_any vt ve vu v nm el o (fun k => k < wr.heap.size) wr (fun k hk => hk) (he.move (Stays.below hb hP) (fun k h => Nat.lt_of_lt_of_le (hP k h) hb.size)) ht hu (hv.fresh.move (Stays.refl _ _) (fun k h => h.2)) hel (by omega))
  obtain ⟨At, nt, ct, rfl⟩ := ht
  obtain ⟨Au, nu, cu, rfl⟩ := hu
  obtain ⟨Ae, ne, ce, rfl, -, -, -⟩ := he.form
  obtain ⟨A, n, cap, rfl, hn, hcap, hat⟩ := hv.form
  have hn6 : n ≤ 140737488355328 := by omega
  replace hn := Lib.hid hn
  replace hat := Lib.hid hat
  replace hP := Lib.hid hP
  clear he hv hel hl
  obtain ⟨w1, hw1⟩ : ∃ w1, (w.alloc (.cells #[.slice At nt ct, .slice Ae ne ce, .slice Au nu cu] 25)) = w1 := ⟨_, rfl⟩
  have hB1 : Hid (Below w.heap.size w w1) := Lib.hid (by rw [← hw1]; exact ((Below.refl _ _).alloc (Nat.le_refl _) _))
  have hbx : Hid (w1.heap[w.heap.size]? = some (.cells #[.slice At nt ct, .slice Ae ne ce, .slice Au nu cu] 25)) := Lib.hid (by rw [← hw1]; exact blk_new _ _)
  go_enter Tryz.func32, Tryz.ntmps32
  go_upto_region 1 with fail
  clear hw1
  go_wp2
  go_loopw [7, 8] (fun x7 x8 wr => ∃ k : Nat, k ≤ n ∧ k ≤ 8 ∧ x8 = .int .i64 k ∧ ∃ o : List ByteArray, Hid ((l.take k).foldl (fitStep el nm) [] = o) ∧ o.length ≤ k ∧ (o = [] → x7 = .slice none 0 0) ∧ Hid (OwnS wr (w.heap.size + 1) x7 o) ∧ Hid (Below w1.heap.size w1 wr)) (fun _ x8 _ => n - (RowKit.intOf x8).toNat)
  case atStart => exact ⟨0, Nat.zero_le _, Nat.zero_le _, rfl, [], Lib.hid rfl, Nat.zero_le _, fun _ => rfl, Lib.hid (OwnS.nil _ _), Lib.hid (Below.refl _ _)⟩
  case round =>
    obtain ⟨k, hk, hk8, rfl, o, ho, hol, hnil, hown, hB⟩ := hrel
    have hBw : Hid (Below w.heap.size w wr) := Lib.hid (hB1.out.trans (hB.out.mono hB1.out.size))
    have hbr : Hid (wr.heap[w.heap.size]? = some (.cells #[.slice At nt ct, .slice Ae ne ce, .slice Au nu cu] 25)) := Lib.hid (blk_below hbx.out hB.out (blk_lt hbx.out))
    by_cases hlt : k < n ∧ k < 8
    · obtain ⟨hl1, hl2⟩ := hlt
      have hkl : k < l.length := by have := hn.out; omega
      obtain ⟨b, q, rfl, hPb, hc⟩ := hat.out (by omega)
      have c0 := (hBw.out.cell (p := ⟨b, q + k, none⟩) (hP.out b hPb)).trans (hc k hkl)
      obtain ⟨s, hs⟩ : ∃ s, l[k] = s := ⟨_, rfl⟩
      rw [hs] at c0
      have hnext : Hid ((l.take (k + 1)).foldl (fitStep el nm) [] = fitStep el nm o s) := Lib.hid (by rw [fold_take hkl, ho.out, hs])
      have hi0 : (0 : Int) ≤ (k : Int) := by omega
      have hi1 : (k : Int) < (n : Int) := by omega
      have hi8 : (k : Int) < 8 := by omega
      have hbl : b < wr.heap.size := Nat.lt_of_lt_of_le (hP.out b hPb) hBw.out.size
      have hbase : w.heap.size + 1 ≤ wr.heap.size := blk_lt hbr.out
      clear hc hs
      go_upto_region 5 with fail
      go_cut [9] (fun x wx => Hid (OwnS wx (w.heap.size + 1) x (o ++ [s])) ∧ Hid (Below wr.heap.size wr wx))
      case first =>
        obtain ⟨i0, hi, hz0, hz1, hz2⟩ := info_parts info9
        rcases OwnS.form hown.out with ⟨rfl, rfl⟩ | ⟨g, cap2, rfl, hg0, hg1, hg2, hcells⟩
        · go_region_law (first
            | (refine step_append_lies _ rfl (.tmp 22) (.tmp 27) 22 rfl (w.heap.size + 1) 9 i0 _ 1 16 Tryz.underlying22 hi hz0 hz1 hz2 rfl (by decide) (.slice none 0 0) 0 [] rfl (World.ownsRow_nil _ _ _ _) ⟨_, 0, none⟩ 1 1 [.string s] rfl rfl (cells_new _ _ _) (by intro u hu; simp at hu; subst hu; rfl) (by omega) (by unfold maxLen; omega) (by omega) (by simp; omega) _ rfl ?_
               intro ga ca w7 hown7 hg7 hat7 hlt7))
          all_goals go_wp2_with fail
          all_goals go_meet
          all_goals refine ⟨Lib.hid hown7, Lib.hid ?_⟩
          all_goals
            have hg8 : Below (wr.heap.size) wr w7 := ⟨hg7.os, hg7.tape, hg7.output, by have := hg7.size; simp at this; omega, fun x hx => (hg7.block x (by simp; omega) (by simp [Value.ownBlock])).trans (Below.heap_alloc wr _ x hx)⟩
            exact hg8
        · have ho0 : 0 < o.length := by
            rcases Nat.eq_zero_or_pos o.length with h | h
            · have := hnil (List.eq_nil_of_length_eq_zero h)
              cases this
            · exact h
          have hol8 : o.length ≤ 8 := by omega
          have halc : ∀ x, (wr.alloc x).cell? ⟨b, q + k, none⟩ = some (.string s) := fun x => (World.cell?_alloc_lt (a := ⟨b, q + k, none⟩) wr x hbl).trans c0
          have hcells2 : ∀ j u, (strV o)[j]? = some u → (wr.drew.alloc (.cells #[.string s] 9)).cell? ((⟨g, 0, none⟩ : Addr).add j) = some u := fun j u hj => by
            have h := hcells j u hj
            have e : ((⟨g, 0, none⟩ : Addr).add j) = ⟨g, j, none⟩ := by unfold Addr.add; split <;> simp_all
            rw [e] at h ⊢
            exact (World.cell?_alloc_lt (a := ⟨g, j, none⟩) wr.drew _ hg1).trans h
          go_region_law (first
            | (refine step_append_lies wr.drew rfl (.const (.slice none 0 0)) (.tmp 21) 22 rfl (w.heap.size + 1) 9 i0 _ 1 16 Tryz.underlying22 hi hz0 hz1 hz2 rfl (by decide) (.slice none 0 0) 0 [] rfl (World.ownsRow_nil _ _ _ _) ⟨g, 0, none⟩ o.length cap2 (strV o) rfl (by rw [strV_len, Nat.mul_one]) hcells (strV_one o) (by omega) (by unfold maxLen; omega) (by omega) hbase _ rfl ?_
               intro g5 ca5 w5 hown5 hg5 hat5 hlt5
               simp only [Nat.zero_add, List.nil_append] at hown5
               have c5 : w5.cell? ⟨b, q + k, none⟩ = some (.string s) := (World.cell?_of_block (w := wr) (a := ⟨b, q + k, none⟩) (hg5.block b hbl (by simp [Value.ownBlock]))).trans c0
               have hb5 : Hid (Below wr.heap.size wr w5 ∧ wr.heap.size ≤ g5) := Lib.hid ⟨⟨hg5.os, hg5.tape, hg5.output, hg5.size, fun x hx => hg5.block x hx (by simp [Value.ownBlock])⟩, (by rcases hat5 with h | h; cases h; rw [h]; exact Nat.le_refl _)⟩
               replace hown5 := Lib.hid hown5
               have hz5 : w.heap.size + 1 ≤ w5.heap.size := Nat.le_trans hbase hb5.out.1.size)
            | (refine step_append_lies (w5.alloc (.cells #[.string s] 9)) rfl (.tmp 22) (.tmp 27) 22 rfl (w.heap.size + 1) 9 i0 _ 1 16 Tryz.underlying22 hi hz0 hz1 hz2 rfl (by decide) _ o.length (strV o) rfl (hown5.out.alloc _) ⟨_, 0, none⟩ 1 1 [.string s] rfl rfl (cells_new _ _ _) (by intro u hu; simp at hu; subst hu; rfl) (by omega) (by unfold maxLen; omega) (by omega) (by simp; omega) _ rfl ?_
               intro g6 ca6 w6 hown6 hg6 hat6 hlt6)
            | (refine step_append_lies (wr.drew.alloc (.cells #[.string s] 9)) rfl (.const (.slice none 0 0)) (.tmp 21) 22 rfl (w.heap.size + 1) 9 i0 _ 1 16 Tryz.underlying22 hi hz0 hz1 hz2 rfl (by decide) (.slice none 0 0) 0 [] rfl (World.ownsRow_nil _ _ _ _) ⟨g, 0, none⟩ o.length cap2 (strV o) rfl (by rw [strV_len, Nat.mul_one]) hcells2 (strV_one o) (by omega) (by unfold maxLen; omega) (by omega) (by simp; omega) _ rfl ?_
               intro g5 ca5 w5 hown5 hg5 hat5 hlt5
               simp only [Nat.zero_add, List.nil_append] at hown5
               have hsrc : Hid (w5.heap[wr.heap.size]? = some (.cells #[.string s] 9)) := Lib.hid (blk_grown (blk_new wr.drew _) hg5 (by simp [Value.ownBlock]))
               have hb5 : Hid (Below wr.heap.size wr w5 ∧ wr.heap.size ≤ g5) := Lib.hid ⟨⟨hg5.os, hg5.tape, hg5.output, (by have := hg5.size; simp at this; omega), fun x hx => (hg5.block x (by simp; omega) (by simp [Value.ownBlock])).trans (Below.heap_alloc wr.drew _ x hx)⟩, (by rcases hat5 with h | h; cases h; rw [h]; simp)⟩
               replace hown5 := Lib.hid hown5
               have hz5 : w.heap.size + 1 ≤ w5.heap.size := Nat.le_trans hbase hb5.out.1.size
               have hnews : ∀ j u, [Value.string s][j]? = some u → w5.cell? ((⟨wr.heap.size, 0, none⟩ : Addr).add j) = some u := cells_of hsrc.out)
            | (refine step_append_lies w5 rfl (.tmp 22) (.tmp 27) 22 rfl (w.heap.size + 1) 9 i0 _ 1 16 Tryz.underlying22 hi hz0 hz1 hz2 rfl (by decide) _ o.length (strV o) rfl hown5.out ⟨wr.heap.size, 0, none⟩ 1 1 [.string s] rfl rfl hnews (by intro u hu; simp at hu; subst hu; rfl) (by omega) (by unfold maxLen; omega) (by omega) hz5 _ rfl ?_
               intro g6 ca6 w6 hown6 hg6 hat6 hlt6))
          all_goals go_wp2_with fail
          all_goals go_meet
          all_goals refine ⟨Lib.hid (by unfold OwnS; rw [List.length_append, strV_snoc]; simpa using hown6), Lib.hid ?_⟩
          all_goals
            have hz6 := hg6.size
            have hz7 := hb5.out.1.size
            have hz8 := hb5.out.2
            try simp at hz6
            have hz9 : ∀ x, x < wr.heap.size → some x ≠ some g5 := fun x hx e => by have := Option.some.inj e; omega
            refine hb5.out.1.trans ⟨hg6.os, hg6.tape, hg6.output, by omega, fun x hx => ?_⟩
            first
              | exact hg6.block x (Nat.lt_of_lt_of_le hx hz7) (hz9 x hx)
              | exact (hg6.block x (Nat.lt_of_lt_of_le (Nat.lt_of_lt_of_le hx hz7) (by simp)) (hz9 x hx)).trans (Below.heap_alloc w5 _ x (Nat.lt_of_lt_of_le hx hz7))
      case rest =>
      obtain ⟨hx, hBc⟩ := hcut
      have hbc : Hid (wc.heap[w.heap.size]? = some (.cells #[.slice At nt ct, .slice Ae ne ce, .slice Au nu cu] 25)) := Lib.hid (blk_below hbr.out hBc.out hbase)
      have g0 : wc.cell? ⟨w.heap.size, 0, none⟩ = some (.slice At nt ct) := blk_cell hbc.out 0
      have g1 : wc.cell? ⟨w.heap.size, 1, none⟩ = some (.slice Ae ne ce) := blk_cell hbc.out 1
      have g2 : wc.cell? ⟨w.heap.size, 2, none⟩ = some (.slice Au nu cu) := blk_cell hbc.out 2
      have hB6 : Hid (Below w.heap.size w wc) := Lib.hid (hBw.out.trans (hBc.out.mono hBw.out.size))
      have hB7 : Hid (Below w1.heap.size w1 wc) := Lib.hid (hB.out.trans (hBc.out.mono hB.out.size))
      have hkc := hki.out _ (o ++ [s]) wc hB6.out (hx.out.mono (Nat.le_succ _)) (by rw [List.length_append]; simp; omega)
      obtain ⟨may, hmay⟩ : ∃ may, kids13P el nm (o ++ [s]) = may := ⟨_, rfl⟩
      rw [hmay] at hkc
      have hst : Hid (fitStep el nm o s = if may then o ++ [s] else o) := Lib.hid (by unfold fitStep; rw [hmay])
      have hownc : Hid (OwnS wc (w.heap.size + 1) u7 o) := Lib.hid (own_below hown.out hBc.out (Nat.le_refl _))
      clear c0 hmay
      cases may with
      | true =>
        go_wp2_with (go_at_call 54; refine hkc.mono ?_; rintro e5 w5 ⟨rfl, hB5⟩)
        exact ⟨⟨k + 1, by omega, by omega, by simp, o ++ [s], Lib.hid (by rw [hnext.out, hst.out]; rfl), by rw [List.length_append]; simp; omega, by simp, Lib.hid (own_below hx.out hB5 (Nat.le_refl _)), Lib.hid (hB7.out.trans (hB5.mono hB7.out.size))⟩, by simp [RowKit.intOf]; omega⟩
      | false =>
        go_wp2_with (go_at_call 54; refine hkc.mono ?_; rintro e5 w5 ⟨rfl, hB5⟩)
        exact ⟨⟨k + 1, by omega, by omega, by simp, o, Lib.hid (by rw [hnext.out, hst.out]; rfl), by omega, hnil, Lib.hid (own_below hownc.out hB5 (Nat.le_refl _)), Lib.hid (hB7.out.trans (hB5.mono hB7.out.size))⟩, by simp [RowKit.intOf]; omega⟩
    · have he : Hid (fittingP el nm l = o) := Lib.hid (by
        unfold fittingP
        rw [← ho.out]
        congr 1
        by_cases h8 : k = 8
        · rw [h8]
        · have : k = l.length := by have := hn.out; omega
          rw [this, List.take_of_length_le (by omega), List.take_length])
      rw [he.out]
      by_cases h1 : k < n
      · have i1 : (k : Int) < (n : Int) := by omega
        have i2 : ¬ (k : Int) < 8 := by omega
        go_wp2
        go_ret
        exact ⟨u7, rfl, by rw [he.out]; exact hown.out.mono (Nat.le_succ _), hBw.out⟩
      · have i1 : ¬ (k : Int) < (n : Int) := by omega
        go_wp2
        go_ret
        exact ⟨u7, rfl, by rw [he.out]; exact hown.out.mono (Nat.le_succ _), hBw.out⟩
end Go.Proofs.YtghlodpbbghcoaaGreatDoor
