/- An element's own error, by the document: walked. -/
import Derived.Test.YtghlodpbbghcoaaDoorSD
import Derived.Test.YtghlodpbbghcoaaDoorSA
namespace Go.Proofs.YtghlodpbbghcoaaDoor
open Go.Lib Go.RowKit

set_option maxRecDepth 8192 in
set_option maxHeartbeats 6400000 in
theorem element73_any (k : Int) (nm tx : ByteArray) (va : Value) (Ak : Option Addr) (nk ck : Nat) (al : List (ByteArray × ByteArray)) (B : Nat) (w : World) (hB : B ≤ w.heap.size) (hr : AttrsAt w B va al) (hnm : nm.size ≤ 1000000) (hal : al.length ≤ 1000000) (hs : ∀ p ∈ al, p.1.size ≤ 1000000 ∧ p.2.size ≤ 1000000) :
    Calls Tryd.prog 73 #[.agg #[.int .i64 k, .string nm, va, .string tx, .slice Ak nk ck]] w (ErrPost (tx.toList.isEmpty && elemB nm al) w) := by
  obtain ⟨A, cap, rfl, hcap, hat⟩ := hr
  obtain ⟨n, hn⟩ : ∃ n, al.length = n := ⟨_, rfl⟩
  rw [hn] at hcap hal ⊢
  replace hn := Lib.hid hn
  have hat2 : Hid (∀ j (h : j < al.length), ∃ b o, A = some ⟨b, o, none⟩ ∧ b < w.heap.size ∧ w.cell? ⟨b, o + j * 2, none⟩ = some (.string al[j].1) ∧ w.cell? ⟨b, o + j * 2 + 1, none⟩ = some (.string al[j].2)) := Lib.hid (fun j h => by
    obtain ⟨b, o, e, hb, h1, h2⟩ := hat j h
    exact ⟨b, o, e, Nat.lt_of_lt_of_le hb hB, h1, h2⟩)
  replace hs := Lib.hid hs
  clear hat
  have hnamed := named3_any nm (Nat.le_trans hnm (by unfold maxLen; decide))
  obtain ⟨r, hr⟩ : ∃ r, (tx.toList.isEmpty && elemB nm al) = r := ⟨_, rfl⟩
  rw [hr]
  obtain ⟨nd, hnd⟩ : ∃ nd, namedL nm.data.toList = nd := ⟨_, rfl⟩
  rw [hnd] at hnamed
  obtain ⟨te, hte⟩ : ∃ te, tx.toList.isEmpty = te := ⟨_, rfl⟩
  have hr2 : Hid (r = (te && (nd && (attrsNames al && al.all (fun a => isL a.2.data.toList))))) := Lib.hid (by rw [← hr, elemB, attrsB, hnd, hte])
  clear hr hnd
  cases te with
  | false =>
    have e : r = false := by rw [hr2.out]; rfl
    clear hr2
    subst e
    go_enter Tryd.func73, Tryd.ntmps73
    go_wp2_with (go_at_call 71; refine (hnamed _).mono ?_; rintro e w1 ⟨rfl, rfl⟩)
    go_ret
    exact ⟨7, rfl, rfl, (Below.refl _ w).alloc (Nat.le_refl _) _⟩
  | true =>
    cases nd with
    | false =>
      have e : r = false := by rw [hr2.out]; rfl
      clear hr2
      subst e
      go_enter Tryd.func73, Tryd.ntmps73
      go_wp2_with (go_at_call 71; refine (hnamed _).mono ?_; rintro e w1 ⟨rfl, rfl⟩)
      go_ret
      exact ⟨4, rfl, rfl, (Below.refl _ w).alloc (Nat.le_refl _) _⟩
    | true =>
      have hr3 : Hid (r = (attrsNames al && al.all (fun a => isL a.2.data.toList))) := Lib.hid (by rw [hr2.out]; rfl)
      clear hr2
      go_enter Tryd.func73, Tryd.ntmps73
      go_upto_region 7 with (go_at_call 71; refine (hnamed _).mono ?_; rintro e w1 ⟨rfl, rfl⟩)
      obtain ⟨W1, hW1⟩ : ∃ W1, w.alloc (.cells #[.int .i64 k, .string nm, .slice A n cap, .string tx, .slice Ak nk ck] 28) = W1 := ⟨_, rfl⟩
      have hX1 : Hid (W1.heap[w.heap.size]? = some (.cells #[.int .i64 k, .string nm, .slice A n cap, .string tx, .slice Ak nk ck] 28)) := Lib.hid (by rw [← hW1]; exact blk_new _ _)
      have hB1 : Hid (Below w.heap.size w W1) := Lib.hid (by rw [← hW1]; exact (Below.refl _ _).alloc (Nat.le_refl _) _)
      rw [hW1]
      obtain ⟨X, hX⟩ : ∃ X, w.heap.size = X := ⟨_, rfl⟩
      rw [hX] at hX1 ⊢
      have hXw : Hid (X < W1.heap.size) := Lib.hid (blk_lt hX1.out)
      replace hX := Lib.hid hX
      clear hW1
      go_loopw [4] (fun x4 wr => ∃ i : Nat, i ≤ n ∧ x4 = .int .i64 i ∧ Hid (attrsNames (al.take i) = true) ∧ Hid (Below W1.heap.size W1 wr)) (fun x4 _ => n - (Lib.intOf x4).toNat)
      case atStart => exact ⟨0, Nat.zero_le _, rfl, Lib.hid (by simp [attrsNames]), Lib.hid (Below.refl _ _)⟩
      case round =>
        obtain ⟨i, hin, rfl, hok, hBr⟩ := hrel
        have d2 : wr.cell? ⟨X, 2, none⟩ = some (.slice A n cap) := blk_cell (blk_below hX1.out hBr.out hXw.out) 2
        have hBw : Hid (Below w.heap.size w wr) := Lib.hid (hB1.out.trans (hBr.out.mono hB1.out.size))
        by_cases hlt : i < n
        · have hil : i < al.length := by rw [hn.out]; exact hlt
          obtain ⟨b, o, rfl, hbw, h5, _⟩ := hat2.out i hil
          obtain ⟨⟨an, av⟩, hp⟩ : ∃ q, al[i] = q := ⟨_, rfl⟩
          simp only [hp] at h5
          have hsz := hs.out _ (List.getElem_mem hil)
          rw [hp] at hsz
          have q5 : wr.cell? ⟨b, o + i * 2, none⟩ = some (.string an) := (hBw.out.cell (p := ⟨b, _, none⟩) hbw).trans h5
          have htake : al.take (i + 1) = al.take i ++ [(an, av)] := by rw [List.take_add_one, List.getElem?_eq_getElem hil, hp]; rfl
          have hsn := names_snoc (al.take i) (an, av)
          rw [← htake, hok.out, Bool.true_and] at hsn
          obtain ⟨a1, ha1⟩ : ∃ a1, attrL an.data.toList = a1 := ⟨_, rfl⟩
          have hatt := attributed3_any an hsz.1 wr
          rw [ha1] at hatt hsn
          have hbad : Hid (attrsNames (al.take (i + 1)) = false → r = false) := Lib.hid (fun e => by
            rw [hr3.out]
            have : attrsNames al = false := Bool.eq_false_iff.2 (fun h => by
              have e2 := names_prefix (l := al.take (i + 1)) (l' := al.drop (i + 1)) (by rw [List.take_append_drop]; exact h)
              rw [e] at e2
              cases e2)
            rw [this]
            rfl)
          have hi0 : (0 : Int) ≤ (i : Int) := by omega
          have hi1 : (i : Int) < (n : Int) := by omega
          replace hsn := Lib.hid hsn
          clear h5 ha1 htake
          cases a1 with
          | false =>
            have e := hbad.out (by rw [hsn.out]; rfl)
            clear hbad hsn hr3
            subst e
            go_wp2_with (go_at_call 72; refine hatt.mono ?_; rintro e w3 ⟨rfl, hB3⟩)
            go_ret
            exact ⟨4, rfl, rfl, hBw.out.trans (hB3.mono hBw.out.size)⟩
          | true =>
            go_upto_region 13 with (go_at_call 72; refine hatt.mono ?_; rintro e w3 ⟨rfl, hB3⟩)
            have hBr3 : Hid (Below W1.heap.size W1 w3) := Lib.hid (hBr.out.trans (hB3.mono hBr.out.size))
            have hBw3 : Hid (Below w.heap.size w w3) := Lib.hid (hBw.out.trans (hB3.mono hBw.out.size))
            clear d2 q5 hatt hB3
            obtain ⟨wo, rfl⟩ : ∃ wo, wo = wr := ⟨_, rfl⟩
            go_loopw [6] (fun x6 wr => ∃ j : Nat, j ≤ i ∧ x6 = .int .i64 j ∧ Hid (∀ q (h : q < al.length), q < j → al[q].1 ≠ an) ∧ Hid (Below W1.heap.size W1 wr)) (fun x6 _ => i - (Lib.intOf x6).toNat)
            case atStart => exact ⟨0, Nat.zero_le _, rfl, Lib.hid (fun q _ h => absurd h (Nat.not_lt_zero _)), hBr3⟩
            case round =>
              obtain ⟨j, hji, rfl, hne, hB4⟩ := hrel
              have hBw4 : Hid (Below w.heap.size w wr) := Lib.hid (hB1.out.trans (hB4.out.mono hB1.out.size))
              have d2 : wr.cell? ⟨X, 2, none⟩ = some (.slice (some ⟨b, o, none⟩) n cap) := blk_cell (blk_below hX1.out hB4.out hXw.out) 2
              by_cases hlj : j < i
              · have hjl : j < al.length := by omega
                obtain ⟨b2, o2, e2, hb2w, h6, _⟩ := hat2.out j hjl
                obtain ⟨_, _, e3, _, h7, _⟩ := hat2.out i hil
                cases e2
                cases e3
                obtain ⟨bn, hbn⟩ : ∃ bn, al[j].1 = bn := ⟨_, rfl⟩
                rw [hbn] at h6
                rw [hp] at h7
                have y1 : wr.cell? ⟨b, o + j * 2, none⟩ = some (.string bn) := (hBw4.out.cell (p := ⟨b, _, none⟩) hbw).trans h6
                have y2 : wr.cell? ⟨b, o + i * 2, none⟩ = some (.string an) := (hBw4.out.cell (p := ⟨b, _, none⟩) hbw).trans h7
                have hj0 : (0 : Int) ≤ (j : Int) := by omega
                have hj1 : (j : Int) < (i : Int) := by omega
                have hj2 : (j : Int) < (n : Int) := by omega
                have hdup : Hid (bn = an → r = false) := Lib.hid (fun e => hbad.out (by
                  rw [hsn.out]
                  have : hadB (al.take i) an.data.toList = true := (hadB_iff _ _).2 ⟨al[j], List.mem_take_iff_getElem.2 ⟨j, by omega, rfl⟩, by rw [hbn, e]⟩
                  rw [this]
                  rfl))
                have hnx : Hid (bn ≠ an → ∀ q (h : q < al.length), q < j + 1 → al[q].1 ≠ an) := Lib.hid (fun e q h hq => by
                  by_cases e2 : q = j
                  · subst e2; rw [hbn]; exact e
                  · exact hne.out q h (by omega))
                clear h6 h7 hbn
                cases hq : (bn.toList == an.toList) with
                | true =>
                  have e := hdup.out ((Lib.bytes_beq_iff _ _).1 hq)
                  clear hdup hnx hbad hsn hr3
                  subst e
                  go_upto_region 15 with fail
                  go_region
                  go_wp2
                  go_ret
                  exact ⟨5, rfl, rfl, hBw4.out.drew⟩
                | false =>
                  have e := hnx.out ((Lib.bytes_beq_false_iff _ _).1 hq)
                  replace e := Lib.hid e
                  clear hdup hnx
                  go_upto_region 15 with fail
                  go_region
                  go_wp2
                  exact ⟨⟨j + 1, by omega, by simp, e, Lib.hid hB4.out.drew⟩, by simp [Lib.intOf]; omega⟩
              · have hji2 : j = i := by omega
                have hok2 : Hid (attrsNames (al.take (i + 1)) = true) := Lib.hid (by
                  rw [hsn.out]
                  have : hadB (al.take i) an.data.toList = false := Bool.eq_false_iff.2 (fun h => by
                    obtain ⟨q, hq, e⟩ := (hadB_iff _ _).1 h
                    obtain ⟨m, hm, rfl⟩ := List.mem_take_iff_getElem.1 hq
                    exact hne.out m (by omega) (by omega) (bytes_ext e))
                  rw [this]
                  rfl)
                clear hsn hbad hne
                subst hji2
                go_wp2
                exact ⟨⟨j + 1, by omega, by simp, hok2, hB4⟩, by simp [Lib.intOf]; omega⟩
        · have hin2 : i = n := by omega
          have hr4 : Hid (r = al.all (fun a => isL a.2.data.toList)) := Lib.hid (by
            rw [hr3.out]
            have := hok.out
            rw [hin2, ← hn.out, List.take_length] at this
            rw [this]
            rfl)
          clear hr3 hok
          subst hin2
          go_upto_region 18 with fail
          obtain ⟨wo, rfl⟩ : ∃ wo, wo = wr := ⟨_, rfl⟩
          go_loopw [7] (fun x7 wr => ∃ j : Nat, j ≤ i ∧ x7 = .int .i64 j ∧ Hid (∀ q (h : q < al.length), q < j → isL al[q].2.data.toList = true) ∧ Hid (Below W1.heap.size W1 wr)) (fun x7 _ => i - (Lib.intOf x7).toNat)
          case atStart => exact ⟨0, Nat.zero_le _, rfl, Lib.hid (fun q _ h => absurd h (Nat.not_lt_zero _)), hBr⟩
          case round =>
            obtain ⟨j, hji, rfl, hgood, hB4⟩ := hrel
            have hBw4 : Hid (Below w.heap.size w wr) := Lib.hid (hB1.out.trans (hB4.out.mono hB1.out.size))
            have d2 : wr.cell? ⟨X, 2, none⟩ = some (.slice A i cap) := blk_cell (blk_below hX1.out hB4.out hXw.out) 2
            by_cases hlj : j < i
            · have hjl : j < al.length := by rw [hn.out]; exact hlj
              obtain ⟨b, o, rfl, hbw, _, h6⟩ := hat2.out j hjl
              obtain ⟨bn, hbn⟩ : ∃ bn, al[j].2 = bn := ⟨_, rfl⟩
              have hsz := (hs.out _ (List.getElem_mem hjl)).2
              rw [hbn] at h6 hsz
              have y1 : wr.cell? ⟨b, o + j * 2 + 1, none⟩ = some (.string bn) := (hBw4.out.cell (p := ⟨b, _, none⟩) hbw).trans h6
              have hj0 : (0 : Int) ≤ (j : Int) := by omega
              have hj1 : (j : Int) < (i : Int) := by omega
              have his := is3_any bn hsz wr
              obtain ⟨q, hq⟩ : ∃ q, isL bn.data.toList = q := ⟨_, rfl⟩
              rw [hq] at his
              clear h6
              cases q with
              | false =>
                have e : r = false := by
                  rw [hr4.out]
                  refine Bool.eq_false_iff.2 (fun h => ?_)
                  have := List.all_eq_true.1 h _ (List.getElem_mem hjl)
                  rw [hbn, hq] at this
                  cases this
                clear hr4 hq hbn
                subst e
                go_wp2_with (go_at_call 74; refine his.mono ?_; rintro e w3 ⟨rfl, hB3⟩)
                go_ret
                exact ⟨2, rfl, rfl, hBw4.out.trans (hB3.mono hBw4.out.size)⟩
              | true =>
                have hg2 : Hid (∀ q (h : q < al.length), q < j + 1 → isL al[q].2.data.toList = true) := Lib.hid (fun q h hq2 => by
                  by_cases e2 : q = j
                  · subst e2; rw [hbn]; exact hq
                  · exact hgood.out q h (by omega))
                clear hq hbn
                go_wp2_with (go_at_call 74; refine his.mono ?_; rintro e w3 ⟨rfl, hB3⟩)
                exact ⟨⟨j + 1, by omega, by simp, hg2, Lib.hid (hB4.out.trans (hB3.mono hB4.out.size))⟩, by simp [Lib.intOf]; omega⟩
            · have hji2 : j = i := by omega
              have e : r = true := by
                rw [hr4.out]
                refine List.all_eq_true.2 (fun x hx => ?_)
                obtain ⟨q, hq, rfl⟩ := List.getElem_of_mem hx
                exact hgood.out q hq (by have := hn.out; omega)
              clear hr4 hgood
              subst e
              subst hji2
              go_wp2
              go_ret
              exact ⟨0, rfl, rfl, hBw4.out⟩
end Go.Proofs.YtghlodpbbghcoaaDoor
