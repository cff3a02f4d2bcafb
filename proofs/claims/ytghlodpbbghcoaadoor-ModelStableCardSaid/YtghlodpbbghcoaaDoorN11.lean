/- Texts side by side merged, by the document: walked. -/
import Derived.Test.YtghlodpbbghcoaaDoorN11a
namespace Go.Proofs.YtghlodpbbghcoaaDoor
open Go.Lib Go.RowKit

/-- A row merged: nodes that are fine, no texts side by side. -/
def MergePost (M T : Nat) (P : Nat → Prop) (w : World) (l : List NCells) (e : Ending) (w' : World) : Prop :=
  ∃ (v : Value) (out : List NCells), e = .returned v ∧ MrgInv w w' P v out ∧ (∀ c ∈ out, okC M c ∧ c.text.size ≤ T * 40) ∧ noTw false (nFo out) ∧ (nFo out).size ≤ (nFo l).size

set_option maxRecDepth 100000 in
set_option maxHeartbeats 6400000 in
theorem merge3_any (M T : Nat) (hT : T ≤ 10000) (w : World) (base : Nat) (P : Nat → Prop) (v : Value) (l : List NCells) (hrow : w.ownsRow base 28 5 v l.length (nCells l)) (hP : ∀ c ∈ l, c.Fine w P) (hl : l.length ≤ 40) (hok : ∀ c ∈ l, okC M c ∧ c.text.size ≤ T) : Calls Tryd.prog 53 #[v] w (MergePost M T P w l) := by
  obtain ⟨i0, hi, hz0, hz1, hz2⟩ := info_parts info28
  obtain ⟨A, n, cap, rfl, hn, hcap, hat⟩ := own_node_at hrow
  have hn40 : n ≤ 40 := by omega
  replace hn := Lib.hid hn
  replace hat := Lib.hid hat
  replace hok := Lib.hid hok
  replace hP := Lib.hid hP
  clear hrow
  go_enter Tryd.func53, Tryd.ntmps53
  go_wp2
  go_loopw [3, 4] (fun v' x4 wr => ∃ (i : Nat) (out : List NCells), i ≤ n ∧ x4 = .int .i64 i ∧ out.length ≤ i ∧ Hid (MrgInv w wr P v' out) ∧ Hid (∀ c ∈ out, okC M c ∧ c.text.size ≤ T * i) ∧ Hid (noTw false (nFo out)) ∧ Hid ((nFo out).size ≤ (nFo (l.take i)).size)) (fun _ x4 _ => n - (Lib.intOf x4).toNat)
  case atStart => exact ⟨0, [], Nat.zero_le _, rfl, Nat.le_refl _, Lib.hid (MrgInv.nil P), Lib.hid (fun c hc => absurd hc (by simp)), Lib.hid trivial, Lib.hid (Nat.le_refl _)⟩
  case round =>
    obtain ⟨i, out, hin, rfl, hol, hmi, hoc, htw, hsz⟩ := hrel
    by_cases hlt : i < n
    · have hil : i < l.length := by have := hn.out; omega
      obtain ⟨g, o, rfl, ho, hog, hg0, hgw, hc⟩ := hat.out i hil
      replace ho := Lib.hid ho
      obtain ⟨c, hcl⟩ : ∃ c, l[i] = c := ⟨_, rfl⟩
      have hmem : c ∈ l := by rw [← hcl]; exact List.getElem_mem hil
      have htk := nFo_take_snoc l i hil
      rw [hcl] at hc htk
      have hB := hmi.out.below
      have c0 := (hB.cell (p := ⟨g, o + i * 5 + 0, none⟩) hgw).trans (hc 0 (by decide)).1
      have c1 := (hB.cell (p := ⟨g, o + i * 5 + 1, none⟩) hgw).trans (hc 1 (by decide)).1
      have c2 := (hB.cell (p := ⟨g, o + i * 5 + 2, none⟩) hgw).trans (hc 2 (by decide)).1
      have c3 := (hB.cell (p := ⟨g, o + i * 5 + 3, none⟩) hgw).trans (hc 3 (by decide)).1
      have c4 := (hB.cell (p := ⟨g, o + i * 5 + 4, none⟩) hgw).trans (hc 4 (by decide)).1
      obtain ⟨⟨Aa, capa, hva, _⟩, Ak, capk, hvk, _⟩ := hP.out c hmem
      obtain ⟨hokc, htxc⟩ := hok.out c hmem
      obtain ⟨kd, nm, al, tx, kids, va, vk⟩ := c
      simp only [NCells.list, List.getElem?_cons_zero, List.getElem?_cons_succ, Nat.add_zero] at c0 c1 c2 c3 c4 hva hvk htxc
      subst hva hvk
      obtain ⟨na, hna⟩ : ∃ na, al.length = na := ⟨_, rfl⟩
      obtain ⟨nk, hnk⟩ : ∃ nk, kids.len = nk := ⟨_, rfl⟩
      rw [hna] at c2
      rw [hnk] at c4
      obtain ⟨Ao, no, capo, rfl, hno, hcapo, hato⟩ := own_node_at hmi.out.own
      replace hno := Lib.hid hno
      replace hato := Lib.hid hato
      replace hna := Lib.hid hna
      replace hnk := Lib.hid hnk
      replace hc := Lib.hid hc
      replace hokc := Lib.hid hokc
      have hi0 : (0 : Int) ≤ (i : Int) := by omega
      have hi1 : (i : Int) < (n : Int) := by omega
      have hol2 : no ≤ 40 := by have := hno.out; omega
      obtain ⟨lk, hlk⟩ : ∃ lk, lastK false out = lk := ⟨_, rfl⟩
      replace hB := Lib.hid hB
      have hown : Hid (wr.ownsRow w.heap.size 28 5 (.slice Ao no capo) no (nCells out)) := Lib.hid (by have := hmi.out.own; rwa [← hno.out] at this)
      have hpush : Hid (∀ (v' : Value) (w8 : World) (x : Obj), (kd = 2 → lk = false) → w8.ownsRow w.heap.size 28 5 v' (no + 1) (nCells out ++ [.int .i64 kd, .string nm, .slice Aa na capa, .string tx, .slice Ak nk capk]) → (wr.alloc x).grownBy w8 (Value.slice Ao no capo).ownBlock →
          ∃ out2 : List NCells, out2.length ≤ i + 1 ∧ Hid (MrgInv w w8 P v' out2) ∧ Hid (∀ c ∈ out2, okC M c ∧ c.text.size ≤ T * (i + 1)) ∧ Hid (noTw false (nFo out2)) ∧ Hid ((nFo out2).size ≤ (nFo (l.take (i + 1))).size)) := Lib.hid (by
        intro v' w8 x hkl hown' hg8
        refine ⟨out ++ [⟨kd, nm, al, tx, kids, .slice Aa na capa, .slice Ak nk capk⟩], by simp; omega, Lib.hid ?_, Lib.hid ?_, Lib.hid ?_, Lib.hid ?_⟩
        · exact hmi.out.push (c := ⟨kd, nm, al, tx, kids, .slice Aa na capa, .slice Ak nk capk⟩) (by have := hP.out _ hmem; rw [hna.out, hnk.out] at this; exact this) (by rw [← hno.out]; exact hown') hg8
        · intro c hc
          rcases List.mem_append.1 hc with hc | hc
          · exact ⟨(hoc.out c hc).1, by have := (hoc.out c hc).2; have hms : T * (i + 1) = T * i + T := Nat.mul_succ T i; omega⟩
          · rw [List.mem_singleton.1 hc]
            exact ⟨hokc.out, by show tx.size ≤ _; have hms : T * (i + 1) = T * i + T := Nat.mul_succ T i; omega⟩
        · exact noTw_snoc _ _ _ htw.out (fun h e => by rw [hlk] at h; have := hkl e; rw [this] at h; cases h)
        · rw [nFo_snoc, htk]
          have := hsz.out
          show (nFo out).size + (1 + kids.size) ≤ (nFo (l.take i)).size + (1 + kids.size)
          omega)
      replace hlk := Lib.hid hlk
      by_cases hk2 : kd = 2
      · subst hk2
        by_cases hte : tx.toList.isEmpty = true
        · go_wp2
          refine ⟨⟨i + 1, out, by omega, by simp, by omega, hmi, Lib.hid (fun c hc => ⟨(hoc.out c hc).1, by have := (hoc.out c hc).2; have hms : T * (i + 1) = T * i + T := Nat.mul_succ T i; omega⟩), htw, Lib.hid (by have := hsz.out; omega)⟩, by simp [Lib.intOf]; omega⟩
        · have hte2 : tx.toList.isEmpty = false := by simpa using hte
          clear hte
          rcases List.eq_nil_or_concat out with ho0 | ⟨out0, d, ho0⟩
          · have hno0 : no = 0 := by rw [hno.out, ho0]; rfl
            obtain ⟨K, hK⟩ : ∃ K : Int, (no : Int) - 1 = K := ⟨_, rfl⟩
            have hKn : ¬ (0 ≤ K) := by omega
            have hlk0 : Hid (lk = false) := Lib.hid (by rw [← hlk.out, ho0]; rfl)
            clear hno0 ho0
            go_wp2_with (at_builtin; refine wpList_append_own_at _ rfl _ _ 23 rfl w.heap.size 28 i0 _ 5 88 Tryd.underlying23 hi hz0 hz1 hz2 rfl (by decide) _ _ _ rfl (hown.out.alloc _) ⟨_, 0, none⟩ 1 1 [.int .i64 2, .string nm, .slice Aa na capa, .string tx, .slice Ak nk capk] rfl rfl (cells_new _ _ _) (by intro u hu; simp at hu; rcases hu with rfl | rfl | rfl | rfl | rfl <;> rfl) (by unfold maxLen; omega) (by omega) (by have := hB.out.size; simp; omega) ?_; intro v' w8 hown' hg8 hnil8 hat8; go_frame)
            obtain ⟨out2, h1, h2, h3, h4, h5⟩ := hpush.out v' w8 _ (fun _ => hlk0.out) hown' hg8
            exact ⟨⟨i + 1, out2, by omega, by simp, h1, h2, h3, h4, h5⟩, by simp [Lib.intOf]; omega⟩
          · obtain ⟨m, hm⟩ : ∃ m, out0.length = m := ⟨_, rfl⟩
            have hnm : no = m + 1 := by rw [hno.out, ho0, List.concat_eq_append, List.length_append, hm]; rfl
            have hkm : (no : Int) - 1 = (m : Int) := by omega
            have hm0 : (0 : Int) ≤ (m : Int) := by omega
            have hm1 : (m : Int) < (no : Int) := by omega
            have hml : m < out.length := by rw [← hno.out]; omega
            have hdm : out[m] = d := (List.getElem_eq_iff hml).2 (by rw [ho0, List.concat_eq_append, List.getElem?_append_right (by omega), hm, Nat.sub_self]; rfl)
            obtain ⟨g2, o2, rfl, ho2, hog2, hg20, hg2w, hc2⟩ := hato.out m hml
            rw [hdm] at hc2
            have b0 := (hc2 0 (by decide)).1
            have b3 := (hc2 3 (by decide)).1
            have bf := (hc2 3 (by decide)).2
            obtain ⟨dk, hdk⟩ : ∃ dk, d.kind = dk := ⟨_, rfl⟩
            obtain ⟨dt, hdt⟩ : ∃ dt, d.text = dt := ⟨_, rfl⟩
            simp only [NCells.list, List.getElem?_cons_zero, List.getElem?_cons_succ, Nat.add_zero, hdk, hdt] at b0 b3
            have hlk1 : lk = decide (dk = 2) := by rw [← hlk.out, ho0, List.concat_eq_append, lastK_snoc, hdk]
            replace hlk1 := Lib.hid hlk1
            replace hc2 := Lib.hid hc2
            replace ho2 := Lib.hid ho2
            replace ho0 := Lib.hid ho0
            replace hdk := Lib.hid hdk
            replace hdt := Lib.hid hdt
            replace hm := Lib.hid hm
            replace hnm := Lib.hid hnm
            by_cases hd2 : dk = 2
            · subst hd2
              have hdz : dt.size ≤ 400000 := by have := (hoc.out d (by rw [ho0.out]; simp)).2; rw [hdt.out] at this; have := Nat.mul_le_mul hT (show i ≤ 40 by omega); omega
              have hsum : dt.size + tx.size ≤ maxLen := by unfold maxLen; omega
              go_upto_region 8 with fail
              go_region
              go_wp2
              have e1 : out = out0 ++ [d] := by rw [ho0.out, List.concat_eq_append]
              have hmi2 := hmi.out
              rw [e1] at hmi2
              have hset := hmi2.text (g := g2) rfl (dt ++ tx)
              rw [hm.out, show m * 5 + 3 = o2 + m * 5 + 3 by rw [ho2.out]; omega] at hset
              refine ⟨⟨i + 1, out0 ++ [{ d with text := dt ++ tx }], by omega, by simp, ?_, Lib.hid hset.drew, Lib.hid ?_, Lib.hid ?_, Lib.hid ?_⟩, by simp [Lib.intOf]; omega⟩
              · rw [e1] at hol
                simp at hol ⊢
                omega
              · intro c hc
                rcases List.mem_append.1 hc with hc | hc
                · have := hoc.out c (by rw [e1]; simp [hc])
                  exact ⟨this.1, by have hms : T * (i + 1) = T * i + T := Nat.mul_succ T i; omega⟩
                · rw [List.mem_singleton.1 hc]
                  have := hoc.out d (by rw [e1]; simp)
                  rw [hdt.out] at this
                  exact ⟨this.1, by show (dt ++ tx).size ≤ _; rw [ByteArray.size_append]; have hms : T * (i + 1) = T * i + T := Nat.mul_succ T i; omega⟩
              · have := htw.out
                rw [e1] at this
                exact noTw_text _ _ _ _ this
              · have := hsz.out
                rw [e1, nFo_snoc] at this
                rw [nFo_snoc, htk]
                show _ + (1 + d.kids.size) ≤ _
                omega
            · go_wp2_with (at_builtin; refine wpList_append_own_at _ rfl _ _ 23 rfl w.heap.size 28 i0 _ 5 88 Tryd.underlying23 hi hz0 hz1 hz2 rfl (by decide) _ _ _ rfl (hown.out.alloc _) ⟨_, 0, none⟩ 1 1 [.int .i64 2, .string nm, .slice Aa na capa, .string tx, .slice Ak nk capk] rfl rfl (cells_new _ _ _) (by intro u hu; simp at hu; rcases hu with rfl | rfl | rfl | rfl | rfl <;> rfl) (by unfold maxLen; omega) (by omega) (by have := hB.out.size; simp; omega) ?_; intro v' w8 hown' hg8 hnil8 hat8; go_frame)
              obtain ⟨out2, h1, h2, h3, h4, h5⟩ := hpush.out v' w8 _ (fun _ => by rw [hlk1.out]; exact decide_eq_false hd2) hown' hg8
              exact ⟨⟨i + 1, out2, by omega, by simp, h1, h2, h3, h4, h5⟩, by simp [Lib.intOf]; omega⟩
      · go_wp2_with (at_builtin; refine wpList_append_own_at _ rfl _ _ 23 rfl w.heap.size 28 i0 _ 5 88 Tryd.underlying23 hi hz0 hz1 hz2 rfl (by decide) _ _ _ rfl (hown.out.alloc _) ⟨_, 0, none⟩ 1 1 [.int .i64 kd, .string nm, .slice Aa na capa, .string tx, .slice Ak nk capk] rfl rfl (cells_new _ _ _) (by intro u hu; simp at hu; rcases hu with rfl | rfl | rfl | rfl | rfl <;> rfl) (by unfold maxLen; omega) (by omega) (by have := hB.out.size; simp; omega) ?_; intro v' w8 hown' hg8 hnil8 hat8; go_frame)
        obtain ⟨out2, h1, h2, h3, h4, h5⟩ := hpush.out v' w8 _ (fun h => absurd h hk2) hown' hg8
        exact ⟨⟨i + 1, out2, by omega, by simp, h1, h2, h3, h4, h5⟩, by simp [Lib.intOf]; omega⟩
    · go_wp2
      go_ret
      have hin3 : i = n := by omega
      refine ⟨_, out, rfl, hmi.out, fun c hc => ⟨(hoc.out c hc).1, ?_⟩, htw.out, ?_⟩
      · exact Nat.le_trans (hoc.out c hc).2 (Nat.mul_le_mul_left _ (by omega))
      · have := hsz.out
        rwa [hin3, hn.out, List.take_length] at this
/-- The same, of a row that is being made. -/
theorem merge3_row (M T : Nat) (hT : T ≤ 10000) (w0 w : World) (v : Value) (l : List NCells) (hinv : RowInv w0 w v l) (hl : l.length ≤ 40) (hok : ∀ c ∈ l, okC M c ∧ c.text.size ≤ T) : Calls Tryd.prog 53 #[v] w fun e w' =>
    ∃ (v' : Value) (out : List NCells), e = .returned v' ∧ RowInv w0 w' v' out ∧ (∀ c ∈ out, okC M c ∧ c.text.size ≤ T * 40) ∧ noTw false (nFo out) ∧ (nFo out).size ≤ (nFo l).size := by
  obtain ⟨P, hP, hPn, _⟩ := hinv.kids
  refine (merge3_any M T hT w w0.heap.size P v l hinv.own hP hl hok).mono ?_
  rintro e w' ⟨v', out, rfl, h1, h2, h3, h4⟩
  exact ⟨v', out, rfl, h1.row hPn hinv.below, h2, h3, h4⟩
end Go.Proofs.YtghlodpbbghcoaaDoor
