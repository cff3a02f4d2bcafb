/- Nodes that fit, by the document: walked. -/
import Derived.Test.YtghlodpbbghcoaaDoorN27
import Derived.Test.YtghlodpbbghcoaaDoorN34
namespace Go.Proofs.YtghlodpbbghcoaaDoor
open Go.Lib Go.RowKit
/-- Those that fit: old nodes in a new row. -/
def FitPost (M : Nat) (w : World) (P : Nat → Prop) (f : Fo) (e : Ending) (w' : World) : Prop :=
  ∃ (v : Value) (out : List NCells), e = .returned v ∧ StInv w P w' v out ∧ (∀ c ∈ out, okC M c ∧ c.text.size ≤ M) ∧ (nFo out).size ≤ f.size

set_option maxRecDepth 100000 in
set_option maxHeartbeats 6400000 in
theorem fitting55_any (parent : ByteArray) (hp : parent.size ≤ 1000) (M : Nat) (hM : M ≤ 500000) (f : Fo) (hf : okF M f) (hl : f.len ≤ 1000) (A : Option Addr) (cap : Nat) (P : Nat → Prop) (w : World) (hPw : ∀ k, P k → k < w.heap.size) (hcap : f.len ≤ cap)
    (hrow : 0 < f.len → ∃ b o, A = some ⟨b, o, none⟩ ∧ NRow w P b o f) : Calls Tryd.prog 55 #[.string parent, .slice A f.len cap] w (FitPost M w P f) := by
  obtain ⟨i0, hi, hz0, hz1, hz2⟩ := info_parts info28
  obtain ⟨l, hlf, hat⟩ : ∃ l : List NCells, nFo l = f ∧ (0 < l.length → ∃ b o, A = some ⟨b, o, none⟩ ∧ P b ∧ (∀ c ∈ l, c.Fine w P) ∧ ∀ i (h : i < l.length), ∀ j, j < 5 → w.cell? ⟨b, o + i * 5 + j, none⟩ = l[i].list[j]?) := by
    by_cases h0 : 0 < f.len
    · obtain ⟨b, o, e, h⟩ := hrow h0
      obtain ⟨l, hl, hfi, ha⟩ := h.cells
      exact ⟨l, hl, fun hp => ⟨b, o, e, (ha 0 hp).1, hfi, fun i hi => (ha i hi).2⟩⟩
    · cases f with
      | nil => exact ⟨[], rfl, fun h => absurd h (by simp)⟩
      | node => simp [Fo.len] at h0
  have hok := okF_mem l (by rw [hlf]; exact hf)
  have hln := nFo_len l
  rw [hlf] at hln
  obtain ⟨n, hn⟩ : ∃ n, f.len = n := ⟨_, rfl⟩
  rw [hn] at hln hcap hl ⊢
  replace hln := Lib.hid hln
  replace hlf := Lib.hid hlf
  replace hat := Lib.hid hat
  replace hok := Lib.hid hok
  replace hPw := Lib.hid hPw
  clear hrow hf hn
  go_enter Tryd.func55, Tryd.ntmps55
  go_wp2
  go_loopw [5, 6] (fun v' x6 wr => ∃ (i : Nat) (out : List NCells), i ≤ n ∧ x6 = .int .i64 i ∧ out.length ≤ i ∧ Hid (StInv w P wr v' out) ∧ Hid (∀ c ∈ out, okC M c ∧ c.text.size ≤ M) ∧ Hid ((nFo out).size ≤ (nFo (l.take i)).size)) (fun _ x6 _ => n - (Lib.intOf x6).toNat)
  case atStart => exact ⟨0, [], Nat.zero_le _, rfl, Nat.le_refl _, Lib.hid (StInv.nil w P), Lib.hid (fun c hc => absurd hc (by simp)), Lib.hid (Nat.le_refl _)⟩
  case round =>
    obtain ⟨i, out, hin, rfl, hol, hst, hoc, hsz⟩ := hrel
    obtain ⟨v, hv⟩ : ∃ v, v = u5 := ⟨_, rfl⟩
    rw [← hv] at hst ⊢
    clear hv
    by_cases hlt : i < n
    · have hil : i < l.length := by have := hln.out; omega
      obtain ⟨b, o, rfl, hPb, hfin, hc⟩ := hat.out (by omega)
      have hbw := hPw.out b hPb
      obtain ⟨c, hcl⟩ : ∃ c, l[i] = c := ⟨_, rfl⟩
      have hmem : c ∈ l := by rw [← hcl]; exact List.getElem_mem hil
      have htk := nFo_take_snoc l i hil
      have hci := hc i hil
      rw [hcl] at hci htk
      have hB := hst.out.below
      have c0 := (hB.cell (p := ⟨b, o + i * 5 + 0, none⟩) hbw).trans (hci 0 (by decide))
      have c1 := (hB.cell (p := ⟨b, o + i * 5 + 1, none⟩) hbw).trans (hci 1 (by decide))
      have c2 := (hB.cell (p := ⟨b, o + i * 5 + 2, none⟩) hbw).trans (hci 2 (by decide))
      have c3 := (hB.cell (p := ⟨b, o + i * 5 + 3, none⟩) hbw).trans (hci 3 (by decide))
      have c4 := (hB.cell (p := ⟨b, o + i * 5 + 4, none⟩) hbw).trans (hci 4 (by decide))
      have hcf := hfin c hmem
      obtain ⟨⟨Aa, capa, hva, _⟩, Ak, capk, hvk, _⟩ := id hcf
      obtain ⟨hokc, htxc⟩ := hok.out c hmem
      obtain ⟨kd, nm, al, tx, kids, va, vk⟩ := c
      simp only [NCells.list, List.getElem?_cons_zero, List.getElem?_cons_succ, Nat.add_zero] at c0 c1 c2 c3 c4 hva hvk htxc
      subst hva hvk
      obtain ⟨na, hna⟩ : ∃ na, al.length = na := ⟨_, rfl⟩
      obtain ⟨nk, hnk⟩ : ∃ nk, kids.len = nk := ⟨_, rfl⟩
      rw [hna] at c2
      rw [hnk] at c4
      have hi0 : (0 : Int) ≤ (i : Int) := by omega
      have hi1 : (i : Int) < (n : Int) := by omega
      have hol2 : out.length ≤ 1000 := by omega
      have hbr : Hid (b < wr.heap.size) := Lib.hid (Nat.lt_of_lt_of_le hbw hB.size)
      obtain ⟨fb, hfb⟩ : ∃ fb, fitsB parent kd nm tx = fb := ⟨_, rfl⟩
      have hfits := fits58_any parent kd nm tx Aa Ak na nk capa capk wr hp (Nat.le_trans htxc hM)
      rw [hfb] at hfits
      have hfin2 : Hid (∀ w7, Below wr.heap.size wr w7 → NCells.Fine w7 P ⟨kd, nm, al, tx, kids, .slice Aa na capa, .slice Ak nk capk⟩ ∧ StInv w P w7 v out) := Lib.hid (fun w7 hb7 => by
        refine ⟨?_, hst.out.carry hPw.out hb7⟩
        have h1 : Below w.heap.size w w7 := hst.out.below.trans (hb7.mono hst.out.below.size)
        have := hcf.move (Stays.below h1 hPw.out) (fun _ h => h)
        rw [hna, hnk] at this
        exact this)
      have hgrow : Hid (∀ (v' : Value) (w7 w8 : World) (x : Obj), Below wr.heap.size wr w7 → w8.ownsRow w.heap.size 28 5 v' (out.length + 1) (nCells out ++ [.int .i64 kd, .string nm, .slice Aa na capa, .string tx, .slice Ak nk capk]) → (w7.alloc x).grownBy w8 v.ownBlock → (v'.ownBlock = v.ownBlock ∨ v'.ownBlock = some (w7.alloc x).heap.size) →
          ∃ out2 : List NCells, out2.length ≤ i + 1 ∧ Hid (StInv w P w8 v' out2) ∧ Hid (∀ c ∈ out2, okC M c ∧ c.text.size ≤ M) ∧ Hid ((nFo out2).size ≤ (nFo (l.take (i + 1))).size)) := Lib.hid (by
        intro v' w7 w8 x hb7 hown' hg8 hat8
        obtain ⟨hf7, hs7⟩ := hfin2.out w7 hb7
        refine ⟨out ++ [⟨kd, nm, al, tx, kids, .slice Aa na capa, .slice Ak nk capk⟩], by simp; omega, Lib.hid ?_, Lib.hid ?_, Lib.hid ?_⟩
        · exact hs7.push hPw.out hf7 (fun k hk => ⟨.inl hk, fun e => by have := (hs7.own.lt k e).1; have := hPw.out k hk; omega⟩) hown' hg8 hat8
        · intro c hc
          rcases List.mem_append.1 hc with hc | hc
          · exact hoc.out c hc
          · rw [List.mem_singleton.1 hc]
            exact ⟨hokc, htxc⟩
        · rw [nFo_snoc, htk]
          have := hsz.out
          show (nFo out).size + (1 + kids.size) ≤ (nFo (l.take i)).size + (1 + kids.size)
          omega)
      have hskip : Hid ((nFo out).size ≤ (nFo (l.take (i + 1))).size) := Lib.hid (by rw [htk]; have := hsz.out; omega)
      replace hokc := Lib.hid hokc
      clear hcl hmem htk hci hB hcf hna hnk hfb hc hfin
      go_upto_if 20 with (go_at_call 58; refine hfits.mono ?_; rintro e5 w5 ⟨rfl, hB5⟩)
      replace hB5 := Lib.hid hB5
      cases fb with
      | false =>
        go_wp2
        exact ⟨⟨i + 1, out, by omega, by simp, by omega, Lib.hid (hfin2.out w5 hB5.out).2, hoc, hskip⟩, by simp [Lib.intOf]; omega⟩
      | true =>
        have y0 := (hB5.out.cell (p := ⟨b, o + i * 5, none⟩) hbr.out).trans c0
        have y1 := (hB5.out.cell (p := ⟨b, o + i * 5 + 1, none⟩) hbr.out).trans c1
        have y2 := (hB5.out.cell (p := ⟨b, o + i * 5 + 2, none⟩) hbr.out).trans c2
        have y3 := (hB5.out.cell (p := ⟨b, o + i * 5 + 3, none⟩) hbr.out).trans c3
        have y4 := (hB5.out.cell (p := ⟨b, o + i * 5 + 4, none⟩) hbr.out).trans c4
        have hs5 := Lib.hid (hfin2.out w5 hB5.out).2
        clear c0 c1 c2 c3 c4
        go_wp2_with (at_builtin; refine wpList_append_own_at _ rfl _ _ 23 rfl w.heap.size 28 i0 _ 5 88 Tryd.underlying23 hi hz0 hz1 hz2 rfl (by decide) v out.length (nCells out) rfl (hs5.out.own.alloc _) ⟨_, 0, none⟩ 1 1 [.int .i64 kd, .string nm, .slice Aa na capa, .string tx, .slice Ak nk capk] rfl rfl (cells_new _ _ _) (by intro u hu; simp at hu; rcases hu with rfl | rfl | rfl | rfl | rfl <;> rfl) (by unfold maxLen; omega) (by omega) (by have := hs5.out.below.size; simp; omega) ?_; intro v' w8 hown' hg8 hnil8 hat8; go_frame)
        obtain ⟨out2, h1, h2, h3, h4⟩ := hgrow.out v' w5 w8 _ hB5.out hown' hg8 hat8
        exact ⟨⟨i + 1, out2, by omega, by simp, h1, h2, h3, h4⟩, by simp [Lib.intOf]; omega⟩
    · go_wp2
      go_ret
      have hin3 : i = n := by omega
      refine ⟨_, out, rfl, hst.out, hoc.out, ?_⟩
      have := hsz.out
      rwa [hin3, hln.out, List.take_length, hlf.out] at this
end Go.Proofs.YtghlodpbbghcoaaDoor
