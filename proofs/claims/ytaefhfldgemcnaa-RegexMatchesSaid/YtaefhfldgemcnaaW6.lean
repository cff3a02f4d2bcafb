/- Walks over nets, sixth part: what is reached from a set. -/
import Derived.Test.YtaefhfldgemcnaaW5b
import Derived.WalkMore
import Derived.ScopeJumps
namespace Go.Proofs.Ytaefhfldgemcnaa
open Go.RowKit

theorem own_ne {w : World} {base : Nat} {e t : TypeId} {size n g : Nat} {v : Value} {xs : List Value} {cs : Array Value} (h : w.ownsRow base e size v n xs) (hg : w.heap[g]? = some (.cells cs t (0, 0))) (hne : e ≠ t) : v.ownBlock ≠ some g := by
  rcases h.2 with ⟨rfl, _⟩ | ⟨g', cap, cur, rfl, _, hh, _⟩
  · simp [Value.ownBlock]
  · intro he
    have : g' = g := by simpa [Value.ownBlock] using he
    subst this
    rw [hg] at hh
    injection hh with hh
    injection hh with _ ht
    exact hne ht.symm
theorem own_ne_row {w : World} {base : Nat} {e t : TypeId} {size n g m : Nat} {v : Value} {xs : List Value} {f : Nat → Value} (h : w.ownsRow base e size v n xs) (hg : w.rowIs g t m f) (hne : e ≠ t) : v.ownBlock ≠ some g := by
  obtain ⟨c, hc, _⟩ := hg
  exact own_ne h hc hne
theorem own_ne_lt {w : World} {base : Nat} {e : TypeId} {size n g : Nat} {v : Value} {xs : List Value} (h : w.ownsRow base e size v n xs) (hg : g < base) : v.ownBlock ≠ some g := by
  intro he
  have := h.lt g he
  omega
theorem blk_grown {w w' : World} {g : Nat} {o : Obj} {row : Option Nat} (h : w.heap[g]? = some o) (hg : w.grownBy w' row) (hne : row ≠ some g) : w'.heap[g]? = some o := (hg.block g (blk_lt h) (Ne.symm hne)).trans h
theorem rowIs_grown {w w' : World} {g n : Nat} {t : TypeId} {f : Nat → Value} {row : Option Nat} (h : w.rowIs g t n f) (hg : w.grownBy w' row) (hne : row ≠ some g) : w'.rowIs g t n f := h.of_block (hg.block g h.lt (Ne.symm hne))

/-- A scope that begins with its label: what holds at the label whenever the run comes there, and a measure that each pass lowers. -/
theorem wp_scope_label {P : Program} {a : Act} {w : World} {Q : Exit → Act → World → Prop} {C rest : Code} {l : Nat} (J : Act → World → Prop) (μ : Act → World → Nat) (hC : findLabel C l = none)
    (first : C.wp P (Exit.then J (Exit.jump l J Q)) a w)
    (pass : ∀ a w, J a w → rest.wp P (Exit.jump l (fun a' w' => J a' w' ∧ μ a' w' < μ a w) Q) a w) : (Code.scope (C.seq ((Code.label l).seq rest))).wp P Q a w := by
  refine wp_scope_jumps l J μ (rest := .seq .skip rest) (by simp [findLabel, hC]) ?_ ?_
  · refine wp_seq (wp_mono first ?_)
    intro e a' w' h
    cases e with
    | normal =>
      refine wp_seq (wp_label ?_)
      refine wp_mono (pass _ _ h) ?_
      intro e a w q
      cases e with
      | goto l' => exact ⟨q.1, q.2.1⟩
      | _ => exact q
    | _ => exact h
  · intro a w h
    exact wp_seq (wp_skip (pass a w h))

/-- What stays while a set grows: the edges by states, and the box that holds where they lie. -/
structure GFix (w wr : World) (by_ : Edge → Bool) (es : List Edge) (st H L : Nat) (A : Option Addr) (c : Nat) : Prop where
  gr : GraphAt wr by_ es st es.length H L
  box : wr.heap[w.heap.size]? = some (.cells #[.slice A es.length c, .slice (some ⟨H, 0, none⟩) st st, .slice (some ⟨L, 0, none⟩) es.length es.length] 61 (0, 0))
namespace GFix
variable {w wr wx : World} {by_ : Edge → Bool} {es : List Edge} {st H L : Nat} {A : Option Addr} {c : Nat}
theorem c0 (h : GFix w wr by_ es st H L A c) : wr.cell? ⟨w.heap.size, 0, none⟩ = some (.slice A es.length c) := blk_cell h.box 0
theorem c1 (h : GFix w wr by_ es st H L A c) : wr.cell? ⟨w.heap.size, 1, none⟩ = some (.slice (some ⟨H, 0, none⟩) st st) := blk_cell h.box 1
theorem c2 (h : GFix w wr by_ es st H L A c) : wr.cell? ⟨w.heap.size, 2, none⟩ = some (.slice (some ⟨L, 0, none⟩) es.length es.length) := blk_cell h.box 2
theorem set (h : GFix w wr by_ es st H L A c) {p : Addr} (hH : H ≠ p.block) (hL : L ≠ p.block) (hw : w.heap.size ≠ p.block) (u : Value) : GFix w (wr.setCell p u) by_ es st H L A c :=
  ⟨⟨h.gr.head.setOther hH u, h.gr.link.setOther hL u⟩, blk_set h.box hw u⟩
theorem grown (h : GFix w wr by_ es st H L A c) {row : Option Nat} (hg : wr.grownBy wx row) (hH : row ≠ some H) (hL : row ≠ some L) (hw : row ≠ some w.heap.size) : GFix w wx by_ es st H L A c :=
  ⟨⟨rowIs_grown h.gr.head hg hH, rowIs_grown h.gr.link hg hL⟩, blk_grown h.box hg hw⟩
theorem drewN (h : GFix w wr by_ es st H L A c) (n : Nat) : GFix w (wr.drewN n) by_ es st H L A c := ⟨⟨h.gr.head, h.gr.link⟩, h.box⟩
end GFix
theorem rowIs_drewN {w : World} {b : Nat} {t : TypeId} {n : Nat} {f : Nat → Value} (h : w.rowIs b t n f) (k : Nat) : (w.drewN k).rowIs b t n f := h

structure GInv (w wr : World) (by_ : Edge → Bool) (es : List Edge) (st H L I : Nat) (A : Option Addr) (c : Nat) (xs0 xs : List Int) (k : Nat) (v : Value) : Prop where
  own : OwnI wr (I + 1) xs v
  inv : CInv by_ es st (· ∈ xs0) xs k
  row : wr.rowIs I 4 st (fun q => .bool (hasB xs (q : Int)))
  fix_ : GFix w wr by_ es st H L A c
  bel : Below I w wr
  nH : v.ownBlock ≠ some H
  nL : v.ownBlock ≠ some L

set_option maxHeartbeats 3200000 in
theorem grow_any (by_ : Edge → Bool) (es : List Edge) (st H L I : Nat) (A : Option Addr) (c : Nat) (xs0 : List Int) (v2 : Value) (w : World) (hst : st ≤ 500) (hne : es.length ≤ 1000000)
    (hes : ∀ e ∈ es, e.ok (st : Int) = true) (hE : EdgesAt w I A es) (hgr : GraphAt w by_ es st es.length H L) (hHI : H ≠ I) (hLI : L ≠ I) (hvH : v2.ownBlock ≠ some H) (hvL : v2.ownBlock ≠ some L)
    (hin : w.rowIs I 4 st (fun q => .bool (hasB xs0 (q : Int)))) (hown : w.ownsRow (I + 1) 3 1 v2 xs0.length (xs0.map (Value.int .i64)))
    (hnd : xs0.Nodup) (hrng : ∀ q ∈ xs0, 0 ≤ q ∧ q < (st : Int)) :
    Calls Try.prog 45 #[.agg #[.slice A es.length c, .slice (some ⟨H, 0, none⟩) st st, .slice (some ⟨L, 0, none⟩) es.length es.length], .slice (some ⟨I, 0, none⟩) st st, v2] w fun e w' =>
      (∃ v xs, e = .returned v ∧ OwnI w' (I + 1) xs v ∧ CInv by_ es st (· ∈ xs0) xs xs.length ∧ w'.rowIs I 4 st (fun q => .bool (hasB xs (q : Int)))) ∧ Below I w w' := by
  have Hes := Lib.hid hes
  have Hin := Lib.hid hin
  clear hes hin
  have hI := Hin.out.lt
  have hHw := hgr.head.lt
  have hLw := hgr.link.lt
  go_enter Try.func45, Try.ntmps45
  go_wp2
  refine wp_scope_label (fun a' w' => ∃ (k : Nat) (xs : List Int) (v : Value) (u8 u9 u10 u11 u12 u13 u14 u15 u16 u17 u18 u19 u20 u21 u22 u23 u24 u25 u26 u27 u28 u29 u30 u31 u32 u33 u34 u35 u36 u37 u38 u39 u40 u41 u42 u43 u44 u45 u46 u47 u48 u49 u50 u51 : Value), a' = { tmps := #[.agg #[.slice A es.length c, .slice (some ⟨H, 0, none⟩) st st, .slice (some ⟨L, 0, none⟩) es.length es.length], .slice (some ⟨I, 0, none⟩) st st, v, .pointer (some ⟨w.heap.size, 0, none⟩), undef, undef, .slice none 0 0, .int .i64 k, u8, u9, u10, u11, u12, u13, u14, u15, u16, u17, u18, u19, u20, u21, u22, u23, u24, u25, u26, u27, u28, u29, u30, u31, u32, u33, u34, u35, u36, u37, u38, u39, u40, u41, u42, u43, u44, u45, u46, u47, u48, u49, u50, u51], defers := [] } ∧
    k ≤ xs.length ∧ GInv w w' by_ es st H L I A c xs0 xs k v) (fun a' _ => st - (intOf (a'.tmps.getD 7 undef)).toNat) rfl ?_ ?_
  · go_wp2
    refine ⟨0, xs0, v2, _, _, _, _, _, _, _, _, _, _, _, _, _, _, _, _, _, _, _, _, _, _, _, _, _, _, _, _, _, _, _, _, _, _, _, _, _, _, _, _, _, _, _, _, rfl, Nat.zero_le _, ?_⟩
    exact ⟨ownI_of (hown.alloc _) (Nat.le_refl _), CInv.start hnd hrng (fun _ => Iff.rfl), Hin.out.alloc _, ⟨⟨hgr.head.alloc _, hgr.link.alloc _⟩, blk_new _ _⟩, (Below.refl _ _).alloc (by omega) _, hvH, hvL⟩
  · rintro a' wr ⟨k, xs, v, u8, u9, u10, u11, u12, u13, u14, u15, u16, u17, u18, u19, u20, u21, u22, u23, u24, u25, u26, u27, u28, u29, u30, u31, u32, u33, u34, u35, u36, u37, u38, u39, u40, u41, u42, u43, u44, u45, u46, u47, u48, u49, u50, u51, rfl, hk, hinv⟩
    obtain ⟨A2, c2, rfl, hown2⟩ := hinv.own
    have hlen : (xs.length : Int) ≤ st := hinv.inv.length (by omega)
    have hfix := hinv.fix_
    have g0 := hfix.c0
    have g1 := hfix.c1
    have g2 := hfix.c2
    have hbl := blk_lt hfix.box
    by_cases hlt : k < xs.length
    · obtain ⟨b4, o4, q, rfl, _, hq, hcell⟩ := int_at (CellsAt.of_own hown2) (Below.refl _ _) hlt
      have hqr := hinv.inv.rng q (List.mem_of_getElem? hq.out)
      obtain ⟨qn, hqn⟩ := Int.eq_ofNat_of_zero_le hqr.1
      rw [hqn] at hcell
      have Hqn := Lib.hid hqn
      have hqs : qn < st := by omega
      clear hqn hqr
      have hHc := hfix.gr.head.cell hqs
      obtain ⟨p, hp⟩ : ∃ p : Nat, p = prevIdx by_ es (qn : Int) es.length := ⟨_, rfl⟩
      rw [← hp] at hHc
      have Hp := Lib.hid hp
      clear hp
      go_wp2
      go_quiet (fail)
      go_wp2
      clear hHc g0 g1 g2 hcell hbl
      go_loopw [2, 8] (fun v at_ wi => ∃ (a i' : Nat) (ys : List Int), at_ = .int .i64 a ∧ Hid (a = prevIdx by_ es (qn : Int) i') ∧ OwnI wi (I + 1) ys v ∧ Hid (CIr by_ es st (· ∈ xs0) ys k (qn : Int) i') ∧ wi.rowIs I 4 st (fun q => .bool (hasB ys (q : Int))) ∧ GFix w wi by_ es st H L A c ∧ Below I w wi ∧ v.ownBlock ≠ some H ∧ v.ownBlock ≠ some L) (fun _ at_ _ => (intOf at_).toNat)
      case atStart => exact ⟨p, es.length, xs, rfl, Hp, ⟨_, _, rfl, hown2.drewN _⟩, CIr.start hinv.inv (by rw [hq.out, Hqn.out]), rowIs_drewN hinv.row _, hfix.drewN _, below_drewN hinv.bel _, hinv.nH, hinv.nL⟩
      case round =>
        clear hfix hown2 hinv
        obtain ⟨a, i', ys, rfl, ha, ⟨A3, c3, rfl, hown3⟩, hcir, hrow, hfix, hbel, hnH, hnL⟩ := hrel
        have hylen : (ys.length : Int) ≤ st := hcir.out.inv.length (by omega)
        have hyk : k < ys.length := (List.getElem?_eq_some_iff.1 hcir.out.at_).1
        have g0 := hfix.c0
        have g1 := hfix.c1
        have g2 := hfix.c2
        have hbl := blk_lt hfix.box
        rcases Nat.eq_zero_or_pos a with h0 | h0
        · have hz : ((a : Int) != 0) = false := by simp [h0]
          have hinv' := hcir.out.end_ (by rw [← ha.out]; exact h0)
          have Hinv := Lib.hid hinv'
          clear hinv' h0
          go_wp2
          go_step3
          rw [show (k : Int) + 1 = ((k + 1 : Nat) : Int) from by omega]
          refine ⟨rfl, ⟨k + 1, ys, _, _, _, _, _, _, _, _, _, _, _, _, _, _, _, _, _, _, _, _, _, _, _, _, _, _, _, _, _, _, _, _, _, _, _, _, _, _, _, _, _, _, _, _, _, rfl, by omega, ⟨⟨_, _, rfl, hown3⟩, Hinv.out, hrow, hfix, hbel, hnH, hnL⟩⟩, ?_⟩
          simp [intOf]
          omega
        · obtain ⟨j, rfl⟩ : ∃ j, a = j + 1 := ⟨a - 1, by omega⟩
          rw [show ((j + 1 : Nat) : Int) = (j : Int) + 1 from by omega]
          have hz : ((j : Int) + 1 != 0) = true := by simp; omega
          obtain ⟨e, he, hby, hf, hji, _⟩ := prevIdx_some ha.out.symm
          have hj : j < es.length := (List.getElem?_eq_some_iff.1 he).1
          obtain ⟨bb, o, e', rfl, hbb, he', e0, e1, e2, e3⟩ := edge_at hE hbel hj
          have hee : e' = e := by
            have := he'.out
            rw [he] at this
            injection this with this
            exact this.symm
          subst hee
          obtain ⟨_, ht0, ht1⟩ := ok_iff.1 (Hes.out e' (List.mem_of_getElem? he))
          obtain ⟨tn, htn⟩ := Int.eq_ofNat_of_zero_le ht0
          rw [htn] at e1 ht1
          have Htn := Lib.hid htn
          have hts : tn < st := by omega
          have He := Lib.hid he
          have hlk : linkF by_ es es.length j = prevIdx by_ es (qn : Int) j := by
            unfold linkF
            rw [if_pos hj, he]
            simp [hby, hf]
          clear htn ht0 he hby hf e0 e2 e3
          have hIc := hrow.cell hts
          have hIf := hrow.frozen tn
          have hLc := hfix.gr.link.cell hj
          rw [hlk] at hLc
          obtain ⟨p', hp'⟩ : ∃ p' : Nat, p' = prevIdx by_ es (qn : Int) j := ⟨_, rfl⟩
          rw [← hp'] at hLc
          have Hlk := Lib.hid hlk
          have Hp' := Lib.hid hp'
          have hpj := prevIdx_le by_ es (qn : Int) j
          rw [← hp'] at hpj
          clear hlk hp'
          cases hm : hasB ys tn with
          | true =>
            rw [hm] at hIc
            go_wp2
            go_roundw
            case rel =>
              refine ⟨p', j, ys, rfl, Hp', ⟨_, _, rfl, hown3⟩, hcir.out.next ha.out.symm (fun e'' he'' => ?_), hrow, hfix, hbel, hnH, hnL⟩
              rw [He.out] at he''
              injection he'' with he''
              subst he''
              rw [Htn.out]
              exact hasB_iff.1 hm
            case measure => simp [intOf]; omega
          | false =>
            rw [hm] at hIc
            have HF : Hid (∀ wx, (wr.setCell ⟨I, tn, none⟩ (.bool true)).grownBy wx (Value.slice A3 ys.length c3).ownBlock → GFix w wx by_ es st H L (some ⟨bb, o, none⟩) c) := fun wx hg =>
              (hfix.set (p := ⟨I, tn, none⟩) (by simp; omega) (by simp; omega) (by simp; omega) _).grown hg hnH hnL (own_ne hown3 hfix.box (by decide))
            have HL : Hid (∀ wx, GFix w wx by_ es st H L (some ⟨bb, o, none⟩) c → wx.cell? ⟨L, j, none⟩ = some (.int .i64 p')) := fun wx hx => by
              have := hx.gr.link.cell hj
              rw [Hlk.out, ← Hp'.out] at this
              exact this
            go_wp2_with (at_builtin; refine wpList_append_new_at info3 Try.underlying36 rfl (by decide) (by decide) _ (ownsRow_setCell_below hown3 (a := ⟨I, tn, none⟩) (by simp) _) 1 rfl _ _ rfl rfl rfl (by simp) rfl rfl (by omega) ?_ ?_; (simp; omega); intro v' w' hown' hbel' hgt hgrow hat; have Hat := Lib.hid hat; clear hat; have f' := HF.out w' hgrow; have g0' := f'.c0; have g1' := f'.c1; have g2' := f'.c2; have hL' := HL.out w' f')
            go_roundw
            case rel =>
              refine ⟨p', j, ys ++ [(tn : Int)], rfl, Hp', ownI_of (by simpa using hown') (Nat.le_refl _), ?_, ?_, f', (hbel.setCell (p := ⟨I, tn, none⟩) (Nat.le_refl _) _).trans (hbel'.mono (by omega)), fun h => ?_, fun h => ?_⟩
              · have := hcir.out.push Hes.out ha.out.symm He.out (fun h => by rw [Htn.out, ← hasB_iff, hm] at h; cases h)
                rw [Htn.out] at this
                exact this
              · refine World.rowIs.congr (rowIs_grown (hrow.set tn _) hgrow (own_ne_lt hown3 (by omega))) ?_
                intro x hx
                by_cases hxt : x = tn
                · subst hxt
                  rw [if_pos rfl, hasB_yes (by simp)]
                · rw [if_neg hxt]
                  congr 1
                  rw [Bool.eq_iff_iff, hasB_iff, hasB_iff]
                  simp only [List.mem_append, List.mem_singleton]
                  constructor
                  · exact Or.inl
                  · rintro (h | h)
                    · exact h
                    · exact absurd (by omega) hxt
              · rcases Hat.out _ h with h | h
                · exact hnH h
                · simp at h; omega
              · rcases Hat.out _ h with h | h
                · exact hnL h
                · simp at h; omega
            case measure => simp [intOf]; omega
    · go_wp2
      simp only [Exit.jump]
      go_ret
      have hkk : k = xs.length := by omega
      subst hkk
      exact ⟨⟨_, xs, rfl, ⟨_, _, rfl, hown2⟩, hinv.inv, hinv.row⟩, hinv.bel⟩
end Go.Proofs.Ytaefhfldgemcnaa
