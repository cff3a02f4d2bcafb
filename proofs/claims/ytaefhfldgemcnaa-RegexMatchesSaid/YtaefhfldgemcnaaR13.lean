/- Walks over expressions, thirteenth part: what is reached by edges that take none. -/
import Derived.Test.YtaefhfldgemcnaaP3
import Derived.Test.YtaefhfldgemcnaaR12
namespace Go.Proofs.Ytaefhfldgemcnaa
open Go.RowKit

/-- The edges by the states that they go out of: a row of rows. -/
structure OutAt (w : World) (O st : Nat) (es : List Edge) (R : Nat → Value) : Prop where
  out : w.rowIs O 22 st R
  row : ∀ q, q < st → ∃ A c, R q = .slice A (rowQ es q).length c ∧ w.ownsRow 0 35 4 (.slice A (rowQ es q).length c) (rowQ es q).length (flat edgeCells (rowQ es q))
/-- Blocks that are no ints are as they were. -/
def KeepI (w w' : World) : Prop := ∀ (g : Nat) (cs : Array Value) (t : TypeId), w.heap[g]? = some (.cells cs t (0, 0)) → t ≠ 3 → w'.heap[g]? = some (.cells cs t (0, 0))
theorem KeepI.alloc (w : World) (o : Obj) : KeepI w (w.alloc o) := fun _ _ _ h _ => blk_alloc h o
theorem KeepI.set {w : World} {S n : Nat} {f : Nat → Value} (hS : w.rowIs S 3 n f) (i : Nat) (v : Value) : KeepI w (w.setCell ⟨S, i, none⟩ v) := by
  intro g cs t h ht
  refine blk_set h ?_ v
  intro e
  have e' : g = S := by simpa using e
  obtain ⟨c, hc, _⟩ := hS
  rw [e', hc] at h
  simp at h
  exact ht h.2.symm
theorem KeepI.grown {w w' : World} {base n : Nat} {v : Value} {xs : List Value} (h : w.ownsRow base 3 1 v n xs) (hg : w.grownBy w' v.ownBlock) : KeepI w w' :=
  fun _ _ _ h1 ht => blk_grown h1 hg (own_ne h h1 (Ne.symm ht))
theorem KeepI.own {w w' : World} (hk : KeepI w w') {base size n : Nat} {e : TypeId} {v : Value} {xs : List Value} (h : w.ownsRow base e size v n xs) (he : e ≠ 3) : w'.ownsRow base e size v n xs := by
  obtain ⟨h1, h2⟩ := h
  refine ⟨h1, ?_⟩
  rcases h2 with h2 | ⟨g, cap, cur, hv, hg, hh, r⟩
  · exact .inl h2
  · exact .inr ⟨g, cap, cur, hv, hg, hk g _ _ hh he, r⟩
theorem KeepI.trans {a w w' : World} (h : KeepI a w) (k : KeepI w w') : KeepI a w' := fun g cs t h1 h2 => k g cs t (h g cs t h1 h2) h2
theorem KeepI.drewN (w : World) (n : Nat) : KeepI w (w.drewN n) := fun _ _ _ h _ => h
theorem OutAt.keep {w w' : World} {O st : Nat} {es : List Edge} {R : Nat → Value} (h : OutAt w O st es R) (hk : KeepI w w') : OutAt w' O st es R := by
  refine ⟨?_, fun q hq => ?_⟩
  · obtain ⟨c, h1, h2⟩ := h.out
    exact ⟨c, hk _ _ _ h1 (by decide), h2⟩
  · obtain ⟨A, c, h1, h2⟩ := h.row q hq
    exact ⟨A, c, h1, hk.own h2 (by decide)⟩

/-- Every block but S and a row's own is as it was. -/
structure Touch (S : Nat) (r : Option Nat) (w w' : World) : Prop where
  os : w'.os = w.os
  tape : w'.tape = w.tape
  output : w'.output = w.output
  size : w.heap.size ≤ w'.heap.size
  block : ∀ g, g < w.heap.size → g ≠ S → r ≠ some g → w'.heap[g]? = w.heap[g]?
theorem Touch.refl (S : Nat) (r : Option Nat) (w : World) : Touch S r w w := ⟨rfl, rfl, rfl, Nat.le_refl _, fun _ _ _ _ => rfl⟩
theorem Touch.alloc {S : Nat} {r : Option Nat} {a w : World} (h : Touch S r a w) (o : Obj) : Touch S r a (w.alloc o) :=
  ⟨h.os, h.tape, h.output, by simp; have := h.size; omega, fun g hg h1 h2 => (Below.block ((Below.refl w.heap.size w).alloc (Nat.le_refl _) o) g (Nat.lt_of_lt_of_le hg h.size)).trans (h.block g hg h1 h2)⟩
theorem Touch.set {S : Nat} {r : Option Nat} {a w : World} (h : Touch S r a w) (i : Nat) (v : Value) : Touch S r a (w.setCell ⟨S, i, none⟩ v) :=
  ⟨h.os, h.tape, h.output, by simpa using h.size, fun g hg h1 h2 => (Below.heap_setCell w ⟨S, i, none⟩ v g h1).trans (h.block g hg h1 h2)⟩
theorem Touch.drewN {S : Nat} {r : Option Nat} {a w : World} (h : Touch S r a w) (n : Nat) : Touch S r a (w.drewN n) := ⟨h.os, h.tape, h.output, h.size, h.block⟩
theorem Touch.grown {S : Nat} {r r' : Option Nat} {a w w' : World} (h : Touch S r a w) (hg : w.grownBy w' r') (hr : ∀ k, r' = some k → r = some k ∨ a.heap.size ≤ k) : Touch S r a w' :=
  ⟨hg.os.trans h.os, hg.tape.trans h.tape, hg.output.trans h.output, Nat.le_trans h.size hg.size, fun g h1 h2 h3 => (hg.block g (Nat.lt_of_lt_of_le h1 h.size) (fun e => by
    rcases hr g e.symm with h4 | h4
    · exact h3 h4
    · omega)).trans (h.block g h1 h2 h3)⟩
theorem Touch.below {S : Nat} {r : Option Nat} {B : Nat} {w w' : World} (h : Touch S r w w') (hB : B ≤ w.heap.size) (hS : B ≤ S) (hr : ∀ k, r = some k → B ≤ k) : Below B w w' :=
  ⟨h.os, h.tape, h.output, h.size, fun g hg => h.block g (by omega) (by omega) (fun e => by have := hr g e; omega)⟩
theorem rowIs_alloc {w : World} {b n : Nat} {t : TypeId} {f : Nat → Value} (h : w.rowIs b t n f) (o : Obj) : (w.alloc o).rowIs b t n f := by
  obtain ⟨c, h1, h2⟩ := h
  exact ⟨c, blk_alloc h1 o, h2⟩

abbrev ints (xs : List Int) : List Value := xs.map (Value.int .i64)

/-- What 'closed' hands back. -/
def ClosedPost (O S st : Nat) (es : List Edge) (R : Nat → Value) (mark : Int) (xs : List Int) (lv : Value) (w : World) (e : Ending) (w' : World) : Prop :=
  ∃ A ys c sv, e = .returned (.slice A ys.length c) ∧ Hid (w'.ownsRow 0 3 1 (.slice A ys.length c) ys.length (ints ys)) ∧ Hid (w'.rowIs S 3 st (fun q => .int .i64 (sv q))) ∧ Hid (SeenOk st sv mark ys) ∧
    Hid (CInv Edge.none_ es st (· ∈ xs) ys ys.length) ∧ Hid ((Value.slice A ys.length c).ownBlock ≠ some S) ∧ Hid (∀ k, (Value.slice A ys.length c).ownBlock = some k → lv.ownBlock = some k ∨ w.heap.size ≤ k) ∧ Hid (Touch S lv.ownBlock w w') ∧ Hid (OutAt w' O st es R)

set_option maxRecDepth 8192 in
set_option maxHeartbeats 6400000 in
theorem rxClosed_any (O S st c0 c1 n0 : Nat) (es : List Edge) (R : Nat → Value) (mark : Int) (sv0 : Nat → Int) (xs : List Int) (A0 : Option Addr) (w : World) (hn0 : xs.length = n0)
    (hO : OutAt w O st es R) (hS : w.rowIs S 3 st (fun q => .int .i64 (sv0 q))) (hl : w.ownsRow 0 3 1 (.slice A0 n0 c0) n0 (ints xs)) (hlS : (Value.slice A0 n0 c0).ownBlock ≠ some S)
    (hsv : SeenOk st sv0 mark xs) (hnd : xs.Nodup) (hxr : ∀ q ∈ xs, 0 ≤ q ∧ q < (st : Int)) (hes : ∀ e ∈ es, e.ok st = true) (hst : st ≤ 1000000) (hel : es.length ≤ 1000000) :
    Calls Try.prog 55 #[.slice (some ⟨O, 0, none⟩) st st, .slice (some ⟨S, 0, none⟩) st c1, .int .i64 mark, .slice A0 n0 c0] w (ClosedPost O S st es R mark xs (.slice A0 n0 c0) w) := by
  have HO := Lib.hid hO
  have HS := Lib.hid hS
  have Hl : Hid (w.ownsRow 0 3 1 (.slice A0 n0 c0) xs.length (ints xs)) := by show World.ownsRow _ _ _ _ _ _ _; rw [hn0]; exact hl
  have HlS := Lib.hid hlS
  have Hsv := Lib.hid hsv
  have Hes := Lib.hid hes
  have hci : CInv Edge.none_ es (st : Int) (· ∈ xs) xs 0 := CInv.start hnd hxr (fun q => Iff.rfl)
  have Hci := Lib.hid hci
  clear hO hS hl hlS hsv hnd hxr hes hci
  go_enter Try.func55, Try.ntmps55
  go_wp2_with fail
  go_loopg [3, 9] st (fun g lv x wr => ∃ (i : Nat) (ys : List Int) (sv : Nat → Int), x = .int .i64 i ∧ g = st - i ∧ i ≤ ys.length ∧ Hid (wr.ownsRow 0 3 1 lv ys.length (ints ys)) ∧ Hid (wr.rowIs S 3 st (fun q => .int .i64 (sv q))) ∧ Hid (SeenOk st sv mark ys) ∧
      Hid (CInv Edge.none_ es st (· ∈ xs) ys i) ∧ Hid (lv.ownBlock ≠ some S) ∧ Hid (∀ k, lv.ownBlock = some k → (Value.slice A0 n0 c0).ownBlock = some k ∨ w.heap.size ≤ k) ∧ Hid (Touch S (Value.slice A0 n0 c0).ownBlock w wr) ∧ Hid (OutAt wr O st es R))
  case atStart => exact ⟨0, xs, sv0, rfl, rfl, Nat.zero_le _, Hl, HS, Hsv, Hci, HlS, fun k hk => .inl hk, Touch.refl _ _ _, HO⟩
  case round =>
    clear HO HS Hl HlS Hsv Hci
    obtain ⟨i, ys, sv, rfl, rfl, hi, hown, hrow, hsv, hci, hlS, hnew, htc, hout⟩ := hrel
    obtain ⟨A, c, rfl, hown'⟩ := own_form hown.out
    have Hown := Lib.hid hown'
    clear hown hown'
    have hyl : ys.length ≤ st := by have := hci.out.length (by omega); omega
    by_cases hlt : i < ys.length
    · have hlti : (i : Int) < (ys.length : Int) := by omega
      obtain ⟨b4, o4, q, rfl, hb4, hq, hcell⟩ := int_at (CellsAt.of_own Hown.out) (Below.refl _ _) hlt
      have hqr := hci.out.rng q (List.mem_of_getElem? hq.out)
      obtain ⟨qn, rfl⟩ := Int.eq_ofNat_of_zero_le hqr.1
      have hqs : qn < st := by omega
      obtain ⟨AR, cR, hRq, hRo⟩ := hout.out.row qn hqs
      have hoc : wr.cell? ⟨O, qn, none⟩ = some (.slice AR (rowQ es qn).length cR) := by rw [← hRq]; exact hout.out.out.cell hqs
      have hcr : CRow es st (· ∈ xs) ys i qn 0 := ⟨hci.out, hq.out, fun e he => by simp at he⟩
      have Hcr := Lib.hid hcr
      have hrl := rowQ_length es qn
      have HRq := Lib.hid hRq
      obtain ⟨rw', hrw⟩ : ∃ rw', rowQ es qn = rw' := ⟨_, rfl⟩
      rw [hrw] at hoc hrl hRo
      have Hrw := Lib.hid hrw
      clear hcr hci hRq hRo hrw hq
      go_wp2_with fail
      obtain ⟨wo, rfl⟩ : ∃ wo : World, wo = wr := ⟨_, rfl⟩
      go_loopg [3, 26] rw'.length (fun g lv x wr => ∃ (j : Nat) (zs : List Int) (sv : Nat → Int), x = .int .i64 j ∧ g = rw'.length - j ∧ j ≤ rw'.length ∧ Hid (wr.ownsRow 0 3 1 lv zs.length (ints zs)) ∧ Hid (wr.rowIs S 3 st (fun q => .int .i64 (sv q))) ∧ Hid (SeenOk st sv mark zs) ∧
          Hid (CRow es st (· ∈ xs) zs i qn j) ∧ Hid (lv.ownBlock ≠ some S) ∧ Hid (∀ k, lv.ownBlock = some k → (Value.slice A0 n0 c0).ownBlock = some k ∨ w.heap.size ≤ k) ∧ Hid (Touch S (Value.slice A0 n0 c0).ownBlock w wr) ∧ Hid (OutAt wr O st es R))
      case atStart => exact ⟨0, ys, sv, rfl, rfl, Nat.zero_le _, Hown, hrow, hsv, Hcr, hlS, hnew, htc, hout⟩
      case round =>
        clear hrow hsv hlS hnew htc hout Hown Hcr hoc hcell hyl hlt hlti hi hb4
        obtain ⟨j, zs, sv, rfl, rfl, hj, hown, hrow, hsv, hcr, hlS, hnew, htc, hout⟩ := hrel
        obtain ⟨A5, c5, rfl, hown'⟩ := own_form hown.out
        have Hown := Lib.hid hown'
        clear hown hown'
        have hzl : zs.length ≤ st := by have := hcr.out.inv.length (by omega); omega
        by_cases hjl : j < rw'.length
        · have hjli : (j : Int) < (rw'.length : Int) := by omega
          obtain ⟨AR2, cR2, hRq2, hRo2⟩ := hout.out.row qn hqs
          rw [HRq.out] at hRq2
          simp only [Value.slice.injEq] at hRq2
          obtain ⟨rfl, _, rfl⟩ := hRq2
          rw [Hrw.out] at hRo2
          obtain ⟨bb, o, e, rfl, hbb, he, e0, e1, e2, e3⟩ := edge_at (CellsAt.of_own hRo2) (Below.refl _ _) hjl
          have he2 : (rowQ es qn)[j]? = some e := by rw [Hrw.out]; exact he.out
          have hem := mem_rowQ.1 (List.mem_of_getElem? he2)
          have hok := ok_iff.1 (Hes.out e hem.1)
          obtain ⟨tn, htn⟩ := Int.eq_ofNat_of_zero_le hok.2.1
          have hts : tn < st := by omega
          rw [htn] at e1
          have hsc : wr.cell? ⟨S, tn, none⟩ = some (.int .i64 (sv tn)) := hrow.out.cell hts
          have hsf := hrow.out.frozen tn
          have hSl := hrow.out.lt
          have hsvt := (hsv.out tn hts).1
          have He2 := Lib.hid he2
          have Htn := Lib.hid htn
          clear he2 hem hok htn he hRo2
          by_cases g1 : e.high < e.low
          · have d1 : decide (e.high < e.low) = true := decide_eq_true g1
            have hnone : e.none_ = true := d1
            by_cases g2 : sv tn = mark
            · have d2 : (sv tn != mark) = false := by simp [g2]
              have d3 : (sv tn == mark) = true := by simp [g2]
              have hin : e.to ∈ zs := by rw [Htn.out]; exact hsvt.1 g2
              have Hin := Lib.hid hin
              have Hnone := Lib.hid hnone
              clear hin hnone hsvt
              go_wp2_with fail
              go_roundg (rw'.length - (j + 1))
              case rel => exact ⟨j + 1, zs, sv, by go_num, rfl, by omega, Hown.out.alloc _, rowIs_alloc hrow.out _, hsv, hcr.out.next He2.out (fun _ => Hin.out), hlS, hnew, htc.out.alloc _, hout.out.keep (KeepI.alloc _ _)⟩
              case measure => omega
            · have d2 : (sv tn != mark) = true := by simp [g2]
              have d3 : (sv tn == mark) = false := by simp [g2]
              have hin : ¬ e.to ∈ zs := by rw [Htn.out]; exact fun h => g2 (hsvt.2 h)
              have Hin := Lib.hid hin
              have Hnone := Lib.hid hnone
              clear hin hnone hsvt
              go_upto_region 9 with fail
              have hown9 := (ownsRow_setCell_other Hown.out (a := ⟨S, tn, none⟩) hlS.out (.int .i64 mark)).alloc (.cells #[.int .i64 e.frm, .int .i64 tn, .int .u8 e.low, .int .u8 e.high] 35)
              have hrow9 := rowIs_alloc (hrow.out.set tn (.int .i64 mark)) (.cells #[.int .i64 e.frm, .int .i64 tn, .int .u8 e.low, .int .u8 e.high] 35)
              have htc9 := (htc.out.set tn (.int .i64 mark)).alloc (.cells #[.int .i64 e.frm, .int .i64 tn, .int .u8 e.low, .int .u8 e.high] 35)
              have hout9 := (hout.out.keep (KeepI.set hrow.out tn (.int .i64 mark))).keep (KeepI.alloc _ (.cells #[.int .i64 e.frm, .int .i64 tn, .int .u8 e.low, .int .u8 e.high] 35))
              have hbx9 : ((wr.setCell ⟨S, tn, none⟩ (.int .i64 mark)).alloc (.cells #[.int .i64 e.frm, .int .i64 tn, .int .u8 e.low, .int .u8 e.high] 35)).heap[wr.heap.size]? = some (.cells #[.int .i64 e.frm, .int .i64 tn, .int .u8 e.low, .int .u8 e.high] 35 (0, 0)) := blk_new' (by simp)
              clear hsc hsf e0 e1 e2 e3
              generalize World.alloc (wr.setCell _ _) _ = W9 at hown9 hrow9 htc9 hout9 hbx9 ⊢
              have p1 : W9.cell? ⟨wr.heap.size, 1, none⟩ = some (.int .i64 tn) := blk_cell hbx9 1
              have Hrow9 := Lib.hid hrow9
              have Htc9 := Lib.hid htc9
              have Hout9 := Lib.hid hout9
              clear hrow9 htc9 hout9 hbx9
              go_wp2_with (at_builtin; refine wpList_append_new_at info3 Try.underlying36 rfl (by decide) (by decide) 0 hown9 1 rfl _ _ rfl rfl rfl (by simp) rfl rfl (by omega) (Nat.zero_le _) ?_; intro v' w' hown' hbel hgt hgrow hnw)
              have Hown' : Hid (w'.ownsRow 0 3 1 v' (zs ++ [e.to]).length (ints (zs ++ [e.to]))) := by
                show World.ownsRow _ _ _ _ _ _ _
                rw [List.length_append, ints, List.map_append, Htn.out]
                exact hown'
              have Hnew' : Hid (∀ k, v'.ownBlock = some k → (Value.slice A0 n0 c0).ownBlock = some k ∨ w.heap.size ≤ k) := fun k hk => by
                rcases hnw k hk with h1 | h1
                · exact hnew.out k h1
                · have := Htc9.out.size
                  exact .inr (by omega)
              have HlS' : Hid (v'.ownBlock ≠ some S) := fun h => by
                rcases hnw S h with h1 | h1
                · exact hlS.out h1
                · have := Hrow9.out.lt
                  omega
              have Hrow' : Hid (w'.rowIs S 3 st (fun q => .int .i64 (if q = tn then mark else sv q))) := by
                show World.rowIs _ _ _ _ _
                refine World.rowIs.congr (rowIs_grown Hrow9.out hgrow hlS.out) ?_
                intro x _
                by_cases hx : x = tn
                · simp [hx]
                · simp [hx]
              have Htc' := Lib.hid (Htc9.out.grown hgrow hnew.out)
              have Hout' := Lib.hid (Hout9.out.keep (KeepI.grown hown9 hgrow))
              have Hsv' : Hid (SeenOk st (fun x => if x = tn then mark else sv x) mark (zs ++ [e.to])) := by
                show SeenOk _ _ _ _
                rw [Htn.out]
                exact hsv.out.push tn
              clear hown' hbel hgrow hnw hown9 p1
              go_roundg (rw'.length - (j + 1))
              case rel => exact ⟨j + 1, zs ++ [e.to], _, by go_num, rfl, by omega, Hown', Hrow', Hsv', hcr.out.push Hes.out He2.out Hnone.out Hin.out, HlS', Hnew', Htc', Hout'⟩
              case measure => omega
          · have d1 : decide (e.high < e.low) = false := decide_eq_false g1
            have hnone : e.none_ = false := d1
            have Hnone := Lib.hid hnone
            clear hnone hsvt
            go_wp2_with fail
            go_roundg (rw'.length - (j + 1))
            case rel => exact ⟨j + 1, zs, sv, by go_num, rfl, by omega, Hown.out.alloc _, rowIs_alloc hrow.out _, hsv, hcr.out.next He2.out (fun h => by rw [Hnone.out] at h; cases h), hlS, hnew, htc.out.alloc _, hout.out.keep (KeepI.alloc _ _)⟩
            case measure => omega
        · have hjli : ¬ (j : Int) < (rw'.length : Int) := by omega
          have hci2 := Lib.hid (hcr.out.end_ (by rw [Hrw.out]; omega))
          have hil := (List.getElem?_eq_some_iff.1 hcr.out.at_).1
          go_wp2_with fail
          go_roundg (st - (i + 1))
          case rel => exact ⟨i + 1, zs, sv, by go_num, rfl, hil, Hown, hrow, hsv, hci2, hlS, hnew, htc, hout⟩
          case measure => omega
    · have hlti : ¬ (i : Int) < (ys.length : Int) := by omega
      obtain rfl : i = ys.length := by omega
      go_wp2_with fail
      go_ret
      exact ⟨A, ys, c, sv, rfl, Hown, hrow, hsv, hci, hlS, hnew, htc, hout⟩
end Go.Proofs.Ytaefhfldgemcnaa
