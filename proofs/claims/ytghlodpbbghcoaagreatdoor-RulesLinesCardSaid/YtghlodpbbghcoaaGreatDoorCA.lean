/- What closes what, as a map of the call's own: first part: the store of a map's literal, at the operation. -/
import Derived.Test.YtghlodpbbghcoaaGreatDoorProg
import Derived.Maps.OwnOps
import Derived.WalkKit
import Derived.WalkSpells
import Derived.WalkLawsBesides
import Derived.Lib.Hide
import Derived.Test.YtghlodpbbghcoaaGreatDoorShelf
namespace Go.Proofs.YtghlodpbbghcoaaGreatDoor
open Go.RowKit

/-- How an element that is a slice is told apart: by where it lies and how long it is. -/
def rowR (v : Value) : Option (DataW Unit × List MemPlace) :=
  match v with
  | .slice none 0 0 => some (.nil, [])
  | .slice (some ⟨b, o, none⟩) l c => some (.agg [.lit (.int .i64 b), .lit (.int .i64 o), .lit (.int .i64 l), .lit (.int .i64 c)], [])
  | _ => none

theorem wpList_insert_own {H : Type} {P : Program} (w : World) {ops : Array Oper} {rest : List Oper} {o : Oper} {a : Act} {Q : Exit → Act → World → Prop}
    (hg : o.guard = none) (m x v : Operand) (t : TypeId) (hop : o.op = Op.insert t m x v)
    (k e : TypeId) (K : Maps.Keyed P k) (ht : P.underlying t = some (.map k e)) (R : Value → Option (DataW H × List MemPlace)) (b n : Nat) (D : DataW H)
    (hm : a.eval m = .map (some b)) (hown : w.ownsMap P k R b n D) (hn : n < maxLen) (key val : Value) (kl : Lit) (hx : a.eval x = key) (hv : a.eval v = val) (hkey : keyOf P k key = some kl)
    (d : DataW H) (ps : List MemPlace) (hval : R val = some (d, ps))
    (hK : ∀ w', w'.ownsMap P k R b (n + 1) (D.put kl d) → w.grownBy w' (some b) → wpList P ops Q rest (a.put o.dst undef) w') :
    wpList P ops Q (o :: rest) a w := by
  refine wpList_plain hg fun K' hK' => ?_
  obtain ⟨w', hrun, r1, r2⟩ := hown.update K ht hn hkey hval
  unfold Oper.wp
  simp [execOp, hop, hm, hx, hv, hrun, Result.andThen]
  exact hK' _ _ (hK w' r1 r2)
end Go.Proofs.YtghlodpbbghcoaaGreatDoor

/- What closes what: the walk of the maker. -/
namespace Go.Proofs.YtghlodpbbghcoaaGreatDoor
open Go.RowKit Go.Maps

/-- The rows that lie in blocks of their own, above n. -/
def RowsAt (n : Nat) (W : World) (l : List (Nat × Array Value)) : Prop := ∀ p ∈ l, n < p.1 ∧ W.heap[p.1]? = some (.cells p.2 9)
theorem RowsAt.step {n : Nat} {W W' : World} {l : List (Nat × Array Value)} {cs : Array Value} (h : RowsAt n W l) (hn : n < W.heap.size) (hg : (W.alloc (.cells cs 9)).grownBy W' (some n)) :
    RowsAt n W' ((W.heap.size, cs) :: l) := by
  intro p hp
  rcases List.mem_cons.1 hp with rfl | hp
  · refine ⟨hn, ?_⟩
    rw [hg.block _ (by simp) (by simp; omega)]
    exact (MapKept.heap_alloc W _).1
  · obtain ⟨h1, h2⟩ := h p hp
    have hlt : p.1 < W.heap.size := (Array.getElem?_eq_some_iff.1 h2).1
    refine ⟨h1, ?_⟩
    rw [hg.block _ (by simp; omega) (by simp; omega)]
    exact (Below.heap_alloc W _ _ hlt).trans h2

def rowD (g n : Nat) : DataW Unit := .agg [.lit (.int .i64 g), .lit (.int .i64 0), .lit (.int .i64 n), .lit (.int .i64 n)]
/-- The map of what closes what lies in block b, its rows in blocks of their own. -/
def Made (w : World) (b : Nat) (w' : World) : Prop :=
  ∃ g1 g2 g3 g4 g5 g6 g7 : Nat, w.heap.size ≤ b ∧ w'.ownsMap Tryz.prog 9 rowR b 7 ((((((((DataW.map []).put (.string [112]) (rowD g1 11)).put (.string [108, 105]) (rowD g2 1)).put (.string [100, 116]) (rowD g3 2)).put (.string [100, 100]) (rowD g4 2)).put (.string [111, 112, 116, 105, 111, 110]) (rowD g5 1)).put (.string [116, 100]) (rowD g6 2)).put (.string [116, 114]) (rowD g7 1)) ∧
    RowsAt b w' [(g7, #[.string ⟨#[116, 114]⟩]), (g6, #[.string ⟨#[116, 100]⟩, .string ⟨#[116, 114]⟩]), (g5, #[.string ⟨#[111, 112, 116, 105, 111, 110]⟩]), (g4, #[.string ⟨#[100, 100]⟩, .string ⟨#[100, 116]⟩]), (g3, #[.string ⟨#[100, 100]⟩, .string ⟨#[100, 116]⟩]), (g2, #[.string ⟨#[108, 105]⟩]), (g1, #[.string ⟨#[98, 108, 111, 99, 107, 113, 117, 111, 116, 101]⟩, .string ⟨#[100, 105, 118]⟩, .string ⟨#[104, 49]⟩, .string ⟨#[104, 50]⟩, .string ⟨#[104, 114]⟩, .string ⟨#[108, 105]⟩, .string ⟨#[111, 108]⟩, .string ⟨#[112]⟩, .string ⟨#[112, 114, 101]⟩, .string ⟨#[116, 97, 98, 108, 101]⟩, .string ⟨#[117, 108]⟩])] ∧ Below w.heap.size w w'

set_option maxRecDepth 8192 in
set_option maxHeartbeats 1600000 in
/-- THE MAKER: a map of seven rows, each in a block of its own. -/
theorem closers_any (w : World) :
    Calls Tryz.prog 105 #[] w fun e w' => ∃ b, e = .returned (.map (some b)) ∧ Made w b w' := by
  have hmm := @run_makeMap Tryz.prog
  have hown := Lib.hid (World.ownsMap_made w Tryz.prog 9 rowR)
  have hB := Lib.hid ((Below.refl w.heap.size w).alloc (Nat.le_refl _) (.map #[] 0))
  have hR : Hid (RowsAt w.heap.size (w.alloc (.map #[] 0)) []) := Lib.hid (fun p hp => by cases hp)
  go_enter Tryz.func105, Tryz.ntmps105
  go_wp2_with (
    (refine wpList_insert_own _ rfl _ _ _ 127 rfl 9 22 (string_keyed Tryz.underlying9) Tryz.underlying127 rowR w.heap.size _ _ rfl (hown.out.alloc _) (by decide) _ _ _ rfl rfl (WideMaps.keyOf_string_mk Tryz.underlying9 (by decide)) _ [] rfl ?_
     intro w1 hown1 hg1
     have hB := Lib.hid (((hB.out.alloc hB.out.size _)).grown hg1 (by have := hB.out.size; simp; omega) (fun j hj => by cases hj; exact Nat.le_refl _))
     have hR := Lib.hid (hR.out.step hown.out.lt hg1)
     have hown := Lib.hid hown1
     clear hown1 hg1))
  go_ret
  exact ⟨_, rfl, _, _, _, _, _, _, _, Nat.le_refl _, hown.out, by simpa only [World.size_alloc] using hR.out, hB.out⟩
end Go.Proofs.YtghlodpbbghcoaaGreatDoor

/- What closes what: the look-up; Closes. -/
namespace Go.Proofs.YtghlodpbbghcoaaGreatDoor
open Go.RowKit Go.Maps

/-- What closes an element, in the program's order. -/
def closersOf (o : List UInt8) : List ByteArray :=
  if o = [112] then [⟨#[98, 108, 111, 99, 107, 113, 117, 111, 116, 101]⟩, ⟨#[100, 105, 118]⟩, ⟨#[104, 49]⟩, ⟨#[104, 50]⟩, ⟨#[104, 114]⟩, ⟨#[108, 105]⟩, ⟨#[111, 108]⟩, ⟨#[112]⟩, ⟨#[112, 114, 101]⟩, ⟨#[116, 97, 98, 108, 101]⟩, ⟨#[117, 108]⟩]
  else if o = [108, 105] then [⟨#[108, 105]⟩]
  else if o = [100, 116] then [⟨#[100, 100]⟩, ⟨#[100, 116]⟩]
  else if o = [100, 100] then [⟨#[100, 100]⟩, ⟨#[100, 116]⟩]
  else if o = [111, 112, 116, 105, 111, 110] then [⟨#[111, 112, 116, 105, 111, 110]⟩]
  else if o = [116, 100] then [⟨#[116, 100]⟩, ⟨#[116, 114]⟩]
  else if o = [116, 114] then [⟨#[116, 114]⟩]
  else []

/-- A row of texts in memory. -/
def TextRow (w : World) (v : Value) (zs : List ByteArray) : Prop :=
  (v = .slice none 0 0 ∧ zs = []) ∨ ∃ g, v = .slice (some ⟨g, 0, none⟩) zs.length zs.length ∧ ∀ j, j < zs.length → w.cell? ⟨g, 0 + j, none⟩ = some (.string (zs.getD j ByteArray.empty))

theorem rowR_some {w : World} {v : Value} {g n : Nat} {ps : List MemPlace} {zs : List ByteArray} {cs : Array Value} (hv : rowR v = some (rowD g n, ps)) (hb : w.heap[g]? = some (.cells cs 9))
    (hn : zs.length = n := by rfl) (hc : cs.toList = zs.map Value.string := by rfl) : TextRow w v zs := by
  unfold rowR rowD at hv
  split at hv
  · cases hv
  · rename_i b o l c
    simp only [Option.some.injEq, Prod.mk.injEq, DataW.agg.injEq, List.cons.injEq, DataW.lit.injEq, Lit.int.injEq, true_and, and_true] at hv
    obtain ⟨⟨h1, h2, h3, h4⟩, _⟩ := hv
    right
    refine ⟨g, ?_, fun j hj => ?_⟩
    · rw [hn, show b = g by omega, show o = 0 by omega, show l = n by omega, show c = n by omega]
    · have h1 : w.cell? ⟨g, 0 + j, none⟩ = cs[j]? := by simp [World.cell?, hb]
      rw [h1, ← Array.getElem?_toList, hc, List.getElem?_map, List.getElem?_eq_getElem hj, List.getD_eq_getElem?_getD, List.getElem?_eq_getElem hj]
      rfl
  · cases hv
theorem rowR_none {v : Value} {ps : List MemPlace} (hv : rowR v = some (.nil, ps)) : v = .slice none 0 0 := by
  unfold rowR at hv
  split at hv
  · rfl
  · simp at hv
  · cases hv

set_option maxHeartbeats 3200000 in
theorem Made.look {w w' : World} {b : Nat} (h : Made w b w') (o : ByteArray) (hs : o.size ≤ maxLen) :
    ∃ v, (Instr.lookup 127 (.map (some b)) (.string o) false).run Tryz.prog w' = .ok v w' ∧ TextRow w' v (closersOf o.data.toList) := by
  obtain ⟨g1, g2, g3, g4, g5, g6, g7, hle, hown, hR, hB⟩ := h
  obtain ⟨v, ps, hrun, hv⟩ := hown.lookup (string_keyed Tryz.underlying9) Tryz.underlying127 (z := .slice none 0 0) (by kernel_rfl) (zd := .nil) (zp := []) rfl (WideMaps.keyOf_string_mk Tryz.underlying9 hs)
  refine ⟨v, hrun, ?_⟩
  simp only [RowsAt, List.forall_mem_cons] at hR
  obtain ⟨⟨_, r7⟩, ⟨_, r6⟩, ⟨_, r5⟩, ⟨_, r4⟩, ⟨_, r3⟩, ⟨_, r2⟩, ⟨_, r1⟩, _⟩ := hR
  by_cases h1 : o.data.toList = [112]
  · rw [h1] at hv ⊢
    exact rowR_some (g := g1) (hv.trans (congrArg some (congrArg (·, ps) (by kernel_rfl : _ = rowD g1 11)))) r1
  by_cases h2 : o.data.toList = [108, 105]
  · rw [h2] at hv ⊢
    exact rowR_some (g := g2) (hv.trans (congrArg some (congrArg (·, ps) (by kernel_rfl : _ = rowD g2 1)))) r2
  by_cases h3 : o.data.toList = [100, 116]
  · rw [h3] at hv ⊢
    exact rowR_some (g := g3) (hv.trans (congrArg some (congrArg (·, ps) (by kernel_rfl : _ = rowD g3 2)))) r3
  by_cases h4 : o.data.toList = [100, 100]
  · rw [h4] at hv ⊢
    exact rowR_some (g := g4) (hv.trans (congrArg some (congrArg (·, ps) (by kernel_rfl : _ = rowD g4 2)))) r4
  by_cases h5 : o.data.toList = [111, 112, 116, 105, 111, 110]
  · rw [h5] at hv ⊢
    exact rowR_some (g := g5) (hv.trans (congrArg some (congrArg (·, ps) (by kernel_rfl : _ = rowD g5 1)))) r5
  by_cases h6 : o.data.toList = [116, 100]
  · rw [h6] at hv ⊢
    exact rowR_some (g := g6) (hv.trans (congrArg some (congrArg (·, ps) (by kernel_rfl : _ = rowD g6 2)))) r6
  by_cases h7 : o.data.toList = [116, 114]
  · rw [h7] at hv ⊢
    exact rowR_some (g := g7) (hv.trans (congrArg some (congrArg (·, ps) (by kernel_rfl : _ = rowD g7 1)))) r7
  have e : closersOf o.data.toList = [] := by simp [closersOf, h1, h2, h3, h4, h5, h6, h7]
  rw [e]
  left
  refine ⟨rowR_none (ps := ps) (hv.trans ?_), rfl⟩
  have ne : ∀ {l : List UInt8}, o.data.toList ≠ l → Lit.string o.data.toList ≠ Lit.string l := fun h e => h (Lit.string.inj e)
  rw [atKey_put_other (ne h7), atKey_put_other (ne h6), atKey_put_other (ne h5), atKey_put_other (ne h4), atKey_put_other (ne h3), atKey_put_other (ne h2), atKey_put_other (ne h1)]
  rfl
end Go.Proofs.YtghlodpbbghcoaaGreatDoor

/- Closes, walked. -/
namespace Go.Proofs.YtghlodpbbghcoaaGreatDoor
open Go.RowKit Go.Maps

theorem contains_row (v : Value) (zs : List ByteArray) (x : ByteArray) (w : World) (hz : zs.length ≤ 100) (h : TextRow w v zs) :
    Calls Tryz.prog 40 #[v, .string x] w fun e w' => e = .returned (.bool (Lib.containsS zs x)) ∧ w' = w := by
  rcases h with ⟨rfl, rfl⟩ | ⟨g, rfl, hc⟩
  · refine (Tryz.slices_Contains_string_empty none 0 x w).mono ?_
    rintro e w' ⟨rfl, rfl⟩
    exact ⟨rfl, rfl⟩
  · refine (Tryz.slices_Contains_string g 0 zs.length zs.length zs x w (Nat.le_refl _) (by omega) hc).mono ?_
    rintro e w' ⟨rfl, rfl⟩
    rw [List.take_length]
    exact ⟨rfl, rfl⟩
theorem closersOf_few (o : List UInt8) : (closersOf o).length ≤ 100 := by
  unfold closersOf
  repeat' split
  all_goals decide

set_option maxHeartbeats 1600000 in
theorem closes_any (o x : ByteArray) (ho : o.size ≤ maxLen) (w : World) :
    Calls Tryz.prog 90 #[.string o, .string x] w fun e w' => e = .returned (.bool (Lib.containsS (closersOf o.data.toList) x)) ∧ Below w.heap.size w w' := by
  go_enter Tryz.func90, Tryz.ntmps90
  go_wp2_with (first
    | (go_at_call 105
       refine (closers_any _).mono ?_
       rintro e w1 ⟨b, rfl, hm⟩
       obtain ⟨v, hrun, hrow⟩ := hm.look o ho
       have hrow := Lib.hid hrow)
    | (go_at_call 40; refine (contains_row _ _ _ _ (closersOf_few _) hrow.out).mono ?_; rintro e w2 ⟨rfl, rfl⟩))
  go_ret
  obtain ⟨_, _, _, _, _, _, _, _, _, _, hB⟩ := hm
  exact ⟨rfl, hB⟩
end Go.Proofs.YtghlodpbbghcoaaGreatDoor
