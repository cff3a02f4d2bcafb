/- Walks over expressions, ninth part: the maker of nets: its parts, its empty edges, its states. -/
import Derived.Test.YtaefhfldgemcnaaR7
import Derived.Test.YtaefhfldgemcnaaP2
namespace Go.Proofs.Ytaefhfldgemcnaa
open Go.RowKit

/-- A job as it lies in memory. -/
structure JV where
  v : Value
  src : Nat
  dst : Nat
def jobCells (j : JV) : List Value := [j.v, .int .i64 j.src, .int .i64 j.dst]
theorem jobCells_length (j : JV) : (jobCells j).length = 3 := rfl
theorem info108 : (Try.prog.info? 108).map (fun i => (i.zero, i.size, i.bytes)) = some (some (.agg #[.nilIface, .int .i64 0, .int .i64 0]), 3, 32) := by kernel_rfl

theorem own_grown {w w' : World} {b1 b2 : Nat} {e1 e2 : TypeId} {s1 s2 n1 n2 : Nat} {v1 v2 : Value} {x1 x2 : List Value} (h1 : w.ownsRow b1 e1 s1 v1 n1 x1) (h2 : w.ownsRow b2 e2 s2 v2 n2 x2) (hg : w.grownBy w' v2.ownBlock) (hne : e2 ≠ e1) :
    w'.ownsRow b1 e1 s1 v1 n1 x1 := by
  obtain ⟨h3, h4⟩ := h1
  refine ⟨h3, ?_⟩
  rcases h4 with h4 | ⟨g, cap, cur, hv, hgb, hh, r⟩
  · exact .inl h4
  · exact .inr ⟨g, cap, cur, hv, hgb, blk_grown hh hg (own_ne h2 hh hne), r⟩

/-- The maker lies in block b: so many states, these edges, these jobs. -/
def MkAt (w : World) (b st : Nat) (es : List Edge) (js : List JV) : Prop :=
  ∃ A c A' c', w.heap[b]? = some (.cells #[.int .i64 st, .slice A es.length c, .slice A' js.length c'] 105 (0, 0)) ∧
    w.ownsRow (b + 1) 35 4 (.slice A es.length c) es.length (flat edgeCells es) ∧ w.ownsRow (b + 1) 108 3 (.slice A' js.length c') js.length (flat jobCells js)
theorem MkAt.drewN {w : World} {b st : Nat} {es : List Edge} {js : List JV} (h : MkAt w b st es js) (n : Nat) : MkAt (w.drewN n) b st es js := h
theorem MkAt.alloc {w : World} {b st : Nat} {es : List Edge} {js : List JV} (h : MkAt w b st es js) (o : Obj) : MkAt (w.alloc o) b st es js := by
  obtain ⟨A, c, A', c', h1, h2, h3⟩ := h
  exact ⟨A, c, A', c', blk_alloc h1 o, h2.alloc o, h3.alloc o⟩
theorem MkAt.lt {w : World} {b st : Nat} {es : List Edge} {js : List JV} (h : MkAt w b st es js) : b < w.heap.size := by
  obtain ⟨A, c, A', c', h1, h2, h3⟩ := h
  exact blk_lt h1

/-- Blocks of other makes than the maker's own are as they were. -/
def KeepT (w w' : World) : Prop := ∀ (g : Nat) (cs : Array Value) (t : TypeId), w.heap[g]? = some (.cells cs t (0, 0)) → t ≠ 105 → t ≠ 35 → t ≠ 108 → w'.heap[g]? = some (.cells cs t (0, 0))
theorem KeepT.refl (w : World) : KeepT w w := fun _ _ _ h _ _ _ => h
theorem KeepT.trans {a w w' : World} (h : KeepT a w) (k : KeepT w w') : KeepT a w' := fun g cs t h1 h2 h3 h4 => k g cs t (h g cs t h1 h2 h3 h4) h2 h3 h4
theorem KeepT.setCell {a w : World} (h : KeepT a w) {b i : Nat} {cs : Array Value} (hb : a.heap[b]? = some (.cells cs 105 (0, 0))) (v : Value) : KeepT a (w.setCell ⟨b, i, none⟩ v) := by
  intro g ds t h1 h2 h3 h4
  refine blk_set (h g ds t h1 h2 h3 h4) ?_ v
  intro hgb
  have hgb' : g = b := by simpa using hgb
  rw [hgb', hb] at h1
  simp at h1
  exact h2 h1.2.symm
theorem KeepT.grown {w w' : World} {base size n : Nat} {e : TypeId} {v : Value} {xs : List Value} (h : w.ownsRow base e size v n xs) (hg : w.grownBy w' v.ownBlock) (he : e = 35 ∨ e = 108) : KeepT w w' := by
  intro g cs t h1 h2 h3 h4
  refine blk_grown h1 hg (own_ne h h1 ?_)
  rcases he with rfl | rfl
  · exact Ne.symm h3
  · exact Ne.symm h4
def MkPost0 (b st : Nat) (es : List Edge) (js : List JV) (w : World) (e : Ending) (w' : World) : Prop := e = .returned (.tuple #[]) ∧ MkAt w' b st es js ∧ Below b w w'
def MkPost (b st : Nat) (es : List Edge) (js : List JV) (w : World) (e : Ending) (w' : World) : Prop := e = .returned (.tuple #[]) ∧ MkAt w' b st es js ∧ Below b w w' ∧ KeepT w w'

set_option maxHeartbeats 1600000 in
theorem mkNone_any (b st x y : Nat) (es : List Edge) (js : List JV) (w : World) (h : MkAt w b st es js) (hn : es.length ≤ 1000000) :
    Calls Try.prog 106 #[.pointer (some ⟨b, 0, none⟩), .int .i64 x, .int .i64 y] w (MkPost b st (es ++ [eps x y]) js w) := by
  obtain ⟨A, c, A', c', h1, h2, h3⟩ := h
  have c1 : w.cell? ⟨b, 1, none⟩ = some (.slice A es.length c) := blk_cell h1 1
  have cf : w.frozen? ⟨b, 1, none⟩ = false := blk_frozen h1 1
  have hlb := blk_lt h1
  have H1 := Lib.hid h1
  have H3 := Lib.hid h3
  clear h1 h3
  go_enter Try.func106, Try.ntmps106
  go_wp2_with (at_builtin; refine wpList_append_new_at info35 Try.underlying22 rfl (by decide) (by decide) _ h2 1 rfl _ _ rfl rfl rfl (by simp) rfl rfl (by omega) (by omega) ?_; intro v' w' hown' hbel hgt hgrow hnew; have hbx := blk_grown H1.out hgrow (own_ne h2 H1.out (by decide)); have cf' := blk_frozen hbx 1; have c1' : w'.cell? ⟨b, 1, none⟩ = some (.slice A es.length c) := blk_cell hbx 1; have Hbx := Lib.hid hbx; obtain ⟨A2, c2, rfl, hown2⟩ := own_form hown'; clear hbx)
  refine bodyPost_end (results_none rfl _ _ _) rfl ?_
  refine ⟨rfl, ⟨A2, c2, A', c', ?_, ?_, ?_⟩, (hbel.mono (Nat.le_succ b)).setCell (p := ⟨b, 1, none⟩) (Nat.le_refl _) _, (KeepT.grown h2 hgrow (.inl rfl)).setCell H1.out _⟩
  · rw [List.length_append]
    exact blk_set_self Hbx.out 1 _
  · rw [List.length_append, flat_append, flat_one]
    exact ownsRow_setCell_below hown2 (a := ⟨b, 1, none⟩) (by simp) _
  · exact ownsRow_setCell_below (own_grown H3.out h2 hgrow (by decide)) (a := ⟨b, 1, none⟩) (by simp) _

set_option maxHeartbeats 1600000 in
theorem mkPart_any (b st x y : Nat) (ty : TypeId) (u : Value) (es : List Edge) (js : List JV) (w : World) (h : MkAt w b st es js) (hn : js.length ≤ 1000000) :
    Calls Try.prog 64 #[.pointer (some ⟨b, 0, none⟩), .iface ty u, .int .i64 x, .int .i64 y] w (MkPost b st es (js ++ [⟨.iface ty u, x, y⟩]) w) := by
  obtain ⟨A, c, A', c', h1, h2, h3⟩ := h
  have c1 : w.cell? ⟨b, 2, none⟩ = some (.slice A' js.length c') := blk_cell h1 2
  have cf : w.frozen? ⟨b, 2, none⟩ = false := blk_frozen h1 2
  have hlb := blk_lt h1
  have H1 := Lib.hid h1
  have H2 := Lib.hid h2
  clear h1 h2
  go_enter Try.func64, Try.ntmps64
  go_wp2_with (at_builtin; refine wpList_append_new_at info108 Try.underlying103 rfl (by decide) (by decide) _ h3 1 rfl _ _ rfl rfl rfl (by simp) rfl rfl (by omega) (by omega) ?_; intro v' w' hown' hbel hgt hgrow hnew; have hbx := blk_grown H1.out hgrow (own_ne h3 H1.out (by decide)); have cf' := blk_frozen hbx 2; have c1' : w'.cell? ⟨b, 2, none⟩ = some (.slice A' js.length c') := blk_cell hbx 2; have Hbx := Lib.hid hbx; obtain ⟨A2, c2, rfl, hown2⟩ := own_form hown'; clear hbx)
  refine bodyPost_end (results_none rfl _ _ _) rfl ?_
  refine ⟨rfl, ⟨A, c, A2, c2, ?_, ?_, ?_⟩, (hbel.mono (Nat.le_succ b)).setCell (p := ⟨b, 2, none⟩) (Nat.le_refl _) _, (KeepT.grown h3 hgrow (.inr rfl)).setCell H1.out _⟩
  · rw [List.length_append]
    exact blk_set_self Hbx.out 2 _
  · exact ownsRow_setCell_below (own_grown H2.out h3 hgrow (by decide)) (a := ⟨b, 2, none⟩) (by simp) _
  · rw [List.length_append, flat_append, flat_one]
    exact ownsRow_setCell_below hown2 (a := ⟨b, 2, none⟩) (by simp) _

set_option maxHeartbeats 1600000 in
theorem mkState_any (b st : Nat) (es : List Edge) (js : List JV) (w : World) (h : MkAt w b st es js) (hn : st ≤ 1000000) :
    Calls Try.prog 107 #[.pointer (some ⟨b, 0, none⟩)] w fun e w' => e = .returned (.int .i64 st) ∧ MkAt w' b (st + 1) es js ∧ Below b w w' ∧ KeepT w w' := by
  obtain ⟨A, c, A', c', h1, h2, h3⟩ := h
  have c1 : w.cell? ⟨b, 0, none⟩ = some (.int .i64 st) := blk_cell h1 0
  have cf : w.frozen? ⟨b, 0, none⟩ = false := blk_frozen h1 0
  have hlb := blk_lt h1
  have H1 := Lib.hid h1
  have H2 := Lib.hid h2
  have H3 := Lib.hid h3
  clear h1 h2 h3
  go_enter Try.func107, Try.ntmps107
  go_wp2_with fail
  go_ret
  refine ⟨ret_int (by omega), ⟨A, c, A', c', ?_, ?_, ?_⟩, (Below.refl _ _).setCell (p := ⟨b, 0, none⟩) (Nat.le_refl _) _, (KeepT.refl w).setCell H1.out _⟩
  · have := blk_set_self H1.out 0 (.int .i64 ((st : Int) + 1))
    simpa using this
  · exact ownsRow_setCell_below H2.out (a := ⟨b, 0, none⟩) (by simp) _
  · exact ownsRow_setCell_below H3.out (a := ⟨b, 0, none⟩) (by simp) _

/-! a set's own edges -/
set_option maxHeartbeats 1600000 in
theorem run_any (g i : Nat) (m : List Bool) (w : World) (hm : m.length = 95) (hg : w.heap[g]? = some (.cells (bcells m) 96 (0, 0))) (hi : i < 95) :
    Calls Try.prog 80 #[.pointer (some ⟨g, 0, none⟩), .int .i64 i] w fun e w' => e = .returned (.int .i64 (runEnd m i)) ∧ w = w' := by
  have Hg := Lib.hid hg
  clear hg
  go_enter Try.func80, Try.ntmps80
  go_wp2_with fail
  go_loop [1] (fun x => ∃ j : Nat, x = .int .i64 j ∧ j < 95 ∧ Hid (runEnd m i = runEnd m j)) (fun x => 95 - (intOf x).toNat)
  case atStart => exact ⟨i, rfl, hi, rfl⟩
  case round =>
    obtain ⟨j, rfl, hj, hrun⟩ := hrel
    by_cases hlt : j + 1 < 95
    · have hlti : (j : Int) + 1 < 95 := by omega
      have hd : decide ((j : Int) + 1 < 95) = true := decide_eq_true hlti
      have c1 : w.cell? ⟨g, j + 1, none⟩ = some (.bool (m.getD (j + 1) false)) := (blk_cell Hg.out (j + 1)).trans (bcells_get (by omega))
      cases hb : m.getD (j + 1) false with
      | true =>
        rw [hb] at c1
        go_wp2_with fail
        go_round
        case rel => exact ⟨j + 1, by go_num, hlt, by show _ = _; rw [hrun.out, runEnd_step hlt hb]⟩
        case measure => simp [intOf]; omega
      | false =>
        rw [hb] at c1
        go_wp2_with fail
        go_ret
        exact ⟨ret_int (by rw [hrun.out, runEnd_stop (by rw [hb]; simp)]), rfl⟩
    · have hlti : ¬ (j : Int) + 1 < 95 := by omega
      have hd : decide ((j : Int) + 1 < 95) = false := decide_eq_false hlti
      go_wp2_with fail
      go_ret
      exact ⟨ret_int (by rw [hrun.out, runEnd_stop (by omega)]), rfl⟩
end Go.Proofs.Ytaefhfldgemcnaa
