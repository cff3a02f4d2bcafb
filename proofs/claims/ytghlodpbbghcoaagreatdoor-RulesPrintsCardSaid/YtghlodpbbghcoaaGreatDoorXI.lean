/- The plain net; the maker's small parts walked. -/
import Derived.Test.YtghlodpbbghcoaaGreatDoorXH
import Derived.Test.YtghlodpbbghcoaaGreatDoorProg
import Derived.WalkKit
import Derived.Lib.Hide
namespace Go.Proofs.YtghlodpbbghcoaaGreatDoor.Rx
section
structure Job where
  t : T
  frm : Nat
  «to» : Nat
def eps (a b : Nat) : Edge := ⟨a, b, 1, 0⟩
/-- The last one of the signs that follow one another from i on. -/
def runE (m : List Bool) : Nat → Nat → Nat
  | 0, i => i
  | f + 1, i => if decide (i + 1 < 95) && m.getD (i + 1) false then runE m f (i + 1) else i
def runEnd (m : List Bool) (i : Nat) : Nat := runE m (95 - i) i
theorem runEnd_step {m : List Bool} {i : Nat} (h : i + 1 < 95) (hm : m.getD (i + 1) false = true) : runEnd m i = runEnd m (i + 1) := by
  unfold runEnd
  rw [show 95 - i = (95 - (i + 1)) + 1 from by omega, runE, hm, decide_eq_true h]
  rfl
theorem runEnd_stop {m : List Bool} {i : Nat} (h : ¬ (i + 1 < 95 ∧ m.getD (i + 1) false = true)) : runEnd m i = i := by
  unfold runEnd
  cases hq : 95 - i with
  | zero => rfl
  | succ n =>
    rw [runE, if_neg]
    simpa using h
theorem runE_range (m : List Bool) : ∀ (f i : Nat), i < 95 → i ≤ runE m f i ∧ runE m f i < 95 := by
  intro f
  induction f with
  | zero => intro i h; exact ⟨Nat.le_refl _, h⟩
  | succ f ih =>
    intro i h
    rw [runE]
    split
    · rename_i h1
      simp only [Bool.and_eq_true, decide_eq_true_eq] at h1
      have := ih (i + 1) h1.1
      omega
    · exact ⟨Nat.le_refl _, h⟩
theorem runEnd_range (m : List Bool) {i : Nat} (h : i < 95) : i ≤ runEnd m i ∧ runEnd m i < 95 := runE_range m _ i h
def setE (m : List Bool) (a b : Nat) : Nat → Nat → List Edge
  | 0, _ => []
  | f + 1, i => if i < 95 then (if m.getD i false then ⟨a, b, 32 + (i : Int), 32 + (runEnd m i : Int)⟩ :: setE m a b f (runEnd m i + 1) else setE m a b f (i + 1)) else []
def setEdges (m : List Bool) (a b i : Nat) : List Edge := setE m a b (95 - i) i
theorem setE_more (m : List Bool) (a b : Nat) : ∀ (f g i : Nat), 95 - i ≤ f → f ≤ g → setE m a b f i = setE m a b g i := by
  intro f
  induction f with
  | zero =>
    intro g i h1 _
    cases g with
    | zero => rfl
    | succ g => rw [setE, setE, if_neg (by omega)]
  | succ f ih =>
    intro g i h1 h2
    obtain ⟨g', rfl⟩ : ∃ g', g = g' + 1 := ⟨g - 1, by omega⟩
    rw [setE, setE]
    split
    · rename_i hi
      have := runEnd_range m hi
      rw [ih g' _ (by omega) (by omega), ih g' _ (by omega) (by omega)]
    · rfl
theorem setEdges_yes {m : List Bool} {a b i : Nat} (h : i < 95) (hm : m.getD i false = true) : setEdges m a b i = ⟨a, b, 32 + (i : Int), 32 + (runEnd m i : Int)⟩ :: setEdges m a b (runEnd m i + 1) := by
  have hr := runEnd_range m h
  unfold setEdges
  rw [show 95 - i = (95 - i - 1) + 1 from by omega, setE, if_pos h, if_pos hm, ← setE_more m a b (95 - (runEnd m i + 1)) _ _ (Nat.le_refl _) (by omega)]
theorem setEdges_no {m : List Bool} {a b i : Nat} (h : i < 95) (hm : m.getD i false = false) : setEdges m a b i = setEdges m a b (i + 1) := by
  unfold setEdges
  rw [show 95 - i = (95 - (i + 1)) + 1 from by omega, setE, if_pos h, if_neg (by rw [hm]; decide)]
theorem setEdges_end {m : List Bool} {a b i : Nat} (h : 95 ≤ i) : setEdges m a b i = [] := by
  unfold setEdges
  rw [show 95 - i = 0 from by omega, setE]
/-- Parts one behind the other, from a to b by new states. -/
def chain : List T → Nat → Nat → Nat → List Job
  | [], _, _, _ => []
  | [t], a, b, _ => [⟨t, a, b⟩]
  | t :: l, a, b, st => ⟨t, a, st⟩ :: chain l st b (st + 1)
structure Made where
  st : Nat
  es : List Edge
  js : List Job
def jobNet (st : Nat) : T → Nat → Nat → Made
  | .set m, a, b => ⟨st, setEdges m a b 0, []⟩
  | .seq [], a, b => ⟨st, [eps a b], []⟩
  | .seq l, a, b => ⟨st + (l.length - 1), [], chain l a b st⟩
  | .alt l, a, b => ⟨st, [], l.map (fun t => ⟨t, a, b⟩)⟩
  | .rep p op, a, b =>
    if op.toNat = 63 then ⟨st, [eps a b], [⟨p, a, b⟩]⟩
    else if op.toNat = 42 then ⟨st + 1, [eps a st, eps st b], [⟨p, st, st⟩]⟩
    else ⟨st + 2, [eps a st, eps (st + 1) st, eps (st + 1) b], [⟨p, st, st + 1⟩]⟩
def popL {α : Type} (l : List α) : List α := l.take (l.length - 1)
def runNet : Nat → Nat → List Edge → List Job → Nat × List Edge
  | 0, st, es, _ => (st, es)
  | f + 1, st, es, js =>
    match js[js.length - 1]? with
    | none => (st, es)
    | some j => runNet f (jobNet st j.t j.frm j.to).st (es ++ (jobNet st j.t j.frm j.to).es) (popL js ++ (jobNet st j.t j.frm j.to).js)
def netT (t : T) : Nat × List Edge := runNet (t.size + 1) 2 [] [⟨t, 0, 1⟩]
def jsizes : List Job → Nat
  | [] => 0
  | j :: l => j.t.size + jsizes l
theorem jsizes_append (a b : List Job) : jsizes (a ++ b) = jsizes a + jsizes b := by
  induction a with
  | nil => simp [jsizes]
  | cons j l ih => simp [jsizes, ih]; omega
theorem jsizes_len (l : List Job) : l.length ≤ jsizes l := by
  induction l with
  | nil => simp
  | cons j l ih => have := size_pos j.t; simp [jsizes]; omega
theorem chain_sizes : ∀ (l : List T) (a b st : Nat), jsizes (chain l a b st) = sizes l ∧ (chain l a b st).length = l.length := by
  intro l
  induction l with
  | nil => intro a b st; simp [chain, jsizes, sizes]
  | cons t l ih =>
    intro a b st
    cases l with
    | nil => simp [chain, jsizes, sizes]
    | cons u l =>
      have := ih st b (st + 1)
      simp only [chain, jsizes, sizes, List.length_cons] at *
      omega
theorem map_sizes (l : List T) (a b : Nat) : jsizes (l.map (fun t => (⟨t, a, b⟩ : Job))) = sizes l := by
  induction l with
  | nil => rfl
  | cons t l ih => simp [jsizes, sizes, ih]
theorem sizes_len (l : List T) : l.length ≤ sizes l := by
  induction l with
  | nil => simp
  | cons t l ih => have := size_pos t; simp [sizes]; omega
theorem setE_len (m : List Bool) (a b : Nat) : ∀ (f i : Nat), (setE m a b f i).length ≤ f := by
  intro f
  induction f with
  | zero => intro i; simp [setE]
  | succ f ih =>
    intro i
    rw [setE]
    split
    · split
      · have := ih (runEnd m i + 1); simp; omega
      · have := ih (i + 1); omega
    · simp
theorem setEdges_len (m : List Bool) (a b : Nat) : (setEdges m a b 0).length ≤ 95 := setE_len m a b 95 0
/-- What a part costs: sizes, jobs, states, edges. -/
theorem jobNet_cost (st : Nat) (t : T) (a b : Nat) :
    jsizes (jobNet st t a b).js + 1 ≤ t.size ∧
    st ≤ (jobNet st t a b).st ∧ (jobNet st t a b).st + 2 * jsizes (jobNet st t a b).js + 1 ≤ st + 2 * t.size + (jobNet st t a b).js.length ∧
    (jobNet st t a b).es.length ≤ 95 ∧ (jobNet st t a b).js.length ≤ jsizes (jobNet st t a b).js := by
  cases t with
  | set m =>
    have := setEdges_len m a b
    simp only [jobNet, T.size, jsizes, List.length_nil]
    omega
  | seq l =>
    cases l with
    | nil => simp [jobNet, T.size, sizes, jsizes]
    | cons t l =>
      have h1 := chain_sizes (t :: l) a b st
      have h2 := sizes_len (t :: l)
      simp only [jobNet, T.size, List.length_nil, h1.1, h1.2]
      simp only [List.length_cons] at *
      omega
  | alt l =>
    have h2 := sizes_len l
    simp only [jobNet, T.size, List.length_nil, map_sizes, List.length_map]
    omega
  | rep p op =>
    have := size_pos p
    simp only [jobNet, T.size]
    split
    · simp [jsizes]; omega
    · split
      · simp [jsizes]; omega
      · simp [jsizes]; omega
end
section
open Go.RowKit
/-- A job as it lies in memory. -/
structure JV where
  v : Value
  src : Nat
  dst : Nat
def jobCells (j : JV) : List Value := [j.v, .int .i64 j.src, .int .i64 j.dst]
theorem jobCells_length (j : JV) : (jobCells j).length = 3 := rfl
theorem info108 : (Tryz.prog.info? 179).map (fun i => (i.zero, i.size, i.bytes)) = some (some (.agg #[.nilIface, .int .i64 0, .int .i64 0]), 3, 32) := by kernel_rfl
theorem own_grown {w w' : World} {b1 b2 : Nat} {e1 e2 : TypeId} {s1 s2 n1 n2 : Nat} {v1 v2 : Value} {x1 x2 : List Value} (h1 : w.ownsRow b1 e1 s1 v1 n1 x1) (h2 : w.ownsRow b2 e2 s2 v2 n2 x2) (hg : w.grownBy w' v2.ownBlock) (hne : e2 ≠ e1) :
    w'.ownsRow b1 e1 s1 v1 n1 x1 := by
  obtain ⟨h3, h4⟩ := h1
  refine ⟨h3, ?_⟩
  rcases h4 with h4 | ⟨g, cap, cur, hv, hgb, hh, r⟩
  · exact .inl h4
  · exact .inr ⟨g, cap, cur, hv, hgb, blk_grown hh hg (own_ne h2 hh hne), r⟩
/-- The maker lies in block b: so many states, these edges, these jobs. -/
def MkAt (w : World) (b st : Nat) (es : List Edge) (js : List JV) : Prop :=
  ∃ A c A' c', w.heap[b]? = some (.cells #[.int .i64 st, .slice A es.length c, .slice A' js.length c'] 175 (0, 0)) ∧
    w.ownsRow (b + 1) 185 4 (.slice A es.length c) es.length (flat edgeCells es) ∧ w.ownsRow (b + 1) 179 3 (.slice A' js.length c') js.length (flat jobCells js)
theorem MkAt.alloc {w : World} {b st : Nat} {es : List Edge} {js : List JV} (h : MkAt w b st es js) (o : Obj) : MkAt (w.alloc o) b st es js := by
  obtain ⟨A, c, A', c', h1, h2, h3⟩ := h
  exact ⟨A, c, A', c', blk_alloc h1 o, h2.alloc o, h3.alloc o⟩
theorem MkAt.lt {w : World} {b st : Nat} {es : List Edge} {js : List JV} (h : MkAt w b st es js) : b < w.heap.size := by
  obtain ⟨A, c, A', c', h1, h2, h3⟩ := h
  exact blk_lt h1
/-- Blocks of other makes than the maker's own are as they were. -/
def KeepT (w w' : World) : Prop := ∀ (g : Nat) (cs : Array Value) (t : TypeId), w.heap[g]? = some (.cells cs t (0, 0)) → t ≠ 175 → t ≠ 185 → t ≠ 179 → w'.heap[g]? = some (.cells cs t (0, 0))
theorem KeepT.refl (w : World) : KeepT w w := fun _ _ _ h _ _ _ => h
theorem KeepT.trans {a w w' : World} (h : KeepT a w) (k : KeepT w w') : KeepT a w' := fun g cs t h1 h2 h3 h4 => k g cs t (h g cs t h1 h2 h3 h4) h2 h3 h4
theorem KeepT.setCell {a w : World} (h : KeepT a w) {b i : Nat} {cs : Array Value} (hb : a.heap[b]? = some (.cells cs 175 (0, 0))) (v : Value) : KeepT a (w.setCell ⟨b, i, none⟩ v) := by
  intro g ds t h1 h2 h3 h4
  refine blk_set (h g ds t h1 h2 h3 h4) ?_ v
  intro hgb
  have hgb' : g = b := by simpa using hgb
  rw [hgb', hb] at h1
  simp at h1
  exact h2 h1.2.symm
theorem KeepT.grown {w w' : World} {base size n : Nat} {e : TypeId} {v : Value} {xs : List Value} (h : w.ownsRow base e size v n xs) (hg : w.grownBy w' v.ownBlock) (he : e = 185 ∨ e = 179) : KeepT w w' := by
  intro g cs t h1 h2 h3 h4
  refine blk_grown h1 hg (own_ne h h1 ?_)
  rcases he with rfl | rfl
  · exact Ne.symm h3
  · exact Ne.symm h4
def MkPost0 (b st : Nat) (es : List Edge) (js : List JV) (w : World) (e : Ending) (w' : World) : Prop := e = .returned (.tuple #[]) ∧ MkAt w' b st es js ∧ Below b w w'
def MkPost (b st : Nat) (es : List Edge) (js : List JV) (w : World) (e : Ending) (w' : World) : Prop := e = .returned (.tuple #[]) ∧ MkAt w' b st es js ∧ Below b w w' ∧ KeepT w w'
set_option maxHeartbeats 1600000 in
theorem mkNone_any (b st x y : Nat) (es : List Edge) (js : List JV) (w : World) (h : MkAt w b st es js) (hn : es.length ≤ 1000000) :
    Calls Tryz.prog 182 #[.pointer (some ⟨b, 0, none⟩), .int .i64 x, .int .i64 y] w (MkPost b st (es ++ [eps x y]) js w) := by
  obtain ⟨A, c, A', c', h1, h2, h3⟩ := h
  have c1 : w.cell? ⟨b, 1, none⟩ = some (.slice A es.length c) := blk_cell h1 1
  have cf : w.frozen? ⟨b, 1, none⟩ = false := blk_frozen h1 1
  have hlb := blk_lt h1
  have H1 := Lib.hid h1
  have H3 := Lib.hid h3
  clear h1 h3
  go_enter Tryz.func182, Tryz.ntmps182
  go_wp2_with (at_builtin; refine wpList_append_new_at info35 Tryz.underlying141 rfl (by decide) (by decide) _ h2 1 rfl _ _ rfl rfl rfl (by simp) rfl rfl (by omega) (by omega) ?_; intro v' w' hown' hbel hgt hgrow hnew; have hbx := blk_grown H1.out hgrow (own_ne h2 H1.out (by decide)); have cf' := blk_frozen hbx 1; have c1' : w'.cell? ⟨b, 1, none⟩ = some (.slice A es.length c) := blk_cell hbx 1; have Hbx := Lib.hid hbx; obtain ⟨A2, c2, rfl, hown2⟩ := own_form hown'; clear hbx)
  refine bodyPost_end (results_none rfl _ _ _) rfl ?_
  refine ⟨rfl, ⟨A2, c2, A', c', ?_, ?_, ?_⟩, (hbel.mono (Nat.le_succ b)).setCell (p := ⟨b, 1, none⟩) (Nat.le_refl _) _, (KeepT.grown h2 hgrow (.inl rfl)).setCell H1.out _⟩
  · rw [List.length_append]
    exact blk_set_self Hbx.out 1 _
  · rw [List.length_append, flat_append, flat_one]
    exact ownsRow_setCell_below hown2 (a := ⟨b, 1, none⟩) (by simp) _
  · exact ownsRow_setCell_below (own_grown H3.out h2 hgrow (by decide)) (a := ⟨b, 1, none⟩) (by simp) _
set_option maxHeartbeats 1600000 in
theorem mkPart_any (b st x y : Nat) (ty : TypeId) (u : Value) (es : List Edge) (js : List JV) (w : World) (h : MkAt w b st es js) (hn : js.length ≤ 1000000) :
    Calls Tryz.prog 130 #[.pointer (some ⟨b, 0, none⟩), .iface ty u, .int .i64 x, .int .i64 y] w (MkPost b st es (js ++ [⟨.iface ty u, x, y⟩]) w) := by
  obtain ⟨A, c, A', c', h1, h2, h3⟩ := h
  have c1 : w.cell? ⟨b, 2, none⟩ = some (.slice A' js.length c') := blk_cell h1 2
  have cf : w.frozen? ⟨b, 2, none⟩ = false := blk_frozen h1 2
  have hlb := blk_lt h1
  have H1 := Lib.hid h1
  have H2 := Lib.hid h2
  clear h1 h2
  go_enter Tryz.func130, Tryz.ntmps130
  go_wp2_with (at_builtin; refine wpList_append_new_at info108 Tryz.underlying173 rfl (by decide) (by decide) _ h3 1 rfl _ _ rfl rfl rfl (by simp) rfl rfl (by omega) (by omega) ?_; intro v' w' hown' hbel hgt hgrow hnew; have hbx := blk_grown H1.out hgrow (own_ne h3 H1.out (by decide)); have cf' := blk_frozen hbx 2; have c1' : w'.cell? ⟨b, 2, none⟩ = some (.slice A' js.length c') := blk_cell hbx 2; have Hbx := Lib.hid hbx; obtain ⟨A2, c2, rfl, hown2⟩ := own_form hown'; clear hbx)
  refine bodyPost_end (results_none rfl _ _ _) rfl ?_
  refine ⟨rfl, ⟨A, c, A2, c2, ?_, ?_, ?_⟩, (hbel.mono (Nat.le_succ b)).setCell (p := ⟨b, 2, none⟩) (Nat.le_refl _) _, (KeepT.grown h3 hgrow (.inr rfl)).setCell H1.out _⟩
  · rw [List.length_append]
    exact blk_set_self Hbx.out 2 _
  · exact ownsRow_setCell_below (own_grown H2.out h3 hgrow (by decide)) (a := ⟨b, 2, none⟩) (by simp) _
  · rw [List.length_append, flat_append, flat_one]
    exact ownsRow_setCell_below hown2 (a := ⟨b, 2, none⟩) (by simp) _
set_option maxHeartbeats 1600000 in
theorem mkState_any (b st : Nat) (es : List Edge) (js : List JV) (w : World) (h : MkAt w b st es js) (hn : st ≤ 1000000) :
    Calls Tryz.prog 178 #[.pointer (some ⟨b, 0, none⟩)] w fun e w' => e = .returned (.int .i64 st) ∧ MkAt w' b (st + 1) es js ∧ Below b w w' ∧ KeepT w w' := by
  obtain ⟨A, c, A', c', h1, h2, h3⟩ := h
  have c1 : w.cell? ⟨b, 0, none⟩ = some (.int .i64 st) := blk_cell h1 0
  have cf : w.frozen? ⟨b, 0, none⟩ = false := blk_frozen h1 0
  have hlb := blk_lt h1
  have H1 := Lib.hid h1
  have H2 := Lib.hid h2
  have H3 := Lib.hid h3
  clear h1 h2 h3
  go_enter Tryz.func178, Tryz.ntmps178
  go_wp2_with fail
  go_ret
  refine ⟨ret_int (by omega), ⟨A, c, A', c', ?_, ?_, ?_⟩, (Below.refl _ _).setCell (p := ⟨b, 0, none⟩) (Nat.le_refl _) _, (KeepT.refl w).setCell H1.out _⟩
  · have := blk_set_self H1.out 0 (.int .i64 ((st : Int) + 1))
    simpa using this
  · exact ownsRow_setCell_below H2.out (a := ⟨b, 0, none⟩) (by simp) _
  · exact ownsRow_setCell_below H3.out (a := ⟨b, 0, none⟩) (by simp) _
set_option maxHeartbeats 1600000 in
theorem run_any (g i : Nat) (m : List Bool) (w : World) (hm : m.length = 95) (hg : w.heap[g]? = some (.cells (bcells m) 203 (0, 0))) (hi : i < 95) :
    Calls Tryz.prog 180 #[.pointer (some ⟨g, 0, none⟩), .int .i64 i] w fun e w' => e = .returned (.int .i64 (runEnd m i)) ∧ w = w' := by
  have Hg := Lib.hid hg
  clear hg
  go_enter Tryz.func180, Tryz.ntmps180
  go_wp2_with fail
  go_loop [1] (fun x => ∃ j : Nat, x = .int .i64 j ∧ j < 95 ∧ Hid (runEnd m i = runEnd m j)) (fun x => 95 - (intOf x).toNat)
  case atStart => exact ⟨i, rfl, hi, rfl⟩
  case round =>
    obtain ⟨j, rfl, hj, hrun⟩ := hrel
    by_cases hlt : j + 1 < 95
    · have hlti : (j : Int) + 1 < 95 := by omega
      have hd : decide ((j : Int) + 1 < 95) = true := decide_eq_true hlti
      have c1 : w.cell? ⟨g, j + 1, none⟩ = some (.bool (m.getD (j + 1) false)) := (blk_cell Hg.out (j + 1)).trans (bcells_get (by omega))
      cases hb : m.getD (j + 1) false with
      | true =>
        rw [hb] at c1
        go_wp2_with fail
        go_round
        case rel => exact ⟨j + 1, by go_num, hlt, by show _ = _; rw [hrun.out, runEnd_step hlt hb]⟩
        case measure => simp [intOf]; omega
      | false =>
        rw [hb] at c1
        go_wp2_with fail
        go_ret
        exact ⟨ret_int (by rw [hrun.out, runEnd_stop (by rw [hb]; simp)]), rfl⟩
    · have hlti : ¬ (j : Int) + 1 < 95 := by omega
      have hd : decide ((j : Int) + 1 < 95) = false := decide_eq_false hlti
      go_wp2_with fail
      go_ret
      exact ⟨ret_int (by rw [hrun.out, runEnd_stop (by omega)]), rfl⟩
end
section
open Go.RowKit
/-- Jobs in memory and jobs: the trees lie in blocks below N. -/
def JobsOk (w : World) (N : Nat) (jvs : List JV) (js : List Job) : Prop :=
  jvs.length = js.length ∧ ∀ (i : Nat) (x : JV) (j : Job), jvs[i]? = some x → js[i]? = some j → x.src = j.frm ∧ x.dst = j.to ∧ PartAt w (· < N) x.v j.t
theorem JobsOk.nil (w : World) (N : Nat) : JobsOk w N [] [] := ⟨rfl, fun i x j h => by simp at h⟩
theorem below_moves {N M : Nat} {w w' : World} (h : Below M w w') (hN : N ≤ M) : Moves (· < N) (· < N) w w' := fun g hg => ⟨hg, h.block g (Nat.lt_of_lt_of_le hg hN)⟩
theorem JobsOk.below {w w' : World} {N M : Nat} {jvs : List JV} {js : List Job} (h : JobsOk w N jvs js) (hb : Below M w w') (hN : N ≤ M) : JobsOk w' N jvs js :=
  ⟨h.1, fun i x j h1 h2 => by
    obtain ⟨a, b, c⟩ := h.2 i x j h1 h2
    exact ⟨a, b, c.move (below_moves hb hN)⟩⟩
theorem JobsOk.append {w : World} {N : Nat} {x1 x2 : List JV} {j1 j2 : List Job} (h : JobsOk w N x1 j1) (k : JobsOk w N x2 j2) : JobsOk w N (x1 ++ x2) (j1 ++ j2) := by
  refine ⟨by simp [h.1, k.1], ?_⟩
  intro i x j h1 h2
  by_cases hi : i < x1.length
  · rw [List.getElem?_append_left hi] at h1
    rw [List.getElem?_append_left (by rw [← h.1]; exact hi)] at h2
    exact h.2 i x j h1 h2
  · rw [List.getElem?_append_right (by omega)] at h1
    rw [List.getElem?_append_right (by rw [← h.1]; omega), ← h.1] at h2
    exact k.2 _ x j h1 h2
theorem JobsOk.one {w : World} {N : Nat} {v : Value} {t : T} (a b : Nat) (h : PartAt w (· < N) v t) : JobsOk w N [⟨v, a, b⟩] [⟨t, a, b⟩] := by
  refine ⟨rfl, ?_⟩
  intro i x j h1 h2
  cases i with
  | zero =>
    simp at h1 h2
    subst h1 h2
    exact ⟨rfl, rfl, h⟩
  | succ i => simp at h1
theorem JobsOk.take {w : World} {N : Nat} {jvs : List JV} {js : List Job} (h : JobsOk w N jvs js) (n : Nat) : JobsOk w N (jvs.take n) (js.take n) := by
  refine ⟨by simp [h.1], ?_⟩
  intro i x j h1 h2
  rw [List.getElem?_take] at h1 h2
  split at h1
  · rename_i hi
    rw [if_pos hi] at h2
    exact h.2 i x j h1 h2
  · cases h1
/-- What a part's net does to the maker. -/
def NetPost (N b : Nat) (r : Made) (es : List Edge) (jvs : List JV) (w : World) (e : Ending) (w' : World) : Prop :=
  e = .returned (.tuple #[]) ∧ (∃ jvs', MkAt w' b r.st (es ++ r.es) (jvs ++ jvs') ∧ JobsOk w N jvs' r.js) ∧ Below b w w'
theorem MkAt.edge {w w' : World} {b st : Nat} {es : List Edge} {js : List JV} {A A' A2 : Option Addr} {c c' c2 : Nat} (e : Edge)
    (h1 : w'.heap[b]? = some (.cells #[.int .i64 st, .slice A es.length c, .slice A' js.length c'] 175 (0, 0)))
    (h2 : w.ownsRow (b + 1) 185 4 (.slice A es.length c) es.length (flat edgeCells es))
    (hown2 : w'.ownsRow (b + 1) 185 4 (.slice A2 (es.length + 1) c2) (es.length + 1) (flat edgeCells es ++ edgeCells e))
    (h3 : w.ownsRow (b + 1) 179 3 (.slice A' js.length c') js.length (flat jobCells js)) (hgrow : w.grownBy w' (Value.slice A es.length c).ownBlock) :
    MkAt (w'.setCell ⟨b, 1, none⟩ (.slice A2 (es.length + 1) c2)) b st (es ++ [e]) js := by
  refine ⟨A2, c2, A', c', ?_, ?_, ?_⟩
  · rw [List.length_append]
    exact blk_set_self h1 1 _
  · rw [List.length_append, flat_append, flat_one]
    exact ownsRow_setCell_below hown2 (a := ⟨b, 1, none⟩) (by simp) _
  · exact ownsRow_setCell_below (own_grown h3 h2 hgrow (by decide)) (a := ⟨b, 1, none⟩) (by simp) _
set_option maxRecDepth 8192 in
set_option maxHeartbeats 3200000 in
theorem setNet_any (b st a c : Nat) (m : List Bool) (es : List Edge) (jvs : List JV) (w : World) (hm : m.length = 95) (h : MkAt w b st es jvs) (hn : es.length ≤ 900000) :
    Calls Tryz.prog 179 #[.agg (bcells m), .pointer (some ⟨b, 0, none⟩), .int .i64 a, .int .i64 c] w (MkPost0 b st (es ++ setEdges m a c 0) jvs w) := by
  have Hm := Lib.hid hm
  have hlb := h.lt
  have H := Lib.hid (h.alloc (.cells (bcells m) 203))
  have Hg : Hid ((w.alloc (.cells (bcells m) 203)).heap[w.heap.size]? = some (.cells (bcells m) 203 (0, 0))) := blk_new _ _
  have Hb : Hid (Below b w (w.alloc (.cells (bcells m) 203))) := (Below.refl _ _).alloc (by omega) _
  clear h hm
  go_enter Tryz.func179, Tryz.ntmps179
  go_wp2_with fail
  generalize w.alloc _ = W at H Hg Hb ⊢
  go_loopw [8] (fun x wr => ∃ (i : Nat) (dn : List Edge), x = .int .i64 i ∧ i ≤ 95 ∧ Hid (setEdges m a c 0 = dn ++ setEdges m a c i) ∧ dn.length ≤ i ∧ Hid (MkAt wr b st (es ++ dn) jvs) ∧ Hid (wr.heap[w.heap.size]? = some (.cells (bcells m) 203 (0, 0))) ∧ Hid (Below b w wr)) (fun x _ => 95 - (intOf x).toNat)
  case atStart => exact ⟨0, [], rfl, by omega, rfl, Nat.le_refl _, by rw [List.append_nil]; exact H, Hg, Hb⟩
  case round =>
    clear H Hg Hb
    obtain ⟨i, dn, rfl, hi, hdn, hdl, hmk, hg, hb⟩ := hrel
    by_cases hlt : i < 95
    · have hlti : (i : Int) < 95 := by omega
      have c1 : wr.cell? ⟨w.heap.size, i, none⟩ = some (.bool (m.getD i false)) := (blk_cell hg.out i).trans (bcells_get (by rw [Hm.out]; exact hlt))
      cases hmi : m.getD i false with
      | false =>
        rw [hmi] at c1
        have hdn2 : Hid (setEdges m a c 0 = dn ++ setEdges m a c (i + 1)) := by show _ = _; rw [hdn.out, setEdges_no hlt hmi]
        clear hdn
        go_wp2_with fail
        go_roundw
        case rel => exact ⟨i + 1, dn, by go_num, by omega, hdn2, by omega, hmk, hg, hb⟩
        case measure => simp [intOf]; omega
      | true =>
        rw [hmi] at c1
        have hr := runEnd_range m hlt
        have hdn2 : Hid (setEdges m a c 0 = (dn ++ [⟨a, c, 32 + (i : Int), 32 + (runEnd m i : Int)⟩]) ++ setEdges m a c (runEnd m i + 1)) := by show _ = _; rw [hdn.out, setEdges_yes hlt hmi, List.append_assoc]; rfl
        have HRun := Lib.hid (run_any w.heap.size i m wr Hm.out hg.out hlt)
        generalize runEnd m i = r at hr hdn2 HRun
        clear hdn
        go_wp2_with fail
        refine HRun.out.mono ?_
        rintro e w' ⟨rfl, rfl⟩
        obtain ⟨A, c0, A', c', h1, h2, h3⟩ := hmk.out
        have b1 : wr.cell? ⟨b, 1, none⟩ = some (.slice A (es ++ dn).length c0) := blk_cell h1 1
        have bf : wr.frozen? ⟨b, 1, none⟩ = false := blk_frozen h1 1
        obtain ⟨en, hen⟩ : ∃ en, (es ++ dn).length = en := ⟨_, rfl⟩
        have hen2 : en ≤ 900095 := by rw [← hen, List.length_append]; omega
        have Hen := Lib.hid hen
        rw [hen] at b1
        have h1' := h1
        rw [hen] at h1'
        have H1 := Lib.hid h1'
        have H2 := Lib.hid h2
        have H3 := Lib.hid h3
        have h4 : wr.ownsRow (b + 1) 185 4 (.slice A en c0) en (flat edgeCells (es ++ dn)) := by rw [← hen]; exact h2
        have hgb : w.heap.size ≠ b := by omega
        have hbz := hb.out.size
        clear h1 h1' h2 h3 hen
        go_wp2_with (at_builtin; refine wpList_append_new_at info35 Tryz.underlying141 rfl (by decide) (by decide) _ h4 1 rfl _ _ rfl rfl rfl (by simp) rfl rfl (by omega) (by omega) ?_; intro v' w' hown' hbel hgt hgrow hnew; have hbx := blk_grown H1.out hgrow (own_ne h4 H1.out (by decide)); have cf' := blk_frozen hbx 1; have c1' : w'.cell? ⟨b, 1, none⟩ = some (.slice A en c0) := blk_cell hbx 1; have Hbx := Lib.hid hbx; obtain ⟨A2, c2, rfl, hown2⟩ := own_form hown'; clear hbx)
        have hg2 := Lib.hid (blk_set (p := ⟨b, 1, none⟩) (blk_grown hg.out hgrow (own_ne h4 hg.out (by decide))) hgb (.slice A2 (en + 1) c2))
        have hb2 := Lib.hid ((hb.out.trans (hbel.mono (Nat.le_succ b))).setCell (p := ⟨b, 1, none⟩) (Nat.le_refl _) (.slice A2 (en + 1) c2))
        have hmk2 : Hid (MkAt (w'.setCell ⟨b, 1, none⟩ (.slice A2 (en + 1) c2)) b st (es ++ (dn ++ [⟨a, c, 32 + (i : Int), 32 + (r : Int)⟩])) jvs) := by
          show MkAt _ _ _ _ _
          rw [← List.append_assoc, ← Hen.out]
          exact MkAt.edge ⟨a, c, 32 + (i : Int), 32 + (r : Int)⟩ (by rw [Hen.out]; exact Hbx.out) H2.out (by rw [Hen.out]; exact hown2) H3.out (by rw [Hen.out]; exact hgrow)
        go_roundw
        case rel => exact ⟨r + 1, dn ++ [⟨a, c, 32 + (i : Int), 32 + (r : Int)⟩], by go_num, by omega, hdn2, by simp; omega, hmk2, hg2, hb2⟩
        case measure => simp [intOf]; omega
    · obtain rfl : i = 95 := by omega
      go_wp2_with fail
      refine bodyPost_end (results_none rfl _ _ _) rfl ?_
      refine ⟨rfl, ?_, hb.out⟩
      rw [hdn.out, setEdges_end (Nat.le_refl _), List.append_nil]
      exact hmk.out
end
end Go.Proofs.YtghlodpbbghcoaaGreatDoor.Rx

/- Net: walked. -/
namespace Go.Proofs.YtghlodpbbghcoaaGreatDoor.Rx
section
open Go.RowKit
theorem chain_step {l : List T} {i : Nat} {t : T} (a b st : Nat) (ht : l[i]? = some t) (hi : i + 1 < l.length) : chain (l.drop i) a b st = ⟨t, a, st⟩ :: chain (l.drop (i + 1)) st b (st + 1) := by
  obtain ⟨h1, h2⟩ := List.getElem?_eq_some_iff.1 ht
  rw [List.drop_eq_getElem_cons h1, h2]
  obtain ⟨u, l', hl⟩ : ∃ u l', l.drop (i + 1) = u :: l' := by
    cases hd : l.drop (i + 1) with
    | nil => have := congrArg List.length hd; simp at this; omega
    | cons u l' => exact ⟨u, l', rfl⟩
  rw [hl]
  rfl
theorem chain_last {l : List T} {i : Nat} {t : T} (a b st : Nat) (ht : l[i]? = some t) (hi : i + 1 = l.length) : chain (l.drop i) a b st = [⟨t, a, b⟩] := by
  obtain ⟨h1, h2⟩ := List.getElem?_eq_some_iff.1 ht
  rw [List.drop_eq_getElem_cons h1, h2, List.drop_of_length_le (by omega)]
  rfl
theorem PartsAt.get {w : World} {P : Nat → Prop} {vs : List Value} {l : List T} (h : PartsAt w P vs l) {i : Nat} (hi : i < vs.length) :
    ∃ ty u t, Hid (vs[i]? = some (.iface ty u)) ∧ Hid (l[i]? = some t) ∧ Hid (PartAt w P (.iface ty u) t) := by
  have h1 : vs[i]? = some vs[i] := List.getElem?_eq_getElem hi
  have hi2 : i < l.length := by rw [← h.1]; exact hi
  have h2 : l[i]? = some l[i] := List.getElem?_eq_getElem hi2
  have h3 := h.2 i _ _ h1 h2
  obtain ⟨ty, u, hv⟩ := h3.form
  rw [hv] at h1 h3
  exact ⟨ty, u, _, h1, h2, h3⟩
set_option maxRecDepth 8192 in
set_option maxHeartbeats 3200000 in
theorem altNet_any (N b st a c n cap : Nat) (A : Option Addr) (vs : List Value) (l : List T) (es : List Edge) (jvs : List JV) (w : World) (hn : vs.length = n) (hc : CellsIn w (· < N) A vs) (hp : PartsAt w (· < N) vs l) (hN : N ≤ b) (h : MkAt w b st es jvs)
    (hjs : jvs.length ≤ 900000) (hn1 : n ≤ 1000) :
    Calls Tryz.prog 183 #[.agg #[.slice A n cap], .pointer (some ⟨b, 0, none⟩), .int .i64 a, .int .i64 c] w (NetPost N b (jobNet st (.alt l) a c) es jvs w) := by
  have hlb := h.lt
  have H := Lib.hid (h.alloc (.cells #[.slice A n cap] 207))
  have Hb : Hid (Below b w (w.alloc (.cells #[.slice A n cap] 207))) := (Below.refl _ _).alloc (by omega) _
  have Hc := Lib.hid hc
  have Hp := Lib.hid hp
  have Hn := Lib.hid hn
  clear h hc hp
  go_enter Tryz.func183, Tryz.ntmps183
  go_wp2_with fail
  generalize w.alloc _ = W at H Hb ⊢
  go_loopw [13] (fun x wr => ∃ (i : Nat) (jn : List JV), x = .int .i64 i ∧ i ≤ n ∧ jn.length = i ∧ Hid (JobsOk w N jn ((l.take i).map (fun t => ⟨t, a, c⟩))) ∧ Hid (MkAt wr b st es (jvs ++ jn)) ∧ Hid (Below b w wr)) (fun x _ => n - (intOf x).toNat)
  case atStart => exact ⟨0, [], rfl, Nat.zero_le _, rfl, JobsOk.nil _ _, by rw [List.append_nil]; exact H, Hb⟩
  case round =>
    clear H Hb
    obtain ⟨i, jn, rfl, hi, hjl, hjo, hmk, hb⟩ := hrel
    by_cases hlt : i < n
    · have hlti : (i : Int) < (n : Int) := by omega
      obtain ⟨ty, u, t, hv, ht, hpt⟩ := Hp.out.get (i := i) (by omega)
      obtain ⟨g, o, rfl, hg, hcell⟩ := (Hc.out.move (below_moves hb.out hN)).at_ hv.out
      have hjo2 : Hid (JobsOk w N (jn ++ [⟨.iface ty u, a, c⟩]) ((l.take (i + 1)).map (fun t => ⟨t, a, c⟩))) := by
        show JobsOk _ _ _ _
        rw [take_snoc ht.out, List.map_append]
        exact hjo.out.append (JobsOk.one a c hpt.out)
      have HM := Lib.hid (mkPart_any b st a c ty u es (jvs ++ jn) wr hmk.out (by rw [List.length_append]; omega))
      clear hjo hmk hv ht hpt
      go_wp2_with fail
      refine HM.out.mono ?_
      rintro e w2 ⟨rfl, hmk2, hb2, hkt2⟩
      have Hmk2 := Lib.hid hmk2
      have Hb2 := Lib.hid (hb.out.trans hb2)
      clear hmk2 hb2 hkt2 hb HM
      go_wp2_with fail
      go_roundw
      case rel => exact ⟨i + 1, jn ++ [⟨.iface ty u, a, c⟩], by go_num, by omega, by simp; omega, hjo2, by rw [← List.append_assoc]; exact Hmk2, Hb2⟩
      case measure => simp [intOf]; omega
    · have hlti : ¬ (i : Int) < (n : Int) := by omega
      go_wp2_with fail
      refine bodyPost_end (results_none rfl _ _ _) rfl ?_
      refine ⟨rfl, ⟨jn, ?_, ?_⟩, hb.out⟩
      · show MkAt _ _ _ (es ++ []) _
        rw [List.append_nil]
        exact hmk.out
      · have := hjo.out
        rwa [List.take_of_length_le (by rw [← Hp.out.1, Hn.out]; omega)] at this
set_option maxRecDepth 8192 in
set_option maxHeartbeats 3200000 in
theorem seqNet_any (N b st a c n cap : Nat) (A : Option Addr) (vs : List Value) (l : List T) (es : List Edge) (jvs : List JV) (w : World) (hn : vs.length = n) (hcap : n ≤ cap) (hc : CellsIn w (· < N) A vs) (hp : PartsAt w (· < N) vs l) (hN : N ≤ b) (h : MkAt w b st es jvs)
    (hjs : jvs.length ≤ 900000) (hes : es.length ≤ 900000) (hst : st ≤ 900000) (hn1 : n ≤ 1000) :
    Calls Tryz.prog 184 #[.agg #[.slice A n cap], .pointer (some ⟨b, 0, none⟩), .int .i64 a, .int .i64 c] w (NetPost N b (jobNet st (.seq l) a c) es jvs w) := by
  have hlb := h.lt
  have H := Lib.hid (h.alloc (.cells #[.slice A n cap] 235))
  have Hb : Hid (Below (w.heap.size + 1) (w.alloc (.cells #[.slice A n cap] 235)) (w.alloc (.cells #[.slice A n cap] 235))) := Below.refl _ _
  have Hb0 : Hid (Below b w (w.alloc (.cells #[.slice A n cap] 235))) := (Below.refl _ _).alloc (by omega) _
  have Hc := Lib.hid hc
  have Hp := Lib.hid hp
  have Hn := Lib.hid hn
  clear h hc hp hn Hb
  rcases Nat.eq_zero_or_pos n with h0 | h0
  · subst h0
    obtain rfl : l = [] := List.eq_nil_of_length_eq_zero (by rw [← Hp.out.1, Hn.out])
    have HM := Lib.hid (mkNone_any b st a c es jvs _ H.out (by omega))
    go_enter Tryz.func184, Tryz.ntmps184
    go_wp2_with fail
    refine HM.out.mono ?_
    rintro e w2 ⟨rfl, hmk2, hb2, hkt2⟩
    have Hmk2 := Lib.hid hmk2
    have Hb2 := Lib.hid (Hb0.out.trans hb2)
    clear hmk2 hb2
    go_wp2_with fail
    go_returns
    exact ⟨rfl, ⟨[], by rw [List.append_nil]; exact Hmk2.out, JobsOk.nil _ _⟩, Hb2.out⟩
  · obtain ⟨k, rfl⟩ : ∃ k, n = k + 1 := ⟨n - 1, by omega⟩
    have hne : ((k : Int) + 1 == 0) = false := beq_eq_false_iff_ne.2 (by omega)
    have hll : l.length = k + 1 := by rw [← Hp.out.1, Hn.out]
    have hjob : Hid (jobNet st (.seq l) a c = ⟨st + k, [], chain l a c st⟩) := by
      show _ = _
      cases l with
      | nil => simp at hll
      | cons t l => simp only [List.length_cons] at hll; simp [jobNet]; omega
    have Hg : Hid ((w.alloc (.cells #[.slice A (k + 1) cap] 235)).heap[w.heap.size]? = some (.cells #[.slice A (k + 1) cap] 235 (0, 0))) := blk_new _ _
    have Hll := Lib.hid hll
    clear hll
    go_enter Tryz.func184, Tryz.ntmps184
    go_wp2_with fail
    generalize w.alloc _ = W at H Hb0 Hg ⊢
    go_loopw [2, 29] (fun fr x wr => ∃ (i f : Nat) (jn : List JV) (dn : List Job), x = .int .i64 i ∧ i ≤ k ∧ fr = .int .i64 f ∧ jn.length = i ∧ Hid (JobsOk w N jn dn) ∧ Hid (chain l a c st = dn ++ chain (l.drop i) f c (st + i)) ∧ Hid (MkAt wr b (st + i) es (jvs ++ jn)) ∧ Hid (Below b w wr) ∧
        Hid (wr.heap[w.heap.size]? = some (.cells #[.slice A (k + 1) cap] 235 (0, 0)))) (fun _ x _ => k - (intOf x).toNat)
    case atStart => exact ⟨0, a, [], [], rfl, Nat.zero_le _, rfl, rfl, JobsOk.nil _ _, rfl, by rw [List.append_nil]; exact H, Hb0, Hg⟩
    case round =>
      clear H Hb0 Hg
      obtain ⟨i, f, jn, dn, rfl, hi, rfl, hjl, hjo, hch, hmk, hb, hg⟩ := hrel
      obtain ⟨ty, u, t, hv, ht, hpt⟩ := Hp.out.get (i := i) (by rw [Hn.out]; omega)
      obtain ⟨g, o, rfl, hgN, hcell⟩ := (Hc.out.move (below_moves hb.out hN)).at_ hv.out
      by_cases hlt : i < k
      · have hlti : (i : Int) < (k : Int) := by omega
        have hch2 : Hid (chain l a c st = (dn ++ [⟨t, f, st + i⟩]) ++ chain (l.drop (i + 1)) (st + i) c (st + (i + 1))) := by
          show _ = _
          rw [hch.out, chain_step f c (st + i) ht.out (by rw [Hll.out]; omega), List.append_assoc]
          rfl
        have hjo2 : Hid (JobsOk w N (jn ++ [⟨.iface ty u, f, st + i⟩]) (dn ++ [⟨t, f, st + i⟩])) := hjo.out.append (JobsOk.one f (st + i) hpt.out)
        have HS := Lib.hid (mkState_any b (st + i) es (jvs ++ jn) wr hmk.out (by omega))
        have HM := Lib.hid (fun (w2 : World) (h2 : MkAt w2 b (st + i + 1) es (jvs ++ jn)) => mkPart_any b (st + i + 1) f (st + i) ty u es (jvs ++ jn) w2 h2 (by rw [List.length_append]; omega))
        have hcast : Hid (((st + i : Nat) : Int) = (st : Int) + (i : Int)) := by show _ = _; omega
        clear hjo hch hmk hv ht hpt
        go_wp2_with fail
        refine HS.out.mono ?_
        rintro e w2 ⟨rfl, hmk2, hb2, hkt2⟩
        have Hmk2 := Lib.hid hmk2
        have Hb2 := Lib.hid (hb.out.trans hb2)
        have Hg2 := Lib.hid (hkt2 _ _ _ hg.out (by decide) (by decide) (by decide))
        clear hmk2 hb2 hkt2 hb hg HS
        go_wp2_with fail
        refine (HM.out w2 Hmk2.out).mono ?_
        rintro e w3 ⟨rfl, hmk3, hb3, hkt3⟩
        have Hmk3 := Lib.hid hmk3
        have Hb3 := Lib.hid (Hb2.out.trans hb3)
        have Hg3 := Lib.hid (hkt3 _ _ _ Hg2.out (by decide) (by decide) (by decide))
        clear hmk3 hb3 hkt3 Hb2 Hg2 HM Hmk2
        go_wp2_with fail
        go_roundw
        case rel => exact ⟨i + 1, st + i, jn ++ [⟨.iface ty u, f, st + i⟩], dn ++ [⟨t, f, st + i⟩], by go_num, by omega, by go_num, by simp; omega, hjo2, hch2, by rw [← List.append_assoc]; exact Hmk3, Hb3, Hg3⟩
        case measure => simp [intOf]; omega
      · obtain rfl : i = k := by omega
        have hlti : ¬ (i : Int) < (i : Int) := by omega
        have hch2 : Hid (chain l a c st = dn ++ [⟨t, f, c⟩]) := by
          show _ = _
          rw [hch.out, chain_last f c (st + i) ht.out (by rw [Hll.out])]
        have hjo2 : Hid (JobsOk w N (jn ++ [⟨.iface ty u, f, c⟩]) (dn ++ [⟨t, f, c⟩])) := hjo.out.append (JobsOk.one f c hpt.out)
        have HM := Lib.hid (mkPart_any b (st + i) f c ty u es (jvs ++ jn) wr hmk.out (by rw [List.length_append]; omega))
        have q0 : wr.cell? ⟨w.heap.size, 0, none⟩ = some (.slice (some ⟨g, o, none⟩) (i + 1) cap) := blk_cell hg.out 0
        clear hjo hch hmk hv ht hpt
        go_wp2_with fail
        refine HM.out.mono ?_
        rintro e w2 ⟨rfl, hmk2, hb2, hkt2⟩
        have Hmk2 := Lib.hid hmk2
        have Hb2 := Lib.hid (hb.out.trans hb2)
        clear hmk2 hb2 hkt2 hb HM q0
        go_wp2_with fail
        go_returns
        refine ⟨rfl, ⟨jn ++ [⟨.iface ty u, f, c⟩], ?_, ?_⟩, Hb2.out⟩
        · rw [hjob.out]
          show MkAt _ _ _ (es ++ []) _
          rw [List.append_nil, ← List.append_assoc]
          exact Hmk2.out
        · rw [hjob.out]
          show JobsOk _ _ _ (chain l a c st)
          rw [hch2.out]
          exact hjo2.out
set_option maxRecDepth 8192 in
set_option maxHeartbeats 3200000 in
theorem repNet_any (N b st a c : Nat) (ty : TypeId) (u : Value) (p : T) (op : UInt8) (es : List Edge) (jvs : List JV) (w : World) (hp : PartAt w (· < N) (.iface ty u) p) (_hN : N ≤ b) (h : MkAt w b st es jvs)
    (hjs : jvs.length ≤ 900000) (hes : es.length ≤ 900000) (hst : st ≤ 900000) :
    Calls Tryz.prog 181 #[.agg #[.iface ty u, .int .u8 op.toNat], .pointer (some ⟨b, 0, none⟩), .int .i64 a, .int .i64 c] w (NetPost N b (jobNet st (.rep p op) a c) es jvs w) := by
  have hlb := h.lt
  have H := Lib.hid (h.alloc (.cells #[.iface ty u, .int .u8 op.toNat] 205))
  have Hb0 : Hid (Below b w (w.alloc (.cells #[.iface ty u, .int .u8 op.toNat] 205))) := (Below.refl _ _).alloc (by omega) _
  have Hg : Hid ((w.alloc (.cells #[.iface ty u, .int .u8 op.toNat] 205)).heap[w.heap.size]? = some (.cells #[.iface ty u, .int .u8 op.toNat] 205 (0, 0))) := blk_new _ _
  have Hp := Lib.hid hp
  obtain ⟨q, hq⟩ : ∃ q : Nat, op.toNat = q := ⟨_, rfl⟩
  have hjn : Hid (jobNet st (.rep p op) a c = if q = 63 then ⟨st, [eps a c], [⟨p, a, c⟩]⟩ else if q = 42 then ⟨st + 1, [eps a st, eps st c], [⟨p, st, st⟩]⟩ else ⟨st + 2, [eps a st, eps (st + 1) st, eps (st + 1) c], [⟨p, st, st + 1⟩]⟩) := by
    show _ = _
    rw [← hq]
    rfl
  rw [hq] at H Hb0 Hg ⊢
  clear h hp hq
  by_cases h1 : q = 63
  · subst h1
    rw [hjn.out, if_pos rfl]
    go_enter Tryz.func181, Tryz.ntmps181
    go_wp2_with fail
    generalize w.alloc _ = W at H Hb0 Hg ⊢
    refine (mkNone_any b st a c es jvs W H.out (by omega)).mono ?_
    rintro e w2 ⟨rfl, hmk2, hb2, hkt2⟩
    have Hmk2 := Lib.hid hmk2
    have Hb2 := Lib.hid (Hb0.out.trans hb2)
    have hg2 := hkt2 _ _ _ Hg.out (by decide) (by decide) (by decide)
    have q0 : w2.cell? ⟨w.heap.size, 0, none⟩ = some (.iface ty u) := blk_cell hg2 0
    clear hmk2 hb2 hkt2 hg2 Hg Hb0 H
    go_wp2_with fail
    refine (mkPart_any b st a c ty u _ jvs w2 Hmk2.out (by omega)).mono ?_
    rintro e w3 ⟨rfl, hmk3, hb3, hkt3⟩
    have Hmk3 := Lib.hid hmk3
    have Hb3 := Lib.hid (Hb2.out.trans hb3)
    clear hmk3 hb3 hkt3 Hb2 q0
    go_wp2_with fail
    go_returns
    exact ⟨rfl, ⟨_, Hmk3.out, JobsOk.one a c Hp.out⟩, Hb3.out⟩
  · have hd1 : ((q : Int) == 63) = false := beq_eq_false_iff_ne.2 (by omega)
    by_cases h2 : q = 42
    · subst h2
      rw [hjn.out, if_neg (by decide), if_pos rfl]
      go_enter Tryz.func181, Tryz.ntmps181
      go_wp2_with fail
      generalize w.alloc _ = W at H Hb0 Hg ⊢
      refine (mkState_any b st es jvs W H.out (by omega)).mono ?_
      rintro e w2 ⟨rfl, hmk2, hb2, hkt2⟩
      have Hmk2 := Lib.hid hmk2
      have Hb2 := Lib.hid (Hb0.out.trans hb2)
      have Hg2 := Lib.hid (hkt2 _ _ _ Hg.out (by decide) (by decide) (by decide))
      clear hmk2 hb2 hkt2 Hg Hb0 H
      go_wp2_with fail
      refine (mkNone_any b (st + 1) a st es jvs w2 Hmk2.out (by omega)).mono ?_
      rintro e w3 ⟨rfl, hmk3, hb3, hkt3⟩
      have Hmk3 := Lib.hid hmk3
      have Hb3 := Lib.hid (Hb2.out.trans hb3)
      have hg3 := hkt3 _ _ _ Hg2.out (by decide) (by decide) (by decide)
      have q0 : w3.cell? ⟨w.heap.size, 0, none⟩ = some (.iface ty u) := blk_cell hg3 0
      clear hmk3 hb3 hkt3 Hg2 Hb2 Hmk2 hg3
      go_wp2_with fail
      refine (mkPart_any b (st + 1) st st ty u _ jvs w3 Hmk3.out (by omega)).mono ?_
      rintro e w4 ⟨rfl, hmk4, hb4, hkt4⟩
      have Hmk4 := Lib.hid hmk4
      have Hb4 := Lib.hid (Hb3.out.trans hb4)
      clear hmk4 hb4 hkt4 Hb3 Hmk3 q0
      go_wp2_with fail
      refine (mkNone_any b (st + 1) st c _ _ w4 Hmk4.out (by simp; omega)).mono ?_
      rintro e w5 ⟨rfl, hmk5, hb5, hkt5⟩
      have Hmk5 := Lib.hid hmk5
      have Hb5 := Lib.hid (Hb4.out.trans hb5)
      clear hmk5 hb5 hkt5 Hb4 Hmk4
      go_wp2_with fail
      go_returns
      refine ⟨rfl, ⟨_, ?_, JobsOk.one st st Hp.out⟩, Hb5.out⟩
      have := Hmk5.out
      rwa [List.append_assoc] at this
    · have hd2 : ((q : Int) == 42) = false := beq_eq_false_iff_ne.2 (by omega)
      rw [hjn.out, if_neg h1, if_neg h2]
      go_enter Tryz.func181, Tryz.ntmps181
      go_wp2_with fail
      generalize w.alloc _ = W at H Hb0 Hg ⊢
      refine (mkState_any b st es jvs W H.out (by omega)).mono ?_
      rintro e w2 ⟨rfl, hmk2, hb2, hkt2⟩
      have Hmk2 := Lib.hid hmk2
      have Hb2 := Lib.hid (Hb0.out.trans hb2)
      have Hg2 := Lib.hid (hkt2 _ _ _ Hg.out (by decide) (by decide) (by decide))
      clear hmk2 hb2 hkt2 Hg Hb0 H
      go_wp2_with fail
      refine (mkState_any b (st + 1) es jvs w2 Hmk2.out (by omega)).mono ?_
      rintro e w2' ⟨rfl, hmk2', hb2', hkt2'⟩
      have Hmk2' := Lib.hid hmk2'
      have Hb2' := Lib.hid (Hb2.out.trans hb2')
      have Hg2' := Lib.hid (hkt2' _ _ _ Hg2.out (by decide) (by decide) (by decide))
      clear hmk2' hb2' hkt2' Hg2 Hb2 Hmk2
      go_wp2_with fail
      refine (mkNone_any b (st + 1 + 1) a st es jvs w2' Hmk2'.out (by omega)).mono ?_
      rintro e w3 ⟨rfl, hmk3, hb3, hkt3⟩
      have Hmk3 := Lib.hid hmk3
      have Hb3 := Lib.hid (Hb2'.out.trans hb3)
      have hg3 := hkt3 _ _ _ Hg2'.out (by decide) (by decide) (by decide)
      have q0 : w3.cell? ⟨w.heap.size, 0, none⟩ = some (.iface ty u) := blk_cell hg3 0
      have HP : Hid (∀ (x : Nat) (_ : x = st + 1), Calls Tryz.prog 130 #[.pointer (some ⟨b, 0, none⟩), .iface ty u, .int .i64 st, .int .i64 ((st : Int) + 1)] w3 (MkPost b (st + 1 + 1) (es ++ [eps a st]) (jvs ++ [⟨.iface ty u, st, st + 1⟩]) w3)) := fun x hx => by
        have := mkPart_any b (st + 1 + 1) st (st + 1) ty u _ jvs w3 Hmk3.out (by omega)
        simpa using this
      clear hmk3 hb3 hkt3 Hg2' Hb2' Hmk2' hg3
      go_wp2_with fail
      refine (HP.out _ rfl).mono ?_
      rintro e w4 ⟨rfl, hmk4, hb4, hkt4⟩
      have Hmk4 := Lib.hid hmk4
      have Hb4 := Lib.hid (Hb3.out.trans hb4)
      have HQ : Hid (Calls Tryz.prog 182 #[.pointer (some ⟨b, 0, none⟩), .int .i64 ((st : Int) + 1), .int .i64 st] w4 (MkPost b (st + 1 + 1) (es ++ [eps a st] ++ [eps (st + 1) st]) (jvs ++ [⟨.iface ty u, st, st + 1⟩]) w4)) := by
        have := mkNone_any b (st + 1 + 1) (st + 1) st _ _ w4 Hmk4.out (by simp; omega)
        show Calls _ _ _ _ _
        simpa using this
      clear hmk4 hb4 hkt4 Hb3 Hmk3 q0 HP
      go_wp2_with fail
      refine HQ.out.mono ?_
      rintro e w5 ⟨rfl, hmk5, hb5, hkt5⟩
      have Hmk5 := Lib.hid hmk5
      have Hb5 := Lib.hid (Hb4.out.trans hb5)
      have HQ2 : Hid (Calls Tryz.prog 182 #[.pointer (some ⟨b, 0, none⟩), .int .i64 ((st : Int) + 1), .int .i64 c] w5 (MkPost b (st + 1 + 1) (es ++ [eps a st] ++ [eps (st + 1) st] ++ [eps (st + 1) c]) (jvs ++ [⟨.iface ty u, st, st + 1⟩]) w5)) := by
        have := mkNone_any b (st + 1 + 1) (st + 1) c _ _ w5 Hmk5.out (by simp; omega)
        show Calls _ _ _ _ _
        simpa using this
      clear hmk5 hb5 hkt5 Hb4 Hmk4 HQ
      go_wp2_with fail
      refine HQ2.out.mono ?_
      rintro e w6 ⟨rfl, hmk6, hb6, hkt6⟩
      have Hmk6 := Lib.hid hmk6
      have Hb6 := Lib.hid (Hb5.out.trans hb6)
      clear hmk6 hb6 hkt6 Hb5 Hmk5 HQ2
      go_wp2_with fail
      go_returns
      refine ⟨rfl, ⟨_, ?_, JobsOk.one st (st + 1) Hp.out⟩, Hb6.out⟩
      have := Hmk6.out
      simpa using this
end
section
open Go.RowKit
set_option maxHeartbeats 800000 in
theorem inner_any (g : Nat) (ty : TypeId) (u : Value) (w : World) (hg : w.heap[g]? = some (.cells #[.iface ty u] 153 (0, 0))) :
    Calls Tryz.prog 131 #[.pointer (some ⟨g, 0, none⟩)] w fun e w' => e = .returned (.iface ty u) ∧ w = w' := by
  have c0 : w.cell? ⟨g, 0, none⟩ = some (.iface ty u) := blk_cell hg 0
  clear hg
  go_enter Tryz.func131, Tryz.ntmps131
  go_wp2_with fail
  go_ret
  exact ⟨rfl, rfl⟩
theorem own_take {w : World} {base : Nat} {e : TypeId} {size n c k : Nat} {A : Option Addr} {xs : List Value} (h : w.ownsRow base e size (.slice A n c) n xs) (hk : k ≤ n) : w.ownsRow base e size (.slice A k c) k (xs.take (k * size)) := by
  obtain ⟨h1, h2⟩ := h
  have hm : k * size ≤ n * size := Nat.mul_le_mul_right _ hk
  refine ⟨by rw [List.length_take, h1]; omega, ?_⟩
  rcases h2 with ⟨hv, hn⟩ | ⟨g, cap, cur, hv, hg, hh, hcap, hmax, hcs, ht⟩
  · subst hn
    obtain rfl : k = 0 := by omega
    exact .inl ⟨hv, rfl⟩
  · simp only [Value.slice.injEq] at hv
    obtain ⟨rfl, _, rfl⟩ := hv
    exact .inr ⟨g, c, cur, rfl, hg, hh, by omega, hmax, hcs, by rw [← ht, List.take_take, Nat.min_eq_left hm]⟩
theorem job_at {w : World} {base n c k : Nat} {A : Option Addr} {js : List JV} (h : w.ownsRow base 179 3 (.slice A n c) n (flat jobCells js)) (hn : n = js.length) (hk : k < n) :
    ∃ g o j, A = some ⟨g, o, none⟩ ∧ g < w.heap.size ∧ Hid (js[k]? = some j) ∧ w.cell? ⟨g, o + k * 3, none⟩ = some j.v ∧ w.cell? ⟨g, o + k * 3 + 1, none⟩ = some (.int .i64 j.src) ∧ w.cell? ⟨g, o + k * 3 + 2, none⟩ = some (.int .i64 j.dst) := by
  have hj : js[k]? = some js[k] := List.getElem?_eq_getElem (by omega)
  have g := fun j (hj' : j < 3) => flat_get jobCells_length hj hj'
  have hc := CellsAt.of_own h
  obtain ⟨b, o, rfl, hB, c0⟩ := hc.at_ (g 0 (by omega))
  obtain ⟨b1, o1, e1, _, c1⟩ := hc.at_ (g 1 (by omega))
  obtain ⟨b2, o2, e2, _, c2⟩ := hc.at_ (g 2 (by omega))
  simp only [Option.some.injEq, Addr.mk.injEq] at e1 e2
  obtain ⟨rfl, rfl, _⟩ := e1
  obtain ⟨rfl, rfl, _⟩ := e2
  exact ⟨b, o, js[k], rfl, hB, hj, c0, c1, c2⟩
/-- What Net hands back. -/
def NetGot (t : T) (w : World) (e : Ending) (w' : World) : Prop :=
  (∃ A c, e = .returned (.agg #[.int .i64 (netT t).1, .int .i64 0, .int .i64 1, .slice A (netT t).2.length c]) ∧ EdgesAt w' w'.heap.size A (netT t).2) ∧ Below w.heap.size w w'
theorem runNet_step {f st : Nat} {es : List Edge} {js : List Job} {j : Job} (hj : js[js.length - 1]? = some j) (hf : 1 ≤ f) :
    runNet f st es js = runNet (f - 1) (jobNet st j.t j.frm j.to).st (es ++ (jobNet st j.t j.frm j.to).es) (popL js ++ (jobNet st j.t j.frm j.to).js) := by
  obtain ⟨f', rfl⟩ : ∃ f', f = f' + 1 := ⟨f - 1, by omega⟩
  rw [runNet, hj]
  rfl
theorem runNet_end {f st : Nat} {es : List Edge} : runNet f st es [] = (st, es) := by
  cases f with
  | zero => rfl
  | succ f => rfl
theorem jsizes_pop {js : List Job} {j : Job} (hj : js[js.length - 1]? = some j) : jsizes js = jsizes (popL js) + j.t.size := by
  have hl : js.length - 1 < js.length := (List.getElem?_eq_some_iff.1 hj).1
  have h1 : js = popL js ++ [j] := by
    have := take_snoc hj
    rw [List.take_of_length_le (by omega)] at this
    exact this
  conv => lhs; rw [h1]
  rw [jsizes_append]
  simp [jsizes]
theorem popL_length {α : Type} (l : List α) : (popL l).length = l.length - 1 := by simp [popL]
theorem setNet_net (N b st a c : Nat) (m : List Bool) (es : List Edge) (jvs : List JV) (w : World) (hm : m.length = 95) (h : MkAt w b st es jvs) (hn : es.length ≤ 900000) :
    Calls Tryz.prog 179 #[.agg (bcells m), .pointer (some ⟨b, 0, none⟩), .int .i64 a, .int .i64 c] w (NetPost N b (jobNet st (.set m) a c) es jvs w) := by
  refine (setNet_any b st a c m es jvs w hm h hn).mono ?_
  rintro e w' ⟨rfl, h1, h2⟩
  exact ⟨rfl, ⟨[], by rw [List.append_nil]; exact h1, JobsOk.nil _ _⟩, h2⟩
theorem blk_setCells4 {w : World} {g : Nat} {t : TypeId} {a b c d x y z u : Value} (h : w.heap[g]? = some (.cells #[a, b, c, d] t (0, 0))) :
    ((((w.setCell ⟨g, 0, none⟩ x).setCell ⟨g, 1, none⟩ y).setCell ⟨g, 2, none⟩ z).setCell ⟨g, 3, none⟩ u).heap[g]? = some (.cells #[x, y, z, u] t (0, 0)) :=
  blk_set_self (blk_set_self (blk_set_self (blk_set_self h 0 x) 1 y) 2 z) 3 u
theorem info24s : (Tryz.prog.info? 143).map (·.size) = some 4 := by kernel_rfl
set_option maxRecDepth 8192 in
set_option maxHeartbeats 6400000 in
theorem net_any (g : Nat) (ty : TypeId) (u : Value) (t : T) (w : World) (hg : w.heap[g]? = some (.cells #[.iface ty u] 153 (0, 0))) (hp : PartAt w (· < w.heap.size) (.iface ty u) t) (hs : t.size ≤ 1000) :
    Calls Tryz.prog 117 #[.pointer (some ⟨g, 0, none⟩)] w (NetGot t w) := by
  obtain ⟨N, hN⟩ : ∃ N, w.heap.size = N := ⟨_, rfl⟩
  have hbN : Hid (Below N w ((w.alloc (.cells #[.int .i64 0, .int .i64 0, .int .i64 0, .slice none 0 0] 143)).alloc (.cells #[.int .i64 2, .slice none 0 0, .slice none 0 0] 175))) := by
    rw [← hN]
    exact ((Below.refl _ _).alloc (Nat.le_refl _) _).alloc (by simp) _
  have hgl := blk_lt hg
  have hmk0 : Hid (MkAt ((w.alloc (.cells #[.int .i64 0, .int .i64 0, .int .i64 0, .slice none 0 0] 143)).alloc (.cells #[.int .i64 2, .slice none 0 0, .slice none 0 0] 175)) (w.heap.size + 1) 2 [] []) :=
    ⟨none, 0, none, 0, blk_new' (by simp), World.ownsRow_nil _ _ _ _, World.ownsRow_nil _ _ _ _⟩
  have hres0 : Hid (((w.alloc (.cells #[.int .i64 0, .int .i64 0, .int .i64 0, .slice none 0 0] 143)).alloc (.cells #[.int .i64 2, .slice none 0 0, .slice none 0 0] 175)).heap[N]? = some (.cells #[.int .i64 0, .int .i64 0, .int .i64 0, .slice none 0 0] 143 (0, 0))) := by
    rw [← hN]
    exact blk_alloc (blk_new _ _) _
  have Hg := Lib.hid hg
  rw [hN] at hp
  have Hp := Lib.hid hp
  clear hg hp
  go_enter Tryz.func117, Tryz.ntmps117
  go_wp2_with fail
  refine (inner_any g ty u _ (blk_alloc (blk_alloc Hg.out _) _)).mono ?_
  rintro e w1 ⟨rfl, rfl⟩
  go_wp2_with fail
  generalize (w.alloc _).alloc _ = W at hbN hmk0 hres0 ⊢
  rw [hN] at hmk0 hgl
  refine (mkPart_any (N + 1) 2 0 1 ty u [] [] W hmk0.out (by simp)).mono ?_
  rintro e w2 ⟨rfl, hmk2, hb2, hkt2⟩
  have Hmk2 : Hid (MkAt w2 (N + 1) 2 [] [⟨.iface ty u, 0, 1⟩]) := hmk2
  have Hb2 := Lib.hid (hbN.out.trans (hb2.mono (by omega)))
  have Hres2 := Lib.hid (blk_below hres0.out hb2 (by omega))
  have Hjo2 : Hid (JobsOk w2 N [⟨.iface ty u, 0, 1⟩] [⟨t, 0, 1⟩]) := JobsOk.one 0 1 (Hp.out.move (below_moves Hb2.out (Nat.le_refl _)))
  clear hmk2 hb2 hkt2 hmk0 hres0 hbN
  go_wp2_with fail
  go_loopg [] t.size (fun q wr => ∃ (f st : Nat) (es : List Edge) (jvs : List JV) (js : List Job), q = jsizes js ∧ jsizes js + 1 ≤ f ∧ jsizes js ≤ t.size ∧ Hid (netT t = runNet f st es js) ∧ Hid (JobsOk wr N jvs js) ∧ Hid (MkAt wr (N + 1) st es jvs) ∧ Hid (Below N w wr) ∧
      Hid (wr.heap[N]? = some (.cells #[.int .i64 0, .int .i64 0, .int .i64 0, .slice none 0 0] 143 (0, 0))) ∧ st + 2 * jsizes js ≤ 2 * t.size + 1 + js.length ∧ es.length + 95 * jsizes js ≤ 95 * t.size)
  case atStart =>
    refine ⟨t.size + 1, 2, [], [⟨.iface ty u, 0, 1⟩], [⟨t, 0, 1⟩], ?_, ?_, ?_, rfl, Hjo2, Hmk2, Hb2, Hres2, ?_, ?_⟩ <;> simp [jsizes] <;> omega
  case round =>
    clear Hjo2 Hmk2 Hb2 Hres2
    obtain ⟨f, st, es, jvs, js, rfl, hf, hjt, htot, hjo, hmk, hb, hres, hst, hes⟩ := hrel
    obtain ⟨A, c, A', c', h1, h2, h3⟩ := hmk.out
    have hjl := hjo.out.1
    have hjs := jsizes_len js
    have b0 : wr.cell? ⟨N + 1, 0, none⟩ = some (.int .i64 st) := blk_cell h1 0
    have b1 : wr.cell? ⟨N + 1, 1, none⟩ = some (.slice A es.length c) := blk_cell h1 1
    have b2 : wr.cell? ⟨N + 1, 2, none⟩ = some (.slice A' jvs.length c') := blk_cell h1 2
    have bf : wr.frozen? ⟨N + 1, 2, none⟩ = false := blk_frozen h1 2
    have hbl := blk_lt h1
    have hcap := own_cap h3
    rcases Nat.eq_zero_or_pos jvs.length with h0 | h0
    · have hj0 : js = [] := List.eq_nil_of_length_eq_zero (by omega)
      subst hj0
      have hnet : netT t = (st, es) := by rw [htot.out, runNet_end]
      have Hnet := Lib.hid hnet
      have Hres := Lib.hid hres.out
      have H2 := Lib.hid h2
      have hN3 : (N : Nat) < N + 1 := by omega
      rw [h0] at b2
      have r0 : wr.frozen? ⟨N, 0, none⟩ = false := blk_frozen hres.out 0
      have r1 : wr.frozen? ⟨N, 1, none⟩ = false := blk_frozen hres.out 1
      have r2 : wr.frozen? ⟨N, 2, none⟩ = false := blk_frozen hres.out 2
      have r3 : wr.frozen? ⟨N, 3, none⟩ = false := blk_frozen hres.out 3
      have q0 : wr.cell? ⟨N, 0, none⟩ = some (.int .i64 0) := blk_cell hres.out 0
      have q1 : wr.cell? ⟨N, 1, none⟩ = some (.int .i64 0) := blk_cell hres.out 1
      have q2 : wr.cell? ⟨N, 2, none⟩ = some (.int .i64 0) := blk_cell hres.out 2
      have q3 : wr.cell? ⟨N, 3, none⟩ = some (.slice none 0 0) := blk_cell hres.out 3
      clear h1 h2 h3 htot hjo hmk hnet bf
      go_upto_region 8 with fail
      have Hr4 := Lib.hid (blk_setCells4 (x := .int .i64 (st : Int)) (y := .int .i64 0) (z := .int .i64 1) (u := .slice A es.length c) Hres.out)
      have Hb4 : Hid (Below N w ((((wr.setCell ⟨N, 0, none⟩ (.int .i64 (st : Int))).setCell ⟨N, 1, none⟩ (.int .i64 0)).setCell ⟨N, 2, none⟩ (.int .i64 1)).setCell ⟨N, 3, none⟩ (.slice A es.length c))) :=
        (((hb.out.setCell (p := ⟨N, 0, none⟩) (Nat.le_refl _) _).setCell (p := ⟨N, 1, none⟩) (Nat.le_refl _) _).setCell (p := ⟨N, 2, none⟩) (Nat.le_refl _) _).setCell (p := ⟨N, 3, none⟩) (Nat.le_refl _) _
      have Ho4 : Hid (((((wr.setCell ⟨N, 0, none⟩ (.int .i64 (st : Int))).setCell ⟨N, 1, none⟩ (.int .i64 0)).setCell ⟨N, 2, none⟩ (.int .i64 1)).setCell ⟨N, 3, none⟩ (.slice A es.length c)).ownsRow (N + 1 + 1) 185 4 (.slice A es.length c) es.length (flat edgeCells es)) :=
        ownsRow_setCell_below (ownsRow_setCell_below (ownsRow_setCell_below (ownsRow_setCell_below H2.out (a := ⟨N, 0, none⟩) (by simp; omega) _) (a := ⟨N, 1, none⟩) (by simp; omega) _) (a := ⟨N, 2, none⟩) (by simp; omega) _) (a := ⟨N, 3, none⟩) (by simp; omega) _
      go_region
      all_goals go_wp2_with fail
      refine bodyPost_ret (results_cell_row rfl _ _ N 143 _ (0, 0) _ rfl Hr4.out Tryz.underlying143 rfl info24s) rfl ⟨⟨A, c, ?_, ?_⟩, ?_⟩
      · rw [Hnet.out]
      · rw [Hnet.out]
        exact CellsAt.of_own Ho4.out
      · rw [hN]
        exact Hb4.out.drew
    · obtain ⟨k, hk⟩ : ∃ k, jvs.length = k + 1 := ⟨jvs.length - 1, by omega⟩
      rw [hk] at b2 hcap h3 h1
      obtain ⟨g9, o9, j9, rfl, hg9, hj9, j0, j1, j2⟩ := job_at (k := k) h3 hk.symm (by omega)
      obtain ⟨jb, hjb⟩ : ∃ jb, js[k]? = some jb := ⟨_, List.getElem?_eq_getElem (by omega)⟩
      obtain ⟨e1, e2, hpt⟩ := hjo.out.2 k j9 jb hj9.out hjb
      obtain ⟨ty9, u9, hv9⟩ := hpt.form
      rw [hv9] at j0 hpt
      rw [e1] at j1
      rw [e2] at j2
      have hpos : (0 : Int) < (k : Int) + 1 := by omega
      have hkb : k ≤ 1000 := by omega
      have H1 := Lib.hid h1
      have H2 := Lib.hid h2
      have H3 := Lib.hid h3
      have Hpt := Lib.hid hpt
      have Hjb := Lib.hid hjb
      have Hk := Lib.hid hk
      clear h1 h2 h3 hpt hjb e1 e2 hv9 hj9 hk
      go_upto_region 7 with fail
      have hmk7 : MkAt ((wr.setCell ⟨N + 1, 2, none⟩ (.slice (some ⟨g9, o9, none⟩) k c')).alloc (.cells #[.iface ty9 u9, .int .i64 jb.frm, .int .i64 jb.to] 179)) (N + 1) st es (jvs.take k) := by
        have hkl : (jvs.take k).length = k := by rw [List.length_take]; have := Hk.out; omega
        refine ⟨A, c, some ⟨g9, o9, none⟩, c', ?_, ?_, ?_⟩
        · rw [hkl]
          exact blk_alloc (blk_set_self H1.out 2 _) _
        · exact (ownsRow_setCell_below H2.out (a := ⟨N + 1, 2, none⟩) (by simp) _).alloc _
        · rw [hkl, flat_take jobCells_length]
          exact (ownsRow_setCell_below (own_take H3.out (Nat.le_succ k)) (a := ⟨N + 1, 2, none⟩) (by simp) _).alloc _
      have hbx7 : ((wr.setCell ⟨N + 1, 2, none⟩ (.slice (some ⟨g9, o9, none⟩) k c')).alloc (.cells #[.iface ty9 u9, .int .i64 jb.frm, .int .i64 jb.to] 179)).heap[wr.heap.size]? = some (.cells #[.iface ty9 u9, .int .i64 jb.frm, .int .i64 jb.to] 179 (0, 0)) := blk_new' (by simp)
      have hb7 : Below (N + 1) wr ((wr.setCell ⟨N + 1, 2, none⟩ (.slice (some ⟨g9, o9, none⟩) k c')).alloc (.cells #[.iface ty9 u9, .int .i64 jb.frm, .int .i64 jb.to] 179)) := ((Below.refl _ _).setCell (p := ⟨N + 1, 2, none⟩) (Nat.le_refl _) _).alloc (by simp; omega) _
      clear b0 b1 b2 bf j0 j1 j2
      generalize World.alloc (wr.setCell _ _) _ = W7 at hmk7 hbx7 hb7 ⊢
      have q0 : W7.cell? ⟨wr.heap.size, 0, none⟩ = some (.iface ty9 u9) := blk_cell hbx7 0
      have q1 : W7.cell? ⟨wr.heap.size, 1, none⟩ = some (.int .i64 jb.frm) := blk_cell hbx7 1
      have q2 : W7.cell? ⟨wr.heap.size, 2, none⟩ = some (.int .i64 jb.to) := blk_cell hbx7 2
      have Hmk7 := Lib.hid hmk7
      have Hb7 := Lib.hid (hb.out.trans (hb7.mono (by omega)))
      have Hres7 := Lib.hid (blk_below hres.out hb7 (by omega))
      have Hpt7 : Hid (PartAt W7 (· < N) (.iface ty9 u9) jb.t) := Hpt.out.move (below_moves hb7 (by omega))
      have hjk : js.length = k + 1 := by have := Hk.out; omega
      have Hlast : Hid (js[js.length - 1]? = some jb) := by show _ = _; rw [hjk]; exact Hjb.out
      have Hjo7 : Hid (JobsOk W7 N (jvs.take k) (popL js)) := by
        have := (hjo.out.take k).below hb7 (by omega)
        show JobsOk _ _ _ _
        unfold popL
        rw [hjk]
        exact this
      have hcost := jobNet_cost st jb.t jb.frm jb.to
      have hpop := jsizes_pop Hlast.out
      have hkl : (jvs.take k).length = k := by rw [List.length_take]; have := Hk.out; omega
      clear hmk7 hbx7 hb7 H1 H2 H3 Hpt Hjb hjo hmk hb hres
      obtain ⟨tt, htt⟩ : ∃ tt, jb.t = tt := ⟨_, rfl⟩
      have hpt := Hpt7.out
      rw [htt] at hpt
      have Htt := Lib.hid htt
      clear Hpt7 htt
      cases hpt with
        | set hm =>
          go_wp2_with fail
          refine (setNet_net N (N + 1) st jb.frm jb.to _ es (jvs.take k) W7 hm Hmk7.out (by omega)).mono ?_
          rintro e w8 ⟨rfl, ⟨jn, hmk8, hjo8⟩, hb8⟩
          have Hmk8 := Lib.hid hmk8
          have Hjo8 : Hid (JobsOk w8 N (jvs.take k ++ jn) (popL js ++ (jobNet st jb.t jb.frm jb.to).js)) := by
            show JobsOk _ _ _ _
            rw [Htt.out]
            exact (Hjo7.out.below hb8 (by omega)).append (hjo8.below hb8 (by omega))
          have Hb8 := Lib.hid (Hb7.out.trans (hb8.mono (by omega)))
          have Hres8 := Lib.hid (blk_below Hres7.out hb8 (by omega))
          have Hmk9 : Hid (MkAt w8 (N + 1) (jobNet st jb.t jb.frm jb.to).st (es ++ (jobNet st jb.t jb.frm jb.to).es) (jvs.take k ++ jn)) := by
            show MkAt _ _ _ _ _
            rw [Htt.out]
            exact hmk8
          clear hmk8 hjo8 hb8
          go_wp2_with fail
          go_roundg (jsizes (popL js ++ (jobNet st jb.t jb.frm jb.to).js))
          case rel =>
            refine ⟨f - 1, _, _, _, _, rfl, ?_, ?_, ?_, Hjo8, Hmk9, Hb8, Hres8, ?_, ?_⟩
            · rw [jsizes_append]; omega
            · rw [jsizes_append]; omega
            · show _ = _
              rw [htot.out, runNet_step Hlast.out (by omega)]
            · rw [jsizes_append, List.length_append, popL_length]; omega
            · rw [jsizes_append, List.length_append]; omega
          case measure => rw [jsizes_append]; omega
        | @seq A9 n9 cap9 vs9 l9 hc hn hcap9 hl h =>
          have hln := sizes_len l9
          have hsz9 : jb.t.size = 1 + sizes l9 := by rw [Htt.out]; simp only [T.size]
          go_wp2_with fail
          refine (seqNet_any N (N + 1) st jb.frm jb.to n9 cap9 A9 vs9 l9 es (jvs.take k) W7 hn hcap9 hc ⟨hl, h⟩ (by omega) Hmk7.out (by omega) (by omega) (by omega) (by omega)).mono ?_
          rintro e w8 ⟨rfl, ⟨jn, hmk8, hjo8⟩, hb8⟩
          have Hmk8 := Lib.hid hmk8
          have Hjo8 : Hid (JobsOk w8 N (jvs.take k ++ jn) (popL js ++ (jobNet st jb.t jb.frm jb.to).js)) := by
            show JobsOk _ _ _ _
            rw [Htt.out]
            exact (Hjo7.out.below hb8 (by omega)).append (hjo8.below hb8 (by omega))
          have Hb8 := Lib.hid (Hb7.out.trans (hb8.mono (by omega)))
          have Hres8 := Lib.hid (blk_below Hres7.out hb8 (by omega))
          have Hmk9 : Hid (MkAt w8 (N + 1) (jobNet st jb.t jb.frm jb.to).st (es ++ (jobNet st jb.t jb.frm jb.to).es) (jvs.take k ++ jn)) := by
            show MkAt _ _ _ _ _
            rw [Htt.out]
            exact hmk8
          clear hmk8 hjo8 hb8
          go_wp2_with fail
          go_roundg (jsizes (popL js ++ (jobNet st jb.t jb.frm jb.to).js))
          case rel =>
            refine ⟨f - 1, _, _, _, _, rfl, ?_, ?_, ?_, Hjo8, Hmk9, Hb8, Hres8, ?_, ?_⟩
            · rw [jsizes_append]; omega
            · rw [jsizes_append]; omega
            · show _ = _
              rw [htot.out, runNet_step Hlast.out (by omega)]
            · rw [jsizes_append, List.length_append, popL_length]; omega
            · rw [jsizes_append, List.length_append]; omega
          case measure => rw [jsizes_append]; omega
        | @alt A9 n9 cap9 vs9 l9 hc hn hcap9 hl h =>
          have hln := sizes_len l9
          have hsz9 : jb.t.size = 1 + sizes l9 := by rw [Htt.out]; simp only [T.size]
          go_wp2_with fail
          refine (altNet_any N (N + 1) st jb.frm jb.to n9 cap9 A9 vs9 l9 es (jvs.take k) W7 hn hc ⟨hl, h⟩ (by omega) Hmk7.out (by omega) (by omega)).mono ?_
          rintro e w8 ⟨rfl, ⟨jn, hmk8, hjo8⟩, hb8⟩
          have Hmk8 := Lib.hid hmk8
          have Hjo8 : Hid (JobsOk w8 N (jvs.take k ++ jn) (popL js ++ (jobNet st jb.t jb.frm jb.to).js)) := by
            show JobsOk _ _ _ _
            rw [Htt.out]
            exact (Hjo7.out.below hb8 (by omega)).append (hjo8.below hb8 (by omega))
          have Hb8 := Lib.hid (Hb7.out.trans (hb8.mono (by omega)))
          have Hres8 := Lib.hid (blk_below Hres7.out hb8 (by omega))
          have Hmk9 : Hid (MkAt w8 (N + 1) (jobNet st jb.t jb.frm jb.to).st (es ++ (jobNet st jb.t jb.frm jb.to).es) (jvs.take k ++ jn)) := by
            show MkAt _ _ _ _ _
            rw [Htt.out]
            exact hmk8
          clear hmk8 hjo8 hb8
          go_wp2_with fail
          go_roundg (jsizes (popL js ++ (jobNet st jb.t jb.frm jb.to).js))
          case rel =>
            refine ⟨f - 1, _, _, _, _, rfl, ?_, ?_, ?_, Hjo8, Hmk9, Hb8, Hres8, ?_, ?_⟩
            · rw [jsizes_append]; omega
            · rw [jsizes_append]; omega
            · show _ = _
              rw [htot.out, runNet_step Hlast.out (by omega)]
            · rw [jsizes_append, List.length_append, popL_length]; omega
            · rw [jsizes_append, List.length_append]; omega
          case measure => rw [jsizes_append]; omega
        | @rep pv9 p9 op9 h =>
          obtain ⟨ty0, u0, rfl⟩ := h.form
          go_wp2_with fail
          refine (repNet_any N (N + 1) st jb.frm jb.to ty0 u0 p9 op9 es (jvs.take k) W7 h (by omega) Hmk7.out (by omega) (by omega) (by omega)).mono ?_
          rintro e w8 ⟨rfl, ⟨jn, hmk8, hjo8⟩, hb8⟩
          have Hmk8 := Lib.hid hmk8
          have Hjo8 : Hid (JobsOk w8 N (jvs.take k ++ jn) (popL js ++ (jobNet st jb.t jb.frm jb.to).js)) := by
            show JobsOk _ _ _ _
            rw [Htt.out]
            exact (Hjo7.out.below hb8 (by omega)).append (hjo8.below hb8 (by omega))
          have Hb8 := Lib.hid (Hb7.out.trans (hb8.mono (by omega)))
          have Hres8 := Lib.hid (blk_below Hres7.out hb8 (by omega))
          have Hmk9 : Hid (MkAt w8 (N + 1) (jobNet st jb.t jb.frm jb.to).st (es ++ (jobNet st jb.t jb.frm jb.to).es) (jvs.take k ++ jn)) := by
            show MkAt _ _ _ _ _
            rw [Htt.out]
            exact hmk8
          clear hmk8 hjo8 hb8
          go_wp2_with fail
          go_roundg (jsizes (popL js ++ (jobNet st jb.t jb.frm jb.to).js))
          case rel =>
            refine ⟨f - 1, _, _, _, _, rfl, ?_, ?_, ?_, Hjo8, Hmk9, Hb8, Hres8, ?_, ?_⟩
            · rw [jsizes_append]; omega
            · rw [jsizes_append]; omega
            · show _ = _
              rw [htot.out, runNet_step Hlast.out (by omega)]
            · rw [jsizes_append, List.length_append, popL_length]; omega
            · rw [jsizes_append, List.length_append]; omega
          case measure => rw [jsizes_append]; omega
end
end Go.Proofs.YtghlodpbbghcoaaGreatDoor.Rx
