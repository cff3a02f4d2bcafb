/- Walks over the document's parser: its parts in memory; a part is added. -/
import Derived.Test.YtaefhfldgemcnaaR29
import Derived.Maps.AppendAt
import Derived.BigRegion
namespace Go.Proofs.Ytaefhfldgemcnaa
open Go.RowKit

def jInts (l : List Nat) : List Value := l.map fun (j : Nat) => Value.int .i64 (j : Int)
/-- A part's set and list lie in blocks of P. -/
def NodeAt (w : World) (P : Nat → Prop) (p : Value × Value) (r : RN) : Prop :=
  (∃ A c, p.1 = .slice A r.set.length c ∧ CellsIn w P A (r.set.map Value.bool)) ∧ (∃ A c, p.2 = .slice A r.l.length c ∧ CellsIn w P A (jInts r.l))
def nodeCells (r : RN) (p : Value × Value) : List Value := [.int .u8 r.op.toNat, p.1, p.2]
def nodesCells : List RN → List (Value × Value) → List Value
  | r :: ns, p :: ps => nodeCells r p ++ nodesCells ns ps
  | _, _ => []
theorem nodesCells_length : ∀ {ns : List RN} {ps : List (Value × Value)}, ps.length = ns.length → (nodesCells ns ps).length = ns.length * 3 := by
  intro ns
  induction ns with
  | nil => intro ps h; cases ps <;> rfl
  | cons r ns ih =>
    intro ps h
    cases ps with
    | nil => simp at h
    | cons p ps =>
      rw [nodesCells, List.length_append, ih (by simpa using h), List.length_cons]
      simp [nodeCells]
      omega
theorem nodesCells_snoc : ∀ {ns : List RN} {ps : List (Value × Value)} (r : RN) (p : Value × Value), ps.length = ns.length → nodesCells (ns ++ [r]) (ps ++ [p]) = nodesCells ns ps ++ nodeCells r p := by
  intro ns
  induction ns with
  | nil =>
    intro ps r p h
    obtain rfl : ps = [] := List.eq_nil_of_length_eq_zero h
    simp [nodesCells]
  | cons r' ns ih =>
    intro ps r p h
    cases ps with
    | nil => simp at h
    | cons p' ps =>
      rw [List.cons_append, List.cons_append, nodesCells, nodesCells, ih r p (by simpa using h), List.append_assoc]
theorem nodesCells_get : ∀ {ns : List RN} {ps : List (Value × Value)} {i : Nat} {r : RN} {p : Value × Value}, ns[i]? = some r → ps[i]? = some p →
    (nodesCells ns ps)[3 * i]? = some (.int .u8 r.op.toNat) ∧ (nodesCells ns ps)[3 * i + 1]? = some p.1 ∧ (nodesCells ns ps)[3 * i + 2]? = some p.2 := by
  intro ns
  induction ns with
  | nil => intro ps i r p h; simp at h
  | cons r' ns ih =>
    intro ps i r p h1 h2
    cases ps with
    | nil => simp at h2
    | cons p' ps =>
      rw [nodesCells]
      cases i with
      | zero =>
        simp at h1 h2
        subst h1 h2
        exact ⟨rfl, rfl, rfl⟩
      | succ i =>
        have := ih (by simpa using h1) (by simpa using h2)
        have e : (nodeCells r' p').length = 3 := rfl
        rw [List.getElem?_append_right (by rw [e]; omega), List.getElem?_append_right (by rw [e]; omega), List.getElem?_append_right (by rw [e]; omega), e]
        rw [show 3 * (i + 1) - 3 = 3 * i from by omega, show 3 * (i + 1) + 1 - 3 = 3 * i + 1 from by omega, show 3 * (i + 1) + 2 - 3 = 3 * i + 2 from by omega]
        exact this
/-- Parts lie at A, in blocks of P. -/
def NodesAt (w : World) (P : Nat → Prop) (A : Option Addr) (ns : List RN) : Prop :=
  ∃ ps : List (Value × Value), ps.length = ns.length ∧ CellsIn w P A (nodesCells ns ps) ∧ ∀ (i : Nat) (r : RN) (p : Value × Value), ns[i]? = some r → ps[i]? = some p → NodeAt w P p r
theorem NodeAt.move {w w' : World} {P Q : Nat → Prop} {p : Value × Value} {r : RN} (h : NodeAt w P p r) (hb : Moves P Q w w') : NodeAt w' Q p r := by
  obtain ⟨⟨A, c, h1, h2⟩, B, d, h3, h4⟩ := h
  exact ⟨⟨A, c, h1, h2.move hb⟩, B, d, h3, h4.move hb⟩
theorem NodesAt.move {w w' : World} {P Q : Nat → Prop} {A : Option Addr} {ns : List RN} (h : NodesAt w P A ns) (hb : Moves P Q w w') : NodesAt w' Q A ns := by
  obtain ⟨ps, h1, h2, h3⟩ := h
  exact ⟨ps, h1, h2.move hb, fun i r p a b => (h3 i r p a b).move hb⟩
theorem NodesAt.nil (w : World) (P : Nat → Prop) (A : Option Addr) : NodesAt w P A [] := ⟨[], rfl, fun j h => absurd h (by simp [nodesCells]), fun i r p h => by simp at h⟩

theorem nodes_one {ns : List RN} {ps : List (Value × Value)} {w : World} {P : Nat → Prop} (h : ∀ (i : Nat) (r : RN) (p : Value × Value), ns[i]? = some r → ps[i]? = some p → NodeAt w P p r) (hl : ps.length = ns.length) : ∀ u ∈ nodesCells ns ps, u.oneCell' = true := by
  revert ps
  induction ns with
  | nil => intro ps _ _ u hu; cases ps <;> simp [nodesCells] at hu
  | cons r ns ih =>
    intro ps h hl u hu
    cases ps with
    | nil => simp at hl
    | cons p ps =>
      rw [nodesCells] at hu
      rcases List.mem_append.1 hu with hu | hu
      · obtain ⟨⟨A, c, h1, _⟩, B, d, h2, _⟩ := h 0 r p rfl rfl
        simp only [nodeCells, List.mem_cons, List.not_mem_nil, or_false] at hu
        rcases hu with rfl | rfl | rfl
        · rfl
        · rw [h1]; rfl
        · rw [h2]; rfl
      · exact ih (fun i r' p' a b => h (i + 1) r' p' (by simpa using a) (by simpa using b)) (by simpa using hl) u hu

theorem info114 : (Try.prog.info? 114).map (fun i => (i.zero, i.size, i.bytes)) = some (some (.agg #[.int .u8 0, .slice none 0 0, .slice none 0 0]), 3, 56) := by kernel_rfl
theorem info114s : (Try.prog.info? 114).map (·.size) = some 3 := by kernel_rfl

/-- append to nil. -/
theorem append_nil_run (w : World) (ty : TypeId) {P : Nat → Prop} {A : Option Addr} {n c : Nat} {news : List Value} (hc : CellsIn w P A news) (hl : news.length = n * 3) (h1 : ∀ u ∈ news, u.oneCell' = true) (hn : n ≤ 100000) :
    ∃ v' w', (Builtin.append_ #[45, 45] ty #[.slice none 0 0, .slice A n c]).run Try.prog w = .ok v' w' ∧ w'.ownsRow w.heap.size 114 3 v' n news ∧ Below w.heap.size w w' := by
  obtain ⟨i, hi, hz0, hz1, hz2⟩ := info_parts info114
  rcases A with _ | ad
  · have h0 : news = [] := by
      cases news with
      | nil => rfl
      | cons u news =>
        obtain ⟨b, o, h, _⟩ := hc 0 (by simp)
        cases h
    subst h0
    obtain rfl : n = 0 := by simp at hl; omega
    refine ⟨.slice none 0 0, w, ?_, World.ownsRow_nil _ _ _ _, Below.refl _ _⟩
    have ht : Try.prog.underlying 45 = some (.slice 114) := Try.underlying45
    simp [Builtin.append_, run_underlying ht, sizeOf, typeInfo, hi, Builtin.lenOf, Builtin.firstCells]
  · have hcells : ∀ j u, news[j]? = some u → w.cell? (ad.add j) = some u := by
      intro j u hu
      obtain ⟨b, o, h, _, hcell⟩ := hc.at_ hu
      simp only [Option.some.injEq] at h
      subst h
      rw [Addr.add_mid]
      exact hcell
    have h63 : 0 + n ≤ maxLen := by unfold maxLen; omega
    obtain ⟨v', w', hr, h2, h3, _, _⟩ := run_append_own_at (P := Try.prog) w w.heap.size 45 ty 114 i _ 3 56 Try.underlying45 hi hz0 hz1 hz2 rfl (by decide) (.slice none 0 0) 0 [] (World.ownsRow_nil _ _ _ _) ad n c news hl hcells h1 h63 (by omega) (Nat.le_refl _)
    refine ⟨v', w', hr, by simpa using h2, (Below.refl _ _).grown h3 (Nat.le_refl _) (by simp [Value.ownBlock])⟩
theorem wpList_append_nil {ops : Array Oper} {rest : List Oper} {o : Oper} {a : Act} {w : World} {Q : Exit → Act → World → Prop} (hgd : o.guard = none) (s x : Operand) (ho : o.op = .call { callee := .builtin .append, args := #[s, x], argTypes := #[45, 45] })
    (hs : a.eval s = .slice none 0 0) {P : Nat → Prop} {A : Option Addr} {n c : Nat} {news : List Value} (hx : a.eval x = .slice A n c) (hc : CellsIn w P A news) (hl : news.length = n * 3) (h1 : ∀ u ∈ news, u.oneCell' = true) (hn : n ≤ 100000)
    (h : ∀ v' w', w'.ownsRow w.heap.size 114 3 v' n news → Below w.heap.size w w' → wpList Try.prog ops Q rest (a.put o.dst v') w') : wpList Try.prog ops Q (o :: rest) a w := by
  refine wpList_plain hgd fun K hK => ?_
  obtain ⟨v', w', hr, h2, h3⟩ := append_nil_run (c := c) w o.type hc hl h1 hn
  unfold Oper.wp execOp
  simp only [ho, resolve, invoke, builtin, Sem.run_bind, Sem.run_pure, Result.andThen_ok, List.map_toArray, List.map_cons, List.map_nil, hs, hx, hr]
  exact hK _ _ (h v' w' h2 h3)

def AddPost (P : Nat → Prop) (s : ByteArray) (k : Nat) (bad : Bool) (ns : List RN) (r : RN) (w : World) (e : Ending) (w' : World) : Prop :=
  ∃ A c, e = .returned (.tuple #[pvOf A (ns.length + 1) c s k bad, .int .i64 ns.length]) ∧ NodesAt w' (fun g => P g ∨ Fresh w w' g) A (ns ++ [r]) ∧ Below w.heap.size w w'

set_option maxRecDepth 8192 in
set_option maxHeartbeats 3200000 in
theorem refAdd_any (P : Nat → Prop) (A : Option Addr) (c : Nat) (s : ByteArray) (k : Nat) (bad : Bool) (ns : List RN) (r : RN) (p : Value × Value) (w : World) (hn : ns.length ≤ 10000) (hN : NodesAt w P A ns) (hr : NodeAt w P p r) (hP : ∀ g, P g → g < w.heap.size) :
    Calls Try.prog 69 #[pvOf A ns.length c s k bad, .agg #[.int .u8 r.op.toNat, p.1, p.2]] w (AddPost P s k bad ns r w) := by
  obtain ⟨n, hnn⟩ : ∃ n, ns.length = n := ⟨_, rfl⟩
  obtain ⟨ps, hps, hcs, hns⟩ := hN
  have hone := nodes_one hns hps
  have hlen : (nodesCells ns ps).length = n * 3 := by rw [nodesCells_length hps, hnn]
  obtain ⟨⟨As, cs, hs1, hs2⟩, Al, cl, hl1, hl2⟩ := hr
  obtain ⟨sv, lv⟩ := p
  simp only at hs1 hl1
  obtain ⟨sl, hsl⟩ : ∃ sl, r.set.length = sl := ⟨_, rfl⟩
  obtain ⟨ll, hll⟩ : ∃ ll, r.l.length = ll := ⟨_, rfl⟩
  rw [hsl] at hs1
  rw [hll] at hl1
  subst hs1 hl1
  have Hcs := Lib.hid hcs
  have HP := Lib.hid hP
  have Hone := Lib.hid hone
  have Hlen := Lib.hid hlen
  have hnb : n ≤ 10000 := by omega
  have HE : Hid (∀ (w' : World) (v' : Value) (B : Nat), Below w.heap.size w w' → w.heap.size ≤ B → w'.ownsRow B 114 3 v' (n + 1) (nodesCells ns ps ++ [.int .u8 r.op.toNat, .slice As sl cs, .slice Al ll cl]) → ∃ A' c', v' = .slice A' (n + 1) c' ∧ NodesAt w' (fun g => P g ∨ (B ≤ g ∧ g < w'.heap.size)) A' (ns ++ [r])) := by
    intro w' v' B hb hB hown
    have hmv : Moves P (fun g => P g ∨ (B ≤ g ∧ g < w'.heap.size)) w w' := fun g hg => ⟨.inl hg, hb.block g (hP g hg)⟩
    obtain ⟨A', c', rfl, hown2⟩ := own_form hown
    refine ⟨A', c', rfl, ps ++ [(.slice As sl cs, .slice Al ll cl)], by simp [hps], ?_, ?_⟩
    · rw [nodesCells_snoc r _ hps]
      intro j hj
      have hx := (CellsAt.of_own hown2) j hj
      obtain ⟨b, o, h1, h2, h3⟩ := hx
      refine ⟨b, o, h1, .inr ⟨?_, h2⟩, h3⟩
      obtain ⟨_, h5⟩ := hown2
      rcases h5 with ⟨hv, hn⟩ | ⟨g, cap, cur, hv, hg, _⟩
      · omega
      · simp only [Value.slice.injEq] at hv
        rw [h1] at hv
        simp only [Option.some.injEq, Addr.mk.injEq, and_true] at hv
        omega
    · intro i r' p' h1 h2
      by_cases hi : i < ns.length
      · rw [List.getElem?_append_left hi] at h1
        rw [List.getElem?_append_left (by omega)] at h2
        exact (hns i r' p' h1 h2).move hmv
      · rw [List.getElem?_append_right (by omega)] at h1
        rw [List.getElem?_append_right (by omega), hps] at h2
        have hz : i - ns.length = 0 := by
          rcases Nat.eq_zero_or_pos (i - ns.length) with h0 | h0
          · exact h0
          · rw [List.getElem?_eq_none (by simp; omega)] at h1; cases h1
        rw [hz] at h1 h2
        simp at h1 h2
        subst h1 h2
        exact ⟨⟨As, cs, by rw [hsl], hs2.move hmv⟩, Al, cl, by rw [hll], hl2.move hmv⟩
  unfold AddPost
  rw [hnn]
  clear hcs hone hns hps hlen hs2 hl2 hP hnn hn
  go_enter Try.func69, Try.ntmps69
  go_upto_region 2 with fail
  generalize hW : ((w.alloc _).alloc _).alloc _ = W
  have hX : Hid (BoxP W w.heap.size A n c s k bad) := by subst hW; exact blk_alloc (blk_alloc (blk_new _ _) _) _
  have hY : Hid (W.heap[w.heap.size + 1]? = some (.cells #[.int .u8 r.op.toNat, .slice As sl cs, .slice Al ll cl] 114 (0, 0))) := by subst hW; exact blk_alloc (blk_new' (by simp)) _
  have hZ : Hid (RoomP W (w.heap.size + 2)) := by subst hW; exact ⟨_, _, _, _, blk_new' (by simp)⟩
  have hB : Hid (Below w.heap.size w W) := by subst hW; exact (((Below.refl _ _).alloc (Nat.le_refl _) _).alloc (by simp) _).alloc (by simp; omega) _
  have hz : W.heap.size = w.heap.size + 3 := by subst hW; simp
  clear hW
  have hB0 : Hid (Below w.heap.size w W) := hB
  have c0 : W.cell? ⟨w.heap.size, 0, none⟩ = some (.slice A n c) := blk_cell hX.out 0
  have hcW := Lib.hid (Hcs.out.move (w' := W) (Q := fun _ => True) (fun g hg => ⟨trivial, hB.out.block g (HP.out g hg)⟩))
  go_upto_region 3 with (at_builtin; refine wpList_append_nil rfl _ _ rfl rfl rfl hcW.out Hlen.out Hone.out (by omega) ?_; intro v1 w1 hown1 hb1)
  obtain ⟨A1, d1, rfl, hown2⟩ := own_form hown1
  have hX1 := Lib.hid (hX.out.below hb1 (by omega))
  have hY1 := Lib.hid (blk_below hY.out hb1 (by omega))
  have hZ1 := Lib.hid (hZ.out.below hb1 (by omega))
  have hB1 := Lib.hid (hB.out.trans (hb1.mono hB.out.size))
  have hz1 : w.heap.size + 3 ≤ w1.heap.size := by have := hb1.size; omega
  have hWz : W.heap.size ≤ w1.heap.size := hb1.size
  clear hX hY hZ hB hB0 c0 hcW hown1 hb1
  go_wp2_with (first
    | ((with_reducible show wpList _ _ _ (⟨some 12, _, _, _, _, _⟩ :: _) _ _); refine wpList_load_row rfl 114 _ rfl (w.heap.size + 1) rfl 114 _ (0, 0) _ hY1.out Try.underlying114 rfl info114s ?_)
    | (at_builtin; refine wpList_append_new_at info114 Try.underlying45 rfl (by decide) (by decide) W.heap.size hown2 1 rfl _ _ rfl rfl rfl (by simp) rfl rfl (by omega) hWz ?_; intro v2 w2 hown3 hbel hgt hgrow hnew; have hB2 := Lib.hid (hB1.out.trans (hbel.mono (by omega))); obtain ⟨A2, d2, rfl, hN2⟩ := HE.out w2 v2 W.heap.size hB2.out (by omega) hown3; have HN2 := Lib.hid hN2; have hX2 := Lib.hid (hX1.out.below hbel (by omega)); have hZ2 := Lib.hid (hZ1.out.below hbel (by omega)); have c0 : w2.cell? ⟨w.heap.size, 0, none⟩ = some (.slice A n c) := blk_cell hX2.out 0; have f0 : w2.frozen? ⟨w.heap.size, 0, none⟩ = false := blk_frozen hX2.out 0; clear hown3 hbel hgrow hnew hN2 hX1 hZ1))
  have hX3 : Hid (BoxP (w2.setCell ⟨w.heap.size, 0, none⟩ (.slice A2 (n + 1) d2)) w.heap.size A2 (n + 1) d2 s k bad) := by
    have := blk_set_self hX2.out 0 (.slice A2 (n + 1) d2)
    show _ = _
    rw [this]
    simp
  have hZ3 := Lib.hid (hZ2.out.set (p := ⟨w.heap.size, 0, none⟩) (by simp) (.slice A2 (n + 1) d2))
  have hB3 := Lib.hid (hB2.out.setCell (p := ⟨w.heap.size, 0, none⟩) (Nat.le_refl _) (.slice A2 (n + 1) d2))
  have hsz3 : (w2.setCell ⟨w.heap.size, 0, none⟩ (.slice A2 (n + 1) d2)).heap.size = w2.heap.size := by simp
  have hz2 : w.heap.size + 3 ≤ w2.heap.size := by omega
  have hN3 : Hid (∀ (i : Nat) (u : Value) (wx : World), wx.heap.size = w2.heap.size → (∀ g, g ≠ w.heap.size → g ≠ w.heap.size + 2 → wx.heap[g]? = w2.heap[g]?) → Hid (NodesAt wx (fun g => P g ∨ Fresh w wx g) A2 (ns ++ [r]))) := fun i u wx hs hx =>
    HN2.out.move (fun g hg => by
      rcases hg with hg | hg
      · have := HP.out g hg
        exact ⟨.inl hg, hx g (by omega) (by omega)⟩
      · exact ⟨.inr ⟨by omega, by omega⟩, hx g (by omega) (by omega)⟩)
  have hk3 : Hid (∀ g, g ≠ w.heap.size → (w2.setCell ⟨w.heap.size, 0, none⟩ (.slice A2 (n + 1) d2)).heap[g]? = w2.heap[g]?) := fun g hg => Below.heap_setCell w2 ⟨w.heap.size, 0, none⟩ _ g hg
  generalize World.setCell w2 _ _ = W3 at hX3 hZ3 hB3 hsz3 hk3 ⊢
  have x0 : W3.cell? ⟨w.heap.size, 0, none⟩ = some (.slice A2 (n + 1) d2) := blk_cell hX3.out 0
  have x1 : W3.cell? ⟨w.heap.size, 1, none⟩ = some (.string s) := blk_cell hX3.out 1
  have x2 : W3.cell? ⟨w.heap.size, 2, none⟩ = some (.int .i64 k) := blk_cell hX3.out 2
  have x3 : W3.cell? ⟨w.heap.size, 3, none⟩ = some (.bool bad) := blk_cell hX3.out 3
  obtain ⟨y0, y1, y2, y3, hy⟩ := hZ3.out
  have z0 : W3.cell? ⟨w.heap.size + 2, 0, none⟩ = some y0 := blk_cell hy 0
  have z1 : W3.cell? ⟨w.heap.size + 2, 1, none⟩ = some y1 := blk_cell hy 1
  have z2 : W3.cell? ⟨w.heap.size + 2, 2, none⟩ = some y2 := blk_cell hy 2
  have z3 : W3.cell? ⟨w.heap.size + 2, 3, none⟩ = some y3 := blk_cell hy 3
  have g0 : W3.frozen? ⟨w.heap.size + 2, 0, none⟩ = false := blk_frozen hy 0
  have g1 : W3.frozen? ⟨w.heap.size + 2, 1, none⟩ = false := blk_frozen hy 1
  have g2 : W3.frozen? ⟨w.heap.size + 2, 2, none⟩ = false := blk_frozen hy 2
  have g3 : W3.frozen? ⟨w.heap.size + 2, 3, none⟩ = false := blk_frozen hy 3
  have hn1 : IntKind.i64.wrap ((n : Int) + 1 - 1) = (n : Int) := by rw [show (n : Int) + 1 - 1 = (n : Int) from by omega]; exact IntWalk.i64_in _ (by omega)
  have HY := Lib.hid hy
  clear hy c0 f0 hY1 hown2
  go_region
  have hst := hZ3.out.stored A2 (n + 1) d2 s k bad
  have hbs := below_setCells (B := w.heap.size) (b := w.heap.size + 2) (by omega) [.slice A2 (n + 1) d2, .string s, .int .i64 k, .bool bad] W3 0 hB3.out
  have hkk : ∀ g, g ≠ w.heap.size + 2 → (W3.setCells (w.heap.size + 2) 0 [.slice A2 (n + 1) d2, .string s, .int .i64 k, .bool bad]).heap[g]? = W3.heap[g]? := fun g hg => heap_setCells_other hg _ _ _
  have hss : (W3.setCells (w.heap.size + 2) 0 [.slice A2 (n + 1) d2, .string s, .int .i64 k, .bool bad]).heap.size = w2.heap.size := by
    rw [← hsz3]
    simp [World.setCells]
  have hfin := hN3.out 0 undef (W3.setCells (w.heap.size + 2) 0 [.slice A2 (n + 1) d2, .string s, .int .i64 k, .bool bad]) hss (fun g h1 h2 => (hkk g h2).trans (hk3.out g h1))
  have Hst := Lib.hid hst
  have Hbs := Lib.hid hbs
  clear hst hbs hkk hss z0 z1 z2 z3 g0 g1 g2 g3 x0 x1 x2 x3 hn1 HY
  change Exit.then _ _ _ _ (World.drew (W3.setCells (w.heap.size + 2) 0 [.slice A2 (n + 1) d2, .string s, .int .i64 k, .bool bad]))
  generalize W3.setCells _ _ _ = W4 at Hst Hbs hfin ⊢
  go_wp2_with fail
  refine bodyPost_ret (results_pv rfl _ _ rfl (show BoxP (World.drew W4) (w.heap.size + 2) A2 (n + 1) d2 s k bad from Hst.out)) rfl ⟨A2, d2, rfl, ?_, Hbs.out.drew⟩
  exact hfin.out.move (w' := W4.drew) (fun g hg => ⟨hg, rfl⟩)
end Go.Proofs.Ytaefhfldgemcnaa
