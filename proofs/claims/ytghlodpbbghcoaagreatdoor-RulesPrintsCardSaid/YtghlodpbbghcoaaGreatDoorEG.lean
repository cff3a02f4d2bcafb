/- (*met[key]).add of package dfa: walked. -/
import Derived.Test.YtghlodpbbghcoaaGreatDoorEF
import Derived.Deep.MidRow
import Derived.Great.BuildSlice
namespace Go.Proofs.YtghlodpbbghcoaaGreatDoor
open Go.RowKit Go.Maps
theorem made225 : (Tryz.prog.info? 225).map (fun i => (i.zero, i.size, i.bytes)) = some (some (.agg (keyV fun _ => 0)), 96, 192) := by kernel_rfl
theorem info225 {cs : Array Value} (h : cs.size = 96) : (Tryz.prog.info? 225).map (·.size) = some cs.size := by rw [h]; kernel_rfl
theorem load225 {w : World} {X : Nat} {cs : Array Value} (hb : w.heap[X]? = some (.cells cs 225 (0, 0))) (hs : cs.size = 96) :
    (Instr.loadAt 225 (.pointer (some ⟨X, 0, none⟩))).run Tryz.prog w = .ok (.agg cs) w := by
  simp only [Instr.loadAt, Instr.sureAddr, Sem.run_bind, Sem.run_pure, Result.andThen_ok, run_loadVar_row w X 225 225 cs (0, 0) _ hb Tryz.underlying225 rfl (info225 hs)]
theorem build228 (cs : Array Value) (hs : cs.size = 96) (w : World) :
    (Instr.buildSlice 228 1 #[(0, .agg cs)]).run Tryz.prog w = .ok (.slice (some ⟨w.heap.size, 0, none⟩) 1 1) (w.alloc (.cells cs 225)) := by
  obtain ⟨i, hi, hz, hz1, hz2⟩ := info_parts made225
  have h := Great.fill_whole (s := 96) (by decide) [.agg cs] ((Array.range (1 * 96)).map ((Value.agg (keyV fun _ => 0)).cells[· % (Value.agg (keyV fun _ => 0)).cells.size]!)) (by intro v hv; rw [List.mem_singleton.1 hv]; exact hs) (by simp)
  refine run_buildSlice w 228 225 1 _ cs i _ Tryz.underlying228 hi hz (by rw [hz1]; decide) (by rw [hz1]; decide) ?_
  rw [hz1]
  refine Eq.trans ?_ (h.trans ?_)
  · rfl
  · simp [Value.cells]
theorem stillIf_load_row {P : Program} {ops : Array Oper} {o : Oper} {a : Act} {w : World} {K : Act → Prop} {E : Prop} (hgd : o.guard = none) (ty : TypeId) (x : Operand) (ho : o.op = .load ty x)
    (g : Nat) (hx : a.eval x = .pointer (some ⟨g, 0, none⟩)) (t : TypeId) (cs : Array Value) (d : TypeDesc) (hg : w.heap[g]? = some (.cells cs t (0, 0)))
    (hu : P.underlying ty = some d) (hd : (match d with | .struct _ | .array _ _ => true | _ => false) = true) (hi : (P.info? ty).map (·.size) = some cs.size)
    (h : K (a.put o.dst (.agg cs))) : if Region.wanted o (yielded ops a.tmps) = true then o.still P a w K else E := by
  have hw : Region.wanted o (yielded ops a.tmps) = true := by simp [Region.wanted, hgd]
  rw [if_pos hw]
  unfold Oper.still execOp
  simp only [ho, hx, Instr.loadAt, Instr.sureAddr, Sem.run_bind, Sem.run_pure, Result.andThen_ok, run_loadVar_row w g t ty cs (0, 0) d hg hu hd hi]
  exact ⟨rfl, h⟩
theorem stepIf_load_row {P : Program} {ops : Array Oper} {o : Oper} {a : Act} {w : World} {K : Act → World → Prop} {Q : Exit → Act → World → Prop} {E : Prop} (hgd : o.guard = none) (ty : TypeId) (x : Operand) (ho : o.op = .load ty x)
    (g : Nat) (hx : a.eval x = .pointer (some ⟨g, 0, none⟩)) (t : TypeId) (cs : Array Value) (d : TypeDesc) (hg : w.heap[g]? = some (.cells cs t (0, 0)))
    (hu : P.underlying ty = some d) (hd : (match d with | .struct _ | .array _ _ => true | _ => false) = true) (hi : (P.info? ty).map (·.size) = some cs.size)
    (h : K (a.put o.dst (.agg cs)) w) : if Region.wanted o (yielded ops a.tmps) = true then o.wp P a w K Q else E := by
  have hw : Region.wanted o (yielded ops a.tmps) = true := by simp [Region.wanted, hgd]
  rw [if_pos hw]
  exact wp_load_row ty x ho g hx t cs (0, 0) d hg hu hd hi h
/-- An operation that runs to a value is a step. -/
theorem stepIf_run {P : Program} {ops : Array Oper} {o : Oper} {a : Act} {w w' : World} {K : Act → World → Prop} {Q : Exit → Act → World → Prop} {E : Prop} (hgd : o.guard = none) (v : Value)
    (hr : (execOp a.eval o).run P w = .ok (.value v) w') (h : K (a.put o.dst v) w') : if Region.wanted o (yielded ops a.tmps) = true then o.wp P a w K Q else E := by
  have hw : Region.wanted o (yielded ops a.tmps) = true := by simp [Region.wanted, hgd]
  rw [if_pos hw]
  unfold Oper.wp
  rw [hr]
  exact h
theorem exec_build228 {a : Act} {o : Oper} (x : Operand) (ho : o.op = .buildSlice 228 1 #[(0, x)]) (cs : Array Value) (hs : cs.size = 96) (hx : a.eval x = .agg cs) (w : World) :
    (execOp a.eval o).run Tryz.prog w = .ok (.value (.slice (some ⟨w.heap.size, 0, none⟩) 1 1)) (w.alloc (.cells cs 225)) := by
  unfold execOp
  simp only [ho, List.map_toArray, List.map_cons, List.map_nil, hx, Sem.run_bind, build228 cs hs w, Result.andThen_ok]
  rfl
/-- What has been met of keys: the box M, with its map and its list, in blocks of O. -/
structure MetKey (w : World) (M : Nat) (O : Nat → Prop) (l : List (Array Value)) : Prop where
  met : ∃ Mb A c D, w.heap[M]? = some (.cells #[.map (some Mb), .slice A l.length c] 230 (0, 0)) ∧ O M ∧ O Mb ∧ w.ownsMap Tryz.prog 225 (plainElem Tryz.prog 3) Mb l.length D ∧
    w.ownsRow 0 225 96 (.slice A l.length c) l.length (flat Array.toList l) ∧ (∀ k, (Value.slice A l.length c).ownBlock = some k → O k) ∧ MetE kl225 KeyOk D l
/-- What add tells of a key: its place, and the list, longer by it or not. -/
def KeyOut (cs : Array Value) (l l' : List (Array Value)) (j : Nat) : Prop := l'[j]? = some cs ∧ ((l' = l) ∨ (l' = l ++ [cs] ∧ j = l.length))

set_option maxRecDepth 8192 in
set_option maxHeartbeats 3200000 in
theorem add154_any (M : Nat) (cs : Array Value) (O : Nat → Prop) (l : List (Array Value)) (w : World) (hc : KeyOk cs) (hl : l.length ≤ 1000) (hm : MetKey w M O l) :
    Calls Tryz.prog 154 #[.pointer (some ⟨M, 0, none⟩), .agg cs] w fun e w' => (∃ (l' : List (Array Value)) (j : Nat), e = .returned (.int .i64 j) ∧ KeyOut cs l l' j ∧ MetKey w' M (fun g => O g ∨ (w.heap.size ≤ g ∧ g < w'.heap.size)) l') ∧ KeepO O w w' := by
  obtain ⟨Mb, A, c, D, hM, hbM, hbb, hmap, hrow, hAO, hD⟩ := hm.met
  clear hm
  have hkx := kl225_key hc
  have hcs := hc.size
  have hML := blk_lt hM
  have hM1 := blk_alloc hM (.cells cs 225)
  have c0 : (w.alloc (.cells cs 225)).cell? ⟨M, 0, none⟩ = some (.map (some Mb)) := blk_cell hM1 0
  have c1 : (w.alloc (.cells cs 225)).cell? ⟨M, 1, none⟩ = some (.slice A l.length c) := blk_cell hM1 1
  have hmap1 := Lib.hid (hmap.alloc (.cells cs 225))
  have hbox : (w.alloc (.cells cs 225)).heap[w.heap.size]? = some (.cells cs 225 (0, 0)) := blk_new _ _
  have hB0 : KeepO O w (w.alloc (.cells cs 225)) := KeepO.of_below ((Below.refl _ _).alloc (Nat.le_refl _) _)
  have hrow1 := Lib.hid (hrow.alloc (.cells cs 225))
  have hM2 := Lib.hid hM1
  have Hcs := Lib.hid hcs
  clear hcs
  go_enter Tryz.func154, Tryz.ntmps154
  go_upto_region 1 with fail
  obtain ⟨X, hX⟩ : ∃ X, X = w.heap.size := ⟨_, rfl⟩
  rw [← hX] at hbox ⊢
  have hMX : M ≠ X := by omega
  have HX := Lib.hid hX
  clear hM1 hX
  generalize w.alloc (.cells cs 225) = w0 at hM2 hrow1 hmap1 hbox c0 c1 hB0 ⊢
  have Hbox := Lib.hid hbox
  have Hkx := Lib.hid hkx
  obtain ⟨v, ps, hrun, hv⟩ := hmap1.out.drew.look_ok law225 Tryz.underlying227 (zeroE3 w0.drew) (plainElem_int Tryz.underlying3 (by decide)) Hkx.out
  obtain ⟨cc, rfl, hat, _⟩ := plainElem_int_inv Tryz.underlying3 hv
  have hat : Hid (D.atKey (kl225 cs) (.lit (.int .i64 0)) = .lit (.int .i64 cc)) := congrArg Prod.fst hat
  clear hbox hkx hM hmap hrow hv
  have hhas := hD.has cs hc
  by_cases hin : cs ∈ l
  · have hyes := hhas.2 hin
    rw [hyes] at hrun
    obtain ⟨j, hj, hatj⟩ := hD.at_ cs hc hin
    have hcj : cc = (j : Int) := by
      have := hat.out.symm.trans hatj
      simpa using this
    subst hcj
    refine wp_region_still_lit (by kernel_rfl) (by kernel_rfl) ?_
    change wpStill _ _ w0.drew _ _ _
    still_step
    still_step
    still_step
    still_step
    refine wpStill_step (fun K hK => ?_)
    refine stillIf_load_row rfl 225 _ rfl X rfl 225 cs _ Hbox.out Tryz.underlying225 rfl (info225 Hcs.out) (hK _ ?_)
    clear hK K
    repeat still_step
    refine wpStill_nil ?_
    go_wp2_with fail
    go_ret
    exact ⟨⟨l, j, rfl, ⟨hj, .inl rfl⟩, ⟨Mb, A, c, D, hM2.out, Or.inl hbM, Or.inl hbb, hmap1.out.drew, hrow1.out, fun k hk => Or.inl (hAO k hk), hD⟩⟩, hB0.drew⟩
  · have hno : Maps.has D (kl225 cs) = false := by
      cases h : Maps.has D (kl225 cs)
      · rfl
      · exact absurd (hhas.1 h) hin
    rw [hno] at hrun
    refine wp_region_still_lit (by kernel_rfl) (by kernel_rfl) ?_
    change wpStill _ _ w0.drew _ _ _
    still_step
    still_step
    still_step
    still_step
    refine wpStill_step (fun K hK => ?_)
    refine stillIf_load_row rfl 225 _ rfl X rfl 225 cs _ Hbox.out Tryz.underlying225 rfl (info225 Hcs.out) (hK _ ?_)
    clear hK K
    repeat still_step
    refine wpStill_nil ?_
    go_upto_region 4 with fail
    have hM3 : Hid (w0.drew.heap[M]? = some (.cells #[.map (some Mb), .slice A l.length c] 230 (0, 0))) := hM2.out
    have hbox3 : Hid (w0.drew.heap[X]? = some (.cells cs 225 (0, 0))) := Hbox.out
    have hrow3 : Hid (w0.drew.ownsRow 0 225 96 (.slice A l.length c) l.length (flat Array.toList l)) := hrow1.out
    have hmap3 : Hid (w0.drew.ownsMap Tryz.prog 225 (plainElem Tryz.prog 3) Mb l.length D) := hmap1.out
    have hB3 : Hid (KeepO O w w0.drew) := hB0.drew
    generalize w0.drew = w3 at hM3 hbox3 hrow3 hmap3 hB3 ⊢
    clear hM2 Hbox hrow1 hmap1 hB0 c0 c1 hrun
    have c0 : w3.cell? ⟨M, 0, none⟩ = some (.map (some Mb)) := blk_cell hM3.out 0
    refine wp_region_still_tail 6 (by kernel_rfl) (by kernel_rfl) ?_
    simp only [List.take_succ_cons, List.take_zero, List.drop_succ_cons, List.drop_zero]
    change wpStill _ _ w3.drew _ _ _
    still_step
    still_step
    still_step
    still_step
    refine wpStill_step (fun K hK => ?_)
    refine stillIf_load_row rfl 225 _ rfl X rfl 225 cs _ hbox3.out Tryz.underlying225 rfl (info225 Hcs.out) (hK _ ?_)
    clear hK K
    still_step
    refine wpStill_nil ?_
    change wpList _ _ _ _ _ w3.drew
    have hM4 : Hid (w3.drew.heap[M]? = some (.cells #[.map (some Mb), .slice A l.length c] 230 (0, 0))) := hM3.out
    have hbox4 : Hid (w3.drew.heap[X]? = some (.cells cs 225 (0, 0))) := hbox3.out
    have hrow4 : Hid (w3.drew.ownsRow 0 225 96 (.slice A l.length c) l.length (flat Array.toList l)) := hrow3.out
    have hmap4 : Hid (w3.drew.ownsMap Tryz.prog 225 (plainElem Tryz.prog 3) Mb l.length D) := hmap3.out
    have hB4 : Hid (KeepO O w w3.drew) := hB3.out.drew
    generalize w3.drew = w4 at hM4 hbox4 hrow4 hmap4 hB4 ⊢
    clear hM3 hbox3 hrow3 hmap3 hB3 c0
    go_wp2_with (at_mapUpdate; refine wpList_mapUpdate_own _ rfl _ _ _ 227 rfl 225 3 law225 Tryz.underlying227 (plainElem Tryz.prog 3) Mb l.length D rfl hmap4.out (by unfold maxLen; omega) _ _ _ rfl rfl Hkx.out _ _ (plainElem_int Tryz.underlying3 (by simp [Lit.wf, IntKind.min, IntKind.max, IntKind.signed, IntKind.bits]; omega)) ?_; intro w5 hmap5 hg5)
    have hMb : ∃ es ck, w4.heap[Mb]? = some (.map es ck) := by obtain ⟨es, ck, h, _⟩ := hmap4.out; exact ⟨es, ck, h⟩
    obtain ⟨es, ck, hMb⟩ := hMb
    have hne : ∀ (g : Nat) (cs : Array Value) (T : TypeId), w4.heap[g]? = some (.cells cs T (0, 0)) → w5.heap[g]? = w4.heap[g]? := fun g cs T hg => hg5.block g (blk_lt hg) (fun e => by
      have e2 : Mb = g := by simp at e; exact e.symm
      rw [e2, hg] at hMb
      cases hMb)
    have hM5 : Hid (w5.heap[M]? = some (.cells #[.map (some Mb), .slice A l.length c] 230 (0, 0))) := (hne _ _ _ hM4.out).trans hM4.out
    have hbox5 : Hid (w5.heap[X]? = some (.cells cs 225 (0, 0))) := (hne _ _ _ hbox4.out).trans hbox4.out
    have hrow5 : Hid (w5.ownsRow 0 225 96 (.slice A l.length c) l.length (flat Array.toList l)) := row_keep hrow4.out (fun g cs hg => hne g cs _ hg)
    have hB5 : Hid (KeepO O w w5) := hB4.out.grown hg5 (fun k hk => by have e : Mb = k := (by simpa using hk); rw [← e]; exact hbb)
    have hmap5' := Lib.hid hmap5
    have hML5 : M < w5.heap.size := blk_lt hM5.out
    have hXL5 : X < w5.heap.size := blk_lt hbox5.out
    clear hmap5 hg5 hne hMb hM4 hbox4 hrow4 hmap4 hB4
    have c1 : w5.cell? ⟨M, 1, none⟩ = some (.slice A l.length c) := blk_cell hM5.out 1
    obtain ⟨i0, hi, hz0, hz1, hz2⟩ := info_parts made225
    have hzs : (Value.agg (keyV fun _ => 0)).cells.size = 96 := by simp [Value.cells, keyV_size]
    have hrowA : ((w5.alloc (.cells cs 225)).drew).ownsRow 0 225 96 (.slice A l.length c) l.length (flat Array.toList l) := hrow5.out.alloc _
    have hblkA : ((w5.alloc (.cells cs 225)).drew).heap[w5.heap.size]? = some (.cells cs 225 (0, 0)) := blk_new _ _
    have hMA : ((w5.alloc (.cells cs 225)).drew).heap[M]? = some (.cells #[.map (some Mb), .slice A l.length c] 230 (0, 0)) := blk_alloc hM5.out _
    have hbA : 0 ≤ ((w5.alloc (.cells cs 225)).drew).heap.size := Nat.zero_le _
    have hM5' := hM5.out
    have HrowA := Lib.hid hrowA
    have HblkA := Lib.hid hblkA
    have HMA := Lib.hid hMA
    have HbA := Lib.hid hbA
    have Hone := Lib.hid hc.one
    have hlen1 : Hid (cs.toList.length = 1 * 96) := Lib.hid (by rw [Array.length_toList, Hcs.out])
    clear hrowA hblkA hMA hbA
    refine wp_region_any (by kernel_rfl) ?_
    change wpAny _ _ _ _ _ _ _ w5.drew
    refine wpAny_take (i := 0) (v := ?_) rfl (by kernel_rfl) (by kernel_rfl) (by kernel_rfl) (fun _ _ _ h => h) (Or.inl ⟨by rfl, ?_⟩) ?_
    rotate_left
    · (intro W; go_simp; try with_reducible rfl)
    (try simp only [Act.put, List.getElem_toArray, List.getElem_cons_zero, List.setIfInBounds_toArray, List.set_cons_zero, List.set_cons_succ])
    refine wpAny_take (i := 1) (v := ?_) rfl (by kernel_rfl) (by kernel_rfl) (by kernel_rfl) (fun _ _ _ h => h) (Or.inl ⟨by rfl, ?_⟩) ?_
    rotate_left
    · (intro W; go_simp; try with_reducible rfl)
    (try simp only [Act.put, List.getElem_toArray, List.getElem_cons_zero, List.getElem_cons_succ, List.setIfInBounds_toArray, List.set_cons_zero, List.set_cons_succ])
    refine wpAny_take (i := 2) (v := ?_) rfl (by kernel_rfl) (by kernel_rfl) (by kernel_rfl) (fun _ _ _ h => h) (Or.inl ⟨by rfl, ?_⟩) ?_
    rotate_left
    · (intro W; go_simp; try with_reducible rfl)
    (try simp only [Act.put, List.getElem_toArray, List.getElem_cons_zero, List.getElem_cons_succ, List.setIfInBounds_toArray, List.set_cons_zero, List.set_cons_succ])
    refine wpAny_take (i := 3) (v := ?_) rfl (by kernel_rfl) (by kernel_rfl) (by kernel_rfl) (fun _ _ _ h => h) (Or.inl ⟨by rfl, ?_⟩) ?_
    rotate_left
    · (intro W; go_simp; try with_reducible rfl)
    (try simp only [Act.put, List.getElem_toArray, List.getElem_cons_zero, List.getElem_cons_succ, List.setIfInBounds_toArray, List.set_cons_zero, List.set_cons_succ])
    refine wpAny_ready (rs := [4, 5]) (by kernel_rfl) (by simp) ?_
    refine AllReady.cons rfl (fun K hK => ?_) (AllReady.cons rfl (fun K hK => ?_) AllReady.nil)
    · go_simp
      refine hK _ _ ?_
      clear hK K
      (try simp only [Act.put, List.getElem_toArray, List.getElem_cons_zero, List.getElem_cons_succ, List.setIfInBounds_toArray, List.set_cons_zero, List.set_cons_succ])
      refine wpAny_ready (rs := [5]) (by kernel_rfl) (by simp) ?_
      refine AllReady.cons rfl (fun K hK => ?_) AllReady.nil
      refine stepIf_load_row rfl 225 _ rfl X rfl 225 cs _ hbox5.out Tryz.underlying225 rfl (info225 Hcs.out) (hK _ _ ?_)
      clear hK K
      (try simp only [Act.put, List.getElem_toArray, List.getElem_cons_zero, List.getElem_cons_succ, List.setIfInBounds_toArray, List.set_cons_zero, List.set_cons_succ])
      refine wpAny_ready (rs := [6]) (by kernel_rfl) (by simp) ?_
      refine AllReady.cons rfl (fun K hK => ?_) AllReady.nil
      refine stepIf_run rfl _ (exec_build228 (.tmp 34) rfl cs Hcs.out rfl _) (hK _ _ ?_)
      change wpAny _ _ _ _ _ _ _ (w5.alloc (.cells cs 225)).drew
      clear hK K
      (try simp only [Act.put, List.getElem_toArray, List.getElem_cons_zero, List.getElem_cons_succ, List.setIfInBounds_toArray, List.set_cons_zero, List.set_cons_succ])
      refine wpAny_ready (rs := [7]) (by kernel_rfl) (by simp) ?_
      refine AllReady.cons rfl (fun K hK => ?_) AllReady.nil
      refine step_append_lies ((w5.alloc (.cells cs 225)).drew) rfl (.tmp 33) (.tmp 35) 228 rfl 0 225 i0 _ 96 192 Tryz.underlying228 hi hz0 hz1 hz2 hzs (by decide) (.slice A l.length c) l.length (flat Array.toList l) rfl HrowA.out ⟨w5.heap.size, 0, none⟩ 1 1 cs.toList rfl hlen1.out (cells_blk HblkA.out) (fun u hu => Hone.out u (by simpa using hu)) (by omega) (by unfold maxLen; omega) (by omega) HbA.out _ rfl ?_
      intro g7 c7 w7 hown7 hg7 hat7 hlt7
      have hM7 : w7.heap[M]? = some (.cells #[.map (some Mb), .slice A l.length c] 230 (0, 0)) := blk_grown HMA.out hg7 (own_ne HrowA.out HMA.out (by decide))
      have c7' : w7.cell? ⟨M, 1, none⟩ = some (.slice A l.length c) := blk_cell hM7 1
      have f7 := blk_frozen hM7 1
      have HM7 := Lib.hid hM7
      clear hM7
      refine hK _ _ ?_
      clear hK K
      (try simp only [Act.put, List.getElem_toArray, List.getElem_cons_zero, List.getElem_cons_succ, List.setIfInBounds_toArray, List.set_cons_zero, List.set_cons_succ])
      refine wpAny_take (i := 8) (v := ?_) rfl (by kernel_rfl) (by kernel_rfl) (by kernel_rfl) (fun _ _ _ h => h) (Or.inl ⟨by rfl, ?_⟩) ?_
      rotate_left
      · (intro W; go_simp; try with_reducible rfl)
      (try simp only [Act.put, List.getElem_toArray, List.getElem_cons_zero, List.getElem_cons_succ, List.setIfInBounds_toArray, List.set_cons_zero, List.set_cons_succ])
      refine wpAny_take (i := 9) (v := ?_) rfl (by kernel_rfl) (by kernel_rfl) (by kernel_rfl) (fun _ _ _ h => h) (Or.inl ⟨by rfl, ?_⟩) ?_
      rotate_left
      · (intro W; go_simp; try with_reducible rfl)
      (try simp only [Act.put, List.getElem_toArray, List.getElem_cons_zero, List.getElem_cons_succ, List.setIfInBounds_toArray, List.set_cons_zero, List.set_cons_succ])
      refine wpAny_ready (rs := [10]) (by kernel_rfl) (by simp) ?_
      refine AllReady.cons rfl (fun K hK => ?_) AllReady.nil
      go_simp
      refine hK _ _ ?_
      clear hK K
      (try simp only [Act.put, List.getElem_toArray, List.getElem_cons_zero, List.getElem_cons_succ, List.setIfInBounds_toArray, List.set_cons_zero, List.set_cons_succ])
      refine wpAny_done (by kernel_rfl) ?_ _
      go_wp2_with fail
      go_ret
      have hlen : (l ++ [cs]).length = l.length + 1 := by simp
      have hm5 := hmap5'.out
      obtain ⟨es, ck, hMb, hrest⟩ := hmap5'.out
      have hMbl : Mb < w5.heap.size := blk_lt hMb
      have hMb7 : w7.heap[Mb]? = w5.heap[Mb]? := (hg7.block Mb (by show Mb < (w5.alloc _).heap.size; simp; omega) (own_ne_map hrow5.out hMb).symm).trans (Below.heap_alloc w5 _ Mb hMbl)
      have hMMb : M ≠ Mb := fun e => by rw [e, hMb] at hM5'; cases hM5'
      have hB7 : KeepO O w w7 := ((hB5.out.alloc _).drew).grown hg7 hAO
      have hw5 := hB5.out.size
      refine ⟨⟨l ++ [cs], l.length, rfl, ⟨by simp, .inr ⟨rfl, rfl⟩⟩, ⟨Mb, some ⟨g7, 0, none⟩, c7, _, ?_, Or.inl hbM, Or.inl hbb, ?_, ?_, ?_, hD.push (fun a ha => law225.key (kl225_key ha)) (fun a b ha hb h => kl225_inj ha hb h) hc hin⟩⟩, ?_⟩
      · rw [hlen]
        exact blk_set_self HM7.out 1 _
      · rw [hlen]
        exact map_keep hm5 ((Below.heap_setCell w7 ⟨M, 1, none⟩ _ Mb (fun e => hMMb e.symm)).trans hMb7)
      · rw [hlen, flat_append, flat_one]
        refine row_keep hown7 (fun g cs hg => Below.heap_setCell w7 ⟨M, 1, none⟩ _ g (fun e => ?_))
        simp only at e
        rw [e, HM7.out] at hg
        simp at hg
      · intro k hk
        have hk7 : g7 = k := by simpa [Value.ownBlock] using hk
        subst hk7
        rcases hat7 with h | h
        · exact Or.inl (hAO _ h)
        · refine Or.inr ⟨?_, by simpa using hlt7⟩
          have : g7 = (w5.alloc (.cells cs 225)).heap.size := h
          simp at this
          omega
      · exact hB7.setCell (p := ⟨M, 1, none⟩) hbM _
    · refine stepIf_load_row rfl 225 _ rfl X rfl 225 cs _ hbox5.out Tryz.underlying225 rfl (info225 Hcs.out) (hK _ _ ?_)
      clear hK K
      (try simp only [Act.put, List.getElem_toArray, List.getElem_cons_zero, List.getElem_cons_succ, List.setIfInBounds_toArray, List.set_cons_zero, List.set_cons_succ])
      refine wpAny_ready (rs := [4, 6]) (by kernel_rfl) (by simp) ?_
      refine AllReady.cons rfl (fun K hK => ?_) (AllReady.cons rfl (fun K hK => ?_) AllReady.nil)
      · go_simp
        refine hK _ _ ?_
        clear hK K
        (try simp only [Act.put, List.getElem_toArray, List.getElem_cons_zero, List.getElem_cons_succ, List.setIfInBounds_toArray, List.set_cons_zero, List.set_cons_succ])
        refine wpAny_ready (rs := [6]) (by kernel_rfl) (by simp) ?_
        refine AllReady.cons rfl (fun K hK => ?_) AllReady.nil
        refine stepIf_run rfl _ (exec_build228 (.tmp 34) rfl cs Hcs.out rfl _) (hK _ _ ?_)
        change wpAny _ _ _ _ _ _ _ (w5.alloc (.cells cs 225)).drew
        clear hK K
        (try simp only [Act.put, List.getElem_toArray, List.getElem_cons_zero, List.getElem_cons_succ, List.setIfInBounds_toArray, List.set_cons_zero, List.set_cons_succ])
        refine wpAny_ready (rs := [7]) (by kernel_rfl) (by simp) ?_
        refine AllReady.cons rfl (fun K hK => ?_) AllReady.nil
        refine step_append_lies ((w5.alloc (.cells cs 225)).drew) rfl (.tmp 33) (.tmp 35) 228 rfl 0 225 i0 _ 96 192 Tryz.underlying228 hi hz0 hz1 hz2 hzs (by decide) (.slice A l.length c) l.length (flat Array.toList l) rfl HrowA.out ⟨w5.heap.size, 0, none⟩ 1 1 cs.toList rfl hlen1.out (cells_blk HblkA.out) (fun u hu => Hone.out u (by simpa using hu)) (by omega) (by unfold maxLen; omega) (by omega) HbA.out _ rfl ?_
        intro g7 c7 w7 hown7 hg7 hat7 hlt7
        have hM7 : w7.heap[M]? = some (.cells #[.map (some Mb), .slice A l.length c] 230 (0, 0)) := blk_grown HMA.out hg7 (own_ne HrowA.out HMA.out (by decide))
        have c7' : w7.cell? ⟨M, 1, none⟩ = some (.slice A l.length c) := blk_cell hM7 1
        have f7 := blk_frozen hM7 1
        have HM7 := Lib.hid hM7
        clear hM7
        refine hK _ _ ?_
        clear hK K
        (try simp only [Act.put, List.getElem_toArray, List.getElem_cons_zero, List.getElem_cons_succ, List.setIfInBounds_toArray, List.set_cons_zero, List.set_cons_succ])
        refine wpAny_take (i := 8) (v := ?_) rfl (by kernel_rfl) (by kernel_rfl) (by kernel_rfl) (fun _ _ _ h => h) (Or.inl ⟨by rfl, ?_⟩) ?_
        rotate_left
        · (intro W; go_simp; try with_reducible rfl)
        (try simp only [Act.put, List.getElem_toArray, List.getElem_cons_zero, List.getElem_cons_succ, List.setIfInBounds_toArray, List.set_cons_zero, List.set_cons_succ])
        refine wpAny_take (i := 9) (v := ?_) rfl (by kernel_rfl) (by kernel_rfl) (by kernel_rfl) (fun _ _ _ h => h) (Or.inl ⟨by rfl, ?_⟩) ?_
        rotate_left
        · (intro W; go_simp; try with_reducible rfl)
        (try simp only [Act.put, List.getElem_toArray, List.getElem_cons_zero, List.getElem_cons_succ, List.setIfInBounds_toArray, List.set_cons_zero, List.set_cons_succ])
        refine wpAny_ready (rs := [10]) (by kernel_rfl) (by simp) ?_
        refine AllReady.cons rfl (fun K hK => ?_) AllReady.nil
        go_simp
        refine hK _ _ ?_
        clear hK K
        (try simp only [Act.put, List.getElem_toArray, List.getElem_cons_zero, List.getElem_cons_succ, List.setIfInBounds_toArray, List.set_cons_zero, List.set_cons_succ])
        refine wpAny_done (by kernel_rfl) ?_ _
        go_wp2_with fail
        go_ret
        have hlen : (l ++ [cs]).length = l.length + 1 := by simp
        have hm5 := hmap5'.out
        obtain ⟨es, ck, hMb, hrest⟩ := hmap5'.out
        have hMbl : Mb < w5.heap.size := blk_lt hMb
        have hMb7 : w7.heap[Mb]? = w5.heap[Mb]? := (hg7.block Mb (by show Mb < (w5.alloc _).heap.size; simp; omega) (own_ne_map hrow5.out hMb).symm).trans (Below.heap_alloc w5 _ Mb hMbl)
        have hMMb : M ≠ Mb := fun e => by rw [e, hMb] at hM5'; cases hM5'
        have hB7 : KeepO O w w7 := ((hB5.out.alloc _).drew).grown hg7 hAO
        have hw5 := hB5.out.size
        refine ⟨⟨l ++ [cs], l.length, rfl, ⟨by simp, .inr ⟨rfl, rfl⟩⟩, ⟨Mb, some ⟨g7, 0, none⟩, c7, _, ?_, Or.inl hbM, Or.inl hbb, ?_, ?_, ?_, hD.push (fun a ha => law225.key (kl225_key ha)) (fun a b ha hb h => kl225_inj ha hb h) hc hin⟩⟩, ?_⟩
        · rw [hlen]
          exact blk_set_self HM7.out 1 _
        · rw [hlen]
          exact map_keep hm5 ((Below.heap_setCell w7 ⟨M, 1, none⟩ _ Mb (fun e => hMMb e.symm)).trans hMb7)
        · rw [hlen, flat_append, flat_one]
          refine row_keep hown7 (fun g cs hg => Below.heap_setCell w7 ⟨M, 1, none⟩ _ g (fun e => ?_))
          simp only at e
          rw [e, HM7.out] at hg
          simp at hg
        · intro k hk
          have hk7 : g7 = k := by simpa [Value.ownBlock] using hk
          subst hk7
          rcases hat7 with h | h
          · exact Or.inl (hAO _ h)
          · refine Or.inr ⟨?_, by simpa using hlt7⟩
            have : g7 = (w5.alloc (.cells cs 225)).heap.size := h
            simp at this
            omega
        · exact hB7.setCell (p := ⟨M, 1, none⟩) hbM _
      · refine stepIf_run rfl _ (exec_build228 (.tmp 34) rfl cs Hcs.out rfl _) (hK _ _ ?_)
        change wpAny _ _ _ _ _ _ _ (w5.alloc (.cells cs 225)).drew
        have c1A : ((w5.alloc (.cells cs 225)).drew).cell? ⟨M, 1, none⟩ = some (.slice A l.length c) := blk_cell HMA.out 1
        clear hK K
        (try simp only [Act.put, List.getElem_toArray, List.getElem_cons_zero, List.getElem_cons_succ, List.setIfInBounds_toArray, List.set_cons_zero, List.set_cons_succ])
        refine wpAny_ready (rs := [4]) (by kernel_rfl) (by simp) ?_
        refine AllReady.cons rfl (fun K hK => ?_) AllReady.nil
        go_simp
        refine hK _ _ ?_
        clear hK K
        (try simp only [Act.put, List.getElem_toArray, List.getElem_cons_zero, List.getElem_cons_succ, List.setIfInBounds_toArray, List.set_cons_zero, List.set_cons_succ])
        refine wpAny_ready (rs := [7]) (by kernel_rfl) (by simp) ?_
        refine AllReady.cons rfl (fun K hK => ?_) AllReady.nil
        refine step_append_lies ((w5.alloc (.cells cs 225)).drew) rfl (.tmp 33) (.tmp 35) 228 rfl 0 225 i0 _ 96 192 Tryz.underlying228 hi hz0 hz1 hz2 hzs (by decide) (.slice A l.length c) l.length (flat Array.toList l) rfl HrowA.out ⟨w5.heap.size, 0, none⟩ 1 1 cs.toList rfl hlen1.out (cells_blk HblkA.out) (fun u hu => Hone.out u (by simpa using hu)) (by omega) (by unfold maxLen; omega) (by omega) HbA.out _ rfl ?_
        intro g7 c7 w7 hown7 hg7 hat7 hlt7
        have hM7 : w7.heap[M]? = some (.cells #[.map (some Mb), .slice A l.length c] 230 (0, 0)) := blk_grown HMA.out hg7 (own_ne HrowA.out HMA.out (by decide))
        have c7' : w7.cell? ⟨M, 1, none⟩ = some (.slice A l.length c) := blk_cell hM7 1
        have f7 := blk_frozen hM7 1
        have HM7 := Lib.hid hM7
        clear hM7
        refine hK _ _ ?_
        clear hK K
        (try simp only [Act.put, List.getElem_toArray, List.getElem_cons_zero, List.getElem_cons_succ, List.setIfInBounds_toArray, List.set_cons_zero, List.set_cons_succ])
        refine wpAny_take (i := 8) (v := ?_) rfl (by kernel_rfl) (by kernel_rfl) (by kernel_rfl) (fun _ _ _ h => h) (Or.inl ⟨by rfl, ?_⟩) ?_
        rotate_left
        · (intro W; go_simp; try with_reducible rfl)
        (try simp only [Act.put, List.getElem_toArray, List.getElem_cons_zero, List.getElem_cons_succ, List.setIfInBounds_toArray, List.set_cons_zero, List.set_cons_succ])
        refine wpAny_take (i := 9) (v := ?_) rfl (by kernel_rfl) (by kernel_rfl) (by kernel_rfl) (fun _ _ _ h => h) (Or.inl ⟨by rfl, ?_⟩) ?_
        rotate_left
        · (intro W; go_simp; try with_reducible rfl)
        (try simp only [Act.put, List.getElem_toArray, List.getElem_cons_zero, List.getElem_cons_succ, List.setIfInBounds_toArray, List.set_cons_zero, List.set_cons_succ])
        refine wpAny_ready (rs := [10]) (by kernel_rfl) (by simp) ?_
        refine AllReady.cons rfl (fun K hK => ?_) AllReady.nil
        go_simp
        refine hK _ _ ?_
        clear hK K
        (try simp only [Act.put, List.getElem_toArray, List.getElem_cons_zero, List.getElem_cons_succ, List.setIfInBounds_toArray, List.set_cons_zero, List.set_cons_succ])
        refine wpAny_done (by kernel_rfl) ?_ _
        go_wp2_with fail
        go_ret
        have hlen : (l ++ [cs]).length = l.length + 1 := by simp
        have hm5 := hmap5'.out
        obtain ⟨es, ck, hMb, hrest⟩ := hmap5'.out
        have hMbl : Mb < w5.heap.size := blk_lt hMb
        have hMb7 : w7.heap[Mb]? = w5.heap[Mb]? := (hg7.block Mb (by show Mb < (w5.alloc _).heap.size; simp; omega) (own_ne_map hrow5.out hMb).symm).trans (Below.heap_alloc w5 _ Mb hMbl)
        have hMMb : M ≠ Mb := fun e => by rw [e, hMb] at hM5'; cases hM5'
        have hB7 : KeepO O w w7 := ((hB5.out.alloc _).drew).grown hg7 hAO
        have hw5 := hB5.out.size
        refine ⟨⟨l ++ [cs], l.length, rfl, ⟨by simp, .inr ⟨rfl, rfl⟩⟩, ⟨Mb, some ⟨g7, 0, none⟩, c7, _, ?_, Or.inl hbM, Or.inl hbb, ?_, ?_, ?_, hD.push (fun a ha => law225.key (kl225_key ha)) (fun a b ha hb h => kl225_inj ha hb h) hc hin⟩⟩, ?_⟩
        · rw [hlen]
          exact blk_set_self HM7.out 1 _
        · rw [hlen]
          exact map_keep hm5 ((Below.heap_setCell w7 ⟨M, 1, none⟩ _ Mb (fun e => hMMb e.symm)).trans hMb7)
        · rw [hlen, flat_append, flat_one]
          refine row_keep hown7 (fun g cs hg => Below.heap_setCell w7 ⟨M, 1, none⟩ _ g (fun e => ?_))
          simp only at e
          rw [e, HM7.out] at hg
          simp at hg
        · intro k hk
          have hk7 : g7 = k := by simpa [Value.ownBlock] using hk
          subst hk7
          rcases hat7 with h | h
          · exact Or.inl (hAO _ h)
          · refine Or.inr ⟨?_, by simpa using hlt7⟩
            have : g7 = (w5.alloc (.cells cs 225)).heap.size := h
            simp at this
            omega
        · exact hB7.setCell (p := ⟨M, 1, none⟩) hbM _
end Go.Proofs.YtghlodpbbghcoaaGreatDoor

/- meet[key] of package dfa, of no key: walked. -/
namespace Go.Proofs.YtghlodpbbghcoaaGreatDoor
open Go.RowKit Go.Maps
theorem makeMap227 (w : World) : (Instr.makeMap 227 none).run Tryz.prog w = .ok (.map (some w.heap.size)) (w.alloc (.map #[] 0)) := by
  simp [Instr.makeMap, Result.andThen]
theorem MetKey.keep {w w' : World} {M : Nat} {O O' : Nat → Prop} {l : List (Array Value)} (h : MetKey w M O l) (hk : ∀ g, O g → w'.heap[g]? = w.heap[g]?) (hO : ∀ g, O g → O' g) : MetKey w' M O' l := by
  obtain ⟨Mb, A, c, D, hM, h1, h2, hmap, hrow, hA, hD⟩ := h.met
  exact ⟨Mb, A, c, D, (hk M h1).trans hM, hO _ h1, hO _ h2, map_keep hmap (hk Mb h2), row_keep_own hrow (fun g hg => hk g (hA g hg)), fun k hk => hO k (hA k hk), hD⟩
theorem MetKey.alloc {w : World} {M : Nat} {O : Nat → Prop} {l : List (Array Value)} (h : MetKey w M O l) (o : Obj) : MetKey (w.alloc o) M O l := by
  obtain ⟨Mb, A, c, D, hM, h1, h2, hmap, hrow, hA, hD⟩ := h.met
  exact ⟨Mb, A, c, D, blk_alloc hM _, h1, h2, hmap.alloc _, hrow.alloc _, hA, hD⟩
theorem MetKey.len {w : World} {M : Nat} {O : Nat → Prop} {l : List (Array Value)} (h : MetKey w M O l) : ∃ A c, w.cell? ⟨M, 1, none⟩ = some (.slice A l.length c) ∧ M < w.heap.size := by
  obtain ⟨Mb, A, c, D, hM, h1, h2, hmap, hrow, hA, hD⟩ := h.met
  exact ⟨A, c, blk_cell hM 1, blk_lt hM⟩

set_option maxRecDepth 8192 in
set_option maxHeartbeats 3200000 in
theorem meet153_any (w : World) :
    Calls Tryz.prog 153 #[.slice none 0 0] w fun e w' => (∃ M : Nat, e = .returned (.pointer (some ⟨M, 0, none⟩)) ∧ MetKey w' M (fun g => w.heap.size ≤ g ∧ g < w'.heap.size) []) ∧ Below w.heap.size w w' := by
  have hmm := makeMap227
  have hown0 := World.ownsMap_made w Tryz.prog 225 (plainElem Tryz.prog 3 : Value → Option (DataW Unit × List MemPlace))
  have hmet0 : MetKey ((w.alloc (.map #[] 0)).alloc (.cells #[.map (some w.heap.size), .slice none 0 0] 230)) (w.heap.size + 1) (fun g => w.heap.size ≤ g ∧ g < w.heap.size + 2) [] :=
    ⟨w.heap.size, none, 0, .map [], blk_new' (by simp), by omega, by omega, hown0.alloc _, World.ownsRow_nil _ _ _ _, fun k hk => by simp [Value.ownBlock] at hk, MetE.nil _ _⟩
  have hb0 : Below w.heap.size w ((w.alloc (.map #[] 0)).alloc (.cells #[.map (some w.heap.size), .slice none 0 0] 230)) := ((Below.refl _ _).alloc (Nat.le_refl _) _).alloc (by simp) _
  have HM : Hid (MetKey ((w.alloc (.map #[] 0)).alloc (.cells #[.map (some w.heap.size), .slice none 0 0] 230)) (w.heap.size + 1) (fun g => w.heap.size ≤ g ∧ g < ((w.alloc (.map #[] 0)).alloc (.cells #[.map (some w.heap.size), .slice none 0 0] 230)).heap.size) []) := hmet0.keep (fun _ _ => rfl) (fun g hg => ⟨hg.1, by simp; omega⟩)
  have HB := Lib.hid hb0
  clear hmet0 hb0 hown0
  go_enter Tryz.func153, Tryz.ntmps153
  go_upto_region 2 with fail
  generalize (w.alloc (.map #[] 0)).alloc (.cells #[.map (some w.heap.size), .slice none 0 0] 230) = w1 at HM HB ⊢
  go_wp2_with fail
  go_loopw [11] (fun i wr => i = .int .i64 0 ∧ Hid (MetKey wr (w.heap.size + 1) (fun g => w.heap.size ≤ g ∧ g < wr.heap.size) []) ∧ Hid (Below w.heap.size w wr)) (fun i _ => 1 - (intOf i).toNat)
  case atStart => exact ⟨rfl, HM, HB⟩
  case round =>
    clear HM HB hmm
    obtain ⟨rfl, hm, hb⟩ := hrel
    go_wp2_with fail
    go_ret
    exact ⟨⟨_, rfl, hm.out⟩, hb.out⟩
end Go.Proofs.YtghlodpbbghcoaaGreatDoor
