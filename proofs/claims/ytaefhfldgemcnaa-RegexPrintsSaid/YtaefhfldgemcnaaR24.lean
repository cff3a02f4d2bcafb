/- Walks over expressions: two sets compared; a whole set loaded. -/
import Derived.Test.YtaefhfldgemcnaaR20
import Derived.Test.YtaefhfldgemcnaaR23
import Derived.ChangeKeysEq
namespace Go.Proofs.Ytaefhfldgemcnaa
open Go.RowKit

theorem plain4 : Try.prog.plainKey 4 = true := by kernel_rfl
theorem cells4 : Try.prog.cellsOf 4 = 1 := by kernel_rfl
theorem und96 : Try.prog.underlying 96 = some (.array 95 4) := Try.underlying96
theorem eqItems_set (a b : List Bool) (w : World) : ∀ (is : List Nat), (∀ i ∈ is, i < a.length ∧ i < b.length) →
    (Op.eqItems 9999 4 1 (bcells a) (bcells b) is).run Try.prog w = .ok (is.all fun i => a.getD i false == b.getD i false) w := by
  intro is
  induction is with
  | nil => intro _; simp [Op.eqItems]
  | cons i is ih =>
    intro h
    have hi := h i (by simp)
    have h1 := run_part_plain (P := Try.prog) w plain4 (bcells_get hi.1)
    have h2 := run_part_plain (P := Try.prog) w plain4 (bcells_get hi.2)
    have h3 := run_equalIn_bool' (P := Try.prog) w 9998 4 (a.getD i false) (b.getD i false) Try.underlying4
    simp only [Op.eqItems, Nat.mul_one, Sem.run_bind, h1, h2, h3, Result.andThen_ok, List.all_cons]
    cases hab : a.getD i false == b.getD i false with
    | true =>
      have := ih fun j hj => h j (List.mem_cons_of_mem _ hj)
      simpa using this
    | false => simp
theorem eq_set {a b : List Bool} (ha : a.length = 95) (hb : b.length = 95) (w : World) : (Op.equalIn 10000 96 (.agg (bcells a)) (.agg (bcells b))).run Try.prog w = .ok (decide (a = b)) w := by
  obtain ⟨i, hi⟩ := info_of_underlying (P := Try.prog) Try.underlying4
  have h1 := run_equalIn_array w 9999 (bcells a) (bcells b) Try.underlying96 hi
  rw [cells4] at h1
  have h2 := eqItems_set a b w (List.range 95) (fun i hi => by rw [List.mem_range] at hi; omega)
  have h3 : ((List.range 95).all fun i => a.getD i false == b.getD i false) = decide (a = b) := ?_
  · exact h1.trans (by rw [h2, h3])
  generalize hr : List.range 95 = r
  rw [Bool.eq_iff_iff, decide_eq_true_eq, List.all_eq_true]
  subst hr
  constructor
  · intro h
    exact mask_ext ha hb fun j hj => by simpa using h j (List.mem_range.2 hj)
  · rintro rfl i _
    simp
theorem load_set {w : World} {g : Nat} {m : List Bool} (hm : m.length = 95) (hg : w.heap[g]? = some (.cells (bcells m) 96 (0, 0))) :
    (loadCellsFrom ⟨g, 0, none⟩ 0 95 #[]).run Try.prog w = .ok (bcells m) w := by
  have := run_loadCells_list (P := Try.prog) w ⟨g, 0, none⟩ (bcells m).toList (fun j v hv => by
    have hadd : (⟨g, 0, none⟩ : Addr).add j = ⟨g, j, none⟩ := by unfold Addr.add; split <;> simp_all
    rw [hadd, blk_cell hg j]
    simpa using hv)
  have hl : (bcells m).toList.length = 95 := by rw [Array.length_toList, bcells_size, hm]
  rw [hl] at this
  exact this


/-! the plain runs, at a place -/
theorem wRuns_more (m : List Bool) : ∀ (f g i : Nat), 95 - i ≤ f → 95 - i ≤ g → wRuns m f i = wRuns m g i := by
  intro f
  induction f with
  | zero =>
    intro g i h1 _
    cases g with
    | zero => rfl
    | succ g => rw [wRuns, wRuns, if_neg (by omega)]
  | succ f ih =>
    intro g i h1 h2
    cases g with
    | zero => rw [wRuns, wRuns, if_neg (by omega)]
    | succ g =>
      by_cases hi : i < 95
      · have hr := runEnd_range m hi
        rw [wRuns, wRuns, ih g (runEnd m i + 1) (by omega) (by omega), ih g (i + 1) (by omega) (by omega)]
      · rw [wRuns, wRuns, if_neg hi, if_neg hi]
def runsN (m : List Bool) (i : Nat) : List UInt8 := wRuns m (95 - i) i
theorem runsN_no {m : List Bool} {i : Nat} (hi : i < 95) (h : m.getD i false = false) : runsN m i = runsN m (i + 1) := by
  unfold runsN
  rw [show 95 - i = (95 - (i + 1)) + 1 from by omega, wRuns, if_pos hi, if_neg (by rw [h]; decide)]
theorem runsN_yes {m : List Bool} {i : Nat} (hi : i < 95) (h : m.getD i false = true) :
    runsN m i = wSign (UInt8.ofNat (32 + i)) spC ++ (if i < runEnd m i then 45 :: wSign (UInt8.ofNat (32 + runEnd m i)) spC else []) ++ runsN m (runEnd m i + 1) := by
  have hr := runEnd_range m hi
  unfold runsN
  rw [show 95 - i = (95 - i - 1) + 1 from by omega, wRuns, if_pos hi, if_pos h, wRuns_more m (95 - i - 1) (95 - (runEnd m i + 1)) _ (by omega) (by omega)]
theorem runsN_end (m : List Bool) : runsN m 95 = [] := rfl
theorem wSign_len (c : UInt8) (esc : List UInt8) : (wSign c esc).length ≤ 2 := by unfold wSign; split <;> simp
theorem byte_of {i : Nat} (h : i < 95) : ((UInt8.ofNat (32 + i)).toNat : Int) = 32 + (i : Int) := by
  rw [(ofNat_facts h).1]; omega

theorem str_cells (s : ByteArray) : Lib.strCells s = bys s.data.toList := by
  unfold Lib.strCells bys
  simp
open Go.Lib in
theorem append_str_run {B : Nat} {v : Value} {L : List UInt8} {w : World} (ty : TypeId) (hown : OwnY w B v L) (hB : B ≤ w.heap.size) (hn : L.length ≤ 1000000) (s : ByteArray) (h0 : 0 < s.size) (hsz : s.size ≤ 1000) :
    ∃ v' w', (Builtin.append_ #[32, 9] ty #[v, .string s]).run Try.prog w = .ok v' w' ∧ OwnY w' B v' (L ++ s.data.toList) ∧ Below B w w' ∧ KeepB v w v' w' := by
  obtain ⟨A, c, rfl, h2⟩ := hown
  obtain ⟨i, hi, hz0, hz1, hz2⟩ := info_parts info5
  have h63 : L.length + s.size ≤ maxLen := by unfold maxLen; omega
  have h64 : L.length + s.size ≤ 140737488355328 := by omega
  obtain ⟨v', w', hr, hown', hgrow, _⟩ := run_append_own_string (P := Try.prog) w B 32 9 ty 5 i Try.underlying32 Try.underlying9 hi hz0 hz1 hz2 _ L.length (bys L) h2 s h63 h64 hB
  have hat : ∀ k, v'.ownBlock = some k → (Value.slice A L.length c).ownBlock = some k ∨ w.heap.size ≤ k := by
    have key : ∀ (g n c2 : Nat) (wz : World), (Builtin.append_ #[32, 9] ty #[.slice A L.length c, .string s]).run Try.prog w = .ok (.slice (some ⟨g, 0, none⟩) n c2) wz → ((Value.slice A L.length c).ownBlock = some g ∨ w.heap.size ≤ g) → ∀ k, v'.ownBlock = some k → (Value.slice A L.length c).ownBlock = some k ∨ w.heap.size ≤ k := by
      intro g n c2 wz h1 h3 k hk
      rw [hr] at h1
      simp only [Result.ok.injEq] at h1
      rw [h1.1] at hk
      have : g = k := by simpa [Value.ownBlock] using hk
      rw [← this]
      exact h3
    rcases h2.2 with ⟨hv, hl⟩ | ⟨g, cap, cur, hv, hbg, hg, hnc, hcm, hcs, htake⟩
    · have hr0 := run_append_nil_string (P := Try.prog) (w := w) 32 9 ty 5 i _ Try.underlying32 Try.underlying9 hi hz0 s h0 (by omega) (by rw [hz2]; omega)
      rw [← hv] at hr0
      exact key w.heap.size s.size _ _ hr0 (.inr (Nat.le_refl _))
    · rw [hv] at key ⊢
      by_cases hroom : L.length + s.size ≤ cap
      · exact key g _ _ _ (run_append_room_string (P := Try.prog) w 32 9 ty 5 i Try.underlying32 Try.underlying9 hi hz1 g L.length cap cur hg s hroom (by omega)) (.inl rfl)
      · have hxl : (bys L).length = L.length * i.size := by rw [hz1, bys_length, Nat.mul_one]
        have holds : ∀ j u, (bys L)[j]? = some u → w.cell? ((⟨g, 0, none⟩ : Addr).add j) = some u := h2.cells (g := g) (by rw [hv]; rfl)
        refine key w.heap.size _ _ _ (run_append_grow_string (P := Try.prog) w 32 9 ty 5 i _ Try.underlying32 Try.underlying9 hi hz0 ⟨g, 0, none⟩ L.length cap (bys L) hxl holds s (by omega) (by omega) (by rw [hz2]; exact growslice_fits (by omega) (by omega))) (.inr (Nat.le_refl _))
  refine ⟨v', w', hr, OwnY.mk (n := L.length + s.size) ?_, (Below.refl B w).grown hgrow hB (fun k hk => (h2.lt k hk).1), KeepB.grown hgrow hat⟩
  rw [bys_append, ← str_cells]
  exact hown'
theorem appendStr_any {ops : Array Oper} {rest : List Oper} {o : Oper} {a : Act} {w : World} {Q : Exit → Act → World → Prop} (hgd : o.guard = none) (sl x : Operand)
    (ho : o.op = .call { callee := .builtin .append, args := #[sl, x], argTypes := #[32, 9] }) {B : Nat} {v : Value} {L : List UInt8} (hs : a.eval sl = v) (hown : OwnY w B v L) (hB : B ≤ w.heap.size) (hn : L.length ≤ 1000000) (s : ByteArray) (hx : a.eval x = .string s) (h0 : 0 < s.size) (hsz : s.size ≤ 1000)
    (h : ∀ v' w', OwnY w' B v' (L ++ s.data.toList) → Below B w w' → KeepB v w v' w' → wpList Try.prog ops Q rest (a.put o.dst v') w') : wpList Try.prog ops Q (o :: rest) a w := by
  refine wpList_plain hgd fun K hK => ?_
  obtain ⟨v', w', hr, h2, h3, h4⟩ := append_str_run o.type hown hB hn s h0 hsz
  unfold Oper.wp execOp
  simp only [ho, resolve, invoke, builtin, Sem.run_bind, Sem.run_pure, Result.andThen_ok, List.map_toArray, List.map_cons, List.map_nil, hs, hx, hr]
  exact hK _ _ (h v' w' h2 h3 h4)
theorem appendByte_any {ops : Array Oper} {rest : List Oper} {o : Oper} {a : Act} {Q : Exit → Act → World → Prop} {w0 : World} {B : Nat} {v : Value} {L : List UInt8} (hown : OwnY w0 B v L) (hB : B ≤ w0.heap.size) (hn : L.length ≤ 1000000) (c : UInt8)
    (hgd : o.guard = none) (s x : Operand) (ho : o.op = .call { callee := .builtin .append, args := #[s, x], argTypes := #[32, 32] }) (hs : a.eval s = v) {g : Nat} (hx : a.eval x = .slice (some ⟨g, 0, none⟩) 1 1) (hgs : g = w0.heap.size) {cs : Array Value} (hcs : cs = #[.int .u8 c.toNat])
    (h : ∀ v' w', OwnY w' B v' (L ++ [c]) → Below B w0 w' → KeepB v w0 v' w' → wpList Try.prog ops Q rest (a.put o.dst v') w') :
    wpList Try.prog ops Q (o :: rest) a (w0.alloc (.cells cs 5)) := by
  subst hcs
  obtain ⟨A, n, rfl, h2⟩ := hown
  refine wpList_append_new_at info5 Try.underlying32 rfl (by decide) (by decide) B h2 1 hgd s x ho hs hx hgs (by simp) rfl (by omega) hB ?_
  intro v' w' hown2 hbel _ hgrow hnew
  refine h v' w' (OwnY.mk (n := L.length + 1) ?_) hbel (KeepB.grown hgrow (near_le hnew))
  rw [bys_append]
  exact hown2
theorem range_set {w : World} {g : Nat} {m : List Bool} (hg : w.heap[g]? = some (.cells (bcells m) 96 (0, 0))) : w.rangeAt g 0 (m.map Value.bool) := by
  intro j v hv
  rw [Nat.zero_add, blk_cell hg j]
  unfold bcells
  rw [List.getElem?_toArray]
  exact hv
theorem OwnY.below {w w' : World} {B : Nat} {v : Value} {L : List UInt8} (h : OwnY w B v L) (hb : Below w.heap.size w w') : OwnY w' B v L := by
  obtain ⟨A, c, rfl, h2⟩ := h
  exact ⟨A, c, rfl, own_below h2 hb (Nat.le_refl _)⟩

set_option maxRecDepth 8192 in
set_option maxHeartbeats 3200000 in
theorem writeSet_any (B : Nat) (v : Value) (L : List UInt8) (m : List Bool) (hm : m.length = 95) (w : World) (h : OwnY w B v L) (hB : B ≤ w.heap.size) (hn : L.length ≤ 900000) :
    Calls Try.prog 74 #[v, .agg (bcells m)] w (WrPost B v (L ++ wSet m) w) := by
  have hE0 : ∀ wx, (Op.equalIn 10000 96 (.agg (bcells m)) (.agg Try.zeroCells96)).run Try.prog wx = .ok (decide (m = noneM)) wx := fun wx => by
    rw [zero96]
    exact eq_set hm noneM_length wx
  have hE1 : ∀ wx, (Op.equalIn 10000 96 (.agg (m.map Value.bool).toArray) (.agg (bcells everyM))).run Try.prog wx = .ok (decide (m = everyM)) wx := fun wx => eq_set hm everyM_length wx
  have Hm := Lib.hid hm
  go_enter Try.func74, Try.ntmps74
  go_upto_region 1 with fail
  have hg : (w.alloc (.cells (bcells m) 96)).heap[w.heap.size]? = some (.cells (bcells m) 96 (0, 0)) := blk_new _ _
  have HK := Lib.hid (KeepB.alloc v w (.cells (bcells m) 96))
  have HO := Lib.hid (h.alloc (.cells (bcells m) 96))
  have HB : Hid (Below B w (w.alloc (.cells (bcells m) 96))) := (Below.refl _ _).alloc hB _
  have hBW : B ≤ (w.alloc (.cells (bcells m) 96)).heap.size := by simp; omega
  generalize w.alloc _ = W at hg HK HO HB hBW ⊢
  have Hg := Lib.hid hg
  clear hg h
  by_cases h0 : m = noneM
  · have hw : Hid (wSet m = [91, 94, 32, 45, 126, 93]) := by show _ = _; unfold wSet; rw [if_pos h0]
    rw [decide_eq_true h0] at hE0
    clear h0
    go_wp2_with (first
      | ((with_reducible show wpList _ _ _ (⟨some 9, _, _, _, _, _⟩ :: _) _ _); refine wpList_load_row rfl 96 _ rfl w.heap.size rfl 96 _ (0, 0) _ Hg.out Try.underlying96 rfl (info96m Hm.out) ?_)
      | (at_builtin; refine appendStr_any rfl _ _ rfl rfl HO.out hBW (by omega) _ rfl (by decide) (by decide) ?_; intro v' w' ho' hb' hk'))
    go_ret
    exact ⟨_, rfl, by rw [hw.out]; exact ho', HB.out.trans hb', HK.out.trans hk'⟩
  have H0 : Hid (m ≠ noneM) := h0
  rw [decide_eq_false h0] at hE0
  clear h0
  go_upto_region 3 with (first
      | ((with_reducible show wpList _ _ _ (⟨some 9, _, _, _, _, _⟩ :: _) _ _); refine wpList_load_row rfl 96 _ rfl w.heap.size rfl 96 _ (0, 0) _ Hg.out Try.underlying96 rfl (info96m Hm.out) ?_))
  clear hE0
  have hBB := Lib.hid ((Below.refl W.heap.size W).drew)
  have hKB : Hid (KeepB v W v W.drew) := KeepB.of_below v ((Below.refl _ _).drew)
  have hOO : Hid (OwnY W.drew B v L) := HO.out
  have hu96 := Try.underlying96
  have hi96 : (Try.prog.info? 96).map (·.size) = some (m.map Value.bool).length := by rw [List.length_map, Hm.out]; exact info96
  by_cases h1 : m = everyM
  · have hw : Hid (wSet m = [46]) := by show _ = _; unfold wSet; rw [if_neg H0.out, if_pos h1]
    rw [decide_eq_true h1] at hE1
    clear h1
    go_region_held3 (fun w' => w'.rangeAt w.heap.size 0 (m.map Value.bool)) (exact range_set (blk_below Hg.out hBB.out (blk_lt Hg.out)))
      (first
        | (go_at_call 78; refine (every_any _).mono ?_; rintro e w' ⟨rfl, hb'⟩; have hBB := Lib.hid (hBB.out.trans (hb'.mono hBB.out.size)); have hKB := Lib.hid (hKB.out.trans (KeepB.of_below v hb')); have hOO := Lib.hid (hOO.out.below hb'); clear hb'))
    clear hE1
    have hzz := hBB.out.size
    go_wp2_with (at_builtin; refine appendByte_any hOO.out (by omega) (by omega) 46 rfl _ _ rfl rfl rfl rfl rfl ?_; intro v' w2 ho' hb' hk')
    go_ret
    exact ⟨_, rfl, by rw [hw.out]; exact ho', (HB.out.trans (hBB.out.mono hBW)).trans hb', (HK.out.trans hKB.out).trans hk'⟩
  have H1 : Hid (m ≠ everyM) := h1
  rw [decide_eq_false h1] at hE1
  clear h1
  go_region_held3 (fun w' => w'.rangeAt w.heap.size 0 (m.map Value.bool)) (exact range_set (blk_below Hg.out hBB.out (blk_lt Hg.out)))
      (first
        | (go_at_call 78; refine (every_any _).mono ?_; rintro e w' ⟨rfl, hb'⟩; have hBB := Lib.hid (hBB.out.trans (hb'.mono hBB.out.size)); have hKB := Lib.hid (hKB.out.trans (KeepB.of_below v hb')); have hOO := Lib.hid (hOO.out.below hb'); clear hb'))
  clear hE1
  have HB2 := Lib.hid (HB.out.trans (hBB.out.mono hBW))
  have HK2 := Lib.hid (HK.out.trans hKB.out)
  have Hg2 := Lib.hid (blk_below Hg.out hBB.out (blk_lt Hg.out))
  have hBW2 : B ≤ w'.heap.size := by have := hBB.out.size; omega
  have hgW := blk_lt Hg.out
  have hgW2 : w.heap.size < w'.heap.size := by have := hBB.out.size; omega
  clear hBB hKB HB HK Hg HO
  obtain ⟨hf1, hf2, hf3⟩ := first_lt Hm.out H0.out
  obtain ⟨fi, hfi⟩ : ∃ fi, firstOf m = fi := ⟨_, rfl⟩
  rw [hfi] at hf1 hf2 hf3
  have Hf2 := Lib.hid hf2
  have Hf3 := Lib.hid hf3
  have Hfi := Lib.hid hfi
  have HE2 : Hid (∀ wx, (Op.equalIn 10000 96 (.agg (m.map Value.bool).toArray) (.agg (bcells (singleM (32 + fi))))).run Try.prog wx = .ok (decide (m = singleM (32 + fi))) wx) := fun wx => eq_set Hm.out (singleM_length _) wx
  clear hf2 hf3 hfi hm hi96
  go_wp2_with fail
  go_loopw [5] (fun x wr => ∃ k : Nat, x = .int .i64 k ∧ k ≤ fi ∧ wr = w') (fun x _ => fi - (intOf x).toNat)
  case atStart => exact ⟨0, rfl, Nat.zero_le _, rfl⟩
  case round =>
    obtain ⟨k, rfl, hk, rfl⟩ := hrel
    have c1 : wr.cell? ⟨w.heap.size, k, none⟩ = some (.bool (m.getD k false)) := (blk_cell Hg2.out k).trans (bcells_get (by rw [Hm.out]; omega))
    have hk95 : (k : Int) < 95 := by omega
    by_cases hlt : k < fi
    · rw [Hf3.out k hlt] at c1
      go_wp2_with fail
      go_roundw
      case rel => exact ⟨k + 1, by go_num, by omega, trivial⟩
      case measure => simp [intOf]; omega
    · obtain rfl : k = fi := by omega
      rw [Hf2.out] at c1
      go_upto_region 9 with fail
      have hBB := Lib.hid ((Below.refl wr.heap.size wr).drew)
      have hKB : Hid (KeepB v wr v wr.drew) := KeepB.of_below v ((Below.refl _ _).drew)
      have hOO2 : Hid (OwnY wr.drew B v L) := hOO.out
      have hi96 : (Try.prog.info? 96).map (·.size) = some (m.map Value.bool).length := by rw [List.length_map, Hm.out]; exact info96
      have hE2 := HE2.out
      clear HE2 c1 hk hlt
      by_cases h2 : m = singleM (32 + k)
      · have hw : Hid (wSet m = wSign (UInt8.ofNat (32 + k)) spA) := by show _ = _; unfold wSet; rw [if_neg H0.out, if_neg H1.out, Hfi.out, if_pos h2]
        rw [decide_eq_true h2] at hE2
        clear h2
        go_region_held3 (fun w' => w'.rangeAt w.heap.size 0 (m.map Value.bool)) (exact range_set (blk_below Hg2.out hBB.out hgW2))
          (first
            | (go_at_call 59; refine (single_any _ _ hf1).mono ?_; rintro e w' ⟨rfl, hb'⟩; have hBB := Lib.hid (hBB.out.trans (hb'.mono hBB.out.size)); have hKB := Lib.hid (hKB.out.trans (KeepB.of_below v hb')); have hOO2 := Lib.hid (hOO2.out.below hb'); clear hb'))
        clear hE2
        have hzz := hBB.out.size
        have HS := Lib.hid (writeSign_any B v L (UInt8.ofNat (32 + k)) (ByteArray.mk #[92, 40, 41, 91, 93, 124, 42, 43, 63, 46]) spA rfl w' hOO2.out (by omega) (by omega))
        rw [byte_of hf1] at HS
        go_wp2_with fail
        refine HS.out.mono ?_
        rintro e w3 ⟨v3, rfl, ho3, hb3, hk3⟩
        go_wp2_with fail
        go_ret
        exact ⟨_, rfl, by rw [hw.out]; exact ho3, (HB2.out.trans (hBB.out.mono hBW2)).trans hb3, (HK2.out.trans hKB.out).trans hk3⟩
      have hw : Hid (wSet m = 91 :: (runsN m 0 ++ [93])) := by show _ = _; unfold wSet; rw [if_neg H0.out, if_neg H1.out, Hfi.out, if_neg h2]; rfl
      rw [decide_eq_false h2] at hE2
      clear h2
      go_region_held3 (fun w' => w'.rangeAt w.heap.size 0 (m.map Value.bool)) (exact range_set (blk_below Hg2.out hBB.out hgW2))
          (first
            | (go_at_call 59; refine (single_any _ _ hf1).mono ?_; rintro e w' ⟨rfl, hb'⟩; have hBB := Lib.hid (hBB.out.trans (hb'.mono hBB.out.size)); have hKB := Lib.hid (hKB.out.trans (KeepB.of_below v hb')); have hOO2 := Lib.hid (hOO2.out.below hb'); clear hb'))
      clear hE2
      have hzz := hBB.out.size
      have HB3 := Lib.hid (HB2.out.trans (hBB.out.mono hBW2))
      have HK3 := Lib.hid (HK2.out.trans hKB.out)
      have Hg3 := Lib.hid (blk_below Hg2.out hBB.out hgW2)
      have hBW3 : B ≤ w'.heap.size := by omega
      clear hBB hKB HB2 HK2 Hg2 hi96 hu96 hOO Hf2 Hf3 Hfi H0 H1
      go_upto_region 12 with (at_builtin; refine appendByte_any hOO2.out hBW3 (by omega) 91 rfl _ _ rfl rfl rfl rfl rfl ?_; intro v4 w4 ho4 hb4 hk4)
      have hBW4 : B ≤ w4.heap.size := by have := hb4.size; omega
      have HB4 := Lib.hid (HB3.out.trans hb4)
      have Hg4 := Lib.hid (hk4.blk hOO2.out Hg3.out (by decide))
      have HK4 := Lib.hid (HK3.out.trans hk4)
      have HO4 := Lib.hid ho4
      clear HB3 Hg3 HK3 hOO2 ho4 hb4 hk4
      obtain ⟨g, hgg⟩ : ∃ g, w.heap.size = g := ⟨_, rfl⟩
      rw [hgg] at Hg4 hgW hgW2
      have Hgg := Lib.hid hgg
      have HQ : Hid (∀ (i : Nat), i < 95 → ∀ (u : Value) (X : List UInt8) (wx : World), OwnY wx B u X → B ≤ wx.heap.size → X.length ≤ 1000000 → Calls Try.prog 79 #[u, .int .u8 (32 + (i : Int)), .string (ByteArray.mk #[92, 93, 45, 94])] wx (WrPost B u (X ++ wSign (UInt8.ofNat (32 + i)) spC) wx)) := fun i hi u X wx h1 h2 h3 => by
        have := writeSign_any B u X (UInt8.ofNat (32 + i)) (ByteArray.mk #[92, 93, 45, 94]) spC rfl wx h1 h2 h3
        rwa [byte_of hi] at this
      rw [hgg]
      clear hgg hgW hgW2
      go_wp2_with fail
      go_loopw [0, 7] (fun u x wr => ∃ (i : Nat) (dn : List UInt8), x = .int .i64 i ∧ i ≤ 95 ∧ Hid (runsN m 0 = dn ++ runsN m i) ∧ dn.length ≤ 5 * i ∧ Hid (OwnY wr B u (L ++ [91] ++ dn)) ∧ Hid (wr.heap[g]? = some (.cells (bcells m) 96 (0, 0))) ∧ Hid (Below B w wr) ∧ Hid (KeepB v w u wr) ∧ B ≤ wr.heap.size) (fun _ x _ => 95 - (intOf x).toNat)
      case atStart => exact ⟨0, [], rfl, by omega, rfl, Nat.zero_le _, by rw [List.append_nil]; exact HO4, Hg4, HB4, HK4, hBW4⟩
      case round =>
        clear HO4 Hg4 HB4 HK4 hBW4
        obtain ⟨i, dn, rfl, hi, hdn, hdl, hO, hG, hB1, hK1, hBr⟩ := hrel
        by_cases hlt : i < 95
        · have hlti : (i : Int) < 95 := by omega
          have c1 : wr.cell? ⟨g, i, none⟩ = some (.bool (m.getD i false)) := (blk_cell hG.out i).trans (bcells_get (by rw [Hm.out]; exact hlt))
          cases hmi : m.getD i false with
          | false =>
            rw [hmi] at c1
            have hdn2 : Hid (runsN m 0 = dn ++ runsN m (i + 1)) := by show _ = _; rw [hdn.out, runsN_no hlt hmi]
            clear hdn hmi
            go_wp2_with fail
            go_roundw
            case rel => exact ⟨i + 1, dn, by go_num, by omega, hdn2, by omega, hO, hG, hB1, hK1, hBr⟩
            case measure => simp [intOf]; omega
          | true =>
            rw [hmi] at c1
            have hr := runEnd_range m hlt
            have hdn2 : Hid (runsN m 0 = dn ++ (wSign (UInt8.ofNat (32 + i)) spC ++ (if i < runEnd m i then 45 :: wSign (UInt8.ofNat (32 + runEnd m i)) spC else []) ++ runsN m (runEnd m i + 1))) := by show _ = _; rw [hdn.out, runsN_yes hlt hmi]
            have HR := Lib.hid (run_any g i m wr Hm.out hG.out hlt)
            obtain ⟨r, hrr⟩ : ∃ r, runEnd m i = r := ⟨_, rfl⟩
            rw [hrr] at hr hdn2 HR
            have hr1 := hr.1
            have hr2 := hr.2
            have hl1 := wSign_len (UInt8.ofNat (32 + i)) spC
            have hl2 := wSign_len (UInt8.ofNat (32 + r)) spC
            have HW1 := Lib.hid (HQ.out i hlt u0 (L ++ [91] ++ dn) wr hO.out hBr (by simp only [List.length_append, List.length_cons, List.length_nil]; omega))
            clear hdn hrr hr hmi
            go_wp2_with fail
            refine HR.out.mono ?_
            rintro e w0 ⟨rfl, rfl⟩
            go_wp2_with fail
            refine HW1.out.mono ?_
            rintro e w5 ⟨v5, rfl, ho5, hb5, hk5⟩
            have hBr5 : B ≤ w5.heap.size := by have := hb5.size; omega
            have HO5 := Lib.hid ho5
            have HB5 := Lib.hid (hB1.out.trans hb5)
            have HG5 := Lib.hid (hk5.blk hO.out hG.out (by decide))
            have HK5 := Lib.hid (hK1.out.trans hk5)
            clear HR HW1 ho5 hb5 hk5 hO hG hB1 hK1 hBr c1
            by_cases hir : i < r
            · have hiri : (i : Int) < (r : Int) := by omega
              rw [if_pos hir] at hdn2
              go_wp2_with (at_builtin; refine appendByte_any HO5.out hBr5 (by simp only [List.length_append, List.length_cons, List.length_nil]; omega) 45 rfl _ _ rfl rfl rfl rfl rfl ?_; intro v6 w6 ho6 hb6 hk6)
              have HX := Lib.hid (HQ.out r hr2 v6 _ w6 ho6 (by have := hb6.size; omega) (by simp only [List.length_append, List.length_cons, List.length_nil]; omega))
              have HB6 := Lib.hid (HB5.out.trans hb6)
              have HG6 := Lib.hid (hk6.blk HO5.out HG5.out (by decide))
              have HK6 := Lib.hid (HK5.out.trans hk6)
              have hBr6 : B ≤ w6.heap.size := by have := hb6.size; omega
              have HO6 := Lib.hid ho6
              clear ho6 hb6 hk6 HO5 HB5 HG5 HK5
              refine HX.out.mono ?_
              rintro e w7 ⟨v7, rfl, ho7, hb7, hk7⟩
              have hBr7 : B ≤ w7.heap.size := by have := hb7.size; omega
              have HO7 := Lib.hid ho7
              have HB7 := Lib.hid (HB6.out.trans hb7)
              have HG7 := Lib.hid (hk7.blk HO6.out HG6.out (by decide))
              have HK7 := Lib.hid (HK6.out.trans hk7)
              clear ho7 hb7 hk7 HB6 HG6 HK6 HX HO6
              go_wp2_with fail
              go_roundw
              case rel => exact ⟨r + 1, dn ++ (wSign (UInt8.ofNat (32 + i)) spC ++ 45 :: wSign (UInt8.ofNat (32 + r)) spC), by go_num, by omega, by show _ = _; rw [hdn2.out]; simp, by simp only [List.length_append, List.length_cons, List.length_nil]; omega, by have := HO7.out; show OwnY _ _ _ _; simpa using this, HG7, HB7, HK7, hBr7⟩
              case measure => simp [intOf]; omega
            · have hiri : ¬ (i : Int) < (r : Int) := by omega
              rw [if_neg hir] at hdn2
              go_wp2_with fail
              go_roundw
              case rel => exact ⟨r + 1, dn ++ wSign (UInt8.ofNat (32 + i)) spC, by go_num, by omega, by show _ = _; rw [hdn2.out]; simp, by simp only [List.length_append, List.length_cons, List.length_nil]; omega, by have := HO5.out; show OwnY _ _ _ _; simpa using this, HG5, HB5, HK5, hBr5⟩
              case measure => simp [intOf]; omega
        · obtain rfl : i = 95 := by omega
          go_wp2_with (at_builtin; refine appendByte_any hO.out hBr (by simp only [List.length_append, List.length_cons, List.length_nil]; omega) 93 rfl _ _ rfl rfl rfl rfl rfl ?_; intro v6 w6 ho6 hb6 hk6)
          go_ret
          refine ⟨_, rfl, ?_, hB1.out.trans hb6, hK1.out.trans hk6⟩
          rw [hw.out, hdn.out, runsN_end, List.append_nil]
          simpa using ho6
end Go.Proofs.Ytaefhfldgemcnaa
