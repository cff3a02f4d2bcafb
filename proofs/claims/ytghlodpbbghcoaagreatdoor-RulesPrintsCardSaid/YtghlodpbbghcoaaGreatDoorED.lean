/- Of's step (the literal Of$1 of package dfa): walked. -/
import Derived.Test.YtghlodpbbghcoaaGreatDoorEC
import Derived.Test.YtghlodpbbghcoaaGreatDoorE6
import Derived.Test.YtghlodpbbghcoaaGreatDoorXH
import Derived.ChangeKeysEq
import Derived.Laws.StructEq
namespace Go.Proofs.YtghlodpbbghcoaaGreatDoor
open Go.RowKit
theorem keep_setCells {b : Nat} {a : World} : ∀ (vs : List Value) (w : World) (o : Nat) (_ : True), Rx.Keep b a w → Rx.Keep b a (w.setCells b o vs)
  | [], _, _, _, h => h
  | v :: vs, _, o, _, h => keep_setCells vs _ (o + 1) trivial (h.set o v)
set_option maxRecDepth 8192 in
set_option maxHeartbeats 3200000 in
theorem step123_any (n x s y Bb Bs Bl : Nat) (m : List Bool) (A : Option Addr) (c : Nat) (w : World) (hn : n ≤ 8) (hx : x < 2 ^ n) (hs : s < 95) (hT : TzTab w) (hA : StepsAt w w.heap.size A n n) (hml : m.length = 95)
    (hBb : w.heap[Bb]? = some (.cells (Rx.bcells m) 158 (0, 0))) (hBs : w.heap[Bs]? = some (.cells #[.slice A n c] 156 (0, 0))) (hBl : SetBlk w Bl y) (hy : y < 2 ^ n) :
    Calls Tryz.prog 123 #[.agg (setV x), .int .i64 s, .pointer (some ⟨Bb, 0, none⟩), .pointer (some ⟨Bs, 0, none⟩), .pointer (some ⟨Bl, 0, none⟩)] w fun e w' =>
      (∃ z, z < 2 ^ n ∧ e = .returned (.agg (setV z)) ∧ SetBlk w' Bl z) ∧ Rx.Keep Bl w w' := by
  have hBbl := blk_lt hBb
  have hBsl := blk_lt hBs
  have hBll := blk_lt hBl
  go_enter Tryz.func123, Tryz.ntmps123
  go_upto_region 1 with fail
  rw [zero162]
  generalize hw1 : (w.alloc (.cells (setV x) 162)).alloc (.cells (setV 0) 162) = w1
  have g0 : SetBlk w1 w.heap.size x := by subst hw1; exact blk_alloc (blk_new _ _) _
  have g1 : SetBlk w1 (w.heap.size + 1) 0 := by subst hw1; exact blk_new' (by simp)
  have hb : Below w.heap.size w w1 := by subst hw1; exact ((Below.refl _ _).alloc (Nat.le_refl _) _).alloc (by simp) _
  clear hw1
  have G0 := Lib.hid g0
  have G1 := Lib.hid g1
  have HT := Lib.hid (hT.below hb hT.lt)
  have HA := Lib.hid (hA.below hb)
  have HBb := Lib.hid ((hb.block _ hBbl).trans hBb)
  have HBs := Lib.hid ((hb.block _ hBsl).trans hBs)
  have HBl := Lib.hid ((hb.block _ hBll).trans hBl)
  have HB := Lib.hid hb
  have hsz : w.heap.size + 1 < w1.heap.size := blk_lt g1
  clear g0 g1 hb hT hA hBb hBs hBl
  obtain ⟨bit, cb⟩ : ∃ bit, w1.cell? ⟨Bb, s, none⟩ = some (.bool bit) := ⟨m.getD s false, (blk_cell HBb.out s).trans (Rx.bcells_get (by omega))⟩
  have cs0 : w1.cell? ⟨Bs, 0, none⟩ = some (.slice A n c) := blk_cell HBs.out 0
  go_upto_if 10 with fail
  go_cut [14] (fun _ wx => ∃ z, z < 2 ^ n ∧ Hid (SetBlk wx Bl z) ∧ Hid (SetBlk wx (w.heap.size + 1) 0) ∧ Hid (Rx.Keep Bl w wx))
  case first =>
    cases bit with
    | false =>
      go_wp2_with fail
      go_meet
      exact ⟨y, hy, HBl.out, G1, Rx.Keep.of_below HB.out⟩
    | true =>
      obtain ⟨cx, hcx⟩ : ∃ cx, cx = setV x := ⟨_, rfl⟩
      have HG0 : Hid (w1.heap[w.heap.size]? = some (.cells cx 162 (0, 0))) := by rw [hcx]; exact G0.out
      have hix := Lib.hid (show (Tryz.prog.info? 162).map (·.size) = some cx.size by rw [hcx]; exact info162 x)
      have HC : Hid (Calls Tryz.prog 124 #[.slice A n c, .agg cx, .int .i64 s] w1 (SetOut n w1)) := by
        rw [hcx]
        obtain ⟨b, o, hAe, hbB, hst⟩ := HA.out
        exact of_any n x s A c w1 hn hx hs HT.out ⟨b, o, hAe, by omega, hst⟩
      clear hcx
      go_wp2_with (first
        | ((with_reducible show wpList _ _ _ (⟨some 12, _, _, _, _, _⟩ :: _) _ _); refine wpList_load_row rfl 162 _ rfl w.heap.size rfl 162 _ (0, 0) _ HG0.out Tryz.underlying162 rfl hix.out ?_)
        | (go_at_call 124; refine HC.out.mono ?_; rintro e w2 ⟨⟨z, hz, rfl⟩, hb2⟩; have hl2 : SetBlk w2 Bl y := (hb2.block _ (by omega)).trans HBl.out; have h12 : SetBlk w2 (w.heap.size + 1) 0 := (hb2.block _ (by omega)).trans G1.out; have Hb2 := Lib.hid hb2; have Hl2 := Lib.hid hl2; have H12 := Lib.hid h12; obtain ⟨cz, hcz⟩ : ∃ cz, cz = setV z := ⟨_, rfl⟩; have hth : Hid (w2.there Bl 0 cz.size) := (by rw [hcz]; exact hl2.there z); have hi : Hid ((Tryz.prog.info? 162).map (·.size) = some cz.size) := (by rw [hcz]; exact info162 z); have h1 : Hid (cz.all (·.oneCell') = true) := (by rw [hcz]; exact setV_one z); have Hcz := Lib.hid hcz; rw [← hcz]; clear hcz hb2 hl2 h12)
        | ((with_reducible show wpList _ _ _ (⟨none, _, _, _, _, _⟩ :: _) _ _); refine wpList_store_mid rfl 162 _ _ rfl Bl 0 _ rfl rfl hth.out hi.out h1.out ?_))
      go_meet
      refine ⟨z, hz, ?_, ?_, ?_⟩
      · show SetBlk _ _ _
        rw [Hcz.out]
        exact Hl2.out.stored z
      · exact (Rx.heap_setCells_other (by omega) _ _ _).trans H12.out
      · show Rx.Keep _ _ _
        exact keep_setCells _ _ _ trivial (Rx.Keep.of_below (HB.out.trans (Hb2.out.mono (by omega))))
  case rest =>
    obtain ⟨z, hz, hz1, hz2, hK⟩ := hcut
    obtain ⟨cz, hcz⟩ : ∃ cz, cz = setV z := ⟨_, rfl⟩
    have hst : Hid ((wc.setCells (w.heap.size + 1) 0 cz.toList).heap[w.heap.size + 1]? = some (.cells cz 162 (0, 0))) := by rw [hcz]; exact hz2.out.stored z
    have hth : Hid (wc.there (w.heap.size + 1) 0 cz.size) := by rw [hcz]; exact hz2.out.there z
    have hi : Hid ((Tryz.prog.info? 162).map (·.size) = some cz.size) := by rw [hcz]; exact info162 z
    have h1 : Hid (cz.all (·.oneCell') = true) := by rw [hcz]; exact setV_one z
    have hG : Hid (wc.heap[Bl]? = some (.cells cz 162 (0, 0))) := by rw [hcz]; exact hz1.out
    have hfin : Hid (Ending.returned (.agg cz) = .returned (.agg (setV z))) := by rw [hcz]; exact rfl
    clear hcz cb cs0
    go_wp2_with (first | ((with_reducible show wpList _ _ _ (⟨some 15, _, _, _, _, _⟩ :: _) _ _); refine wpList_load_row rfl 162 _ rfl Bl rfl 162 _ (0, 0) _ hG.out Tryz.underlying162 rfl hi.out ?_) | ((with_reducible show wpList _ _ _ (⟨none, _, _, _, _, _⟩ :: _) _ _); refine wpList_store_mid rfl 162 _ _ rfl (w.heap.size + 1) 0 _ rfl rfl hth.out hi.out h1.out ?_))
    refine bodyPost_ret (results_cell_row rfl _ _ (w.heap.size + 1) 162 _ _ _ rfl hst.out Tryz.underlying162 rfl hi.out) rfl ⟨⟨z, hz, hfin.out, ?_⟩, ?_⟩
    · exact (Rx.heap_setCells_other (by omega) _ _ _).trans hz1.out
    · exact Rx.Keep.setCellsNew hK.out (w.heap.size + 1) (by omega) _ 0
end Go.Proofs.YtghlodpbbghcoaaGreatDoor

/- Rows of 95 numbers, as they are made and stored. -/
namespace Go.Proofs.YtghlodpbbghcoaaGreatDoor
open Go.RowKit
def nums95 (f : Nat → Nat) : Array Value := (Array.range 95).map fun j => .int .i64 ((f j : Nat) : Int)
theorem nums95_size (f : Nat → Nat) : (nums95 f).size = 95 := by simp [nums95]
theorem nums95_get (f : Nat → Nat) {k : Nat} (h : k < 95) : (nums95 f)[k]? = some (.int .i64 ((f k : Nat) : Int)) := by
  unfold nums95
  rw [Array.getElem?_map, Array.getElem?_range, if_pos h]
  rfl
theorem nums95_set (f : Nat → Nat) (i x : Nat) : (nums95 f).setIfInBounds i (.int .i64 (x : Int)) = nums95 (upd f i x) := by
  apply Array.ext_getElem?
  intro k
  rw [Array.getElem?_setIfInBounds]
  by_cases hk : k < 95
  · rw [nums95_get _ hk, nums95_get _ hk]
    by_cases e : i = k
    · subst e
      rw [if_pos rfl, if_pos (by rw [nums95_size]; exact hk)]
      simp [upd]
    · rw [if_neg e]
      have : k ≠ i := fun h => e h.symm
      simp [upd, this]
  · rw [Array.getElem?_eq_none (by rw [nums95_size]; omega), Array.getElem?_eq_none (by rw [nums95_size]; omega)]
    split
    · rw [if_neg (by rw [nums95_size]; omega)]
    · rfl
theorem make95 (w : World) : (Instr.makeSlice 168 (.int .i64 95) (.int .i64 95)).run Tryz.prog w = .ok (.slice (some ⟨w.heap.size, 0, none⟩) 95 95) (w.alloc (.cells (nums95 fun _ => 0) 3)) := by
  obtain ⟨i, hi, hz, hs, hb⟩ := info_parts Rx.info3
  have h := run_make (P := Tryz.prog) (w := w) 168 3 i _ Tryz.underlying168 hi hz .i64 .i64 95 95 (by omega) (by omega) (by rw [hb]; omega) (by omega)
  rw [h, hs]
  have e : madeCells (Value.int .i64 0).cells ((95 : Int).toNat * 1) = nums95 fun _ => 0 := by
    apply Array.ext_getElem?
    intro k
    by_cases hk : k < 95
    · rw [nums95_get _ hk]
      unfold madeCells
      rw [Array.getElem?_map, Array.getElem?_range, if_pos (by omega)]
      simp [Value.cells, Nat.mod_one]
    · rw [Array.getElem?_eq_none (by rw [size_madeCells]; omega), Array.getElem?_eq_none (by rw [nums95_size]; omega)]
  rw [e]
  rfl
end Go.Proofs.YtghlodpbbghcoaaGreatDoor

/- What a walk over sets keeps: plain. -/
namespace Go.Proofs.YtghlodpbbghcoaaGreatDoor
open Go.RowKit Go.Maps
/-- The i-th of what has been met, as its cells. -/
theorem MetSet.cells {w : World} {M B : Nat} {O : Nat → Prop} {l : List Nat} (h : MetSet w M O B l) {i : Nat} (hi : i < l.length) :
    ∃ g c x, w.cell? ⟨M, 1, none⟩ = some (.slice (some ⟨g, 0, none⟩) l.length c) ∧ l[i]? = some x ∧ x < B ∧ SetAt w g (i * 8) x ∧ l.length ≤ c ∧ c ≤ maxLen := by
  obtain ⟨Mb, A, c, D, hM, h1, h2, hmap, hrow, hA, hD⟩ := h.met
  have c1 : w.cell? ⟨M, 1, none⟩ = some (.slice A l.length c) := blk_cell hM 1
  obtain ⟨hl, hr⟩ := hrow
  rcases hr with ⟨e, e0⟩ | ⟨g, cap, cur, e, hb, hg, hcap, hcm, hcs, htk⟩
  · omega
  · injection e with e1 e2 e3
    subst e1
    have hx : l[i]? = some l[i] := List.getElem?_eq_getElem hi
    have hget : ∀ j, j < 8 → w.cell? ⟨g, i * 8 + j, none⟩ = (setL l[i])[j]? := fun j hj => by
      rw [blk_cell hg, ← flat_get (enc := setL) (m := 8) (fun x => by simp [setL, setV]) hx hj, ← htk, List.getElem?_take, if_pos (by omega), Array.getElem?_toList]
    refine ⟨g, c, l[i], c1, hx, hD.all _ (List.getElem_mem hi), ⟨?_, fun j h0 h8 => ?_⟩, by omega, by omega⟩
    · have := hget 0 (by omega)
      simpa [setL, setV] using this
    · rw [hget j h8]
      match j, h0, h8 with
      | 1, _, _ | 2, _, _ | 3, _, _ | 4, _, _ | 5, _, _ | 6, _, _ | 7, _, _ => rfl
theorem SetAt.keep {w w' : World} {b o x : Nat} (h : SetAt w b o x) (hk : w'.heap[b]? = w.heap[b]?) : SetAt w' b o x := by
  have hc : ∀ k, w'.cell? ⟨b, k, none⟩ = w.cell? ⟨b, k, none⟩ := fun k => by simp [World.cell?, hk]
  exact ⟨(hc _).trans h.1, fun i h0 h8 => (hc _).trans (h.2 i h0 h8)⟩
theorem TzTab.keep {w w' : World} (h : TzTab w) (hk : w'.heap[1]? = w.heap[1]?) : TzTab w' := fun j hj => by
  have hc : w'.cell? ⟨1, j, none⟩ = w.cell? ⟨1, j, none⟩ := by simp [World.cell?, hk]
  exact hc.trans (h j hj)
theorem StepsAt.keep {w w' : World} {B B' : Nat} {A : Option Addr} {n k : Nat} (h : StepsAt w B A n k) (hk : ∀ b, b < B → (∃ o, A = some ⟨b, o, none⟩) → w'.heap[b]? = w.heap[b]?) (hB : B ≤ B') : StepsAt w' B' A n k := by
  obtain ⟨b, o, rfl, hb, h⟩ := h
  exact ⟨b, o, rfl, by omega, fun q s hq hs => by obtain ⟨x, hx, h⟩ := h q s hq hs; exact ⟨x, hx, h.keep (hk b hb ⟨o, rfl⟩)⟩⟩
theorem KeepO.refl (O : Nat → Prop) (w : World) : KeepO O w w := KeepO.of_below (Below.refl _ _)
theorem KeepO.trans {O O' : Nat → Prop} {a w w' : World} (h : KeepO O a w) (k : KeepO O' w w') (hO : ∀ g, g < a.heap.size → O' g → O g) : KeepO O a w' :=
  ⟨k.os.trans h.os, k.tape.trans h.tape, k.output.trans h.output, Nat.le_trans h.size k.size, fun g hg hn => (k.block g (Nat.lt_of_lt_of_le hg h.size) (fun e => hn (hO g hg e))).trans (h.block g hg hn)⟩
theorem KeepO.of_keep {b : Nat} {O : Nat → Prop} {w w' : World} (h : Rx.Keep b w w') (hO : O b) : KeepO O w w' :=
  ⟨h.os, h.tape, h.output, h.size, fun g hg hn => h.block g hg (fun e => hn (e ▸ hO))⟩
theorem KeepO.setCells {O : Nat → Prop} {a : World} {b : Nat} : ∀ (vs : List Value) (w : World) (o : Nat), KeepO O a w → (O b ∨ a.heap.size ≤ b) → KeepO O a (w.setCells b o vs)
  | [], _, _, h, _ => h
  | v :: vs, w, o, h, hb => KeepO.setCells vs _ (o + 1) ⟨h.os, h.tape, h.output, by simpa using h.size, fun g hg hO => (Below.heap_setCell w ⟨b, o, none⟩ v g (fun e => by rcases hb with hb | hb; exact hO (by simp at e; exact e ▸ hb); simp at e; omega)).trans (h.block g hg hO)⟩ hb
end Go.Proofs.YtghlodpbbghcoaaGreatDoor

/- Two sets compared. -/
namespace Go.Proofs.YtghlodpbbghcoaaGreatDoor
open Go.RowKit
theorem plain160 : Tryz.prog.plainKey 160 = true := by kernel_rfl
theorem cells160 : Tryz.prog.cellsOf 160 = 1 := by kernel_rfl
theorem setV_nat (a : Nat) {k : Nat} (h : k < 8) : (setV a)[k]? = some (.int .u64 (if k = 0 then (a : Int) else 0)) := by
  match k, h with
  | 0, _ | 1, _ | 2, _ | 3, _ | 4, _ | 5, _ | 6, _ | 7, _ => rfl
theorem eqItems_sets (a b : Nat) (w : World) : ∀ (is : List Nat), (∀ i ∈ is, i < 8) →
    (Op.eqItems 9999 160 1 (setV a) (setV b) is).run Tryz.prog w = .ok (is.all fun i => decide (i = 0 → a = b)) w := by
  intro is
  induction is with
  | nil => intro _; simp [Op.eqItems]
  | cons i is ih =>
    intro h
    have hi := h i (by simp)
    have h1 := run_part_plain (P := Tryz.prog) (w := w) plain160 (setV_nat a hi)
    have h2 := run_part_plain (P := Tryz.prog) (w := w) plain160 (setV_nat b hi)
    have h3 := run_equalIn_int (P := Tryz.prog) w 9998 160 .u64 .u64 (if i = 0 then (a : Int) else 0) (if i = 0 then (b : Int) else 0) Tryz.underlying160
    have e : ((if i = 0 then (a : Int) else 0) == (if i = 0 then (b : Int) else 0)) = decide (i = 0 → a = b) := by
      by_cases h0 : i = 0
      · by_cases hab : a = b
        · simp [h0, hab]
        · simp [h0, hab]; omega
      · simp [h0]
    rw [e] at h3
    simp only [Op.eqItems, Nat.mul_one, Sem.run_bind, h1, h2, h3, Result.andThen_ok, List.all_cons]
    cases hab : decide (i = 0 → a = b) with
    | true =>
      have := ih fun j hj => h j (List.mem_cons_of_mem _ hj)
      simpa using this
    | false => simp
theorem eq162 (a b : Nat) (w : World) : (Op.equalIn 10000 162 (.agg (setV a)) (.agg (setV b))).run Tryz.prog w = .ok (decide (a = b)) w := by
  obtain ⟨i, hi⟩ := info_of_underlying (P := Tryz.prog) Tryz.underlying160
  have h1 := run_equalIn_array (w := w) 9999 (setV a) (setV b) Tryz.underlying162 hi
  rw [cells160] at h1
  have h2 := eqItems_sets a b w (List.range 8) (fun i hi => List.mem_range.1 hi)
  have h3 : ((List.range 8).all fun i => decide (i = 0 → a = b)) = decide (a = b) := by
    by_cases hab : a = b <;> simp [hab, List.range, List.range.loop]
  exact h1.trans (by rw [h2, h3])
theorem setBlk_ne {w : World} {Bl y g : Nat} (hBl : SetBlk w Bl y) {j : Nat} (hj : 8 ≤ j) {v : Value} (hc : w.cell? ⟨g, j, none⟩ = some v) : g ≠ Bl := by
  rintro rfl
  have := (blk_cell hBl j).symm.trans hc
  rw [Array.getElem?_eq_none (by rw [setV_size]; omega)] at this
  cases this
/-- What Of's step reads stays, where only the last set turns. -/
theorem step_frame {w wr : World} {Bl y n : Nat} {A : Option Addr} (HT : TzTab w) (HA : StepsAt w w.heap.size A n n) (hBl : SetBlk w Bl y) (hk : ∀ g, g < w.heap.size → g ≠ Bl → wr.heap[g]? = w.heap[g]?) (hsz : w.heap.size ≤ wr.heap.size) :
    TzTab wr ∧ StepsAt wr wr.heap.size A n n := by
  refine ⟨HT.keep (hk 1 HT.lt ?_), ?_⟩
  · have h63 := HT 63 (by decide)
    exact setBlk_ne hBl (j := 63) (by decide) h63
  · by_cases hn : n = 0
    · subst hn
      obtain ⟨b, o, rfl, hb, h⟩ := HA
      exact ⟨b, o, rfl, by omega, fun q s hq => absurd hq (by omega)⟩
    · refine HA.keep (fun b hb he => hk b hb ?_) hsz
      obtain ⟨b', o, rfl, hb', h⟩ := HA
      obtain ⟨o', he⟩ := he
      injection he with he
      injection he with e1 e2
      subst e1
      obtain ⟨x, hx, hS⟩ := h 0 94 (by omega) (by decide)
      exact setBlk_ne hBl (j := o + 0 * 760 + 94 * 8) (by omega) hS.1
theorem stored8 {w8 : World} {g x : Nat} (z : Nat) (h : SetBlk w8 g x) : ∃ W, ((((((((w8.setCell ⟨g, 0, none⟩ (.int .u64 z)).setCell ⟨g, 1, none⟩ (.int .u64 0)).setCell ⟨g, 2, none⟩ (.int .u64 0)).setCell ⟨g, 3, none⟩ (.int .u64 0)).setCell ⟨g, 4, none⟩ (.int .u64 0)).setCell ⟨g, 5, none⟩ (.int .u64 0)).setCell ⟨g, 6, none⟩ (.int .u64 0)).setCell ⟨g, 7, none⟩ (.int .u64 0)) = W ∧
    KeepO (fun h => h = g) w8 W ∧ SetBlk W g z ∧ ∀ h, h ≠ g → W.heap[h]? = w8.heap[h]? :=
  ⟨w8.setCells g 0 (setV z).toList, rfl, KeepO.setCells _ _ _ (KeepO.refl _ _) (Or.inl rfl), h.stored z, fun _ hh => Rx.heap_setCells_other hh _ _ _⟩
end Go.Proofs.YtghlodpbbghcoaaGreatDoor
