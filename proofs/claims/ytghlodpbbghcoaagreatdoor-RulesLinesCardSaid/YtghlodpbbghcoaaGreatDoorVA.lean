/- A line of a policy's text printed: walked. -/
import Derived.Test.YtghlodpbbghcoaaGreatDoorZJ
import Derived.Test.YtghlodpbbghcoaaGreatDoorZB
import Derived.Test.YtghlodpbbghcoaaGreatDoorAM
import Derived.Deep.DeepCutAuto
import Derived.Deep.RegionHeld3
import Derived.Test.YtghlodpbbghcoaaGreatDoorZC
import Derived.Lib.SlBytesConst
namespace Go.Proofs.YtghlodpbbghcoaaGreatDoor
open Go.RowKit
/-- A line of a word and names. -/
def lineB (word : ByteArray) (l : List ByteArray) : List UInt8 := word.data.toList ++ ((l.flatMap fun s => 32 :: s.data.toList) ++ [10])
theorem flat_snoc {l : List ByteArray} {i : Nat} (hi : i < l.length) : ((l.take (i + 1)).flatMap fun s => 32 :: s.data.toList) = ((l.take i).flatMap fun s => 32 :: s.data.toList) ++ (32 :: l[i].data.toList) := by
  rw [List.take_add_one, List.getElem?_eq_getElem hi, List.flatMap_append]
  simp
theorem flat_size (l : List ByteArray) (h : ∀ s ∈ l, s.size ≤ 1000) (k : Nat) : ((l.take k).flatMap fun s => 32 :: s.data.toList).length ≤ k * 1001 := by
  induction k with
  | zero => simp
  | succ k ih =>
    rcases Nat.lt_or_ge k l.length with hk | hk
    · rw [flat_snoc hk, List.length_append]
      have := h l[k] (List.getElem_mem hk)
      have h2 : l[k].data.toList.length = l[k].size := by simp
      rw [List.length_cons, h2, Nat.add_mul, Nat.one_mul]
      exact Nat.add_le_add ih (by omega)
    · rw [List.take_of_length_le (by omega)] at ih ⊢
      rw [Nat.add_mul]
      exact Nat.le_trans ih (Nat.le_add_right _ _)
/-- Texts in blocks that are not the row's, seen through what is appended to it. -/
theorem StrsAt.keep {w w' : World} {P : Nat → Prop} {v vx v' : Value} {l : List ByteArray} (h : StrsAt w P vx l) (hP : ∀ k, P k → k < w.heap.size ∧ v.ownBlock ≠ some k) (hk : KeepB v w v' w') : StrsAt w' P vx l :=
  h.move (fun k hp => hk.block k (hP k hp).1 (hP k hp).2) (fun _ h => h)
/-- Bytes to which a text can be appended: what is appended to is then the call's own. -/
def CanApp (w : World) (B : Nat) (v : Value) (L : List UInt8) : Prop := ∀ (ty : TypeId) (s : ByteArray), 0 < s.size → s.size ≤ 1000 →
  ∃ v' w', (Builtin.append_ #[74, 9] ty #[v, .string s]).run Tryz.prog w = .ok v' w' ∧ OwnY w' B v' (L ++ s.data.toList) ∧ Below B w w' ∧ KeepB v w v' w'
theorem OwnY.can {w : World} {B : Nat} {v : Value} {L : List UInt8} (h : OwnY w B v L) (hB : B ≤ w.heap.size) (hL : L.length ≤ 2000000) : CanApp w B v L := fun ty s h0 h1 => append_str_run ty h hB hL s h0 h1
/-- A constant's bytes, as many as their room: what is appended goes into a new row. -/
theorem canApp_full {w : World} {B g : Nat} {L : List UInt8} (hB : B ≤ w.heap.size) (hL : L.length ≤ 2000000) (hc : ∀ j u, (bys L)[j]? = some u → w.cell? ((⟨g, 0, none⟩ : Addr).add j) = some u) : CanApp w B (.slice (some ⟨g, 0, none⟩) L.length L.length) L := by
  intro ty s h0 h1
  obtain ⟨i, hi, hz0, hz1, hz2⟩ := info_parts info5
  have hxl : (bys L).length = L.length * i.size := by rw [hz1, bys_length, Nat.mul_one]
  have hr := Lib.run_append_grow_string (P := Tryz.prog) w 74 9 ty 5 i _ Tryz.underlying74 Tryz.underlying9 hi hz0 ⟨g, 0, none⟩ L.length L.length (bys L) hxl hc s (by omega) (by omega) (by rw [hz2]; exact growslice_fits (by omega) (by omega))
  refine ⟨_, _, hr, OwnY.mk (n := L.length + s.size) ?_, ⟨rfl, rfl, rfl, by simp, fun k hk => Below.heap_alloc w.drew _ k (by show k < w.heap.size; omega)⟩, ⟨fun k hk _ => Below.heap_alloc w.drew _ k hk, fun k hk => .inr (Nat.le_of_eq (by simpa [Value.ownBlock] using hk)), by simp⟩⟩
  have hge := grownCap_ge w (L.length + s.size) L.length 5
  have hcm : grownCap w (L.length + s.size) L.length 5 ≤ maxLen := grownCap_le_maxLen w (L.length + s.size) L.length 5 (by unfold maxLen; omega)
  have hlen : (bys (L ++ s.data.toList)).length = (L.length + s.size) * 1 := by rw [bys_length, List.length_append]; simp
  rw [bys_append, ← str_cells] at hlen ⊢
  refine ⟨hlen, .inr ⟨w.heap.size, _, _, rfl, hB, heap_alloc_new w.drew _, hge, hcm, ?_, ?_⟩⟩
  · have hz1' : (Value.int IntKind.u8 0).cells.size = 1 := rfl
    have h3 : (Lib.strCells s).length = s.size := Lib.strCells_length s
    simp only [Array.size_append, List.size_toArray, size_zeroCells, hz1', bys_length, h3]
    omega
  · simp only [Array.toList_append, List.append_assoc]
    rw [← List.append_assoc, ← hlen]
    exact List.take_left
theorem appendStr_can {ops : Array Oper} {rest : List Oper} {o : Oper} {a : Act} {w : World} {Q : Exit → Act → World → Prop} (hgd : o.guard = none) (sl x : Operand)
    (ho : o.op = .call { callee := .builtin .append, args := #[sl, x], argTypes := #[74, 9] }) {B : Nat} {v : Value} {L : List UInt8} (hs : a.eval sl = v) (hcan : CanApp w B v L) (s : ByteArray) (hx : a.eval x = .string s) (h0 : 0 < s.size) (hsz : s.size ≤ 1000)
    (h : ∀ v' w', OwnY w' B v' (L ++ s.data.toList) → Below B w w' → KeepB v w v' w' → wpList Tryz.prog ops Q rest (a.put o.dst v') w') : wpList Tryz.prog ops Q (o :: rest) a w := by
  refine wpList_plain hgd fun K hK => ?_
  obtain ⟨v', w', hr, h2, h3, h4⟩ := hcan o.type s h0 hsz
  unfold Oper.wp execOp
  simp only [ho, resolve, invoke, builtin, Sem.run_bind, Sem.run_pure, Result.andThen_ok, List.map_toArray, List.map_cons, List.map_nil, hs, hx, hr]
  exact hK _ _ (h v' w' h2 h3 h4)
set_option maxRecDepth 8192 in
set_option maxHeartbeats 3200000 in
theorem plainLine_any (B : Nat) (v : Value) (L : List UInt8) (word : ByteArray) (vx : Value) (l : List ByteArray) (P : Nat → Prop) (w : World) (hown : CanApp w B v L) (hB : B ≤ w.heap.size) (hL : L.length ≤ 1000000) (hw0 : 0 < word.size) (hw1 : word.size ≤ 1000)
    (hl : StrsAt w P vx l) (hP : ∀ k, P k → k < w.heap.size ∧ v.ownBlock ≠ some k) (hln : l.length ≤ 100) (hls : ∀ s ∈ l, 0 < s.size ∧ s.size ≤ 1000) :
    Calls Tryz.prog 44 #[v, .string word, vx] w (WrPost B v (L ++ lineB word l) w) := by
  obtain ⟨A, n, cap, rfl, hn, hcap, hat⟩ := hl.form
  have hn2 : n ≤ 100 := by omega
  have hwd : Hid (word.data.toList.length = word.size) := Lib.hid (by simp)
  replace hl := Lib.hid hl
  replace hls := Lib.hid hls
  replace hP := Lib.hid hP
  replace hown := Lib.hid hown
  replace hn := Lib.hid hn
  clear hat hln
  go_enter Tryz.func44, Tryz.ntmps44
  go_upto_region 2 with (at_builtin; refine appendStr_can rfl _ _ rfl rfl hown.out word rfl hw0 hw1 ?_; intro v1 w1 ho1 hb1 hk1; replace ho1 := Lib.hid ho1; replace hb1 := Lib.hid hb1; replace hk1 := Lib.hid hk1)
  go_wp2
  go_loopw [0, 14] (fun x0 x14 wr => ∃ i : Nat, x14 = .int .i64 i ∧ i ≤ n ∧ Hid (OwnY wr B x0 (L ++ word.data.toList ++ (l.take i).flatMap fun s => 32 :: s.data.toList)) ∧ Hid (Below B w wr) ∧ Hid (KeepB v w x0 wr)) (fun _ x14 _ => n - (intOf x14).toNat)
  case atStart => exact ⟨0, rfl, Nat.zero_le _, by simpa using ho1, hb1, hk1⟩
  case round =>
    clear ho1 hb1 hk1 hown
    clear w1
    obtain ⟨i, rfl, hi, hO, hBr, hK⟩ := hrel
    have hbw := Nat.le_trans hB hBr.out.size
    have hflen := flat_size l (fun s hs => (hls.out s hs).2) i
    have hlen : (L ++ word.data.toList ++ (l.take i).flatMap fun s => 32 :: s.data.toList).length ≤ 1200000 := by
      rw [List.length_append, List.length_append, hwd.out]
      omega
    obtain ⟨M, hM⟩ : ∃ M, (L ++ word.data.toList ++ (l.take i).flatMap fun s => 32 :: s.data.toList) = M := ⟨_, rfl⟩
    rw [hM] at hO hlen
    replace hM := Lib.hid hM
    replace hflen := Lib.hid hflen
    obtain ⟨vr, hvr⟩ : ∃ vr, vr = u0 := ⟨_, rfl⟩
    rw [← hvr] at hO hK ⊢
    clear hvr
    by_cases hlt : i < n
    · have hil : i < l.length := by rw [← hn.out]; exact hlt
      obtain ⟨A', n', cap', e', -, -, hat⟩ := (hl.out.keep hP.out hK.out).form
      simp only [Value.slice.injEq] at e'
      obtain ⟨rfl, rfl, rfl⟩ := e'
      obtain ⟨b, o, rfl, _, hcell⟩ := hat (by omega)
      have c0 := hcell i hil
      obtain ⟨s, hs⟩ : ∃ s, l[i] = s := ⟨_, rfl⟩
      rw [hs] at c0
      obtain ⟨hs0, hs1⟩ := hls.out s (by rw [← hs]; exact List.getElem_mem hil)
      have hnext : Hid (L ++ word.data.toList ++ ((l.take (i + 1)).flatMap fun s => 32 :: s.data.toList) = M ++ [32] ++ s.data.toList) := Lib.hid (by
        rw [flat_snoc hil, hs, ← hM.out]
        simp)
      have i0 : (0 : Int) ≤ (i : Int) := by omega
      have i1 : (i : Int) < (n : Int) := by omega
      have hM2 : (M ++ [32]).length ≤ 2000000 := by simp; omega
      clear hcell hat hs
      go_upto_region 5 with fail
      go_wp2_with (first
        | (at_builtin; refine appendByte_any hO.out hbw (by omega) 32 rfl _ _ rfl rfl rfl rfl rfl ?_; intro v5 w5 ho5 hb5 hk5; have hbw5 := Nat.le_trans hbw hb5.size; replace ho5 := Lib.hid ho5; replace hb5 := Lib.hid hb5; replace hk5 := Lib.hid hk5)
        | (at_builtin; refine appendStr_any rfl _ _ rfl rfl ho5.out hbw5 hM2 s rfl hs0 hs1 ?_; intro v6 w6 ho6 hb6 hk6))

      exact ⟨⟨i + 1, by simp, by omega, Lib.hid (by rw [hnext.out]; exact ho6), Lib.hid ((hBr.out.trans hb5.out).trans hb6), Lib.hid ((hK.out.trans hk5.out).trans hk6)⟩, by simp [intOf]; omega⟩
    · have i1 : ¬ (i : Int) < (n : Int) := by omega
      have hfin : Hid (L ++ lineB word l = M ++ [10]) := Lib.hid (by
        rw [← hM.out, List.take_of_length_le (by rw [← hn.out]; omega)]
        simp [lineB])
      go_wp2_with (at_builtin; refine appendByte_any hO.out hbw (by omega) 10 rfl _ _ rfl rfl rfl rfl rfl ?_; intro v5 w5 ho5 hb5 hk5)
      go_ret
      exact ⟨_, rfl, by rw [hfin.out]; exact ho5, hBr.out.trans hb5, hK.out.trans hk5⟩
end Go.Proofs.YtghlodpbbghcoaaGreatDoor

/- A rule's line printed: walked. -/
namespace Go.Proofs.YtghlodpbbghcoaaGreatDoor
open Go.RowKit
theorem step_appendS {ops : Array Oper} {o : Oper} {a : Act} {w : World} {K : Act → World → Prop} {Q : Exit → Act → World → Prop} {E : Prop} (hgd : o.guard = none) (sl x : Operand)
    (ho : o.op = .call { callee := .builtin .append, args := #[sl, x], argTypes := #[74, 9] }) {B : Nat} {v : Value} {L : List UInt8} (hs : a.eval sl = v) (hown : OwnY w B v L) (hB : B ≤ w.heap.size) (hn : L.length ≤ 2000000) (s : ByteArray) (hx : a.eval x = .string s) (h0 : 0 < s.size) (hsz : s.size ≤ 1000)
    (h : ∀ v' w', OwnY w' B v' (L ++ s.data.toList) → Below B w w' → KeepB v w v' w' → K (a.put o.dst v') w') :
    if Region.wanted o (yielded ops a.tmps) = true then Oper.wp Tryz.prog o a w K Q else E := by
  have hw : Region.wanted o (yielded ops a.tmps) = true := by simp [Region.wanted, hgd]
  rw [if_pos hw]
  obtain ⟨v', w', hr, h2, h3, h4⟩ := append_str_run o.type hown hB hn s h0 hsz
  unfold Oper.wp execOp
  simp only [ho, resolve, invoke, builtin, Sem.run_bind, Sem.run_pure, Result.andThen_ok, List.map_toArray, List.map_cons, List.map_nil, hs, hx, hr]
  exact h v' w' h2 h3 h4
def reqB (q : Bool) : ByteArray := if q then ⟨#[110, 101, 101, 100, 32]⟩ else ⟨#[97, 116, 116, 114, 32]⟩
def kindB (k : Int) : ByteArray := if k = 1 then ⟨#[32, 97, 110, 121]⟩ else if k = 2 then ⟨#[32, 101, 110, 117, 109]⟩ else if k = 3 then ⟨#[32, 115, 99, 104, 101, 109, 101]⟩ else ⟨#[32, 109, 97, 116, 99, 104]⟩
def argsOf (r : Rul) : List ByteArray := if r.kind = 4 then [r.regex] else r.words
/-- A rule's line. -/
def ruleB (r : Rul) : List UInt8 := (reqB r.req).data.toList ++ (r.name.data.toList ++ ((kindB r.kind).data.toList ++ (((argsOf r).flatMap fun s => 32 :: quoteL s.data.toList) ++ [10])))
theorem qflat_snoc {l : List ByteArray} {i : Nat} (hi : i < l.length) : ((l.take (i + 1)).flatMap fun s => 32 :: quoteL s.data.toList) = ((l.take i).flatMap fun s => 32 :: quoteL s.data.toList) ++ (32 :: quoteL l[i].data.toList) := by
  rw [List.take_add_one, List.getElem?_eq_getElem hi, List.flatMap_append]
  simp
theorem quoteL_size (s : ByteArray) : (quoteL s.data.toList).length ≤ 2 * s.size + 2 := by
  have := escL_length s.data.toList
  have h2 : s.data.toList.length = s.size := by simp
  unfold quoteL
  simp
  omega
theorem qflat_size (l : List ByteArray) (h : ∀ s ∈ l, s.size ≤ 400) (k : Nat) : ((l.take k).flatMap fun s => 32 :: quoteL s.data.toList).length ≤ k * 1001 := by
  induction k with
  | zero => simp
  | succ k ih =>
    rcases Nat.lt_or_ge k l.length with hk | hk
    · rw [qflat_snoc hk, List.length_append]
      have := h l[k] (List.getElem_mem hk)
      have h2 := quoteL_size l[k]
      rw [List.length_cons, Nat.add_mul, Nat.one_mul]
      exact Nat.add_le_add ih (by omega)
    · rw [List.take_of_length_le (by omega)] at ih ⊢
      rw [Nat.add_mul]
      exact Nat.le_trans ih (Nat.le_add_right _ _)
/-- What a rule is that can be printed. -/
structure Rul.Prt (r : Rul) : Prop where
  kind : 1 ≤ r.kind ∧ r.kind ≤ 4
  name : 0 < r.name.size ∧ r.name.size ≤ 1000
  words : r.words.length ≤ 100 ∧ ∀ s ∈ r.words, s.size ≤ 400
  regex : r.regex.size ≤ 400
set_option maxRecDepth 8192 in
set_option maxHeartbeats 6400000 in
theorem ruleLine_any (B : Nat) (v : Value) (L : List UInt8) (r : Rul) (vw : Value) (P : Nat → Prop) (w : World) (hown : OwnY w B v L) (hB : B ≤ w.heap.size) (hL : L.length ≤ 1000000)
    (hw : StrsAt w P vw r.words) (hP : ∀ k, P k → k < w.heap.size ∧ v.ownBlock ≠ some k) (hr : r.Prt) :
    Calls Tryz.prog 45 #[v, .agg #[.string r.name, .int .i64 r.kind, vw, .string r.regex, .bool r.req]] w (WrPost B v (L ++ ruleB r) w) := by
  obtain ⟨nm, kd, ws, rx, q⟩ := r
  obtain ⟨⟨hk1, hk2⟩, ⟨hn1, hn2⟩, ⟨hw1, hw2⟩, hx⟩ := hr
  simp only at hk1 hk2 hn1 hn2 hw1 hw2 hx hw ⊢
  obtain ⟨A, n, cap, rfl, hn, hcap, -⟩ := hw.form
  obtain ⟨w1, hw1'⟩ : ∃ w1, w.alloc (.cells #[.string nm, .int .i64 kd, .slice A n cap, .string rx, .bool q] 34) = w1 := ⟨_, rfl⟩
  have hG : Hid (w1.heap[w.heap.size]? = some (.cells #[.string nm, .int .i64 kd, .slice A n cap, .string rx, .bool q] 34)) := Lib.hid (by rw [← hw1']; exact blk_new _ _)
  have hB1 : Hid (Below B w w1) := Lib.hid (by rw [← hw1']; exact (Below.refl _ _).alloc hB _)
  have hK1 : Hid (KeepB v w v w1) := Lib.hid (by rw [← hw1']; exact KeepB.alloc v w _)
  have hO1 : Hid (OwnY w1 B v L) := Lib.hid (by rw [← hw1']; exact hown.alloc _)
  replace hn := Lib.hid hn
  go_enter Tryz.func45, Tryz.ntmps45
  go_upto_region 1 with fail
  try rw [hw1']
  clear hw1'
  have b4 : w1.cell? ⟨w.heap.size, 4, none⟩ = some (.bool q) := blk_cell hG.out 4
  obtain ⟨wd, hwd⟩ : ∃ wd, reqB q = wd := ⟨_, rfl⟩
  have hwd0 : 0 < wd.size ∧ wd.size ≤ 1000 := by rw [← hwd]; cases q <;> decide
  go_upto_if 10 with fail
  go_cut [5] (fun x wx => x = .string wd ∧ wx = w1)
  case first =>
    cases q with
    | true =>
      obtain rfl : (⟨#[110, 101, 101, 100, 32]⟩ : ByteArray) = wd := hwd
      go_wp2
      go_meet
      exact ⟨rfl, rfl⟩
    | false =>
      obtain rfl : (⟨#[97, 116, 116, 114, 32]⟩ : ByteArray) = wd := hwd
      go_wp2
      go_meet
      exact ⟨rfl, rfl⟩
  case rest =>
  obtain ⟨rfl, e6⟩ := hcut
  obtain rfl := e6.symm
  clear e6
  have hbw1 := Nat.le_trans hB hB1.out.size
  have hwdl : Hid (wd.data.toList.length = wd.size) := Lib.hid (by simp)
  have hnml : Hid (nm.data.toList.length = nm.size) := Lib.hid (by simp)
  clear b4
  go_upto_region 4 with fail
  go_region_held3 (fun W => W.cell? ⟨w.heap.size, 0, none⟩ = some (.string nm)) (first | exact blk_cell hG.out 0 | exact blk_cell (blk_drew hG.out) 0 | exact blk_cell hG5.out 0 | exact blk_cell hG6.out 0)
    (first
      | (refine step_appendS (by rfl) _ _ (by rfl) (by rfl) (hO1.out.drewN 1) hbw1 (by omega) wd (by rfl) hwd0.1 hwd0.2 ?_; intro v5 w5 ho5 hb5 hk5; have hG5 := Lib.hid (KeepB.blk (KeepB.trans (KeepB.of_below v ((Below.refl _ w1).drew)) hk5) hO1.out hG.out (by decide)); have hB5 : Hid (Below B w w5) := Lib.hid (hB1.out.drew.trans hb5); have hK5 : Hid (KeepB v w v5 w5) := Lib.hid ((hK1.out.trans (KeepB.of_below v ((Below.refl _ w1).drew))).trans hk5); have hbw5 := Nat.le_trans hB hB5.out.size; replace ho5 := Lib.hid ho5; clear hb5 hk5)
      | (refine step_appendS (by rfl) _ _ (by rfl) (by rfl) ho5.out hbw5 (by rw [List.length_append, hwdl.out]; omega) nm (by rfl) hn1 hn2 ?_; intro v6 w6 ho6 hb6 hk6; have hG6 := Lib.hid (KeepB.blk hk6 ho5.out hG5.out (by decide)); have hB6 : Hid (Below B w w6) := Lib.hid (hB5.out.trans hb6); have hK6 : Hid (KeepB v w v6 w6) := Lib.hid (hK5.out.trans hk6); have hbw6 := Nat.le_trans hB hB6.out.size; replace ho6 := Lib.hid ho6; clear hb6 hk6))
  have c1 : w6.cell? ⟨w.heap.size, 1, none⟩ = some (.int .i64 kd) := blk_cell hG6.out 1
  have c2 : w6.cell? ⟨w.heap.size, 2, none⟩ = some (.slice A n cap) := blk_cell hG6.out 2
  have c3 : w6.cell? ⟨w.heap.size, 3, none⟩ = some (.string rx) := blk_cell hG6.out 3
  obtain ⟨M, hM⟩ : ∃ M, L ++ wd.data.toList ++ nm.data.toList = M := ⟨_, rfl⟩
  have hMl : M.length ≤ 1010000 := by rw [← hM, List.length_append, List.length_append, hwdl.out, hnml.out]; omega
  rw [hM] at ho6
  replace hM := Lib.hid hM
  have hws6 : Hid (StrsAt w6 (fun k => k < w6.heap.size ∧ v6.ownBlock ≠ some k) (.slice A n cap) ws) := Lib.hid ((hw.keep hP hK6.out).move (Stays.refl _ _) (fun k hk => ⟨Nat.lt_of_lt_of_le (hP k hk).1 hK6.out.size, fun e => by
    rcases hK6.out.own k e with h | h
    · exact (hP k hk).2 h
    · have := (hP k hk).1; omega⟩))
  obtain ⟨args, hargs⟩ : ∃ args, argsOf ⟨nm, kd, ws, rx, q⟩ = args := ⟨_, rfl⟩
  have hal : args.length ≤ 100 ∧ ∀ s ∈ args, s.size ≤ 400 := by
    rw [← hargs]
    unfold argsOf
    split
    · exact ⟨by simp, fun s hs => by rw [List.mem_singleton.1 hs]; exact hx⟩
    · exact ⟨hw1, hw2⟩
  clear hG5 hB5 hK5 hbw5 ho5 hG hB1 hK1 hO1 hbw1 hw hown
  go_upto_block 0 with fail
  go_cut [0, 6] (fun x0 x6 wx => ∃ (A2 : Option Addr) (n2 c2 : Nat), x6 = .slice A2 n2 c2 ∧ Hid (StrsAt wx (fun k => k < wx.heap.size ∧ x0.ownBlock ≠ some k) (.slice A2 n2 c2) args) ∧ Hid (OwnY wx B x0 (M ++ (kindB kd).data.toList)) ∧ Hid (Below B w wx) ∧ Hid (KeepB v w x0 wx))
  case first =>
    have step : Hid (∀ (v7 : Value) (w7 : World), KeepB v6 w6 v7 w7 → Below B w6 w7 → StrsAt w7 (fun k => k < w7.heap.size ∧ v7.ownBlock ≠ some k) (.slice A n cap) ws ∧ Below B w w7 ∧ KeepB v w v7 w7) := Lib.hid (fun v7 w7 hk hb => ⟨(hws6.out.keep (fun k hk => hk) hk).move (Stays.refl _ _) (fun k hk2 => ⟨Nat.lt_of_lt_of_le hk2.1 hk.size, fun e => by
        rcases hk.own k e with h | h
        · exact hk2.2 h
        · have := hk2.1; omega⟩), hB6.out.trans hb, hK6.out.trans hk⟩)
    obtain rfl | rfl | rfl | rfl : kd = 1 ∨ kd = 2 ∨ kd = 3 ∨ kd = 4 := by omega
    · obtain rfl : ws = args := hargs
      go_wp2_with (at_builtin; refine appendStr_any rfl _ _ rfl rfl ho6.out hbw6 (by omega) ⟨#[32, 97, 110, 121]⟩ rfl (by decide) (by decide) ?_; intro v7 w7 ho7 hb7 hk7)
      go_meet
      obtain ⟨h1, h2, h3⟩ := step.out v7 w7 hk7 hb7
      exact ⟨_, _, _, rfl, Lib.hid h1, Lib.hid ho7, Lib.hid h2, Lib.hid h3⟩
    · obtain rfl : ws = args := hargs
      go_wp2_with (at_builtin; refine appendStr_any rfl _ _ rfl rfl ho6.out hbw6 (by omega) ⟨#[32, 101, 110, 117, 109]⟩ rfl (by decide) (by decide) ?_; intro v7 w7 ho7 hb7 hk7)
      go_meet
      obtain ⟨h1, h2, h3⟩ := step.out v7 w7 hk7 hb7
      exact ⟨_, _, _, rfl, Lib.hid h1, Lib.hid ho7, Lib.hid h2, Lib.hid h3⟩
    · obtain rfl : ws = args := hargs
      go_wp2_with (at_builtin; refine appendStr_any rfl _ _ rfl rfl ho6.out hbw6 (by omega) ⟨#[32, 115, 99, 104, 101, 109, 101]⟩ rfl (by decide) (by decide) ?_; intro v7 w7 ho7 hb7 hk7)
      go_meet
      obtain ⟨h1, h2, h3⟩ := step.out v7 w7 hk7 hb7
      exact ⟨_, _, _, rfl, Lib.hid h1, Lib.hid ho7, Lib.hid h2, Lib.hid h3⟩
    · obtain rfl : [rx] = args := hargs
      go_wp2_with (at_builtin; refine appendStr_any rfl _ _ rfl rfl ho6.out hbw6 (by omega) ⟨#[32, 109, 97, 116, 99, 104]⟩ rfl (by decide) (by decide) ?_; intro v7 w7 ho7 hb7 hk7; have hG7 := Lib.hid (KeepB.blk hk7 ho6.out hG6.out (by decide)); have d3 : w7.cell? ⟨w.heap.size, 3, none⟩ = some (.string rx) := blk_cell hG7.out 3; replace ho7 := Lib.hid ho7; replace hb7 := Lib.hid hb7; replace hk7 := Lib.hid hk7)
      go_meet
      obtain ⟨h1, h2, h3⟩ := step.out v7 w7 hk7.out hb7.out
      refine ⟨_, _, _, rfl, Lib.hid ⟨some ⟨w7.heap.size, 0, none⟩, 1, rfl, Nat.le_refl _, fun j hj => ⟨w7.heap.size, 0, rfl, ⟨by simp, fun e => ?_⟩, fun i hi => ?_⟩⟩, Lib.hid (ho7.out.alloc _), Lib.hid (h2.alloc (Nat.le_trans hB h2.size) _), Lib.hid (h3.trans (KeepB.alloc _ _ _))⟩
      · obtain ⟨A9, c9, rfl, ho9⟩ := ho7.out
        have := (ho9.lt _ e).2
        omega
      · obtain rfl : j = 0 := by simpa [sCells] using hj
        obtain rfl : i = 0 := by omega
        rw [blk_cell (blk_new _ _)]
        rfl
  case rest =>
  obtain ⟨A2, n2, c2', rfl, hst, hO, hBc, hKc⟩ := hcut
  obtain ⟨w7, hw7⟩ : ∃ w7 : World, w7 = wc := ⟨_, rfl⟩
  obtain ⟨v7, hv7⟩ : ∃ v7, v7 = u0 := ⟨_, rfl⟩
  rw [← hw7, ← hv7] at hst hO hKc
  rw [← hw7] at hBc
  rw [← hw7, ← hv7]
  clear hw7 hv7 c1 c2 c3 hG6 hws6 ho6 hB6 hK6 hbw6
  clear wc
  have hkl : (kindB kd).data.toList.length ≤ 8 := by
    unfold kindB
    split
    · decide
    · split
      · decide
      · split <;> decide
  obtain ⟨K0, hK0⟩ : ∃ K0, M ++ (kindB kd).data.toList = K0 := ⟨_, rfl⟩
  have hK0l : K0.length ≤ 1010008 := by rw [← hK0, List.length_append]; omega
  rw [hK0] at hO
  replace hK0 := Lib.hid hK0
  have hn2' : Hid (n2 = args.length) := Lib.hid (by
    obtain ⟨_, _, _, e, h, _⟩ := hst.out.form
    simp only [Value.slice.injEq] at e
    rw [e.2.1, h])
  have hn100 : n2 ≤ 100 := by have := hn2'.out; omega
  have hal2 : Hid (∀ s ∈ args, s.size ≤ 400) := Lib.hid hal.2
  clear hal
  go_wp2
  go_loopw [0, 45] (fun x0 x45 wr => ∃ i : Nat, x45 = .int .i64 i ∧ i ≤ n2 ∧ Hid (OwnY wr B x0 (K0 ++ (args.take i).flatMap fun s => 32 :: quoteL s.data.toList)) ∧ Hid (Below B w wr) ∧ Hid (KeepB v7 w7 x0 wr)) (fun _ x45 _ => n2 - (intOf x45).toNat)
  case atStart => exact ⟨0, rfl, Nat.zero_le _, by simpa using hO, hBc, Lib.hid (KeepB.refl _ _)⟩
  case round =>
    obtain ⟨i, rfl, hi, hOr, hBr, hKr⟩ := hrel
    have hbw := Nat.le_trans hB hBr.out.size
    have hflen := qflat_size args hal2.out i
    obtain ⟨N, hN⟩ : ∃ N, (K0 ++ (args.take i).flatMap fun s => 32 :: quoteL s.data.toList) = N := ⟨_, rfl⟩
    have hNl : N.length ≤ 1210000 := by rw [← hN, List.length_append]; omega
    rw [hN] at hOr
    replace hN := Lib.hid hN
    replace hflen := Lib.hid hflen
    obtain ⟨vr, hvr⟩ : ∃ vr, vr = u0 := ⟨_, rfl⟩
    rw [← hvr] at hOr hKr ⊢
    clear hvr
    by_cases hlt : i < n2
    · have hil : i < args.length := by rw [← hn2'.out]; exact hlt
      obtain ⟨A', n', cap', e', -, -, hat⟩ := (hst.out.keep (fun k hk => hk) hKr.out).form
      simp only [Value.slice.injEq] at e'
      obtain ⟨rfl, rfl, rfl⟩ := e'
      obtain ⟨b, o, rfl, _, hcell⟩ := hat (by omega)
      have c0 := hcell i hil
      obtain ⟨s, hs⟩ : ∃ s, args[i] = s := ⟨_, rfl⟩
      rw [hs] at c0
      have hs1 := hal2.out s (by rw [← hs]; exact List.getElem_mem hil)
      have hqs := quoteL_size s
      have hq := fun wx => quote_any s (by omega) wx
      obtain ⟨t, ht⟩ : ∃ t, tx (quoteL s.data.toList) = t := ⟨_, rfl⟩
      have ht1 : 0 < t.size ∧ t.size ≤ 1000 := by
        rw [← ht, tx_size]
        exact ⟨by simp [quoteL], by omega⟩
      have htd : Hid (t.data.toList = quoteL s.data.toList) := Lib.hid (by rw [← ht]; rfl)
      unfold TextPost at hq
      rw [ht] at hq
      have hnext : Hid (K0 ++ ((args.take (i + 1)).flatMap fun s => 32 :: quoteL s.data.toList) = N ++ [32] ++ t.data.toList) := Lib.hid (by
        rw [qflat_snoc hil, hs, ← hN.out, htd.out]
        simp)
      have i0 : (0 : Int) ≤ (i : Int) := by omega
      have i1 : (i : Int) < (n2 : Int) := by omega
      have hN2 : (N ++ [32]).length ≤ 2000000 := by simp; omega
      replace hqs := Lib.hid hqs
      clear hcell hat hs ht
      go_upto_region 19 with fail
      go_wp2_with (first
        | (at_builtin; refine appendByte_any hOr.out hbw (by omega) 32 rfl _ _ rfl rfl rfl rfl rfl ?_; intro v5 w5 ho5 hb5 hk5; have hbw5 := Nat.le_trans hbw hb5.size; replace ho5 := Lib.hid ho5; replace hb5 := Lib.hid hb5; replace hk5 := Lib.hid hk5)
        | (go_at_call 22; refine (hq _).mono ?_; rintro e8 w8 ⟨rfl, hb8⟩; have ho8 := Lib.hid (ho5.out.below hb8); have hbw8 := Nat.le_trans hbw5 hb8.size; have hk8 := Lib.hid (KeepB.of_below v5 hb8); replace hb8 := Lib.hid (hb8.mono hbw5))
        | (at_builtin; refine appendStr_any rfl _ _ rfl rfl ho8.out hbw8 hN2 t rfl ht1.1 ht1.2 ?_; intro v6 w6 ho6 hb6 hk6))
      exact ⟨⟨i + 1, by simp, by omega, Lib.hid (by rw [hnext.out]; exact ho6), Lib.hid (((hBr.out.trans hb5.out).trans hb8.out).trans hb6), Lib.hid (((hKr.out.trans hk5.out).trans hk8.out).trans hk6)⟩, by simp [intOf]; omega⟩
    · have i1 : ¬ (i : Int) < (n2 : Int) := by omega
      have hfin : Hid (L ++ ruleB ⟨nm, kd, ws, rx, q⟩ = N ++ [10]) := Lib.hid (by
        rw [← hN.out, List.take_of_length_le (by rw [← hn2'.out]; omega), ← hK0.out, ← hM.out]
        unfold ruleB
        rw [hargs, hwd]
        simp)
      replace hargs := Lib.hid hargs
      replace hwd := Lib.hid hwd
      go_wp2_with (at_builtin; refine appendByte_any hOr.out hbw (by omega) 10 rfl _ _ rfl rfl rfl rfl rfl ?_; intro v5 w5 ho5 hb5 hk5)
      go_ret
      exact ⟨_, rfl, by rw [hfin.out]; exact ho5, hBr.out.trans hb5, (hKc.out.trans hKr.out).trans hk5⟩
end Go.Proofs.YtghlodpbbghcoaaGreatDoor

/- A policy's text printed: walked. -/
namespace Go.Proofs.YtghlodpbbghcoaaGreatDoor
open Go.RowKit
def eltB (e : Elt) : List UInt8 := lineB ⟨#[101, 108, 101, 109, 101, 110, 116]⟩ [e.name] ++ (lineB ⟨#[107, 105, 100, 115]⟩ e.kids ++ e.rules.flatMap ruleB)
/-- A policy's text. -/
def printB (p : Pol) : List UInt8 := [115, 116, 114, 97, 105, 110, 101, 114, 32, 49, 10] ++ (lineB ⟨#[116, 111, 112]⟩ p.top ++ (lineB ⟨#[117, 110, 119, 114, 97, 112]⟩ p.unwrap ++ p.elts.flatMap eltB))
/-- Texts that can be printed. -/
def TxPrt (l : List ByteArray) : Prop := l.length ≤ 20 ∧ ∀ s ∈ l, 0 < s.size ∧ s.size ≤ 50
/-- A rule that can be printed, small. -/
structure Rul.Sml (r : Rul) : Prop where
  kind : 1 ≤ r.kind ∧ r.kind ≤ 4
  name : 0 < r.name.size ∧ r.name.size ≤ 50
  words : r.words.length ≤ 10 ∧ ∀ s ∈ r.words, s.size ≤ 50
  regex : r.regex.size ≤ 50
structure Elt.Sml (e : Elt) : Prop where
  name : 0 < e.name.size ∧ e.name.size ≤ 50
  kids : TxPrt e.kids
  rules : e.rules.length ≤ 4 ∧ ∀ r ∈ e.rules, r.Sml
structure Pol.Sml (p : Pol) : Prop where
  top : TxPrt p.top
  unwrap : TxPrt p.unwrap
  elts : p.elts.length ≤ 6 ∧ ∀ e ∈ p.elts, e.Sml
theorem Rul.Sml.prt {r : Rul} (h : r.Sml) : r.Prt := ⟨h.kind, ⟨h.name.1, by have := h.name.2; omega⟩, ⟨by have := h.words.1; omega, fun s hs => by have := h.words.2 s hs; omega⟩, by have := h.regex; omega⟩
theorem szL (s : ByteArray) : s.data.toList.length = s.size := by simp
theorem flatMap_len {α : Type} (f : α → List UInt8) (m : Nat) : ∀ l : List α, (∀ x ∈ l, (f x).length ≤ m) → (l.flatMap f).length ≤ l.length * m
  | [], _ => by simp
  | x :: l, h => by
    rw [List.flatMap_cons, List.length_append, List.length_cons, Nat.add_mul, Nat.one_mul, Nat.add_comm]
    exact Nat.add_le_add (flatMap_len f m l (fun y hy => h y (List.mem_cons_of_mem _ hy))) (h x List.mem_cons_self)
theorem lineB_len {word : ByteArray} {l : List ByteArray} (hw : word.size ≤ 10) (h : TxPrt l) : (lineB word l).length ≤ 1100 := by
  unfold lineB
  have h1 := flatMap_len (fun s : ByteArray => 32 :: s.data.toList) 51 l (fun s hs => by
    have := (h.2 s hs).2
    rw [List.length_cons, szL]
    omega)
  have h2 := h.1
  rw [List.length_append, List.length_append, szL, List.length_singleton]
  have h3 : l.length * 51 ≤ 20 * 51 := Nat.mul_le_mul_right _ h2
  omega
theorem ruleB_len {r : Rul} (h : r.Sml) : (ruleB r).length ≤ 1200 := by
  unfold ruleB
  have h0 : (reqB r.req).data.toList.length ≤ 5 := by cases r.req <;> decide
  have hk : (kindB r.kind).data.toList.length ≤ 8 := by
    unfold kindB
    split
    · decide
    · split
      · decide
      · split <;> decide
  have ha : (argsOf r).length ≤ 10 ∧ ∀ s ∈ argsOf r, s.size ≤ 50 := by
    unfold argsOf
    split
    · exact ⟨by simp, fun s hs => by rw [List.mem_singleton.1 hs]; exact h.regex⟩
    · exact h.words
  have h1 := flatMap_len (fun s : ByteArray => 32 :: quoteL s.data.toList) 103 (argsOf r) (fun s hs => by
    have h2 := ha.2 s hs
    have h3 := quoteL_size s
    rw [List.length_cons]
    omega)
  have h4 : (argsOf r).length * 103 ≤ 10 * 103 := Nat.mul_le_mul_right _ ha.1
  have h5 := h.name.2
  have h6 := szL r.name
  rw [List.length_append, List.length_append, List.length_append, List.length_append, List.length_singleton]
  omega
theorem one_txPrt {s : ByteArray} (h : 0 < s.size ∧ s.size ≤ 50) : TxPrt [s] := ⟨by simp, fun t ht => by rw [List.mem_singleton.1 ht]; exact h⟩
theorem eltB_len {e : Elt} (h : e.Sml) : (eltB e).length ≤ 7100 := by
  unfold eltB
  have h1 := lineB_len (word := ⟨#[101, 108, 101, 109, 101, 110, 116]⟩) (by decide) (one_txPrt h.name)
  have h2 := lineB_len (word := ⟨#[107, 105, 100, 115]⟩) (by decide) h.kids
  have h3 := flatMap_len ruleB 1200 e.rules (fun r hr => ruleB_len (h.rules.2 r hr))
  have h4 : e.rules.length * 1200 ≤ 4 * 1200 := Nat.mul_le_mul_right _ h.rules.1
  rw [List.length_append, List.length_append]
  omega
theorem flat_take_snoc {α : Type} (f : α → List UInt8) {l : List α} {i : Nat} (hi : i < l.length) : (l.take (i + 1)).flatMap f = (l.take i).flatMap f ++ f l[i] := by
  rw [List.take_add_one, List.getElem?_eq_getElem hi, List.flatMap_append]
  simp
theorem flat_take_len {α : Type} (f : α → List UInt8) (m : Nat) {l : List α} (h : ∀ x ∈ l, (f x).length ≤ m) (k : Nat) : ((l.take k).flatMap f).length ≤ l.length * m := by
  have h1 := flatMap_len f m (l.take k) (fun x hx => h x (List.mem_of_mem_take hx))
  exact Nat.le_trans h1 (Nat.mul_le_mul_right _ (by rw [List.length_take]; omega))
def PrintPost (p : Pol) (w : World) (e : Ending) (w' : World) : Prop := e = .returned (.tuple #[.string (tx (printB p)), .int .i64 0]) ∧ Below w.heap.size w w'
/-- A line printed of texts that the caller owns no cell of. -/
theorem OwnY.ge {w : World} {B : Nat} {v : Value} {L : List UInt8} (h : OwnY w B v L) {k : Nat} (hk : v.ownBlock = some k) : B ≤ k ∧ k < w.heap.size := by
  obtain ⟨A, c, rfl, ho⟩ := h
  exact ho.lt k hk
set_option maxRecDepth 8192 in
set_option maxHeartbeats 6400000 in
theorem print_any (mt : ByteArray → Bool) (vt ve vu : Value) (p : Pol) (P : Nat → Prop) (w : World) (hP : ∀ k, P k → k < w.heap.size) (h : PolAt w P vt ve vu p) (hf : p.Fit) (hs : p.Sml) (hmay : mayP mt p = true)
    (hmt : ∀ e ∈ p.elts, ∀ r ∈ e.rules, r.kind = 4 → ∀ W', Below w.heap.size w W' → Calls Tryz.prog 109 #[.string r.regex] W' (IsB (mt r.regex) W')) :
    Calls Tryz.prog 25 #[.agg #[vt, ve, vu]] w (PrintPost p w) := by
  obtain ⟨At, nt, ct, rfl, -, -, -⟩ := h.top.form
  obtain ⟨Ae, ne, ce, rfl, hne, hce, -⟩ := h.elts.form
  obtain ⟨Au, nu, cu, rfl, -, -, -⟩ := h.unwrap.form
  obtain ⟨w1, hw1⟩ : ∃ w1, w.alloc (.cells #[.slice At nt ct, .slice Ae ne ce, .slice Au nu cu] 25) = w1 := ⟨_, rfl⟩
  have hB1 : Hid (Below w.heap.size w w1) := Lib.hid (by rw [← hw1]; exact (Below.refl _ _).alloc (Nat.le_refl _) _)
  have hG1 : Hid (w1.heap[w.heap.size]? = some (.cells #[.slice At nt ct, .slice Ae ne ce, .slice Au nu cu] 25)) := Lib.hid (by rw [← hw1]; exact blk_new _ _)
  have hmayc := polMay_any mt (.slice At nt ct) (.slice Ae ne ce) (.slice Au nu cu) p P w1 (fun k hk => Nat.lt_of_lt_of_le (hP k hk) hB1.out.size) (h.move (Stays.below hB1.out hP) (fun _ h => h)) hf (fun e he r hr hk W' hb => hmt e he r hr hk W' (hB1.out.trans (hb.mono hB1.out.size)))
  rw [hmay] at hmayc
  have b0 := blk_cell hG1.out 0
  have b1 := blk_cell hG1.out 1
  have b2 := blk_cell hG1.out 2
  clear hmay hmt hf
  replace h := Lib.hid h
  replace hs := Lib.hid hs
  replace hP := Lib.hid hP
  replace hne := Lib.hid hne
  go_enter Tryz.func25, Tryz.ntmps25
  go_upto_region 3 with (go_at_call 36; refine hmayc.mono ?_; rintro e2 w2 ⟨ev, rfl, hev, hB2⟩; obtain rfl : ev = 0 := of_decide_eq_true hev; clear hev)
  have hG2 : Hid (w2.heap[w.heap.size]? = some (.cells #[.slice At nt ct, .slice Ae ne ce, .slice Au nu cu] 25)) := Lib.hid (blk_below hG1.out hB2 (blk_lt hG1.out))
  have hBw2 : Hid (Below w.heap.size w w2) := Lib.hid (hB1.out.trans (hB2.mono hB1.out.size))
  clear b0 b1 b2 hw1 hmayc hG1 hB1 hB2
  clear w1
  have b0 := blk_cell hG2.out 0
  obtain ⟨C, hC⟩ : ∃ C : Array Value, C = #[.int .u8 115, .int .u8 116, .int .u8 114, .int .u8 97, .int .u8 105, .int .u8 110, .int .u8 101, .int .u8 114, .int .u8 32, .int .u8 49, .int .u8 10] := ⟨_, rfl⟩
  have hconv := Lib.run_convert_bytes_const (P := Tryz.prog) w2 74 5 C 11 11 Tryz.underlying74 Tryz.underlying5
  have hCs : C.size = 11 := by rw [hC]; rfl
  rw [hCs] at hconv
  obtain ⟨w3, hw3⟩ : ∃ w3, w2.alloc (.cells C 5 (11, 11 + 1)) = w3 := ⟨_, rfl⟩
  have hO3 : Hid (CanApp w3 w.heap.size (.slice (some ⟨w2.heap.size, 0, none⟩) 11 11) [115, 116, 114, 97, 105, 110, 101, 114, 32, 49, 10]) := Lib.hid (by
    have hz : w3.heap.size = w2.heap.size + 1 := by rw [← hw3]; simp
    refine canApp_full (L := [115, 116, 114, 97, 105, 110, 101, 114, 32, 49, 10]) (by have := hBw2.out.size; omega) (by decide) (fun j u hj => ?_)
    have hadd : (⟨w2.heap.size, 0, none⟩ : Addr).add j = ⟨w2.heap.size, j, none⟩ := by unfold Addr.add; split <;> simp_all
    rw [hadd, ← hw3, World.cell?_alloc_mark, hC]
    rw [← hj, ← Array.getElem?_toList]
    rfl)
  have hBw3 : Hid (Below w.heap.size w w3) := Lib.hid (by rw [← hw3]; exact hBw2.out.alloc hBw2.out.size _)
  have hG3 : Hid (w3.heap[w.heap.size]? = some (.cells #[.slice At nt ct, .slice Ae ne ce, .slice Au nu cu] 25)) := Lib.hid (by rw [← hw3]; exact blk_alloc hG2.out _)
  have hlt2 : Hid (w.heap.size < w2.heap.size) := Lib.hid (blk_lt hG2.out)
  rw [hw3] at hconv
  rw [hC] at hconv
  clear hw3 hC hCs
  have c0 := blk_cell hG3.out 0
  have hbs3 := hBw3.out.size
  -- a line of texts of the policy's own
  have hline : Hid (∀ (v : Value) (L : List UInt8) (wx : World) (word : ByteArray) (vx : Value) (l : List ByteArray), OwnY wx w.heap.size v L → Below w.heap.size w wx → L.length ≤ 1000000 → 0 < word.size → word.size ≤ 10 → StrsAt w P vx l → TxPrt l →
      Calls Tryz.prog 44 #[v, .string word, vx] wx (WrPost w.heap.size v (L ++ lineB word l) wx)) := Lib.hid (fun v L wx word vx l ho hb hL h0 h1 hst ht =>
    plainLine_any w.heap.size v L word vx l P wx (ho.can hb.size (by omega)) hb.size hL h0 (by omega) (hst.move (Stays.below hb hP.out) (fun _ h => h)) (fun k hk => ⟨Nat.lt_of_lt_of_le (hP.out k hk) hb.size, fun e => by have := (ho.ge e).1; have := hP.out k hk; omega⟩) (by have := ht.1; omega) (fun s hs => by have := ht.2 s hs; omega))
  have hln1 := lineB_len (word := ⟨#[116, 111, 112]⟩) (by decide) hs.out.top
  have hln2 := lineB_len (word := ⟨#[117, 110, 119, 114, 97, 112]⟩) (by decide) hs.out.unwrap
  have hc1 := plainLine_any w.heap.size (.slice (some ⟨w2.heap.size, 0, none⟩) 11 11) _ ⟨#[116, 111, 112]⟩ (.slice At nt ct) p.top P w3 hO3.out hBw3.out.size (by decide) (by decide) (by decide) (h.out.top.move (Stays.below hBw3.out hP.out) (fun _ h => h)) (fun k hk => ⟨Nat.lt_of_lt_of_le (hP.out k hk) hBw3.out.size, fun e => by
    have e2 : w2.heap.size = k := by simpa [Value.ownBlock] using e
    have := hP.out k hk
    have := hlt2.out
    omega⟩) (by have := hs.out.top.1; omega) (fun s hs2 => by have := hs.out.top.2 s hs2; omega)
  have hc2 : Hid (∀ v wx, OwnY wx w.heap.size v ([115, 116, 114, 97, 105, 110, 101, 114, 32, 49, 10] ++ lineB ⟨#[116, 111, 112]⟩ p.top) → Below w.heap.size w wx → Calls Tryz.prog 44 #[v, .string ⟨#[117, 110, 119, 114, 97, 112]⟩, .slice Au nu cu] wx (WrPost w.heap.size v ([115, 116, 114, 97, 105, 110, 101, 114, 32, 49, 10] ++ lineB ⟨#[116, 111, 112]⟩ p.top ++ lineB ⟨#[117, 110, 119, 114, 97, 112]⟩ p.unwrap) wx)) := Lib.hid (fun v wx ho hb =>
    hline.out v _ wx ⟨#[117, 110, 119, 114, 97, 112]⟩ (.slice Au nu cu) p.unwrap ho hb (by rw [List.length_append]; simp; omega) (by decide) (by decide) h.out.unwrap hs.out.unwrap)
  go_upto_region 5 with (first
    | (go_at_call_of 44 (Value.string ⟨#[116, 111, 112]⟩); refine hc1.mono ?_; rintro e4 w4 ⟨v4, rfl, ho4, hb4, hk4⟩; have hG4 := Lib.hid ((hk4.block _ (blk_lt hG3.out) (by simp [Value.ownBlock]; have := hlt2.out; omega)).trans hG3.out); have hBw4 := Lib.hid (hBw3.out.trans hb4); have e2 := blk_cell hG4.out 2; have hc3 := hc2.out v4 w4 ho4 hBw4.out; replace ho4 := Lib.hid ho4; clear hb4 hk4)
    | (go_at_call_of 44 (Value.string ⟨#[117, 110, 119, 114, 97, 112]⟩); refine hc3.mono ?_; rintro e5 w5 ⟨v5, rfl, ho5, hb5, hk5⟩; have hG5 := Lib.hid (hk5.blk ho4.out hG4.out (by decide)); have hBw5 := Lib.hid (hBw4.out.trans hb5); replace ho5 := Lib.hid ho5; clear hb5 hk5))
  obtain ⟨H, hH⟩ : ∃ H, [115, 116, 114, 97, 105, 110, 101, 114, 32, 49, 10] ++ lineB ⟨#[116, 111, 112]⟩ p.top ++ lineB ⟨#[117, 110, 119, 114, 97, 112]⟩ p.unwrap = H := ⟨_, rfl⟩
  have hHl : H.length ≤ 2300 := by rw [← hH, List.length_append, List.length_append]; simp; omega
  rw [hH] at ho5
  replace hH := Lib.hid hH
  have x1 := blk_cell hG5.out 1
  clear hc1 hc2 hc3 ho4 hBw4 hG4 e2 c0 hconv hO3 hBw3 hG3 hlt2 hbs3 b0 hG2 hBw2 hln1 hln2
  obtain ⟨w6, hw6⟩ : ∃ w6 : World, w6 = w5 := ⟨_, rfl⟩
  rw [← hw6] at ho5 hBw5 x1 ⊢
  have hst6 : Hid (Below w.heap.size w w6) := hBw5
  clear hw6 hG5 hBw5
  have hne6 : ne ≤ 6 := by have := hs.out.elts.1; have := hne.out; omega
  go_wp2
  go_loopw [4, 24] (fun x4 x24 wr => ∃ i : Nat, x24 = .int .i64 i ∧ i ≤ ne ∧ Hid (OwnY wr w.heap.size x4 (H ++ (p.elts.take i).flatMap eltB)) ∧ Hid (Below w.heap.size w wr)) (fun _ x24 _ => ne - (intOf x24).toNat)
  case atStart => exact ⟨0, rfl, Nat.zero_le _, by simpa using ho5, hst6⟩
  case round =>
    clear ho5 hst6 x1
    obtain ⟨i, rfl, hi, hO, hB⟩ := hrel
    obtain ⟨wo, hwo⟩ : ∃ wo : World, wo = wr := ⟨_, rfl⟩
    obtain ⟨vo, hvo⟩ : ∃ vo, vo = u4 := ⟨_, rfl⟩
    rw [← hwo, ← hvo] at hO ⊢
    rw [← hwo] at hB
    clear hwo hvo
    clear wr
    have hbw := hB.out.size
    have hlen := flat_take_len eltB 7100 (l := p.elts) (fun e he => eltB_len (hs.out.elts.2 e he)) i
    obtain ⟨N, hN⟩ : ∃ N, H ++ (p.elts.take i).flatMap eltB = N := ⟨_, rfl⟩
    have hNl : N.length ≤ 45000 := by
      rw [← hN, List.length_append]
      have h6 := hs.out.elts.1
      have : p.elts.length * 7100 ≤ 6 * 7100 := Nat.mul_le_mul_right _ h6
      omega
    rw [hN] at hO
    replace hN := Lib.hid hN
    replace hlen := Lib.hid hlen
    by_cases hlt : i < ne
    · have hil : i < p.elts.length := by rw [← hne.out]; exact hlt
      obtain ⟨A', n', cap', e', -, -, hat⟩ := h.out.elts.form
      simp only [Value.slice.injEq] at e'
      obtain ⟨rfl, rfl, rfl⟩ := e'
      obtain ⟨b, o, rfl, hPb, hcell⟩ := hat (by omega)
      obtain ⟨vk, vr, c0, c1, c2, hk, hrl⟩ := hcell i hil
      replace c0 := (hB.out.cell (p := ⟨b, _, none⟩) (hP.out b hPb)).trans c0
      replace c1 := (hB.out.cell (p := ⟨b, _, none⟩) (hP.out b hPb)).trans c1
      replace c2 := (hB.out.cell (p := ⟨b, _, none⟩) (hP.out b hPb)).trans c2
      have hsm := hs.out.elts.2 _ (List.getElem_mem hil)
      obtain ⟨x, hx⟩ : ∃ x, p.elts[i] = x := ⟨_, rfl⟩
      rw [hx] at c0 hk hrl hsm
      have hnext : Hid (H ++ (p.elts.take (i + 1)).flatMap eltB = N ++ lineB ⟨#[101, 108, 101, 109, 101, 110, 116]⟩ [x.name] ++ lineB ⟨#[107, 105, 100, 115]⟩ x.kids ++ x.rules.flatMap ruleB) := Lib.hid (by
        rw [flat_take_snoc eltB hil, hx, ← hN.out]
        simp [eltB])
      obtain ⟨Ak, nk, ck, rfl, -, -, -⟩ := hk.form
      obtain ⟨Ar, nr, cr, rfl, hnr, hcr, -⟩ := hrl.form
      obtain ⟨xn, hxn⟩ : ∃ xn, x.name = xn := ⟨_, rfl⟩
      rw [hxn] at c0
      have i0 : (0 : Int) ≤ (i : Int) := by omega
      have i1 : (i : Int) < (ne : Int) := by omega
      have hsn := hsm.name
      have hl1 := lineB_len (word := ⟨#[101, 108, 101, 109, 101, 110, 116]⟩) (by decide) (one_txPrt hsm.name)
      have hl2 := lineB_len (word := ⟨#[107, 105, 100, 115]⟩) (by decide) hsm.kids
      rw [hxn] at hl1 hnext hsn
      have hr4 : nr ≤ 4 := by have := hsm.rules.1; omega
      replace hsm := Lib.hid hsm
      replace hk := Lib.hid hk
      replace hrl := Lib.hid hrl
      replace hnr := Lib.hid hnr
      clear hcell hat hx hxn
      go_upto_region 8 with fail
      obtain ⟨wa, hwa⟩ : ∃ wa, wo.alloc (.cells #[.string xn, .slice Ak nk ck, .slice Ar nr cr] 30) = wa := ⟨_, rfl⟩
      have hBa : Hid (Below w.heap.size w wa) := Lib.hid (by rw [← hwa]; exact hB.out.alloc hbw _)
      have hOa : Hid (OwnY wa w.heap.size vo N) := Lib.hid (by rw [← hwa]; exact hO.out.alloc _)
      have hE : Hid (wa.heap[wo.heap.size]? = some (.cells #[.string xn, .slice Ak nk ck, .slice Ar nr cr] 30)) := Lib.hid (by rw [← hwa]; exact blk_new _ _)
      rw [hwa]
      clear hwa c0 c1 c2 hO hB
      have d0 := blk_cell hE.out 0
      obtain ⟨wb, hwb⟩ : ∃ wb, wa.alloc (.cells #[.string xn] 9) = wb := ⟨_, rfl⟩
      have hBb : Hid (Below w.heap.size w wb) := Lib.hid (by rw [← hwb]; exact hBa.out.alloc hBa.out.size _)
      have hOb : Hid (OwnY wb w.heap.size vo N) := Lib.hid (by rw [← hwb]; exact hOa.out.alloc _)
      have hEb : Hid (wb.heap[wo.heap.size]? = some (.cells #[.string xn, .slice Ak nk ck, .slice Ar nr cr] 30)) := Lib.hid (by rw [← hwb]; exact blk_alloc hE.out _)
      have hcE : Hid (Calls Tryz.prog 44 #[vo, .string ⟨#[101, 108, 101, 109, 101, 110, 116]⟩, .slice (some ⟨wa.heap.size, 0, none⟩) 1 1] wb (WrPost w.heap.size vo (N ++ lineB ⟨#[101, 108, 101, 109, 101, 110, 116]⟩ [xn]) wb)) := Lib.hid (by
        refine plainLine_any w.heap.size vo N _ _ [xn] (fun k => k = wa.heap.size) wb (hOb.out.can hBb.out.size (by omega)) hBb.out.size (by omega) (by decide) (by decide) ⟨some ⟨wa.heap.size, 0, none⟩, 1, rfl, Nat.le_refl _, fun j hj => ⟨wa.heap.size, 0, rfl, rfl, fun i hi => ?_⟩⟩ (fun k hk => ?_) (by simp) (fun s hs => by rw [List.mem_singleton.1 hs]; omega)
        · obtain rfl : j = 0 := by simpa [sCells] using hj
          obtain rfl : i = 0 := by omega
          rw [← hwb, blk_cell (blk_new _ _)]
          rfl
        · subst hk
          exact ⟨by rw [← hwb]; simp, fun e => by have := (hOa.out.ge e).2; omega⟩)
      have hcK : Hid (∀ v wx, OwnY wx w.heap.size v (N ++ lineB ⟨#[101, 108, 101, 109, 101, 110, 116]⟩ [xn]) → Below w.heap.size w wx → Calls Tryz.prog 44 #[v, .string ⟨#[107, 105, 100, 115]⟩, .slice Ak nk ck] wx (WrPost w.heap.size v (N ++ lineB ⟨#[101, 108, 101, 109, 101, 110, 116]⟩ [xn] ++ lineB ⟨#[107, 105, 100, 115]⟩ x.kids) wx)) := Lib.hid (fun v wx ho hb =>
        hline.out v _ wx ⟨#[107, 105, 100, 115]⟩ (.slice Ak nk ck) x.kids ho hb (by rw [List.length_append]; omega) (by decide) (by decide) hk.out hsm.out.kids)
      go_upto_region 11 with (first
        | (go_at_call_of 44 (Value.string ⟨#[101, 108, 101, 109, 101, 110, 116]⟩); refine hcE.out.mono ?_; rintro e3 wc ⟨vc, rfl, hoc, hbc, hkc⟩; have hEc := Lib.hid (hkc.blk hOb.out hEb.out (by decide)); have hBc := Lib.hid (hBb.out.trans hbc); have d1 := blk_cell hEc.out 1; have hc5 := hcK.out vc wc hoc hBc.out; replace hoc := Lib.hid hoc; clear hbc hkc)
        | (go_at_call_of 44 (Value.string ⟨#[107, 105, 100, 115]⟩); refine hc5.mono ?_; rintro e4 wd ⟨vd, rfl, hod, hbd, hkd⟩; have hEd := Lib.hid (hkd.blk hoc.out hEc.out (by decide)); have hBd := Lib.hid (hBc.out.trans hbd); have d2 := blk_cell hEd.out 2; replace hod := Lib.hid hod; clear hbd hkd))
      obtain ⟨LE, hLE⟩ : ∃ LE, N ++ lineB ⟨#[101, 108, 101, 109, 101, 110, 116]⟩ [xn] ++ lineB ⟨#[107, 105, 100, 115]⟩ x.kids = LE := ⟨_, rfl⟩
      have hLEl : LE.length ≤ 48000 := by rw [← hLE, List.length_append, List.length_append]; omega
      rw [hLE] at hod hnext
      clear hcE hcK hc5 hoc hBc hEc hEb hOb hBb hE hOa hBa hEd d0 d1 d2 hLE hl1 hl2
      go_loopw [4, 40] (fun x4 x40 wr => ∃ j : Nat, x40 = .int .i64 j ∧ j ≤ nr ∧ Hid (OwnY wr w.heap.size x4 (LE ++ (x.rules.take j).flatMap ruleB)) ∧ Hid (Below w.heap.size w wr)) (fun _ x40 _ => nr - (intOf x40).toNat)
      case atStart => exact ⟨0, rfl, Nat.zero_le _, by simpa using hod, hBd⟩
      case round =>
        clear hod hBd
        obtain ⟨j, rfl, hj, hOj, hBj⟩ := hrel
        obtain ⟨vj, hvj⟩ : ∃ vj, vj = u4 := ⟨_, rfl⟩
        rw [← hvj] at hOj ⊢
        clear hvj
        have hbwj := hBj.out.size
        have hlenj := flat_take_len ruleB 1200 (l := x.rules) (fun r hr => ruleB_len (hsm.out.rules.2 r hr)) j
        obtain ⟨M, hM⟩ : ∃ M, LE ++ (x.rules.take j).flatMap ruleB = M := ⟨_, rfl⟩
        have hMl : M.length ≤ 53000 := by
          rw [← hM, List.length_append]
          have h6 := hsm.out.rules.1
          have : x.rules.length * 1200 ≤ 4 * 1200 := Nat.mul_le_mul_right _ h6
          omega
        rw [hM] at hOj
        replace hM := Lib.hid hM
        replace hlenj := Lib.hid hlenj
        by_cases hjl : j < nr
        · have hjr : j < x.rules.length := by rw [← hnr.out]; exact hjl
          obtain ⟨A', n', cap', e', -, -, hat⟩ := hrl.out.form
          simp only [Value.slice.injEq] at e'
          obtain ⟨rfl, rfl, rfl⟩ := e'
          obtain ⟨b2, o2, rfl, hPb2, hcell⟩ := hat (by omega)
          obtain ⟨vw, k0, k1, k2, k3, k4, hw⟩ := hcell j hjr
          have hrs := hsm.out.rules.2 _ (List.getElem_mem hjr)
          obtain ⟨r, hr⟩ : ∃ r, x.rules[j] = r := ⟨_, rfl⟩
          rw [hr] at k0 k1 k3 k4 hw hrs
          have hnx : Hid (LE ++ (x.rules.take (j + 1)).flatMap ruleB = M ++ ruleB r) := Lib.hid (by
            rw [flat_take_snoc ruleB hjr, hr, ← hM.out, List.append_assoc])
          replace k0 := (hBj.out.cell (p := ⟨b2, _, none⟩) (hP.out b2 hPb2)).trans k0
          replace k1 := (hBj.out.cell (p := ⟨b2, _, none⟩) (hP.out b2 hPb2)).trans k1
          replace k2 := (hBj.out.cell (p := ⟨b2, _, none⟩) (hP.out b2 hPb2)).trans k2
          replace k3 := (hBj.out.cell (p := ⟨b2, _, none⟩) (hP.out b2 hPb2)).trans k3
          replace k4 := (hBj.out.cell (p := ⟨b2, _, none⟩) (hP.out b2 hPb2)).trans k4
          have hrlc : Hid (∀ wx, OwnY wx w.heap.size vj M → Below w.heap.size w wx → Calls Tryz.prog 45 #[vj, .agg #[.string r.name, .int .i64 r.kind, vw, .string r.regex, .bool r.req]] wx (WrPost w.heap.size vj (M ++ ruleB r) wx)) := Lib.hid (fun wx ho hb =>
            ruleLine_any w.heap.size vj M r vw P wx ho hb.size (by omega) (hw.move (Stays.below hb hP.out) (fun _ h => h)) (fun k hk => ⟨Nat.lt_of_lt_of_le (hP.out k hk) hb.size, fun e => by have := (ho.ge e).1; have := hP.out k hk; omega⟩) hrs.prt)
          obtain ⟨Aw, nw, cw, rfl, -, -, -⟩ := hw.form
          obtain ⟨rn, rk, rw', rx, rq⟩ := r
          simp only at k0 k1 k3 k4 hrlc
          have j0 : (0 : Int) ≤ (j : Int) := by omega
          have j1 : (j : Int) < (nr : Int) := by omega
          clear hcell hat hr hw hrs
          go_upto_region 13 with fail
          obtain ⟨we, hwe⟩ : ∃ we, wr.alloc (.cells #[.string rn, .int .i64 rk, .slice Aw nw cw, .string rx, .bool rq] 34) = we := ⟨_, rfl⟩
          have hBe : Hid (Below w.heap.size w we) := Lib.hid (by rw [← hwe]; exact hBj.out.alloc hbwj _)
          have hOe : Hid (OwnY we w.heap.size vj M) := Lib.hid (by rw [← hwe]; exact hOj.out.alloc _)
          have hEe : Hid (we.heap[wr.heap.size]? = some (.cells #[.string rn, .int .i64 rk, .slice Aw nw cw, .string rx, .bool rq] 34)) := Lib.hid (by rw [← hwe]; exact blk_new _ _)
          rw [hwe]
          clear hwe k0 k1 k2 k3 k4
          have f0 := blk_cell hEe.out 0
          have f1 := blk_cell hEe.out 1
          have f2 := blk_cell hEe.out 2
          have f3 := blk_cell hEe.out 3
          have f4 := blk_cell hEe.out 4
          have hcl := hrlc.out we hOe.out hBe.out
          clear hrlc
          go_wp2_with (go_at_call 45; refine hcl.mono ?_; rintro e6 wf ⟨vf, rfl, hof, hbf, hkf⟩)
          exact ⟨⟨j + 1, by simp, by omega, Lib.hid (by rw [hnx.out]; exact hof), Lib.hid (hBe.out.trans hbf)⟩, by simp [intOf]; omega⟩
        · have j1 : ¬ (j : Int) < (nr : Int) := by omega
          have hM2 : Hid (H ++ (p.elts.take (i + 1)).flatMap eltB = M) := Lib.hid (by rw [hnext.out, ← hM.out, List.take_of_length_le (by rw [← hnr.out]; omega)])
          go_wp2
          exact ⟨⟨i + 1, by simp, by omega, Lib.hid (by rw [hM2.out]; exact hOj.out), hBj⟩, by simp [intOf]; omega⟩
    · have i1 : ¬ (i : Int) < (ne : Int) := by omega
      have hfin : Hid (printB p = N) := Lib.hid (by
        rw [← hN.out, List.take_of_length_le (by rw [← hne.out]; omega), ← hH.out]
        simp [printB])
      obtain ⟨t, ht, hcv⟩ := conv_Y hO.out
      have hcv2 := hcv wo (Below.refl _ _)
      clear hcv
      go_wp2
      go_ret2
      exact ⟨by rw [tx_eq ht, hfin.out]; rfl, hB.out⟩
end Go.Proofs.YtghlodpbbghcoaaGreatDoor
