/- Walks over nets, twelfth part: the classes of signs, split by an edge. -/
import Derived.Test.YtaefhfldgemcnaaW10
import Derived.Test.YtaefhfldgemcnaaPure2
import Derived.Deep.MidRow
namespace Go.Proofs.Ytaefhfldgemcnaa
open Go.RowKit

theorem info67 : (Try.prog.info? 67).map (·.size) = some 95 := by kernel_rfl
theorem arr_get {l : List Int} {k : Nat} (h : k < l.length) : (l.map (Value.int .i64)).toArray[k]? = some (.int .i64 (l.getD k 0)) := by
  rw [List.getElem?_toArray, List.getElem?_map, List.getElem?_eq_getElem h, List.getD_eq_getElem?_getD, List.getElem?_eq_getElem h]; rfl
theorem arr_set {l : List Int} {k : Nat} {x : Int} : (l.map (Value.int .i64)).toArray.setIfInBounds k (.int .i64 x) = ((l.set k x).map (Value.int .i64)).toArray := by
  rw [List.setIfInBounds_toArray, List.map_set]
/-- An array's value, indexed. -/
theorem run_index_ints {P : Program} {t e n : Nat} {l : List Int} {k : Nat} {k1 : IntKind} (ht : P.underlying t = some (.array n e)) (hu : P.underlying e = some (.int .i64)) (hi : (P.info? e).map (·.size) = some 1) (hk : k < l.length) (hn : l.length = n) (w : World) :
    (Instr.index t (.agg (l.map (Value.int .i64)).toArray) (.int k1 k)).run P w = .ok (.int .i64 (l.getD k 0)) w := by
  cases hq : P.info? e with
  | none => simp [hq] at hi
  | some i =>
    have hs : i.size = 1 := by simpa [hq] using hi
    have hagg : (isAgg e).run P w = .ok false w := by
      unfold isAgg
      rw [Sem.run_bind, run_underlying hu w]
      rfl
    simp [Instr.index, asIntOf, run_underlying ht, part, sizeOf, typeInfo, hq, hs, hagg]
    rw [if_pos (by omega), List.getElem?_eq_getElem hk]
    rfl
theorem size3 : (Try.prog.info? 3).map (·.size) = some 1 := by kernel_rfl
theorem zero110 : Try.zeroCells110 = ((List.replicate 190 (0 : Int)).map (Value.int .i64)).toArray := by kernel_rfl
theorem zero67 : Try.zeroCells67 = ((List.replicate 95 (0 : Int)).map (Value.int .i64)).toArray := by kernel_rfl

theorem below_setCells {B : Nat} {a : World} {b : Nat} (hb : B ≤ b) (vs : List Value) : ∀ (w : World) (o : Nat), Below B a w → Below B a (w.setCells b o vs) := by
  induction vs with
  | nil => intro w o h; exact h
  | cons v vs ih => intro w o h; exact ih _ _ (h.setCell (p := ⟨b, o, none⟩) hb v)

structure SInv (w wr : World) (s : SplitSt) (f t l h : Int) : Prop where
  b0 : wr.heap[w.heap.size]? = some (.cells (s.cl.map (Value.int .i64)).toArray 67 (0, 0))
  b1 : wr.heap[w.heap.size + 1]? = some (.cells #[.int .i64 f, .int .i64 t, .int .u8 l, .int .u8 h] 35 (0, 0))
  b2 : wr.heap[w.heap.size + 1 + 1]? = some (.cells Try.zeroCells67 67 (0, 0))
  b3 : wr.heap[w.heap.size + 1 + 1 + 1]? = some (.cells (s.num.map (Value.int .i64)).toArray 110 (0, 0))
  bel : Below w.heap.size w wr
theorem SInv.alloc {w wr : World} {s : SplitSt} {f t l h : Int} (hi : SInv w wr s f t l h) (o : Obj) : SInv w (wr.alloc o) s f t l h :=
  ⟨blk_alloc hi.b0 o, blk_alloc hi.b1 o, blk_alloc hi.b2 o, blk_alloc hi.b3 o, hi.bel.alloc (by have := blk_lt hi.b0; omega) o⟩
theorem SInv.cl {w wr : World} {s : SplitSt} {f t l h : Int} (hi : SInv w wr s f t l h) (k : Nat) (x : Int) : SInv w (wr.setCell ⟨w.heap.size, k, none⟩ (.int .i64 x)) ⟨s.num, s.cnt, s.cl.set k x⟩ f t l h :=
  ⟨by rw [← arr_set]; exact blk_set_self hi.b0 k _, blk_set hi.b1 (by simp) _, blk_set hi.b2 (by simp; omega) _, blk_set hi.b3 (by simp; omega) _, hi.bel.setCell (Nat.le_refl _) _⟩
theorem SInv.num {w wr : World} {s : SplitSt} {f t l h : Int} (hi : SInv w wr s f t l h) (k : Nat) (x c : Int) : SInv w (wr.setCell ⟨w.heap.size + 1 + 1 + 1, k, none⟩ (.int .i64 x)) ⟨s.num.set k x, c, s.cl⟩ f t l h :=
  ⟨blk_set hi.b0 (by simp; omega) _, blk_set hi.b1 (by simp) _, blk_set hi.b2 (by simp) _, by rw [← arr_set]; exact blk_set_self hi.b3 k _, hi.bel.setCell (by simp; omega) _⟩

set_option maxHeartbeats 1600000 in
theorem split_any (cls : List Int) (f t l h : Int) (w : World) (hc : ClsOk cls) :
    Calls Try.prog 48 #[.agg (cls.map (Value.int .i64)).toArray, .agg #[.int .i64 f, .int .i64 t, .int .u8 l, .int .u8 h]] w fun e w' => e = .returned (.tuple #[.agg ((split ⟨f, t, l, h⟩ cls).1.map (Value.int .i64)).toArray, .int .i64 (split ⟨f, t, l, h⟩ cls).2]) ∧ Below w.heap.size w w' := by
  go_enter Try.func48, Try.ntmps48
  go_upto_region 3 with fail
  generalize hw1 : (((w.alloc (Obj.cells (List.map (Value.int IntKind.i64) cls).toArray 67)).alloc (Obj.cells #[Value.int IntKind.i64 f, Value.int IntKind.i64 t, Value.int IntKind.u8 l, Value.int IntKind.u8 h] 35)).alloc (Obj.cells Try.zeroCells67 67)).alloc (Obj.cells Try.zeroCells110 110) = w1
  have hinv : SInv w w1 (splitTo ⟨f, t, l, h⟩ cls 0) f t l h := by
    subst hw1
    exact ⟨blk_alloc (blk_alloc (blk_alloc (blk_new' (by simp)) _) _) _, blk_alloc (blk_alloc (blk_new' (by simp)) _) _, blk_alloc (blk_new' (by simp)) _, by rw [show (splitTo ⟨f, t, l, h⟩ cls 0).num = List.replicate 190 0 from rfl, ← zero110]; exact blk_new' (by simp), (((Below.refl _ _).alloc (by simp) _).alloc (by simp) _).alloc (by simp; omega) _ |>.alloc (by simp; omega) _⟩
  clear hw1
  have h0 : w1.heap[w.heap.size]? = some (.cells (cls.map (Value.int .i64)).toArray 67 (0, 0)) := hinv.b0
  have Hc := Lib.hid hc
  have H0 := Lib.hid h0
  have Hsz : Hid ((Try.prog.info? 67).map (·.size) = some (cls.map (Value.int .i64)).toArray.size) := by
    rw [info67]
    show some 95 = some (cls.map (Value.int .i64)).toArray.size
    simp [hc.len]
  clear hc h0
  go_wp2_with (refine wpList_load_row rfl 67 _ rfl w.heap.size rfl 67 _ (0, 0) _ H0.out Try.underlying67 rfl Hsz.out ?_)
  go_loopw [7, 12] (fun cnt i wr => ∃ (k : Nat) (s : SplitSt), i = .int .i64 k ∧ k ≤ 95 ∧ cnt = .int .i64 s.cnt ∧ Hid (s = splitTo ⟨f, t, l, h⟩ cls k) ∧ SInv w wr s f t l h) (fun _ i _ => 95 - (intOf i).toNat)
  case atStart => exact ⟨0, _, rfl, by omega, rfl, rfl, hinv⟩
  case round =>
    clear hinv H0 Hsz
    obtain ⟨k, s, rfl, hk, rfl, hs, hinv⟩ := hrel
    by_cases hlt : k < 95
    · have hok := splitTo_ok (e := ⟨f, t, l, h⟩) Hc.out hk
      rw [← hs.out] at hok
      have hc0 := hok.c0
      have hc1 := hok.c1
      have hcr := Hc.out.rng _ (getD_mem (i := k) (by rw [Hc.out.len]; exact hlt))
      have hkr := splitK_range (e := ⟨f, t, l, h⟩) Hc.out hlt
      have hidx := fun w => run_index_ints (k := k) (k1 := .i64) Try.underlying67 Try.underlying3 size3 (by rw [Hc.out.len]; exact hlt) Hc.out.len w
      have hstep : splitTo ⟨f, t, l, h⟩ cls (k + 1) = splitStep ⟨f, t, l, h⟩ cls k s := by rw [hs.out]; rfl
      unfold splitStep at hstep
      generalize hcd : cls.getD k 0 = cv at *
      obtain ⟨cn, rfl⟩ := Int.eq_ofNat_of_zero_le hcr.1
      obtain ⟨kk, hkk⟩ : ∃ kk : Nat, splitK ⟨f, t, l, h⟩ cn k = kk := Int.eq_ofNat_of_zero_le hkr.1
      rw [hkk] at hkr hstep
      rw [Int.toNat_natCast] at hstep
      have Hst := Lib.hid hstep
      have Hkk := Lib.hid hkk
      have hkk2 : kk < s.num.length := by rw [hok.nlen]; omega
      have hnr := hok.n _ (getD_mem hkk2)
      have hb3 : wr.cell? ⟨w.heap.size + 1 + 1 + 1, kk, none⟩ = some (.int .i64 (s.num.getD kk 0)) := (blk_cell hinv.b3 kk).trans (arr_get hkk2)
      have hb0 : wr.cell? ⟨w.heap.size, k, none⟩ = some (.int .i64 (s.cl.getD k 0)) := (blk_cell hinv.b0 k).trans (arr_get (by rw [hok.clen]; exact hlt))
      have hf3 := blk_frozen hinv.b3 kk
      have hf0 := blk_frozen hinv.b0 k
      have e0 : wr.cell? ⟨w.heap.size + 1, 0, none⟩ = some (.int .i64 f) := blk_cell hinv.b1 0
      have e1 : wr.cell? ⟨w.heap.size + 1, 1, none⟩ = some (.int .i64 t) := blk_cell hinv.b1 1
      have e2 : wr.cell? ⟨w.heap.size + 1, 2, none⟩ = some (.int .u8 l) := blk_cell hinv.b1 2
      have e3 : wr.cell? ⟨w.heap.size + 1, 3, none⟩ = some (.int .u8 h) := blk_cell hinv.b1 3
      have hz3 := blk_lt hinv.b3
      have hz0 := blk_lt hinv.b0
      clear hstep hcd
      generalize hv : s.num.getD kk 0 = v at *
      generalize hv0 : s.cl.getD k 0 = v0 at *
      have Hv := Lib.hid hv
      clear hv hv0
      cases htk : Edge.takes ⟨f, t, l, h⟩ (32 + (k : Int)) with
      | true =>
        have hkv : kk = 2 * cn + 1 := by
          have := Hkk.out
          unfold splitK at this
          rw [htk] at this
          simp at this
          omega
        subst hkv
        clear hkk
        by_cases hz : v = 0
        · subst hz
          go_wp2_with (first | (go_at_call 46; refine (takes_any _ _ _ _ _ _).mono ?_; rintro e w' ⟨rfl, rfl⟩))
          go_roundw
          case rel =>
            refine ⟨k + 1, ⟨s.num.set (2 * cn + 1) (s.cnt + 1), s.cnt + 1, s.cl.set k s.cnt⟩, by go_num, by omega, rfl, ?_, ((hinv.num (2 * cn + 1) (s.cnt + 1) (s.cnt + 1)).cl k s.cnt).alloc _⟩
            show _ = _
            rw [Hst.out, if_pos Hv.out]
          case measure => simp [intOf]; omega
        · have hzb : (v == 0) = false := beq_eq_false_iff_ne.2 hz
          go_wp2_with (first | (go_at_call 46; refine (takes_any _ _ _ _ _ _).mono ?_; rintro e w' ⟨rfl, rfl⟩))
          go_roundw
          case rel =>
            refine ⟨k + 1, ⟨s.num, s.cnt, s.cl.set k (v - 1)⟩, by go_num, by omega, rfl, ?_, (hinv.cl k (v - 1)).alloc _⟩
            show _ = _
            rw [Hst.out, if_neg (by rw [Hv.out]; exact hz), Hv.out]
          case measure => simp [intOf]; omega
      | false =>
        have hkv : kk = 2 * cn := by
          have := Hkk.out
          unfold splitK at this
          rw [htk] at this
          simp at this
          omega
        subst hkv
        clear hkk
        by_cases hz : v = 0
        · subst hz
          go_wp2_with (first | (go_at_call 46; refine (takes_any _ _ _ _ _ _).mono ?_; rintro e w' ⟨rfl, rfl⟩))
          go_roundw
          case rel =>
            refine ⟨k + 1, ⟨s.num.set (2 * cn) (s.cnt + 1), s.cnt + 1, s.cl.set k s.cnt⟩, by go_num, by omega, rfl, ?_, ((hinv.num (2 * cn) (s.cnt + 1) (s.cnt + 1)).cl k s.cnt).alloc _⟩
            show _ = _
            rw [Hst.out, if_pos Hv.out]
          case measure => simp [intOf]; omega
        · have hzb : (v == 0) = false := beq_eq_false_iff_ne.2 hz
          go_wp2_with (first | (go_at_call 46; refine (takes_any _ _ _ _ _ _).mono ?_; rintro e w' ⟨rfl, rfl⟩))
          go_roundw
          case rel =>
            refine ⟨k + 1, ⟨s.num, s.cnt, s.cl.set k (v - 1)⟩, by go_num, by omega, rfl, ?_, (hinv.cl k (v - 1)).alloc _⟩
            show _ = _
            rw [Hst.out, if_neg (by rw [Hv.out]; exact hz), Hv.out]
          case measure => simp [intOf]; omega
    · have hk95 : k = 95 := by omega
      have hok := splitTo_ok (e := ⟨f, t, l, h⟩) Hc.out hk
      rw [← hs.out] at hok
      have Hok := Lib.hid hok
      have Hk := Lib.hid hk95
      have Hb0 := Lib.hid hinv.b0
      have Hsz : Hid ((Try.prog.info? 67).map (·.size) = some (s.cl.map (Value.int .i64)).toArray.size) := by
        rw [info67]
        show some 95 = some (s.cl.map (Value.int .i64)).toArray.size
        simp [hok.clen]
      have Hth : Hid (wr.there (w.heap.size + 1 + 1) 0 (s.cl.map (Value.int .i64)).toArray.size) := by
        intro j hj
        have hj2 : j < 95 := by simpa [hok.clen] using hj
        have hz := hinv.b2
        rw [zero67] at hz
        rw [Nat.zero_add]
        refine ⟨?_, blk_frozen hz j⟩
        rw [blk_cell hz j, arr_get (by rw [List.length_replicate]; exact hj2)]
        rfl
      have Hone : Hid ((s.cl.map (Value.int .i64)).toArray.all (·.oneCell') = true) := by
        refine all_oneCell_toArray ?_
        intro v hv
        simp only [List.mem_map] at hv
        obtain ⟨x, _, rfl⟩ := hv
        rfl
      have hd : decide ((k : Int) < 95) = false := decide_eq_false (by omega)
      clear hok hk95 hlt hk
      go_upto_region 14 with fail
      go_wp2_with (first | ((with_reducible show wpList _ _ _ (⟨some 41, _, _, _, _, _⟩ :: _) _ _); refine wpList_load_row rfl 67 _ rfl w.heap.size rfl 67 _ (0, 0) _ Hb0.out Try.underlying67 rfl Hsz.out ?_) | ((with_reducible show wpList _ _ _ (⟨none, _, _, _, _, _⟩ :: _) _ _); refine wpList_store_mid rfl 67 _ _ rfl (w.heap.size + 1 + 1) 0 _ rfl rfl Hth.out Hsz.out Hone.out ?_))
      have hres : (s.cl, s.cnt) = split ⟨f, t, l, h⟩ cls := by
        unfold split
        rw [← Hk.out, ← hs.out]
      have hr1 : s.cl = (split ⟨f, t, l, h⟩ cls).1 := congrArg Prod.fst hres
      have hr2 : s.cnt = (split ⟨f, t, l, h⟩ cls).2 := congrArg Prod.snd hres
      have hthl : wr.there (w.heap.size + 1 + 1) 0 (s.cl.map (Value.int .i64)).length := by
        have := Hth.out
        rwa [List.size_toArray] at this
      have hld := run_loadVar_mid (P := Try.prog) (wr.setCells (w.heap.size + 1 + 1) 0 (s.cl.map (Value.int .i64))) (w.heap.size + 1 + 1) 0 67 (s.cl.map (Value.int .i64)) _ (World.rangeAt_setCells_same _ _ _ _ hthl) Try.underlying67 rfl (by
        have := Hsz.out
        rwa [List.size_toArray] at this)
      refine bodyPost_ret (v := .tuple #[.agg (s.cl.map (Value.int .i64)).toArray, .int .i64 s.cnt]) ?_ rfl ⟨by rw [hr1, hr2], below_setCells (by omega) _ _ _ hinv.bel⟩
      rw [results_cell_tmp rfl]
      simp only [asAddr]
      simp [Sem.run_pure, Result.andThen, hld]
end Go.Proofs.Ytaefhfldgemcnaa
