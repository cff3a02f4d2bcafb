/- Walks over nets, thirteenth part: the least sign of each class. -/
import Derived.Test.YtaefhfldgemcnaaW12
import Derived.Test.YtaefhfldgemcnaaW8
namespace Go.Proofs.Ytaefhfldgemcnaa
open Go.RowKit

theorem info5 : (Try.prog.info? 5).map (fun i => (i.zero, i.size, i.bytes)) = some (some (.int .u8 0), 1, 1) := by kernel_rfl
theorem blk_setCells {g : Nat} {t : TypeId} (vs : List Value) : ∀ (w : World) (o : Nat) (cs : Array Value), w.heap[g]? = some (.cells cs t (0, 0)) → ∃ cs' : Array Value, (w.setCells g o vs).heap[g]? = some (.cells cs' t (0, 0)) ∧ cs'.size = cs.size ∧
    (∀ j, j < o → cs'[j]? = cs[j]?) ∧ (∀ j, j < vs.length → o + j < cs.size → cs'[o + j]? = vs[j]?) := by
  induction vs with
  | nil => intro w o cs h; exact ⟨cs, h, rfl, fun _ _ => rfl, fun j hj => absurd hj (by simp)⟩
  | cons v vs ih =>
    intro w o cs h
    obtain ⟨cs', h1, h2, h3, h4⟩ := ih (w.setCell ⟨g, o, none⟩ v) (o + 1) _ (blk_set_self h o v)
    refine ⟨cs', h1, by simpa using h2, fun j hj => ?_, fun j hj hlt => ?_⟩
    · rw [h3 j (by omega), Array.getElem?_setIfInBounds, if_neg (by omega)]
    · cases j with
      | zero =>
        rw [Nat.add_zero] at hlt ⊢
        rw [h3 o (by omega), Array.getElem?_setIfInBounds, if_pos rfl, if_pos hlt]
        rfl
      | succ j =>
        have := h4 j (by simpa using hj) (by simp; omega)
        rw [show o + (j + 1) = o + 1 + j from by omega]
        simpa using this
theorem blk_setCells_all {w : World} {g : Nat} {t : TypeId} {cs : Array Value} {vs : List Value} (h : w.heap[g]? = some (.cells cs t (0, 0))) (hl : vs.length = cs.size) : (w.setCells g 0 vs).heap[g]? = some (.cells vs.toArray t (0, 0)) := by
  obtain ⟨cs', h1, h2, _, h4⟩ := blk_setCells vs w 0 cs h
  have : cs' = vs.toArray := by
    apply Array.ext_getElem?
    intro j
    by_cases hj : j < vs.length
    · have := h4 j hj (by omega)
      rw [Nat.zero_add] at this
      rw [this, List.getElem?_toArray]
    · rw [Array.getElem?_eq_none (by omega), Array.getElem?_eq_none (by simp; omega)]
  rw [← this]
  exact h1
theorem blk_setCells_other {g b : Nat} {o' : Obj} (hne : g ≠ b) (vs : List Value) : ∀ (w : World) (o : Nat), w.heap[g]? = some o' → (w.setCells b o vs).heap[g]? = some o' := by
  induction vs with
  | nil => intro w o h; exact h
  | cons v vs ih => intro w o h; exact ih _ _ (blk_set h (p := ⟨b, o, none⟩) hne v)
theorem there_ints {w : World} {g : Nat} {t : TypeId} {l : List Int} (h : w.heap[g]? = some (.cells (l.map (Value.int .i64)).toArray t (0, 0))) {n : Nat} (hn : n = l.length) : w.there g 0 n := by
  intro j hj
  rw [Nat.zero_add]
  refine ⟨?_, blk_frozen h j⟩
  rw [blk_cell h j, arr_get (by omega)]
  rfl
theorem ints_one (l : List Int) : (l.map (Value.int .i64)).toArray.all (·.oneCell') = true := by
  refine all_oneCell_toArray ?_
  intro v hv
  simp only [List.mem_map] at hv
  obtain ⟨x, _, rfl⟩ := hv
  rfl

def OwnB (w : World) (base : Nat) (xs : List Int) (v : Value) : Prop :=
  ∃ A c, v = .slice A xs.length c ∧ w.ownsRow base 5 1 (.slice A xs.length c) xs.length (xs.map (Value.int .u8))

set_option maxHeartbeats 3200000 in
theorem signs_any (n : Net) (A : Option Addr) (c : Nat) (w : World) (hm : n.may = true) (hne : n.edges.length ≤ 1000000) (hE : EdgesAt w w.heap.size A n.edges) :
    Calls Try.prog 21 #[.agg #[.int .i64 n.st, .int .i64 n.start, .int .i64 n.fin, .slice A n.edges.length c]] w fun e w' => (∃ v, e = .returned v ∧ OwnB w' w.heap.size (signsL n.edges) v) ∧ Below w.heap.size w w' := by
  have Hm := Lib.hid hm
  have hE1 := hE.alloc (Nat.le_refl _) (.cells #[.int .i64 n.st, .int .i64 n.start, .int .i64 n.fin, .slice A n.edges.length c] 24)
  clear hm
  go_enter Try.func21, Try.ntmps21
  go_wp2_with (go_at_call 14; refine (may_yes n A c _ Hm.out hne (hE1.more (by simp))).mono ?_; rintro e w1 ⟨rfl, hb1⟩; (obtain ⟨q0, q1, q2, q3, hsz⟩ := boxed4 (by simpa using hb1)))
  have hb1' : Below (w.heap.size + 1) (w.alloc (.cells #[.int .i64 n.st, .int .i64 n.start, .int .i64 n.fin, .slice A n.edges.length c] 24)) w1 := by simpa using hb1
  clear hb1 hE1 q0 q1 q2 q3
  go_loopw [4, 16] (fun cnt i wr => ∃ (k : Nat) (cls : List Int × Int), k ≤ n.edges.length ∧ i = .int .i64 k ∧ cnt = .int .i64 cls.2 ∧ Hid (cls = classes (n.edges.take k) classes0) ∧ wr.heap[w1.heap.size]? = some (.cells (cls.1.map (Value.int .i64)).toArray 67 (0, 0)) ∧
    Below (w.heap.size + 1) (w.alloc (.cells #[.int .i64 n.st, .int .i64 n.start, .int .i64 n.fin, .slice A n.edges.length c] 24)) wr) (fun _ i _ => n.edges.length - (intOf i).toNat)
  case atStart =>
    refine ⟨0, classes0, Nat.zero_le _, rfl, rfl, rfl, ?_, hb1'.alloc (by omega) _⟩
    have := blk_new w1 (.cells Try.zeroCells67 67)
    rw [zero67] at this
    rw [zero67]
    exact this
  case round =>
    obtain ⟨k, cls, hk, rfl, rfl, hcl, hblk, hb⟩ := hrel
    obtain ⟨b0, b1, b2, b3, hsz2⟩ := boxed4 hb
    have hcok : ClsOk cls.1 ∧ 0 ≤ cls.2 ∧ cls.2 ≤ 95 := by
      rw [hcl.out]
      exact classes_ok _ _ classes0_ok (by simp [classes0])
    have Hcok := Lib.hid hcok.1
    have hc0 := hcok.2.1
    have hc1 := hcok.2.2
    clear hcok
    have hCl := blk_lt hblk
    by_cases hlt : k < n.edges.length
    · obtain ⟨bb, o, e, rfl, hbb, he, e0, e1, e2, e3⟩ := edge_at hE (unbox hb) hlt
      have hT := Lib.hid (take_snoc he.out)
      have hS := Lib.hid (classes_snoc (n.edges.take k) e classes0)
      by_cases g1 : e.high < e.low
      · have d1 : Edge.none_ ⟨e.frm, e.to, e.low, e.high⟩ = true := decide_eq_true g1
        have Hblk := Lib.hid hblk
        clear hblk g1
        go_wp2_with (go_at_call 43; refine (none_any _ _ _ _ _).mono ?_; rintro e w' ⟨rfl, rfl⟩)
        go_roundw
        case rel =>
          refine ⟨k + 1, cls, by omega, by go_num, rfl, ?_, blk_alloc (blk_alloc Hblk.out _) _, (hb.alloc (by omega) _).alloc (by simp; omega) _⟩
          show _ = _
          have d1' : e.none_ = true := d1
          rw [hT.out, hS.out, ← hcl.out, d1']
          rfl
        case measure => simp [intOf]; omega
      · have d1 : Edge.none_ ⟨e.frm, e.to, e.low, e.high⟩ = false := decide_eq_false g1
        have Hblk := Lib.hid hblk
        clear hblk g1
        by_cases g2 : cls.2 < 95
        · have HC : Hid (∀ wx, Calls Try.prog 48 #[.agg (cls.1.map (Value.int .i64)).toArray, .agg #[.int .i64 e.frm, .int .i64 e.to, .int .u8 e.low, .int .u8 e.high]] wx fun e' w' => e' = .returned (.tuple #[.agg ((split e cls.1).1.map (Value.int .i64)).toArray, .int .i64 (split e cls.1).2]) ∧ Below wx.heap.size wx w') :=
            fun wx => split_any cls.1 e.frm e.to e.low e.high wx Hcok.out
          obtain ⟨sp, hsp⟩ : ∃ sp, sp = split e cls.1 := ⟨_, rfl⟩
          rw [← hsp] at HC
          have Hsp := Lib.hid hsp
          have hsok := split_ok (e := e) Hcok.out
          rw [← hsp] at hsok
          clear hsp
          have Hsz : Hid ((Try.prog.info? 67).map (·.size) = some (cls.1.map (Value.int .i64)).toArray.size) := by
            rw [info67]
            show some 95 = some (cls.1.map (Value.int .i64)).toArray.size
            simp [Hcok.out.len]
          have Hsz2 : Hid ((Try.prog.info? 67).map (·.size) = some (sp.1.map (Value.int .i64)).toArray.size) := by
            rw [info67]
            show some 95 = some (sp.1.map (Value.int .i64)).toArray.size
            simp [hsok.1.len]
          have Hso := Lib.hid hsok.1
          clear hsok
          go_upto_region 9 with (go_at_call 43; refine (none_any _ _ _ _ _).mono ?_; rintro e w' ⟨rfl, rfl⟩)
          have Hlen : Hid ((sp.1.map (Value.int .i64)).toArray.size = cls.1.length) := by
            show _ = _
            rw [Hcok.out.len, List.size_toArray, List.length_map, Hso.out.len]
          go_wp2_with (first | ((with_reducible show wpList _ _ _ (⟨some 28, _, _, _, _, _⟩ :: _) _ _); refine wpList_load_row rfl 67 _ rfl w1.heap.size rfl 67 _ (0, 0) _ (blk_alloc (blk_alloc Hblk.out _) _) Try.underlying67 rfl Hsz.out ?_) | (go_at_call 48; refine (HC.out _).mono ?_; rintro e' w2 ⟨rfl, hb2⟩; have hbk2 := Lib.hid (blk_below (blk_alloc (blk_alloc Hblk.out _) _) hb2 (by simp; omega))) | ((with_reducible show wpList _ _ _ (⟨none, _, _, _, _, _⟩ :: _) _ _); refine wpList_store_mid rfl 67 _ _ rfl w1.heap.size 0 _ rfl rfl (there_ints hbk2.out Hlen.out) Hsz2.out (ints_one _) ?_))
          go_roundw
          case rel =>
            refine ⟨k + 1, sp, by omega, by go_num, rfl, ?_, ?_, below_setCells (by omega) _ _ _ (((hb.alloc (by omega) _).alloc (by simp; omega) _).trans (hb2.mono (by simp; omega)))⟩
            · show _ = _
              have d1' : e.none_ = false := d1
              rw [hT.out, hS.out, ← hcl.out, d1', decide_eq_true g2, Hsp.out]
              rfl
            · refine blk_setCells_all hbk2.out ?_
              rw [List.length_map, Hso.out.len, List.size_toArray, List.length_map, Hcok.out.len]
          case measure => simp [intOf]; omega
        · go_wp2_with (go_at_call 43; refine (none_any _ _ _ _ _).mono ?_; rintro e w' ⟨rfl, rfl⟩)
          go_roundw
          case rel =>
            refine ⟨k + 1, cls, by omega, by go_num, rfl, ?_, blk_alloc (blk_alloc Hblk.out _) _, (hb.alloc (by omega) _).alloc (by simp; omega) _⟩
            show _ = _
            have d1' : e.none_ = false := d1
            rw [hT.out, hS.out, ← hcl.out, d1', decide_eq_false (by omega : ¬ cls.2 < 95)]
            rfl
          case measure => simp [intOf]; omega
    · have hkl : k = n.edges.length := by omega
      subst hkl
      have hcl' := hcl.out
      rw [List.take_length] at hcl'
      have Hcl := Lib.hid hcl'
      have Hblk := Lib.hid hblk
      have Hsz : Hid ((Try.prog.info? 67).map (·.size) = some (cls.1.map (Value.int .i64)).toArray.size) := by
        rw [info67]
        show some 95 = some (cls.1.map (Value.int .i64)).toArray.size
        simp [Hcok.out.len]
      clear hcl' hcl hblk hlt hk b0 b1 b2 b3
      go_upto_region 12 with fail
      go_wp2_with ((with_reducible show wpList _ _ _ (⟨some 34, _, _, _, _, _⟩ :: _) _ _); refine wpList_load_row rfl 67 _ rfl w1.heap.size rfl 67 _ (0, 0) _ Hblk.out Try.underlying67 rfl Hsz.out ?_)
      obtain ⟨wo, rfl⟩ : ∃ wo : World, wo = wr := ⟨_, rfl⟩
      go_loopw [7, 35] (fun v i wi => ∃ (k : Nat) (xs : List Int), i = .int .i64 k ∧ k ≤ 95 ∧ OwnB wi (w.heap.size + 1) xs v ∧ Hid (xs = leastTo cls.1 k) ∧
        Below (w.heap.size + 1) (w.alloc (.cells #[.int .i64 n.st, .int .i64 n.start, .int .i64 n.fin, .slice A n.edges.length c] 24)) wi) (fun _ i _ => 95 - (intOf i).toNat)
      case atStart => exact ⟨0, [], rfl, by omega, ⟨none, 0, rfl, World.ownsRow_nil _ _ _ _⟩, rfl, hb⟩
      case round =>
        clear hb hsz2 Hblk Hsz hCl
        obtain ⟨k, xs, rfl, hk, ⟨A2, c2, rfl, hown⟩, hxs, hb⟩ := hrel
        have hsz3 := boxed_lt hb
        have hxl := leastTo_length cls.1 k
        rw [← hxs.out] at hxl
        by_cases hlt : k < 95
        · have hidx := fun w => run_index_ints (k := k) (k1 := .i64) Try.underlying67 Try.underlying3 size3 (by rw [Hcok.out.len]; exact hlt) Hcok.out.len w
          have hstep : leastTo cls.1 (k + 1) = if cls.1.getD k 0 = xs.length then xs ++ [32 + (k : Int)] else xs := by
            rw [hxs.out]; rfl
          generalize hcv : cls.1.getD k 0 = cv at *
          have Hst := Lib.hid hstep
          clear hstep hcv
          by_cases hc : cv = xs.length
          · have hcb : (cv == (xs.length : Int)) = true := beq_iff_eq.2 hc
            have Hc := Lib.hid hc
            clear hc
            go_wp2_with (at_builtin; refine wpList_append_new info5 Try.underlying32 rfl (by decide) (by decide) _ hown 1 rfl _ _ rfl rfl rfl (by simp) rfl rfl (by omega) ?_ ?_; (omega); intro v' w' hown' hbel hgt hgrow)
            go_roundw
            case rel =>
              refine ⟨k + 1, xs ++ [32 + (k : Int)], by go_num, by omega, ?_, ?_, hb.trans hbel⟩
              · obtain ⟨A3, c3, rfl, h3⟩ := own_form hown'
                exact ⟨A3, c3, by simp, by simpa using h3⟩
              · show _ = _
                rw [Hst.out, if_pos Hc.out]
            case measure => simp [intOf]; omega
          · have hcb : (cv == (xs.length : Int)) = false := beq_eq_false_iff_ne.2 hc
            have Hc := Lib.hid hc
            clear hc
            go_wp2
            go_roundw
            case rel =>
              refine ⟨k + 1, xs, by go_num, by omega, ⟨_, _, rfl, hown⟩, ?_, hb⟩
              show _ = _
              rw [Hst.out, if_neg Hc.out]
            case measure => simp [intOf]; omega
        · have hk95 : k = 95 := by omega
          have hd : decide ((k : Int) < 95) = false := decide_eq_false (by omega)
          have Hk := Lib.hid hk95
          clear hk95 hlt hk
          go_wp2
          go_ret
          have e1 : xs = signsL n.edges := by
            unfold signsL
            rw [← Hcl.out, ← Hk.out, ← hxs.out]
          subst e1
          refine ⟨⟨_, rfl, A2, c2, rfl, hown.1, ?_⟩, unbox hb⟩
          rcases hown.2 with h | ⟨g, cap, cur, h1, h2, h3⟩
          · exact .inl h
          · exact .inr ⟨g, cap, cur, h1, by omega, h3⟩
end Go.Proofs.Ytaefhfldgemcnaa
