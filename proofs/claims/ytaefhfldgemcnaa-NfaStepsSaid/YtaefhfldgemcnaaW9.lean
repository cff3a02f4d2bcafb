/- Walks over nets, ninth part: the code's Step. -/
import Derived.Test.YtaefhfldgemcnaaW8
namespace Go.Proofs.Ytaefhfldgemcnaa
open Go.RowKit

theorem hasB_snoc_ne {l : List Int} {x q : Int} (h : q ≠ x) : hasB (l ++ [x]) q = hasB l q := by
  rw [Bool.eq_iff_iff, hasB_iff, hasB_iff]
  simp [h]

set_option maxHeartbeats 3200000 in
theorem step_any (n : Net) (l : List Int) (cc : Int) (A A' : Option Addr) (c c' : Nat) (w : World) (st : Nat) (hst : n.st = st) (hm : n.may = true) (hne : n.edges.length ≤ 1000000) (hn : l.length ≤ 1000000000)
    (hE : EdgesAt w w.heap.size A n.edges) (hl : IntsAt w w.heap.size A' l) :
    Calls Try.prog 26 #[.agg #[.int .i64 n.st, .int .i64 n.start, .int .i64 n.fin, .slice A n.edges.length c], .slice A' l.length c', .int .u8 cc] w fun e w' => (∃ v, e = .returned v ∧ OwnInts w w' (rising n.st (StepP n.edges cc (· ∈ l))) v) ∧ Below w.heap.size w w' := by
  obtain ⟨hm1, hm2, _, _, hes⟩ := may_iff.1 hm
  have Hes := Lib.hid hes
  have Hm := Lib.hid hm
  have Hst := Lib.hid hst
  rw [hst] at hm1 hm2
  clear hes hm
  have hmk := run_make_row' (P := Try.prog) 51 4 (.bool false) 1 Try.underlying51 info4 rfl .i64 .i64 st (by omega) (by omega)
  have hcall : ∀ w1 : World, EdgesAt w1 w1.heap.size A n.edges → Calls Try.prog 14 #[.agg #[.int .i64 st, .int .i64 n.start, .int .i64 n.fin, .slice A n.edges.length c]] w1 fun e w' => e = .returned (.int .i64 0) ∧ Below w1.heap.size w1 w' := by
    intro w1 h1
    have := may_yes n A c w1 Hm.out hne h1
    rwa [hst] at this
  have Hcall := Lib.hid hcall
  rw [hst]
  clear hcall hst
  have hE1 := hE.alloc (Nat.le_refl _) (.cells #[.int .i64 st, .int .i64 n.start, .int .i64 n.fin, .slice A n.edges.length c] 24)
  go_enter Try.func26, Try.ntmps26
  go_wp2_with (go_at_call 14; refine (Hcall.out _ (hE1.more (by simp))).mono ?_; rintro e w1 ⟨rfl, hb1⟩; (obtain ⟨q0, q1, q2, q3, hsz⟩ := boxed4 (by simpa using hb1)))
  clear hE1
  have hb1' : Below (w.heap.size + 1) (w.alloc (.cells #[.int .i64 st, .int .i64 n.start, .int .i64 n.fin, .slice A n.edges.length c] 24)) w1 := by simpa using hb1
  clear hb1
  go_loopw [21] (fun i wr => ∃ (k : Nat), k ≤ l.length ∧ i = .int .i64 k ∧ wr.rowIs w1.heap.size 4 st (fun q => .bool (hasB (l.take k) (q : Int))) ∧
    Below (w.heap.size + 1) (w.alloc (.cells #[.int .i64 st, .int .i64 n.start, .int .i64 n.fin, .slice A n.edges.length c] 24)) wr) (fun i _ => l.length - (intOf i).toNat)
  case atStart =>
    exact ⟨0, Nat.zero_le _, rfl, World.rowIs.congr (rowIs_made' rfl) (fun _ _ => by simp [hasB]), hb1'.alloc (by omega) _⟩
  case round =>
    obtain ⟨k, hk, rfl, hrow, hb⟩ := hrel
    obtain ⟨b0, b1, b2, b3, hsz2⟩ := boxed4 hb
    have hIl := hrow.lt
    by_cases hlt : k < l.length
    · obtain ⟨b4, o4, q, rfl, _, hq, hcell⟩ := int_at hl (unbox hb) hlt
      have hT := Lib.hid (take_snoc hq.out)
      cases hi : isSt (st : Int) q with
      | false =>
        go_wp2_with (go_at_call 40; refine (isState_any _ _ _ _ _ _).mono ?_; rintro e w' ⟨rfl, rfl⟩)
        go_roundw
        case rel =>
          refine ⟨k + 1, by omega, by go_num, ?_, hb.alloc (by omega) _⟩
          refine World.rowIs.congr (hrow.alloc _) (fun j hj => ?_)
          rw [hT.out, hasB_snoc_ne]
          rintro rfl
          rw [isSt_iff.2 (by omega)] at hi
          cases hi
        case measure => simp [intOf]; omega
      | true =>
        obtain ⟨hq0, hq1⟩ := isSt_iff.1 hi
        obtain ⟨qn, rfl⟩ := Int.eq_ofNat_of_zero_le hq0
        have hqs : qn < st := by omega
        have hIc := hrow.cell hqs
        have hIf := hrow.frozen qn
        obtain ⟨bx, hbx⟩ : ∃ bx, bx = hasB (l.take k) qn := ⟨_, rfl⟩
        rw [← hbx] at hIc
        clear hbx
        go_wp2_with (go_at_call 40; refine (isState_any _ _ _ _ _ _).mono ?_; rintro e w' ⟨rfl, rfl⟩)
        go_roundw
        case rel =>
          refine ⟨k + 1, by omega, by go_num, ?_, (hb.setCell (p := ⟨w1.heap.size, qn, none⟩) (by simp; omega) _).alloc (by simp; omega) _⟩
          rw [hT.out]
          exact row_push ((hrow.set qn _).alloc _)
        case measure => simp [intOf]; omega
    · have hkl : k = l.length := by omega
      subst hkl
      rw [List.take_length] at hrow
      go_wp2
      obtain ⟨wo, rfl⟩ : ∃ wo : World, wo = wr := ⟨_, rfl⟩
      clear hmk b0 b1 b2 b3
      go_loopw [38] (fun i wi => ∃ (k : Nat), k ≤ n.edges.length ∧ i = .int .i64 k ∧ wi.rowIs w1.heap.size 4 st (fun q => .bool (hasB l (q : Int))) ∧ wi.rowIs wo.heap.size 4 st (fun q => .bool (hasB (stepL (n.edges.take k) cc l) (q : Int))) ∧
        Below (w.heap.size + 1) (w.alloc (.cells #[.int .i64 st, .int .i64 n.start, .int .i64 n.fin, .slice A n.edges.length c] 24)) wi) (fun i _ => n.edges.length - (intOf i).toNat)
      case atStart => exact ⟨0, Nat.zero_le _, rfl, hrow.alloc _, World.rowIs.congr (rowIs_made' rfl) (fun _ _ => by simp [hasB, stepL]), hb.alloc (by omega) _⟩
      case round =>
        clear hrow hb
        obtain ⟨k, hk, rfl, hrow, hrow2, hb⟩ := hrel
        obtain ⟨b0, b1, b2, b3, hsz3⟩ := boxed4 hb
        have hIl' := hrow.lt
        have hOl := hrow2.lt
        by_cases hkl : k < n.edges.length
        · obtain ⟨bb, o, e, rfl, hbb, he, e0, e1, e2, e3⟩ := edge_at hE (unbox hb) hkl
          have hT := Lib.hid (take_snoc he.out)
          have hS := Lib.hid (stepL_snoc (es := n.edges.take k) (e := e) (c := cc) (l := l))
          obtain ⟨⟨hf0, hf1⟩, ht0, ht1⟩ := ok_iff.1 (Hes.out e (List.mem_of_getElem? he.out))
          obtain ⟨fn, hfn⟩ := Int.eq_ofNat_of_zero_le hf0
          obtain ⟨tn, htn⟩ := Int.eq_ofNat_of_zero_le ht0
          rw [Hst.out] at hf1 ht1
          rw [hfn] at e0 hf1
          rw [htn] at e1 ht1
          have Hfn := Lib.hid hfn
          have Htn := Lib.hid htn
          clear hfn htn hf0 ht0
          have hfs : fn < st := by omega
          have hts : tn < st := by omega
          have hIc := hrow.cell hfs
          have hOc := hrow2.cell hts
          have hOf := hrow2.frozen tn
          obtain ⟨bx, hbx⟩ : ∃ bx, bx = hasB (stepL (n.edges.take k) cc l) tn := ⟨_, rfl⟩
          rw [← hbx] at hOc
          clear hbx
          cases h2 : hasB l fn with
          | false =>
            rw [h2] at hIc
            go_wp2
            go_roundw
            case rel =>
              refine ⟨k + 1, by omega, by go_num, hrow.alloc _, ?_, hb.alloc (by omega) _⟩
              rw [hT.out, hS.out, Hfn.out, h2]
              simpa using hrow2.alloc _
            case measure => simp [intOf]; omega
          | true =>
            rw [h2] at hIc
            cases h1 : Edge.takes ⟨(fn : Int), (tn : Int), e.low, e.high⟩ cc with
            | false =>
              go_wp2_with (first | (go_at_call 46; refine (takes_any _ _ _ _ _ _).mono ?_; rintro e w' ⟨rfl, rfl⟩))
              go_roundw
              case rel =>
                have h1' : e.takes cc = false := h1
                refine ⟨k + 1, by omega, by go_num, (hrow.alloc _).alloc _, ?_, (hb.alloc (by omega) _).alloc (by simp; omega) _⟩
                rw [hT.out, hS.out, h1']
                simpa using (hrow2.alloc _).alloc _
              case measure => simp [intOf]; omega
            | true =>
              go_wp2_with (first | (go_at_call 46; refine (takes_any _ _ _ _ _ _).mono ?_; rintro e w' ⟨rfl, rfl⟩))
              go_roundw
              case rel =>
                have h1' : e.takes cc = true := h1
                refine ⟨k + 1, by omega, by go_num, ((hrow.setOther (a := ⟨wo.heap.size, tn, none⟩) (by simp; omega) _).alloc _).alloc _, ?_, ((hb.setCell (p := ⟨wo.heap.size, tn, none⟩) (by simp; omega) _).alloc (by simp; omega) _).alloc (by simp; omega) _⟩
                rw [hT.out, hS.out, h1', Hfn.out, h2, Htn.out]
                simpa using row_push (((hrow2.set tn _).alloc _).alloc _)
              case measure => simp [intOf]; omega
        · have hkl : k = n.edges.length := by omega
          subst hkl
          rw [List.take_length] at hrow2
          have hlen : ((List.range st).map fun q : Nat => hasB (stepL n.edges cc l) (q : Int)).length = st := by simp
          have hbs : BoolsAt wr wr.heap.size (some ⟨wo.heap.size, 0, none⟩) ((List.range st).map fun q : Nat => hasB (stepL n.edges cc l) (q : Int)) := by
            have := rowIs_cells hrow2
            rwa [show ((List.range st).map fun q : Nat => Value.bool (hasB (stepL n.edges cc l) (q : Int))) = ((List.range st).map fun q : Nat => hasB (stepL n.edges cc l) (q : Int)).map Value.bool by simp [List.map_map, Function.comp_def]] at this
          have hmarks : Marks ((List.range st).map fun q : Nat => hasB (stepL n.edges cc l) (q : Int)) (StepP n.edges cc (· ∈ l)) := by
            intro k hk
            rw [hlen] at hk
            rw [List.getElem?_map, List.getElem?_range hk]
            simp only [Option.map_some, Option.some.injEq]
            rw [hasB_iff]
            exact mem_stepL
          have hcall : Calls Try.prog 49 #[.slice (some ⟨wo.heap.size, 0, none⟩) st st] wr fun e w' => (∃ v, e = .returned v ∧ OwnInts wr w' (rising st (StepP n.edges cc (· ∈ l))) v) ∧ Below wr.heap.size wr w' := by
            have := states_any _ _ (some ⟨wo.heap.size, 0, none⟩) st wr (by rw [hlen]; omega) hmarks hbs
            rwa [hlen] at this
          have Hcall2 := Lib.hid hcall
          clear hcall hbs hmarks hlen hrow hrow2
          go_wp2_with (go_at_call 49; refine Hcall2.out.mono ?_; rintro e w2 ⟨⟨v, rfl, hv⟩, hb2⟩)
          go_ret
          obtain ⟨A3, c3, rfl, hown3⟩ := hv
          exact ⟨⟨_, rfl, ownInts_of hown3 (by omega)⟩, (unbox hb).trans (hb2.mono (by omega))⟩
theorem step_ok (n : Net) (l : List Int) (cc : Int) (A A' : Option Addr) (c c' : Nat) (w : World) (hm : n.may = true) (hne : n.edges.length ≤ 1000000) (hn : l.length ≤ 1000000000)
    (hE : EdgesAt w w.heap.size A n.edges) (hl : IntsAt w w.heap.size A' l) :
    Calls Try.prog 26 #[.agg #[.int .i64 n.st, .int .i64 n.start, .int .i64 n.fin, .slice A n.edges.length c], .slice A' l.length c', .int .u8 cc] w fun e w' => (∃ v, e = .returned v ∧ OwnInts w w' (rising n.st (StepP n.edges cc (· ∈ l))) v) ∧ Below w.heap.size w w' := by
  obtain ⟨hm1, hm2, _⟩ := may_iff.1 hm
  obtain ⟨st, hst⟩ := Int.eq_ofNat_of_zero_le (show 0 ≤ n.st by omega)
  exact step_any n l cc A A' c c' w st hst hm hne hn hE hl
end Go.Proofs.Ytaefhfldgemcnaa
