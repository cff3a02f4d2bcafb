/- Walks over nets, fourth part: the reference's Closed and Accepts. -/
import Derived.Test.YtaefhfldgemcnaaW3
namespace Go.Proofs.Ytaefhfldgemcnaa
open Go.RowKit

/-- Ints that the call's own row from block base on holds. -/
def OwnI (w : World) (base : Nat) (xs : List Int) (v : Value) : Prop :=
  ∃ A c, v = .slice A xs.length c ∧ w.ownsRow base 3 1 (.slice A xs.length c) xs.length (xs.map (Value.int .i64))
theorem ownI_of {w : World} {base b' : Nat} {xs : List Int} {v : Value} (h : w.ownsRow base 3 1 v xs.length (xs.map (Value.int .i64))) (hb : b' ≤ base) : OwnI w b' xs v := by
  obtain ⟨h1, h2⟩ := h
  rcases h2 with ⟨rfl, hn⟩ | ⟨g, cap, cur, rfl, hg, r⟩
  · refine ⟨none, 0, by rw [hn], h1, .inl ⟨by rw [hn], hn⟩⟩
  · exact ⟨some ⟨g, 0, none⟩, cap, rfl, h1, .inr ⟨g, cap, cur, rfl, by omega, r⟩⟩
theorem quiet_left {P : Program} {f : FuncId} {args : Array Value} {w : World} {n : Nat} {v : Value}
    (h : Calls P f args (w.drewN n) fun e w' => e = .returned v ∧ w.drewN n = w') : Calls P f args (w.drewN n) fun e w'' => e = .returned v ∧ ∃ m, w'' = w.drewN m :=
  h.mono fun _ _ ⟨he, hm⟩ => ⟨he, n, hm.symm⟩
theorem quiet_same {P : Program} {f : FuncId} {args : Array Value} {w : World} {v : Value}
    (h : Calls P f args w fun e w' => e = .returned v ∧ w = w') : Calls P f args w fun e w'' => e = .returned v ∧ ∃ m, w'' = w.drewN m :=
  h.mono fun _ _ ⟨he, hm⟩ => ⟨he, 0, hm.symm⟩

def S0 (st : Int) (l : List Int) (q : Int) : Prop := q ∈ l ∧ 0 ≤ q ∧ q < st

set_option maxHeartbeats 3200000 in
theorem refClosed_any (n : Net) (l : List Int) (A A' : Option Addr) (c c' : Nat) (w : World) (hm : n.may = true) (hne : n.edges.length ≤ 1000000) (hn : l.length ≤ 1000000000)
    (hE : EdgesAt w w.heap.size A n.edges) (hl : IntsAt w w.heap.size A' l) :
    Calls Try.prog 25 #[.agg #[.int .i64 n.st, .int .i64 n.start, .int .i64 n.fin, .slice A n.edges.length c], .slice A' l.length c'] w fun e w' => (∃ v, e = .returned v ∧ OwnInts w w' (rising n.st (Eps Edge.none_ n.edges (S0 n.st l))) v) ∧ Below w.heap.size w w' := by
  obtain ⟨hm1, hm2, _, _, hes⟩ := may_iff.1 hm
  have Hes := Lib.hid hes
  clear hes hm
  have hst0 : 0 ≤ n.st := by omega
  go_enter Try.func25, Try.ntmps25
  go_wp2_with (go_at_call 51; refine (sorted_any n.st n.start n.fin _ l A' c' _ hst0 hm2 hn (hl.below ((Below.refl _ _).alloc (Nat.le_refl _) _) |>.more (by simp))).mono ?_; rintro e w1 ⟨⟨v, rfl, hv⟩, hb1⟩)
  obtain ⟨A1, c1, rfl, hown1⟩ := hv
  go_loopw [5, 6] (fun out i wr => ∃ (k : Nat) (xs : List Int), i = .int .i64 k ∧ OwnI wr (w.heap.size + 1) xs out ∧ k ≤ xs.length ∧ Hid (CInv Edge.none_ n.edges n.st (S0 n.st l) xs k) ∧ Below (w.heap.size + 1) (w.alloc (.cells #[.int .i64 n.st, .int .i64 n.start, .int .i64 n.fin, .slice A n.edges.length c] 24)) wr) (fun _ i _ => n.st.toNat - (intOf i).toNat)
  case atStart =>
    refine ⟨0, _, rfl, ⟨_, _, rfl, by simpa using hown1⟩, Nat.zero_le _, ?_, by simpa using hb1⟩
    refine CInv.start (rising_nodup _ _) (fun q hq => ?_) (fun q => ?_)
    · have := mem_rising.1 hq; omega
    · rw [mem_rising]; unfold S0; exact ⟨fun h => ⟨h.2.2, h.1, h.2.1⟩, fun h => ⟨h.2.1, h.2.2, h.1⟩⟩
  case round =>
    obtain ⟨i, xs, rfl, ⟨A2, c2, rfl, hown⟩, hi, hinv, hb⟩ := hrel
    obtain ⟨b0, b1, b2, b3, hsz⟩ := boxed4 hb
    have hlen : (xs.length : Int) ≤ n.st := hinv.out.length hst0
    by_cases hlt : i < xs.length
    · obtain ⟨q, hq⟩ : ∃ q, xs[i]? = some q := ⟨_, List.getElem?_eq_getElem hlt⟩
      have hin : CIn Edge.none_ n.edges n.st (S0 n.st l) xs i q 0 := ⟨hinv.out, hq, fun e he => by simp at he⟩
      have Hin := Lib.hid hin
      clear hin hq
      go_wp2
      obtain ⟨wo, rfl⟩ : ∃ wo : World, wo = wr := ⟨_, rfl⟩
      go_loopw [5, 7] (fun out j wi => ∃ (k : Nat) (ys : List Int), k ≤ n.edges.length ∧ j = .int .i64 k ∧ OwnI wi (w.heap.size + 1) ys out ∧ Hid (CIn Edge.none_ n.edges n.st (S0 n.st l) ys i q k) ∧ Below (w.heap.size + 1) (w.alloc (.cells #[.int .i64 n.st, .int .i64 n.start, .int .i64 n.fin, .slice A n.edges.length c] 24)) wi) (fun _ j _ => n.edges.length - (intOf j).toNat)
      case atStart => exact ⟨0, xs, Nat.zero_le _, rfl, ⟨_, _, rfl, hown⟩, Hin, hb⟩
      case round =>
        clear hown b0 b1 b2 b3 hsz Hin hinv
        obtain ⟨k, ys, hk, rfl, ⟨A3, c3, rfl, hown⟩, hin, hb'⟩ := hrel
        obtain ⟨b0, b1, b2, b3, hsz⟩ := boxed4 hb'
        have hylen : (ys.length : Int) ≤ n.st := hin.out.inv.length hst0
        have hyi : i < ys.length := (List.getElem?_eq_some_iff.1 hin.out.at_).1
        by_cases hkl : k < n.edges.length
        · obtain ⟨bb, o, e, rfl, hbb, he, e0, e1, e2, e3⟩ := edge_at hE (unbox hb') hkl
          by_cases g1 : e.high < e.low
          · have d1 : decide (e.high < e.low) = true := decide_eq_true g1
            have hya := CellsAt.of_own hown
            obtain ⟨b4, o4, q', rfl, _, hq', hcell⟩ := int_at hya (Below.refl _ _) hyi
            have hqq : q' = q := by
              have e5 := hq'.out
              rw [hin.out.at_] at e5
              injection e5 with e5
              exact e5.symm
            subst hqq
            by_cases g2 : e.frm = q'
            · have d2 : (e.frm == q') = true := beq_iff_eq.2 g2
              have Hg2 := Lib.hid g2
              clear g2
              cases g3 : hasB ys e.to with
              | true =>
                go_wp2
                go_quiet ((go_at_call 47; exact quiet_left (has_any ys _ _ _ _ _ (by omega) ((hya.alloc (Nat.le_refl _) _).drewN _))))
                go_wp2
                go_roundw
                case rel => exact ⟨k + 1, ys, by omega, by go_num, ⟨_, _, rfl, (hown.alloc _)⟩, hin.out.next he.out (fun _ _ => hasB_iff.1 g3), below_drewN (hb'.alloc (by omega) _) _⟩
                case measure => simp [intOf]; omega
              | false =>
                go_wp2
                go_quiet ((go_at_call 47; exact quiet_left (has_any ys _ _ _ _ _ (by omega) ((hya.alloc (Nat.le_refl _) _).drewN _))))
                go_wp2_with (at_builtin; refine wpList_append_new info3 Try.underlying36 rfl (by decide) (by decide) _ ((hown.alloc _).drewN _) 1 rfl _ _ rfl rfl rfl (by simp) rfl rfl (by omega) ?_ ?_; (simp; omega); intro v' w' hown' hbel hgt _)
                go_roundw
                case rel =>
                  refine ⟨k + 1, ys ++ [e.to], by omega, by go_num, ownI_of (by simpa using hown') (Nat.le_refl _), hin.out.push Hes.out he.out (by simp [Edge.none_, d1]) Hg2.out (fun h => by rw [hasB_yes h] at g3; cases g3), (below_drewN (hb'.alloc (by omega) _) _).trans hbel⟩
                case measure => simp [intOf]; omega
            · have d2 : (e.frm == q') = false := beq_eq_false_iff_ne.2 g2
              go_wp2
              go_quiet (fail)
              go_wp2
              go_roundw
              case rel => exact ⟨k + 1, ys, by omega, by go_num, ⟨_, _, rfl, (hown.alloc _)⟩, hin.out.next he.out (fun _ hf => absurd hf g2), below_drewN (hb'.alloc (by omega) _) _⟩
              case measure => simp [intOf]; omega
          · have d1 : decide (e.high < e.low) = false := decide_eq_false g1
            go_wp2
            go_quiet (fail)
            go_wp2
            go_roundw
            case rel => exact ⟨k + 1, ys, by omega, by go_num, ⟨_, _, rfl, (hown.alloc _)⟩, hin.out.next he.out (fun hb _ => by simp [Edge.none_, d1] at hb), below_drewN (hb'.alloc (by omega) _) _⟩
            case measure => simp [intOf]; omega
        · go_wp2
          go_roundw
          case rel => exact ⟨i + 1, ys, by go_num, ⟨_, _, rfl, hown⟩, by omega, hin.out.end_ (by omega), hb'⟩
          case measure => simp [intOf]; omega
    · have hA2 := CellsAt.of_own hown
      have hcong : rising n.st (· ∈ xs) = rising n.st (Eps Edge.none_ n.edges (S0 n.st l)) := rising_congr fun q _ _ => hinv.out.done (by omega) q
      have Hc := Lib.hid hcong
      clear hcong
      go_wp2_with (go_at_call 51; refine (sorted_any n.st n.start n.fin _ _ A2 c2 wr hst0 hm2 (by omega) hA2).mono ?_; rintro e w' ⟨⟨v, rfl, hv⟩, hb2⟩)
      go_ret
      obtain ⟨A3, c3, rfl, hown3⟩ := hv
      rw [Hc.out] at hown3
      refine ⟨⟨_, rfl, ?_⟩, (unbox hb).trans (hb2.mono (by omega))⟩
      rw [Hc.out]
      exact ownInts_of hown3 (by omega)
end Go.Proofs.Ytaefhfldgemcnaa
