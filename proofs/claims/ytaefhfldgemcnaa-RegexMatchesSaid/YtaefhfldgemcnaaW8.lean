/- Walks over nets, eighth part: the code's Closed and Step. -/
import Derived.Test.YtaefhfldgemcnaaW7
namespace Go.Proofs.Ytaefhfldgemcnaa
open Go.RowKit

theorem may_yes (n : Net) (A : Option Addr) (c : Nat) (w : World) (hm : n.may = true) (hn : n.edges.length ≤ 1000000) (hc : EdgesAt w w.heap.size A n.edges) :
    Calls Try.prog 14 #[.agg #[.int .i64 n.st, .int .i64 n.start, .int .i64 n.fin, .slice A n.edges.length c]] w fun e w' => e = .returned (.int .i64 0) ∧ Below w.heap.size w w' := by
  have := may_any n A c w (by omega) hc
  rwa [mayV_yes hm] at this

theorem rowIs_cells {w : World} {I n : Nat} {t : TypeId} {f : Nat → Value} (h : w.rowIs I t n f) : CellsAt w w.heap.size (some ⟨I, 0, none⟩) ((List.range n).map f) := by
  intro j hj
  rw [List.length_map, List.length_range] at hj
  refine ⟨I, 0, rfl, h.lt, ?_⟩
  rw [List.getElem_map, List.getElem_range]
  simpa using h.cell hj

theorem reached_none (n : Net) (l : List Int) (A A' : Option Addr) (c c' : Nat) (w : World) (hm : n.may = true) (hne : n.edges.length ≤ 1000000) (hn : l.length ≤ 1000000000)
    (hE : EdgesAt w w.heap.size A n.edges) (hl : IntsAt w w.heap.size A' l) :
    Calls Try.prog 50 #[.agg #[.int .i64 n.st, .int .i64 n.start, .int .i64 n.fin, .slice A n.edges.length c], .slice A' l.length c', .func (.func 43) #[] #[]] w fun e w' => (∃ I bs, e = .returned (.slice (some ⟨I, 0, none⟩) bs.length bs.length) ∧ bs.length = n.st.toNat ∧ BoolsAt w' w'.heap.size (some ⟨I, 0, none⟩) bs ∧
      Marks bs (Eps Edge.none_ n.edges (S0 n.st l))) ∧ Below w.heap.size w w' := by
  obtain ⟨hm1, hm2, _⟩ := may_iff.1 hm
  obtain ⟨st, hst⟩ := Int.eq_ofNat_of_zero_le (show 0 ≤ n.st by omega)
  have h := reached_43 n l A A' c c' w st hst hm hne hn hE hl
  rw [← hst] at h
  refine h.mono ?_
  rintro e w' ⟨⟨I, xs, rfl, hrow, hset⟩, hb⟩
  have hlen : ((List.range st).map fun q : Nat => hasB xs (q : Int)).length = st := by simp
  refine ⟨⟨I, (List.range st).map fun q : Nat => hasB xs (q : Int), by rw [hlen], by rw [hlen]; omega, ?_, ?_⟩, hb⟩
  · have := rowIs_cells hrow
    rwa [show ((List.range st).map fun q : Nat => Value.bool (hasB xs (q : Int))) = ((List.range st).map fun q : Nat => hasB xs (q : Int)).map Value.bool by simp [List.map_map, Function.comp_def]] at this
  · intro k hk
    rw [hlen] at hk
    rw [List.getElem?_map, List.getElem?_range hk]
    simp only [Option.map_some, Option.some.injEq]
    rw [hasB_iff]
    exact hset k

set_option maxHeartbeats 1600000 in
theorem closed_any (n : Net) (l : List Int) (A A' : Option Addr) (c c' : Nat) (w : World) (hm : n.may = true) (hne : n.edges.length ≤ 1000000) (hn : l.length ≤ 1000000000)
    (hE : EdgesAt w w.heap.size A n.edges) (hl : IntsAt w w.heap.size A' l) :
    Calls Try.prog 24 #[.agg #[.int .i64 n.st, .int .i64 n.start, .int .i64 n.fin, .slice A n.edges.length c], .slice A' l.length c'] w fun e w' => (∃ v, e = .returned v ∧ OwnInts w w' (rising n.st (Eps Edge.none_ n.edges (S0 n.st l))) v) ∧ Below w.heap.size w w' := by
  have Hm := Lib.hid hm
  obtain ⟨hm1, hm2, _⟩ := may_iff.1 hm
  clear hm
  have hE1 := hE.alloc (Nat.le_refl _) (.cells #[.int .i64 n.st, .int .i64 n.start, .int .i64 n.fin, .slice A n.edges.length c] 24)
  have hl1 := hl.alloc (Nat.le_refl _) (.cells #[.int .i64 n.st, .int .i64 n.start, .int .i64 n.fin, .slice A n.edges.length c] 24)
  go_enter Try.func24, Try.ntmps24
  go_wp2_with (go_at_call 14; refine (may_yes n A c _ Hm.out hne (hE1.more (by simp))).mono ?_; rintro e w1 ⟨rfl, hb1⟩; (obtain ⟨q0, q1, q2, q3, hsz⟩ := boxed4 (by simpa using hb1)))
  have hb1' : Below (w.heap.size + 1) (w.alloc (.cells #[.int .i64 n.st, .int .i64 n.start, .int .i64 n.fin, .slice A n.edges.length c] 24)) w1 := by simpa using hb1
  refine (reached_none n l A A' c c' w1 Hm.out hne hn ((hE.below (unbox hb1')).more (by omega)) ((hl.below (unbox hb1')).more (by omega))).mono ?_
  rintro e w2 ⟨⟨I, bs, rfl, hbl, hbs, hmk⟩, hb2⟩
  have Hbl := Lib.hid hbl
  have hbl2 : bs.length ≤ 1000000 := by omega
  clear hbl
  go_wp2_with fail
  refine (states_any bs _ (some ⟨I, 0, none⟩) bs.length w2 (by omega) hmk hbs).mono ?_
  rintro e w3 ⟨⟨v, rfl, hv⟩, hb3⟩
  go_wp2_with fail
  go_ret
  obtain ⟨A3, c3, rfl, hown⟩ := hv
  have hbl := Hbl.out
  have e1 : ((bs.length : Nat) : Int) = n.st := by omega
  rw [e1] at hown
  refine ⟨⟨_, by rw [e1], ?_⟩, (unbox hb1').trans ((hb2.mono (by omega)).trans (hb3.mono (by have := hb2.size; omega)))⟩
  exact ownInts_of hown (by have := hb2.size; omega)
end Go.Proofs.Ytaefhfldgemcnaa
