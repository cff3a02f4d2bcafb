/- Walks over expressions, fourth part: trees in memory; sets of signs, rows, choices. -/
import Derived.Test.YtaefhfldgemcnaaR3
import Derived.Test.YtaefhfldgemcnaaW12
import Derived.Handy
namespace Go.Proofs.Ytaefhfldgemcnaa
open Go.RowKit

def bcells (m : List Bool) : Array Value := (m.map Value.bool).toArray
theorem bcells_size (m : List Bool) : (bcells m).size = m.length := by simp [bcells]
theorem bcells_get {m : List Bool} {k : Nat} (h : k < m.length) : (bcells m)[k]? = some (.bool (m.getD k false)) := by
  unfold bcells
  rw [List.getElem?_toArray, List.getElem?_map, List.getElem?_eq_getElem h, List.getD_eq_getElem?_getD, List.getElem?_eq_getElem h]; rfl
theorem bcells_set (m : List Bool) (k : Nat) (x : Bool) : (bcells m).setIfInBounds k (.bool x) = bcells (m.set k x) := by
  unfold bcells
  rw [List.setIfInBounds_toArray, List.map_set]
theorem bcells_one (m : List Bool) : (bcells m).all (·.oneCell') = true := by
  refine all_oneCell_toArray ?_
  intro v hv
  simp only [List.mem_map] at hv
  obtain ⟨x, _, rfl⟩ := hv
  rfl
theorem zero96 : Try.zeroCells96 = bcells noneM := by kernel_rfl
theorem info96 : (Try.prog.info? 96).map (·.size) = some 95 := by kernel_rfl
theorem info96m {m : List Bool} (h : m.length = 95) : (Try.prog.info? 96).map (·.size) = some (bcells m).size := by rw [info96, bcells_size, h]

/-- The cells vs lie at A, in a block of P. -/
def CellsIn (w : World) (P : Nat → Prop) (A : Option Addr) (vs : List Value) : Prop := ∀ j (h : j < vs.length), ∃ b o, A = some ⟨b, o, none⟩ ∧ P b ∧ w.cell? ⟨b, o + j, none⟩ = some vs[j]
theorem CellsIn.at_ {w : World} {P : Nat → Prop} {A : Option Addr} {vs : List Value} (h : CellsIn w P A vs) {j : Nat} {v : Value} (hj : vs[j]? = some v) : ∃ b o, A = some ⟨b, o, none⟩ ∧ P b ∧ w.cell? ⟨b, o + j, none⟩ = some v := by
  obtain ⟨hl, he⟩ := List.getElem?_eq_some_iff.1 hj
  obtain ⟨b, o, h1, h2, h3⟩ := h j hl
  exact ⟨b, o, h1, h2, by rw [h3, he]⟩

/-- A tree, in memory, in blocks of P. -/
inductive PartAt (w : World) (P : Nat → Prop) : Value → T → Prop
  | set {m : List Bool} (h : m.length = 95) : PartAt w P (.iface 96 (.agg (bcells m))) (.set m)
  | seq {A : Option Addr} {n c : Nat} {vs : List Value} {l : List T} (hc : CellsIn w P A vs) (hn : vs.length = n) (hcap : n ≤ c) (hl : vs.length = l.length) (h : ∀ (i : Nat) (v : Value) (t : T), vs[i]? = some v → l[i]? = some t → PartAt w P v t) :
      PartAt w P (.iface 118 (.agg #[.slice A n c])) (.seq l)
  | alt {A : Option Addr} {n c : Nat} {vs : List Value} {l : List T} (hc : CellsIn w P A vs) (hn : vs.length = n) (hcap : n ≤ c) (hl : vs.length = l.length) (h : ∀ (i : Nat) (v : Value) (t : T), vs[i]? = some v → l[i]? = some t → PartAt w P v t) :
      PartAt w P (.iface 119 (.agg #[.slice A n c])) (.alt l)
  | rep {pv : Value} {p : T} {op : UInt8} (h : PartAt w P pv p) : PartAt w P (.iface 92 (.agg #[pv, .int .u8 op.toNat])) (.rep p op)
/-- Trees side by side. -/
def PartsAt (w : World) (P : Nat → Prop) (vs : List Value) (l : List T) : Prop := vs.length = l.length ∧ ∀ (i : Nat) (v : Value) (t : T), vs[i]? = some v → l[i]? = some t → PartAt w P v t

theorem cell_congr {w w' : World} {b i : Nat} (h : w'.heap[b]? = w.heap[b]?) : w'.cell? ⟨b, i, none⟩ = w.cell? ⟨b, i, none⟩ := by simp [World.cell?, h]
/-- The blocks of P are as they were, and blocks of Q. -/
def Moves (P Q : Nat → Prop) (w w' : World) : Prop := ∀ g, P g → Q g ∧ w'.heap[g]? = w.heap[g]?
theorem CellsIn.move {w w' : World} {P Q : Nat → Prop} {A : Option Addr} {vs : List Value} (h : CellsIn w P A vs) (hb : Moves P Q w w') : CellsIn w' Q A vs :=
  fun j hj => by
    obtain ⟨b, o, h1, h2, h3⟩ := h j hj
    exact ⟨b, o, h1, (hb b h2).1, (cell_congr (hb b h2).2).trans h3⟩
theorem PartAt.move {w w' : World} {P Q : Nat → Prop} {v : Value} {t : T} (h : PartAt w P v t) (hb : Moves P Q w w') : PartAt w' Q v t := by
  induction h with
  | set h => exact .set h
  | seq hc hn hcap hl _ ih => exact .seq (hc.move hb) hn hcap hl ih
  | alt hc hn hcap hl _ ih => exact .alt (hc.move hb) hn hcap hl ih
  | rep _ ih => exact .rep ih
theorem PartsAt.move {w w' : World} {P Q : Nat → Prop} {vs : List Value} {l : List T} (h : PartsAt w P vs l) (hb : Moves P Q w w') : PartsAt w' Q vs l := ⟨h.1, fun i v t h1 h2 => (h.2 i v t h1 h2).move hb⟩
theorem PartsAt.nil (w : World) (P : Nat → Prop) : PartsAt w P [] [] := ⟨rfl, fun i v t h => by simp at h⟩
theorem PartsAt.snoc {w : World} {P : Nat → Prop} {vs : List Value} {l : List T} {v : Value} {t : T} (h : PartsAt w P vs l) (hv : PartAt w P v t) : PartsAt w P (vs ++ [v]) (l ++ [t]) := by
  refine ⟨by simp [h.1], ?_⟩
  intro i u x h1 h2
  by_cases hi : i < vs.length
  · rw [List.getElem?_append_left hi] at h1
    rw [List.getElem?_append_left (by rw [← h.1]; exact hi)] at h2
    exact h.2 i u x h1 h2
  · rw [List.getElem?_append_right (by omega)] at h1
    rw [List.getElem?_append_right (by rw [← h.1]; omega)] at h2
    rw [← h.1] at h2
    have hz : i - vs.length = 0 := by
      rcases Nat.eq_zero_or_pos (i - vs.length) with h0 | h0
      · exact h0
      · rw [List.getElem?_eq_none (by simp; omega)] at h1
        cases h1
    rw [hz] at h1 h2
    simp at h1 h2
    subst h1 h2
    exact hv
/-- What has been made between a and w. -/
def Fresh (a w : World) (g : Nat) : Prop := a.heap.size ≤ g ∧ g < w.heap.size

def RowPost (P : Nat → Prop) (t : T) (w : World) (e : Ending) (w' : World) : Prop := (∃ v, e = .returned v ∧ PartAt w P v t) ∧ w = w'

set_option maxHeartbeats 800000 in
theorem row_any (P : Nat → Prop) (vs : List Value) (l : List T) (A : Option Addr) (n c : Nat) (w : World) (hn : vs.length = n) (hcap : n ≤ c) (hc : CellsIn w P A vs) (hp : PartsAt w P vs l) :
    Calls Try.prog 60 #[.slice A n c] w (RowPost P (rowT l) w) := by
  by_cases h1 : n = 1
  · subst h1
    obtain ⟨v, rfl⟩ : ∃ v, vs = [v] := by
      match vs, hn with
      | [v], _ => exact ⟨v, rfl⟩
    obtain ⟨t, rfl⟩ : ∃ t, l = [t] := by
      match l, hp.1 with
      | [t], _ => exact ⟨t, rfl⟩
    obtain ⟨b, o, rfl, hbl, hcell⟩ := hc.at_ (j := 0) (v := v) rfl
    rw [Nat.add_zero] at hcell
    have Hp := Lib.hid (hp.2 0 v t rfl rfl)
    clear hp hc
    go_enter Try.func60, Try.ntmps60
    go_wp2_with fail
    go_ret
    exact ⟨⟨_, rfl, Hp.out⟩, rfl⟩
  · have hd : ((n : Int) == 1) = false := beq_eq_false_iff_ne.2 (by omega)
    have Hp : Hid (PartAt w P (.iface 118 (.agg #[.slice A n c])) (rowT l)) := by
      have hl : rowT l = .seq l := by
        unfold rowT
        split
        · exact absurd hp.1 (by rw [hn]; exact h1)
        · rfl
      show PartAt _ _ _ _
      rw [hl]
      exact .seq hc hn hcap hp.1 hp.2
    clear hp hc
    go_enter Try.func60, Try.ntmps60
    go_wp2_with fail
    go_ret
    exact ⟨⟨_, rfl, Hp.out⟩, rfl⟩

set_option maxHeartbeats 800000 in
theorem either_any (P : Nat → Prop) (vs : List Value) (l : List T) (A : Option Addr) (n c : Nat) (w : World) (hn : vs.length = n) (hcap : n ≤ c) (hc : CellsIn w P A vs) (hp : PartsAt w P vs l) :
    Calls Try.prog 61 #[.slice A n c] w (RowPost P (eitherT l) w) := by
  by_cases h0 : n = 0
  · subst h0
    obtain rfl : vs = [] := List.eq_nil_of_length_eq_zero hn
    obtain rfl : l = [] := List.eq_nil_of_length_eq_zero hp.1.symm
    have Hp : Hid (PartAt w P (.iface 96 (.agg (bcells noneM))) (eitherT [])) := .set noneM_length
    rw [← zero96] at Hp
    clear hp hc
    go_enter Try.func61, Try.ntmps61
    go_wp2_with fail
    go_ret
    exact ⟨⟨_, rfl, Hp.out⟩, rfl⟩
  by_cases h1 : n = 1
  · subst h1
    obtain ⟨v, rfl⟩ : ∃ v, vs = [v] := by
      match vs, hn with
      | [v], _ => exact ⟨v, rfl⟩
    obtain ⟨t, rfl⟩ : ∃ t, l = [t] := by
      match l, hp.1 with
      | [t], _ => exact ⟨t, rfl⟩
    obtain ⟨b, o, rfl, hbl, hcell⟩ := hc.at_ (j := 0) (v := v) rfl
    rw [Nat.add_zero] at hcell
    have Hp := Lib.hid (hp.2 0 v t rfl rfl)
    clear hp hc
    go_enter Try.func61, Try.ntmps61
    go_wp2_with fail
    go_ret
    exact ⟨⟨_, rfl, Hp.out⟩, rfl⟩
  · have hd : ((n : Int) == 1) = false := beq_eq_false_iff_ne.2 (by omega)
    have hd0 : ((n : Int) == 0) = false := beq_eq_false_iff_ne.2 (by omega)
    have Hp : Hid (PartAt w P (.iface 119 (.agg #[.slice A n c])) (eitherT l)) := by
      have hl : eitherT l = .alt l := by
        unfold eitherT
        split
        · exact absurd hp.1 (by rw [hn]; exact h0)
        · exact absurd hp.1 (by rw [hn]; exact h1)
        · rfl
      show PartAt _ _ _ _
      rw [hl]
      exact .alt hc hn hcap hp.1 hp.2
    clear hp hc
    go_enter Try.func61, Try.ntmps61
    go_wp2_with fail
    go_ret
    exact ⟨⟨_, rfl, Hp.out⟩, rfl⟩

/-! sets -/
def SetPost (m : List Bool) (w : World) (e : Ending) (w' : World) : Prop := e = .returned (.agg (bcells m)) ∧ Below w.heap.size w w'
theorem info96z : (Try.prog.info? 96).map (·.size) = some Try.zeroCells96.size := by kernel_rfl
theorem set_there {wr : World} {m : List Bool} {m0 : List Bool} {g : Nat} (hm : m.length = 95) (hm0 : m0.length = 95) (hg : wr.heap[g]? = some (.cells (bcells m0) 96 (0, 0))) :
    wr.there g 0 (bcells m).size := by
  intro j hj
  have hj2 : j < 95 := by rw [bcells_size] at hj; omega
  rw [Nat.zero_add]
  refine ⟨?_, blk_frozen hg j⟩
  rw [blk_cell hg j, bcells_get (by omega)]
  rfl
theorem blk_setCellsAll {g t : Nat} : ∀ (vs old pre : List Value) (w : World), old.length = vs.length → w.heap[g]? = some (.cells (pre ++ old).toArray t (0, 0)) →
    (w.setCells g pre.length vs).heap[g]? = some (.cells (pre ++ vs).toArray t (0, 0)) := by
  intro vs
  induction vs with
  | nil =>
    intro old pre w ho h
    obtain rfl : old = [] := List.eq_nil_of_length_eq_zero ho
    exact h
  | cons v vs ih =>
    intro old pre w ho h
    cases old with
    | nil => simp at ho
    | cons u old =>
      have h1 := blk_set_self h pre.length v
      have h2 : ((pre ++ u :: old).toArray).setIfInBounds pre.length v = ((pre ++ [v]) ++ old).toArray := by
        rw [List.setIfInBounds_toArray]
        simp
      rw [h2] at h1
      have h3 := ih old (pre ++ [v]) (w.setCell ⟨g, pre.length, none⟩ v) (by simpa using ho) h1
      have e1 : (pre ++ [v]) ++ vs = pre ++ v :: vs := by simp
      have e2 : (pre ++ [v]).length = pre.length + 1 := by simp
      rw [e1, e2] at h3
      exact h3
theorem set_stored {wr : World} {m m0 : List Bool} {g : Nat} (hm : m.length = 95) (hm0 : m0.length = 95) (hg : wr.heap[g]? = some (.cells (bcells m0) 96 (0, 0))) :
    (wr.setCells g 0 (bcells m).toList).heap[g]? = some (.cells (bcells m) 96 (0, 0)) := by
  have h := blk_setCellsAll (bcells m).toList (m0.map Value.bool) [] wr (by simp [bcells, hm, hm0]) hg
  simpa using h
theorem heap_setCells_other {g x : Nat} (hx : x ≠ g) : ∀ (vs : List Value) (o : Nat) (w : World), (w.setCells g o vs).heap[x]? = w.heap[x]? := by
  intro vs
  induction vs with
  | nil => intro o w; rfl
  | cons v vs ih =>
    intro o w
    show ((w.setCell ⟨g, o, none⟩ v).setCells g (o + 1) vs).heap[x]? = _
    rw [ih]
    exact Below.heap_setCell w ⟨g, o, none⟩ v x hx

set_option maxRecDepth 8192 in
set_option maxHeartbeats 800000 in
theorem single_any (j : Nat) (w : World) (hj : j < 95) :
    Calls Try.prog 59 #[.int .u8 (32 + (j : Int))] w (SetPost (singleM (32 + j)) w) := by
  have hm : (singleM (32 + j)).length = 95 := singleM_length _
  go_enter Try.func59, Try.ntmps59
  go_upto_region 2 with fail
  rw [zero96]
  generalize hw1 : (w.alloc (.cells (bcells noneM) 96)).alloc (.cells (bcells noneM) 96) = w1
  have g0 : w1.heap[w.heap.size]? = some (.cells (bcells noneM) 96 (0, 0)) := by subst hw1; exact blk_alloc (blk_new _ _) _
  have g1 : w1.heap[w.heap.size + 1]? = some (.cells (bcells noneM) 96 (0, 0)) := by subst hw1; exact blk_new' (by simp)
  have hb : Below w.heap.size w w1 := by subst hw1; exact ((Below.refl _ _).alloc (Nat.le_refl _) _).alloc (by simp) _
  clear hw1
  have hz0 := blk_lt g0
  have hz1 := blk_lt g1
  have c1 : w1.cell? ⟨w.heap.size + 1, j, none⟩ = some (.bool (noneM.getD j false)) := (blk_cell g1 j).trans (bcells_get (by rw [noneM_length]; exact hj))
  have f1 := blk_frozen g1 j
  have G0 := Lib.hid g0
  have G1 := Lib.hid g1
  have Hm := Lib.hid hm
  clear g0 g1 hm
  go_upto_region 3 with fail
  have h2 := blk_set_self G1.out j (.bool true)
  rw [bcells_set, show noneM.set j true = singleM (32 + j) from by unfold singleM; rw [Nat.add_sub_cancel_left]] at h2
  have h3 := blk_set G0.out (p := ⟨w.heap.size + 1, j, none⟩) (by simp) (.bool true)
  have hb3 := hb.setCell (p := ⟨w.heap.size + 1, j, none⟩) (by simp) (.bool true)
  generalize World.setCell w1 _ _ = W at h2 h3 hb3 ⊢
  have Hth := Lib.hid (set_there Hm.out noneM_length h3)
  have H2 := Lib.hid h2
  have H3 := Lib.hid h3
  clear h2 h3 c1 f1
  go_wp2_with (first | ((with_reducible show wpList _ _ _ (⟨some 7, _, _, _, _, _⟩ :: _) _ _); refine wpList_load_row rfl 96 _ rfl (w.heap.size + 1) rfl 96 _ (0, 0) _ H2.out Try.underlying96 rfl (info96m Hm.out) ?_) | ((with_reducible show wpList _ _ _ (⟨none, _, _, _, _, _⟩ :: _) _ _); refine wpList_store_mid rfl 96 _ _ rfl w.heap.size 0 _ rfl rfl Hth.out (info96m Hm.out) (bcells_one _) ?_))
  exact bodyPost_ret (results_cell_row rfl _ _ w.heap.size 96 _ _ _ rfl (set_stored Hm.out noneM_length H3.out) Try.underlying96 rfl (info96m Hm.out)) rfl ⟨rfl, below_setCells (by omega) _ _ _ hb3⟩

def invM (m : List Bool) (k : Nat) : List Bool := (m.take k).map (!·) ++ m.drop k
theorem invM_length {m : List Bool} (h : m.length = 95) (k : Nat) : (invM m k).length = 95 := by simp [invM]; omega
theorem invM_zero (m : List Bool) : invM m 0 = m := by simp [invM]
theorem invM_end {m : List Bool} (h : m.length = 95) : invM m 95 = m.map (!·) := by
  unfold invM
  rw [List.take_of_length_le (by omega), List.drop_of_length_le (by omega), List.append_nil]
theorem invM_get {m : List Bool} {k : Nat} (h : k < m.length) : (invM m k).getD k false = m.getD k false := by
  unfold invM
  rw [List.getD_eq_getElem?_getD, List.getElem?_append_right (by simp; omega), List.getElem?_drop]
  rw [List.getD_eq_getElem?_getD]
  congr 2
  simp; omega
theorem invM_next {m : List Bool} {k : Nat} (h : k < m.length) : (invM m k).set k (!m.getD k false) = invM m (k + 1) := by
  unfold invM
  rw [List.set_append_right _ _ (by simp; omega)]
  have e : k - ((m.take k).map (!·)).length = 0 := by simp; omega
  rw [e, List.take_add_one, List.getElem?_eq_getElem h, List.getD_eq_getElem?_getD, List.getElem?_eq_getElem h, List.drop_eq_getElem_cons h]
  simp only [List.set_cons_zero, List.map_append, Option.getD_some, Option.toList_some, List.map_cons, List.map_nil, List.append_assoc, List.singleton_append]

set_option maxRecDepth 8192 in
set_option maxHeartbeats 1600000 in
theorem other_any (m : List Bool) (w : World) (hm : m.length = 95) :
    Calls Try.prog 87 #[.agg (bcells m)] w (SetPost (m.map (!·)) w) := by
  go_enter Try.func87, Try.ntmps87
  go_upto_region 1 with fail
  rw [zero96]
  generalize hw1 : (w.alloc (.cells (bcells m) 96)).alloc (.cells (bcells noneM) 96) = w1
  have g0 : w1.heap[w.heap.size]? = some (.cells (bcells (invM m 0)) 96 (0, 0)) := by subst hw1; rw [invM_zero]; exact blk_alloc (blk_new _ _) _
  have g1 : w1.heap[w.heap.size + 1]? = some (.cells (bcells noneM) 96 (0, 0)) := by subst hw1; exact blk_new' (by simp)
  have hb : Below w.heap.size w w1 := by subst hw1; exact ((Below.refl _ _).alloc (Nat.le_refl _) _).alloc (by simp) _
  clear hw1
  have Hm := Lib.hid hm
  clear hm
  have G0 := Lib.hid g0
  have G1 := Lib.hid g1
  clear g0 g1
  go_wp2_with fail
  go_loopw [4] (fun i wr => ∃ k : Nat, i = .int .i64 k ∧ k ≤ 95 ∧ Hid (wr.heap[w.heap.size]? = some (.cells (bcells (invM m k)) 96 (0, 0))) ∧ Hid (wr.heap[w.heap.size + 1]? = some (.cells (bcells noneM) 96 (0, 0))) ∧ Below w.heap.size w wr) (fun i _ => 95 - (intOf i).toNat)
  case atStart => exact ⟨0, rfl, by omega, G0, G1, hb⟩
  case round =>
    clear G0 G1 hb
    obtain ⟨k, rfl, hk, hg0, hg1, hb⟩ := hrel
    by_cases hlt : k < 95
    · have hkm : k < m.length := by rw [Hm.out]; exact hlt
      have c0 : wr.cell? ⟨w.heap.size, k, none⟩ = some (.bool (m.getD k false)) := by
        rw [← invM_get hkm]
        exact (blk_cell hg0.out k).trans (bcells_get (by rw [invM_length Hm.out]; exact hlt))
      have f0 := blk_frozen hg0.out k
      have Hkm := Lib.hid hkm
      clear hkm
      go_wp2_with fail
      go_roundw
      case rel =>
        refine ⟨k + 1, by go_num, by omega, ?_, ?_, hb.setCell (p := ⟨w.heap.size, k, none⟩) (Nat.le_refl _) _⟩
        · show _ = _
          have h2 := blk_set_self hg0.out k (.bool (!m.getD k false))
          rw [bcells_set, invM_next Hkm.out] at h2
          exact h2
        · exact blk_set hg1.out (by simp) _
      case measure => simp [intOf]; omega
    · have hk95 : k = 95 := by omega
      have H0 : Hid (wr.heap[w.heap.size]? = some (.cells (bcells (m.map (!·))) 96 (0, 0))) := by
        show _ = _
        rw [← invM_end Hm.out, ← hk95]
        exact hg0.out
      have Hm2 : Hid ((m.map (!·)).length = 95) := by show _ = _; rw [List.length_map]; exact Hm.out
      have hlt' : ¬ ((k : Int) < 95) := by omega
      have Hth := Lib.hid (set_there Hm2.out noneM_length hg1.out)
      clear hk95 hlt hk hg0
      go_wp2_with (first | ((with_reducible show wpList _ _ _ (⟨some 14, _, _, _, _, _⟩ :: _) _ _); refine wpList_load_row rfl 96 _ rfl w.heap.size rfl 96 _ (0, 0) _ H0.out Try.underlying96 rfl (info96m Hm2.out) ?_) | ((with_reducible show wpList _ _ _ (⟨none, _, _, _, _, _⟩ :: _) _ _); refine wpList_store_mid rfl 96 _ _ rfl (w.heap.size + 1) 0 _ rfl rfl Hth.out (info96m Hm2.out) (bcells_one _) ?_))
      exact bodyPost_ret (results_cell_row rfl _ _ (w.heap.size + 1) 96 _ _ _ rfl (set_stored Hm2.out noneM_length hg1.out) Try.underlying96 rfl (info96m Hm2.out)) rfl ⟨rfl, below_setCells (by omega) _ _ _ hb⟩

set_option maxRecDepth 8192 in
set_option maxHeartbeats 800000 in
theorem every_any (w : World) : Calls Try.prog 78 #[] w (SetPost everyM w) := by
  go_enter Try.func78, Try.ntmps78
  go_upto_region 1 with fail
  rw [zero96]
  have Hm : Hid (everyM.length = 95) := everyM_length
  generalize hw1 : w.alloc (.cells (bcells noneM) 96) = w1
  have g0 : w1.heap[w.heap.size]? = some (.cells (bcells noneM) 96 (0, 0)) := by subst hw1; exact blk_new _ _
  have hb : Below w.heap.size w w1 := by subst hw1; exact (Below.refl _ _).alloc (Nat.le_refl _) _
  clear hw1
  have hz := blk_lt g0
  have G0 := Lib.hid g0
  clear g0
  have HO : Hid (Calls Try.prog 87 #[.agg Try.zeroCells96] w1 (SetPost everyM w1)) := by
    rw [zero96]
    exact other_any noneM w1 noneM_length
  go_wp2_with fail
  refine HO.out.mono ?_
  rintro e w2 ⟨rfl, hb2⟩
  have g2 := blk_below G0.out hb2 hz
  have Hth := Lib.hid (set_there Hm.out noneM_length g2)
  have G2 := Lib.hid g2
  clear g2
  go_wp2_with (first | ((with_reducible show wpList _ _ _ (⟨none, _, _, _, _, _⟩ :: _) _ _); refine wpList_store_mid rfl 96 _ _ rfl w.heap.size 0 _ rfl rfl Hth.out (info96m Hm.out) (bcells_one _) ?_))
  exact bodyPost_ret (results_cell_row rfl _ _ w.heap.size 96 _ _ _ rfl (set_stored Hm.out noneM_length G2.out) Try.underlying96 rfl (info96m Hm.out)) rfl ⟨rfl, below_setCells (Nat.le_refl _) _ _ _ (hb.trans (hb2.mono (by omega)))⟩
end Go.Proofs.Ytaefhfldgemcnaa
