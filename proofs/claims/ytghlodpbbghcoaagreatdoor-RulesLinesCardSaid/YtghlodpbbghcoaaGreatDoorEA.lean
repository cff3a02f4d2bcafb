/- Small sets of a net's states, and the walks over them: TrailingZeros64, has, join, setOf of package dfa. -/
import Derived.Test.YtghlodpbbghcoaaGreatDoorXC
import Derived.Test.YtghlodpbbghcoaaGreatDoorProg
import Derived.WalkKit
import Derived.Shelf.Spec.TrailingZeros
import Derived.Lib.Hide
import Derived.Laws.Bits64b
import Derived.Deep.DeepCutAuto
import Derived.Test.YtghlodpbbghcoaaGreatDoorXA
import Derived.Deep.MidRow
import Derived.Test.YtghlodpbbghcoaaGreatDoorXB
import Derived.Laws.MakeOwn
namespace Go.Proofs
open Go.Shelf
def Tryz.tz_ren : Go.Shelf.Ren := ⟨fun | 29 => 137 | n => n, fun | 22 => 160 | 25 => 209 | 54 => 208 | n => n, fun | n => n⟩
theorem Tryz.tzL : Go.Proofs.Lays7.n29 Tryz.prog Tryz.tz_ren := {
  mixed := by kernel_rfl
  f29 := Tryz.func137.trans (congrArg some (by kernel_rfl))
  t0 := Tryz.underlying0
  a0 := Tryz.isAgg0
  z0 := Tryz.sizeOf0
  v0 := Tryz.zeroValue0
  i0 := by kernel_rfl
  t3 := Tryz.underlying3
  a3 := Tryz.isAgg3
  z3 := Tryz.sizeOf3
  v3 := Tryz.zeroValue3
  i3 := by kernel_rfl
  t4 := Tryz.underlying4
  a4 := Tryz.isAgg4
  z4 := Tryz.sizeOf4
  v4 := Tryz.zeroValue4
  i4 := by kernel_rfl
  t5 := Tryz.underlying5
  a5 := Tryz.isAgg5
  z5 := Tryz.sizeOf5
  v5 := Tryz.zeroValue5
  i5 := by kernel_rfl
  t22 := Tryz.underlying160
  a22 := Tryz.isAgg160
  z22 := Tryz.sizeOf160
  v22 := Tryz.zeroValue160
  i22 := by kernel_rfl
  t25 := Tryz.underlying209
  a25 := Tryz.isAgg209
  z25 := Tryz.sizeOf209
  v25 := Tryz.zeroValue209
  i25 := by kernel_rfl
  t54 := Tryz.underlying208
  a54 := Tryz.isAgg208
  z54 := Tryz.sizeOf208
  g1 := by kernel_rfl }
end Go.Proofs
namespace Go.Proofs.YtghlodpbbghcoaaGreatDoor
open Go.RowKit

/-- The table of package bits as it is laid. -/
def TzTab (w : World) : Prop := TabAt 1 Lib.deBruijn64tab w
theorem tz_any (x : Nat) (hx : x < 18446744073709551616) (w : World) (hT : TzTab w) :
    Calls Tryz.prog 137 #[.int .u64 x] w fun e w' => e = .returned (.int .i64 (Lib.ctz 64 x)) ∧ w' = w := Any7.bits_TrailingZeros64 Tryz.tzL x hx w (fun _ => hT)
/-- A set of states below 64. -/
def setV (x : Nat) : Array Value := #[.int .u64 x, .int .u64 0, .int .u64 0, .int .u64 0, .int .u64 0, .int .u64 0, .int .u64 0, .int .u64 0]

/-- A set at a place. -/
def SetAt (w : World) (b o x : Nat) : Prop := w.cell? ⟨b, o, none⟩ = some (.int .u64 x) ∧ ∀ i, 0 < i → i < 8 → w.cell? ⟨b, o + i, none⟩ = some (.int .u64 0)

theorem setHas_any (x q : Nat) (w : World) (hq : q < 64) :
    Calls Tryz.prog 128 #[.agg (setV x), .int .i64 q] w fun e w' => (∃ b, e = .returned (.bool b)) ∧ Below w.heap.size w w' := by
  unfold setV
  have h1 : (q : Int).tdiv 64 = 0 := Int.tdiv_eq_zero_of_lt (by omega) (by omega)
  have h2 : (q : Int).tmod 64 = q := Int.tmod_eq_of_lt (by omega) (by omega)
  go_enter Tryz.func128, Tryz.ntmps128
  go_upto_region 1 with fail
  go_region
  go_wp2_with fail
  go_ret
  exact ⟨⟨_, rfl⟩, ((Below.refl _ _).alloc (Nat.le_refl _) _).drew⟩

theorem arr_set_same {cs : Array Value} {i : Nat} {v : Value} (h : cs[i]? = some v) : cs.setIfInBounds i v = cs := by
  apply Array.ext_getElem?
  intro j
  rw [Array.getElem?_setIfInBounds]
  split
  · rename_i hij
    subst hij
    split
    · exact h.symm
    · rename_i hb
      rw [Array.getElem?_eq_none (by omega)] at h
      simp at h
  · rfl

def zj (x y : Nat) : Nat → Nat
  | 0 => x
  | _ + 1 => x ||| y
set_option maxHeartbeats 1600000 in
/-- A set joined to another one: that one's first word takes the other's. -/
theorem join_any (a oa b ob x y : Nat) (cs : Array Value) (T : TypeId) (w : World) (hx : x < 18446744073709551616) (hy : y < 18446744073709551616) (hab : a ≠ b)
    (ha : w.heap[a]? = some (.cells cs T (0, 0))) (hsa : SetAt w a oa x) (hsb : SetAt w b ob y) (hbl : b < w.heap.size) :
    Calls Tryz.prog 136 #[.pointer (some ⟨a, oa, none⟩), .pointer (some ⟨b, ob, none⟩)] w fun e w' =>
      e = .returned (.tuple #[]) ∧ Rx.Keep a w w' ∧ w'.heap[a]? = some (.cells (cs.setIfInBounds oa (.int .u64 (x ||| y : Nat))) T (0, 0)) := by
  have Ha := Lib.hid ha
  have hc0 : cs[oa]? = some (.int .u64 x) := (blk_cell ha oa).symm.trans hsa.1
  have hci : ∀ i, 0 < i → i < 8 → cs[oa + i]? = some (.int .u64 0) := fun i h1 h2 => (blk_cell ha (oa + i)).symm.trans (hsa.2 i h1 h2)
  have Hb := Lib.hid hsb
  have hlo : oa < cs.size := by
    rcases Nat.lt_or_ge oa cs.size with h | h
    · exact h
    · rw [Array.getElem?_eq_none h] at hc0; simp at hc0
  clear ha hsa hsb
  go_enter Tryz.func136, Tryz.ntmps136
  go_wp2_with fail
  go_loopw [7] (fun i wr => ∃ k : Nat, i = .int .i64 k ∧ k ≤ 8 ∧ Hid (wr.heap[a]? = some (.cells (cs.setIfInBounds oa (.int .u64 (zj x y k : Nat))) T (0, 0))) ∧ Hid (Rx.Keep a w wr)) (fun i _ => 8 - (intOf i).toNat)
  case atStart => exact ⟨0, rfl, by omega, by show _ = _; rw [arr_set_same (by simpa [zj] using hc0)]; exact Ha.out, Rx.Keep.refl _ _⟩
  case round =>
    obtain ⟨k, rfl, hk, hg, hK⟩ := hrel
    by_cases hlt : k < 8
    · obtain ⟨xk, hxk, hxl⟩ : ∃ xk : Nat, (cs.setIfInBounds oa (.int .u64 (zj x y k : Nat)))[oa + k]? = some (.int .u64 xk) ∧ xk < 18446744073709551616 ∧ ∃ yk : Nat, w.cell? ⟨b, ob + k, none⟩ = some (.int .u64 yk) ∧ yk < 18446744073709551616 ∧
          (cs.setIfInBounds oa (.int .u64 (zj x y k : Nat))).setIfInBounds (oa + k) (.int .u64 (xk ||| yk : Nat)) = cs.setIfInBounds oa (.int .u64 (zj x y (k + 1) : Nat)) := by
        cases k with
        | zero =>
          refine ⟨x, by rw [Nat.add_zero, Array.getElem?_setIfInBounds, if_pos rfl, if_pos hlo]; rfl, hx, y, Hb.out.1, hy, ?_⟩
          rw [Nat.add_zero, Array.setIfInBounds_setIfInBounds]; rfl
        | succ k =>
          have e1 : (cs.setIfInBounds oa (.int .u64 (zj x y (k + 1) : Nat)))[oa + (k + 1)]? = some (.int .u64 0) := by
            rw [Array.getElem?_setIfInBounds, if_neg (by omega)]; exact hci (k + 1) (by omega) hlt
          refine ⟨0, e1, by omega, 0, Hb.out.2 (k + 1) (by omega) hlt, by omega, ?_⟩
          rw [show ((0 ||| 0 : Nat) : Int) = 0 from rfl, arr_set_same e1]; rfl
      obtain ⟨hxl, yk, hyk, hyl, hset⟩ := hxl
      have c0 : wr.cell? ⟨a, oa + k, none⟩ = some (.int .u64 xk) := (blk_cell hg.out (oa + k)).trans hxk
      have f0 := blk_frozen hg.out (oa + k)
      have c1 : wr.cell? ⟨b, ob + k, none⟩ = some (.int .u64 yk) := (World.cell?_of_block (w := w) (a := ⟨b, ob + k, none⟩) (hK.out.block b hbl (fun h => hab h.symm))).trans hyk
      have hor := bits_or_u64_nat xk yk hxl hyl
      clear hxk hyk hci hc0
      have Hset := Lib.hid hset
      clear hset
      go_upto_region 2 with fail
      go_region
      go_wp2_with fail
      go_region
      go_wp2_with fail
      go_roundw
      case rel =>
        refine ⟨k + 1, by go_num, by omega, ?_, ?_⟩
        · show _ = _
          have h2 := blk_set_self (w := wr.drew.drew) hg.out (oa + k) (.int .u64 (xk ||| yk : Nat))
          rw [Hset.out] at h2
          exact h2
        · show Rx.Keep _ _ _
          exact ((hK.out.drewN 1).drewN 1).set (oa + k) _
      case measure => simp [intOf]; omega
    · have hk8 : k = 8 := by omega
      subst hk8
      go_wp2_with fail
      refine bodyPost_end (results_none rfl _ _ _) rfl ?_
      exact ⟨rfl, hK.out, hg.out⟩
end Go.Proofs.YtghlodpbbghcoaaGreatDoor

/- setOf of package dfa: walked. -/
namespace Go.Proofs.YtghlodpbbghcoaaGreatDoor
open Go.RowKit
theorem pow64 {p : Nat} (h : p < 64) : 2 ^ p < 18446744073709551616 := Nat.lt_of_lt_of_eq (Nat.pow_lt_pow_right (by decide : 1 < 2) h) (by decide)
theorem wrap_pow {p : Nat} (h : p < 64) : IntKind.u64.wrap ((2 : Int) ^ p) = ((2 ^ p : Nat) : Int) := by
  have h1 := pow64 h
  have e3 : ((2 : Int) ^ p) = ((2 ^ p : Nat) : Int) := by simp
  rw [IntKind.wrap_u64, e3]
  generalize 2 ^ p = m at h1 ⊢
  omega
theorem setV_size (x : Nat) : (setV x).size = 8 := rfl
theorem info162 (x : Nat) : (Tryz.prog.info? 162).map (·.size) = some (setV x).size := by show _ = some 8; kernel_rfl
theorem zero162 : (#[.int .u64 0, .int .u64 0, .int .u64 0, .int .u64 0, .int .u64 0, .int .u64 0, .int .u64 0, .int .u64 0] : Array Value) = setV 0 := rfl
theorem setV_one (x : Nat) : (setV x).all (·.oneCell') = true := by simp [setV, Value.oneCell']
theorem setV_set (x y : Nat) : (setV x).setIfInBounds 0 (.int .u64 y) = setV y := rfl
theorem setV_get (x : Nat) {i : Nat} (h0 : 0 < i) (h : i < 8) : (setV x)[i]? = some (.int .u64 0) := by
  match i, h0, h with
  | 1, _, _ | 2, _, _ | 3, _, _ | 4, _, _ | 5, _, _ | 6, _, _ | 7, _, _ => rfl
/-- A block that is one set. -/
def SetBlk (w : World) (g x : Nat) : Prop := w.heap[g]? = some (.cells (setV x) 162 (0, 0))
theorem SetBlk.at_ {w : World} {g x : Nat} (h : SetBlk w g x) : SetAt w g 0 x := by
  refine ⟨(blk_cell h 0).trans rfl, fun i h0 h8 => ?_⟩
  rw [Nat.zero_add]
  exact (blk_cell h i).trans (setV_get x h0 h8)
theorem SetBlk.there {w : World} {g x : Nat} (h : SetBlk w g x) (y : Nat) : w.there g 0 (setV y).size := by
  intro j hj
  rw [setV_size] at hj
  rw [Nat.zero_add]
  refine ⟨?_, blk_frozen h j⟩
  rw [blk_cell h j]
  match j, hj with
  | 0, _ | 1, _ | 2, _ | 3, _ | 4, _ | 5, _ | 6, _ | 7, _ => rfl
theorem SetBlk.stored {w : World} {g x : Nat} (h : SetBlk w g x) (y : Nat) : SetBlk (w.setCells g 0 (setV y).toList) g y := by
  have := Rx.blk_setCellsAll (setV y).toList [.int .u64 x, .int .u64 0, .int .u64 0, .int .u64 0, .int .u64 0, .int .u64 0, .int .u64 0, .int .u64 0] [] w (by simp [setV]) (by simpa [SetBlk, setV] using h)
  simpa [SetBlk, setV] using this
/-- A set of states below k, as a value; the call leaves what lay. -/
def SetOut (k : Nat) (w : World) (e : Ending) (w' : World) : Prop := (∃ z, z < 2 ^ k ∧ e = .returned (.agg (setV z))) ∧ Below w.heap.size w w'

set_option maxHeartbeats 1600000 in
theorem setOf_any (k : Nat) (l : List Int) (A : Option Addr) (c : Nat) (w : World) (hk : k ≤ 8) (hn : l.length ≤ 1000000000) (hl : Rx.IntsAt w w.heap.size A l) (hin : ∀ q ∈ l, 0 ≤ q ∧ q < (k : Int)) :
    Calls Tryz.prog 126 #[.slice A l.length c] w (SetOut k w) := by
  go_enter Tryz.func126, Tryz.ntmps126
  go_upto_region 2 with fail
  rw [zero162]
  generalize hw1 : (w.alloc (.cells (setV 0) 162)).alloc (.cells (setV 0) 162) = w1
  have g0 : SetBlk w1 w.heap.size 0 := by subst hw1; exact blk_alloc (blk_new _ _) _
  have g1 : SetBlk w1 (w.heap.size + 1) 0 := by subst hw1; exact blk_new' (by simp)
  have hb : Below w.heap.size w w1 := by subst hw1; exact ((Below.refl _ _).alloc (Nat.le_refl _) _).alloc (by simp) _
  clear hw1
  have G0 := Lib.hid g0
  have G1 := Lib.hid g1
  clear g0 g1
  go_wp2_with fail
  go_loopw [8] (fun i wr => ∃ (j z : Nat), i = .int .i64 j ∧ j ≤ l.length ∧ z < 2 ^ k ∧ Hid (SetBlk wr w.heap.size 0) ∧ Hid (SetBlk wr (w.heap.size + 1) z) ∧ Hid (Below w.heap.size w wr)) (fun i _ => l.length - (intOf i).toNat)
  case atStart => exact ⟨0, 0, rfl, by omega, Nat.pow_pos (by omega), G0, G1, hb⟩
  case round =>
    clear G0 G1 hb
    obtain ⟨j, z, rfl, hj, hz, hg0, hg1, hb⟩ := hrel
    by_cases hlt : j < l.length
    · obtain ⟨b, o, q, rfl, hbB, hq, cq⟩ := Rx.int_at hl hb.out hlt
      obtain ⟨h1, h2⟩ := hin q (List.mem_of_getElem? hq.out)
      obtain ⟨p, rfl⟩ := Int.eq_ofNat_of_zero_le h1
      have hp : p < k := by omega
      have d1 : (p : Int).tdiv 64 = 0 := Int.tdiv_eq_zero_of_lt (by omega) (by omega)
      have d2 : (p : Int).tmod 64 = p := Int.tmod_eq_of_lt (by omega) (by omega)
      have c0 : wr.cell? ⟨w.heap.size + 1, 0, none⟩ = some (.int .u64 z) := hg1.out.at_.1
      have f0 := blk_frozen hg1.out 0
      go_upto_region 5 with fail
      go_region
      go_wp2_with fail
      go_roundw
      case rel =>
        have e2 := wrap_pow (p := p) (by omega)
        have hzl : z < 18446744073709551616 := Nat.lt_of_lt_of_le hz (Nat.le_trans (Nat.pow_le_pow_right (by decide) hk) (by decide))
        have hpl := pow64 (p := p) (by omega)
        rw [e2, bits_or_u64_nat z (2 ^ p) hzl hpl]
        refine ⟨j + 1, z ||| 2 ^ p, by go_num, by omega, Nat.or_lt_two_pow hz (Nat.pow_lt_pow_right (by decide) hp), ?_, ?_, ?_⟩
        · exact blk_set hg0.out (by simp) _
        · exact blk_set_self hg1.out 0 _
        · exact (hb.out.setCell (p := ⟨w.heap.size + 1, 0, none⟩) (by simp) _).drew
      case measure => simp [intOf]; omega
    · have hj' : j = l.length := by omega
      subst hj'
      have hst := Lib.hid (hg0.out.stored z)
      have hth := Lib.hid (hg0.out.there z)
      have hi := Lib.hid (info162 z)
      have h1 := Lib.hid (setV_one z)
      have hG : Hid (wr.heap[w.heap.size + 1]? = some (.cells (setV z) 162 (0, 0))) := hg1.out
      have hfin : Hid (∃ y, y < 2 ^ k ∧ Ending.returned (.agg (setV z)) = .returned (.agg (setV y))) := ⟨z, hz, rfl⟩
      clear hg0 hg1
      unfold SetBlk at hst
      generalize setV z = cs at hst hth hi h1 hG hfin
      go_wp2_with (first | ((with_reducible show wpList _ _ _ (⟨some 22, _, _, _, _, _⟩ :: _) _ _); refine wpList_load_row rfl 162 _ rfl (w.heap.size + 1) rfl 162 _ (0, 0) _ hG.out Tryz.underlying162 rfl hi.out ?_) | ((with_reducible show wpList _ _ _ (⟨none, _, _, _, _, _⟩ :: _) _ _); refine wpList_store_mid rfl 162 _ _ rfl w.heap.size 0 _ rfl rfl hth.out hi.out h1.out ?_))
      exact bodyPost_ret (results_cell_row rfl _ _ w.heap.size 162 _ _ _ rfl hst.out Tryz.underlying162 rfl hi.out) rfl ⟨hfin.out, Rx.below_setCells (Nat.le_refl _) _ _ _ hb.out⟩
end Go.Proofs.YtghlodpbbghcoaaGreatDoor

/- (steps).of of package dfa: walked. -/
namespace Go.Proofs.YtghlodpbbghcoaaGreatDoor
open Go.RowKit
/-- The sets of n states and 95 signs, side by side; each below k. -/
def StepsAt (w : World) (B : Nat) (A : Option Addr) (n k : Nat) : Prop :=
  ∃ b o, A = some ⟨b, o, none⟩ ∧ b < B ∧ ∀ q s, q < n → s < 95 → ∃ x, x < 2 ^ k ∧ SetAt w b (o + q * 760 + s * 8) x
theorem SetAt.below {w w' : World} {b o x B : Nat} (h : SetAt w b o x) (hb : Below B w w') (hB : b < B) : SetAt w' b o x :=
  ⟨(hb.cell (p := ⟨b, o, none⟩) hB).trans h.1, fun i h0 h8 => (hb.cell (p := ⟨b, o + i, none⟩) hB).trans (h.2 i h0 h8)⟩
theorem StepsAt.below {w w' : World} {B : Nat} {A : Option Addr} {n k : Nat} (h : StepsAt w B A n k) (hb : Below B w w') : StepsAt w' B A n k := by
  obtain ⟨b, o, rfl, hB, h⟩ := h
  exact ⟨b, o, rfl, hB, fun q s hq hs => by obtain ⟨x, hx, h⟩ := h q s hq hs; exact ⟨x, hx, h.below hb hB⟩⟩
theorem TzTab.lt {w : World} (h : TzTab w) : 1 < w.heap.size := by
  rcases Nat.lt_or_ge 1 w.heap.size with h' | h'
  · exact h'
  · have := h 0 (by decide)
    simp [World.cell?, Array.getElem?_eq_none h'] at this
theorem TzTab.below {w w' : World} {B : Nat} (h : TzTab w) (hb : Below B w w') (hB : 1 < B) : TzTab w' := fun j hj => (hb.cell (p := ⟨1, j, none⟩) hB).trans (h j hj)
theorem ctz_lt {m n : Nat} (h0 : m ≠ 0) (hm : m < 2 ^ n) (hn : n ≤ 8) : Lib.ctz 64 m < n := by
  have h64 : m < 18446744073709551616 := Nat.lt_trans hm (pow64 (by omega))
  obtain ⟨h1, h2⟩ := Lib.lowest_bit 64 m h0 h64
  have h3 : 2 ^ Lib.ctz 64 m ≤ m := by rw [← h1]; exact Nat.and_le_left
  exact (Nat.pow_lt_pow_iff_right (by decide : 1 < 2)).1 (Nat.lt_of_le_of_lt h3 hm)

theorem run_index162 {cs : Array Value} {j m : Nat} (hc : cs[j]? = some (.int .u64 m)) (hj : j < 8) (w : World) :
    (Instr.index 162 (.agg cs) (.int .i64 j)).run Tryz.prog w = .ok (.int .u64 m) w := by
  have hn : (0 ≤ (j : Int) ∧ (j : Int) < ((8 : Nat) : Int)) := by omega
  simp [Instr.index, run_underlying Tryz.underlying162, asIntOf, hn, go_sem]
  rw [if_pos hj, hc]
  rfl
set_option maxHeartbeats 3200000 in
set_option maxRecDepth 8192 in
theorem of_any (n x s : Nat) (A : Option Addr) (c : Nat) (w : World) (hn : n ≤ 8) (hx : x < 2 ^ n) (hs : s < 95) (hT : TzTab w) (hA : StepsAt w w.heap.size A n n) :
    Calls Tryz.prog 124 #[.slice A n c, .agg (setV x), .int .i64 s] w (SetOut n w) := by
  go_enter Tryz.func124, Tryz.ntmps124
  go_upto_region 2 with fail
  rw [zero162]
  generalize hw1 : ((w.alloc (.cells (setV x) 162)).alloc (.cells (setV 0) 162)).alloc (.cells (setV 0) 162) = w1
  have g0 : SetBlk w1 w.heap.size x := by subst hw1; exact blk_alloc (blk_alloc (blk_new _ _) _) _
  have g1 : SetBlk w1 (w.heap.size + 1) 0 := by subst hw1; exact blk_alloc (blk_new' (by simp)) _
  have g2 : SetBlk w1 (w.heap.size + 2) 0 := by subst hw1; exact blk_new' (by simp)
  have hb : Below w.heap.size w w1 := by subst hw1; exact (((Below.refl _ _).alloc (Nat.le_refl _) _).alloc (by simp) _).alloc (by simp; omega) _
  clear hw1
  have G0 := Lib.hid g0
  have G1 := Lib.hid g1
  have G2 := Lib.hid g2
  have HT := Lib.hid hT
  have HA := Lib.hid hA
  clear g0 g1 g2 hT hA
  obtain ⟨cs, hcs⟩ : ∃ cs, cs = setV x := ⟨_, rfl⟩
  have hG0 : Hid (w1.heap[w.heap.size]? = some (.cells cs 162 (0, 0))) := by rw [hcs]; exact G0.out
  have hi := Lib.hid (show (Tryz.prog.info? 162).map (·.size) = some cs.size by rw [hcs]; exact info162 x)
  have hc0 : cs[0]? = some (.int .u64 x) := by rw [hcs]; rfl
  have hci : ∀ i, 0 < i → i < 8 → cs[i]? = some (.int .u64 0) := by rw [hcs]; exact fun i => setV_get x
  rw [← hcs]
  clear hcs
  go_wp2_with ((with_reducible show wpList _ _ _ (⟨some 10, _, _, _, _, _⟩ :: _) _ _); refine wpList_load_row rfl 162 _ rfl w.heap.size rfl 162 _ (0, 0) _ hG0.out Tryz.underlying162 rfl hi.out ?_)
  go_loopw [11] (fun i wr => ∃ (j z : Nat), i = .int .i64 j ∧ j ≤ 8 ∧ z < 2 ^ n ∧ Hid (SetBlk wr (w.heap.size + 1) 0) ∧ Hid (SetBlk wr (w.heap.size + 2) z) ∧ Hid (Below w.heap.size w wr)) (fun i _ => 8 - (intOf i).toNat)
  case atStart => exact ⟨0, 0, rfl, by omega, Nat.pow_pos (by omega), G1, G2, hb⟩
  case round =>
    clear G0 G1 G2 hb
    obtain ⟨j, z, rfl, hj, hz, hg1, hg2, hb⟩ := hrel
    by_cases hlt : j < 8
    · obtain ⟨m, hm, hmn, hm0⟩ : ∃ m : Nat, cs[j]? = some (.int .u64 m) ∧ m < 2 ^ n ∧ (m ≠ 0 → j = 0) := by
        cases j with
        | zero => exact ⟨x, hc0, hx, fun _ => rfl⟩
        | succ j => exact ⟨0, hci _ (by omega) hlt, Nat.pow_pos (by omega), fun h => absurd rfl h⟩
      have hix := run_index162 hm hlt
      clear hm
      go_wp2_with fail
      go_loopw [9] (fun i wr => ∃ (m z : Nat), i = .int .u64 m ∧ (m ≠ 0 → j = 0) ∧ m < 2 ^ n ∧ z < 2 ^ n ∧ Hid (SetBlk wr (w.heap.size + 1) 0) ∧ Hid (SetBlk wr (w.heap.size + 2) z) ∧ Hid (Below w.heap.size w wr)) (fun i _ => (intOf i).toNat)
      case atStart => exact ⟨m, z, rfl, hm0, hmn, hz, hg1, hg2, hb⟩
      case round =>
        clear hg1 hg2 hb hmn hm0 hix hc0 hci hz
        have Hlt := Lib.hid hlt
        rename ((j : Int) < 8) => hji
        clear hji hlt
        obtain ⟨m2, z2, rfl, hm02, hmn2, hz2, hg1, hg2, hb⟩ := hrel
        by_cases hmz : m2 = 0
        · subst hmz
          go_wp2_with fail
          go_roundw
          case rel => exact ⟨j + 1, z2, by go_num, by have := Hlt.out; omega, hz2, hg1, hg2, hb⟩
          case measure => have := Hlt.out; simp [intOf]; omega
        · have hj0 : j = 0 := hm02 hmz
          have hmi : ((m2 : Int) == 0) = false := by simp; omega
          have hmi2 : ¬ (m2 : Int) = 0 := by omega
          have hml : m2 < 18446744073709551616 := Nat.lt_trans hmn2 (pow64 (by omega))
          have hzl : z2 < 18446744073709551616 := Nat.lt_trans hz2 (pow64 (by omega))
          obtain ⟨q, hq⟩ : ∃ q, q = Lib.ctz 64 m2 := ⟨_, rfl⟩
          have hqn : q < n := by rw [hq]; exact ctz_lt hmz hmn2 hn
          have hsub : IntKind.u64.wrap ((m2 : Int) - 1) = ((m2 - 1 : Nat) : Int) := by rw [IntKind.wrap_u64]; omega
          have hand : bits .and .u64 (m2 : Int) ((m2 - 1 : Nat) : Int) = ((m2 &&& (m2 - 1) : Nat) : Int) := bits_and_u64_nat m2 (m2 - 1) hml (by omega)
          have hlt2 : m2 &&& (m2 - 1) < m2 := Nat.lt_of_le_of_lt Nat.and_le_right (by omega)
          obtain ⟨b, o, rfl, hbB, hst⟩ := HA.out
          obtain ⟨y, hy, hyA⟩ := hst q s hqn hs
          have hyl : y < 18446744073709551616 := Nat.lt_trans hy (pow64 (by omega))
          have HyA := Lib.hid (hyA.below hb.out hbB)
          have htz := Lib.hid (tz_any m2 hml wr (HT.out.below hb.out HT.out.lt))
          rw [← hq] at htz
          have hszr := hb.out.size
          have hmul : (64 : Int) * (j : Int) + (q : Int) = (q : Int) := by rw [hj0]; simp
          have Hj0 := Lib.hid hj0
          have Hm2 := Lib.hid hm02
          clear hst hyA hq hj0 hm02
          go_wp2_with (first | (go_at_call 137; refine htz.out.mono ?_; rintro e w2 ⟨rfl, e2⟩; obtain rfl := e2.symm) | (go_at_call 136; refine (join_any (w.heap.size + 2) 0 b (o + q * 760 + s * 8) z2 y (setV z2) 162 wr hzl hyl (by omega) hg2.out hg2.out.at_ HyA.out (by omega)).mono ?_; rintro e w3 ⟨rfl, hK3, hh3⟩))
          go_roundw
          case rel =>
            refine ⟨m2 &&& (m2 - 1), z2 ||| y, rfl, fun _ => Hj0.out, Nat.lt_trans hlt2 hmn2, Nat.or_lt_two_pow hz2 hy, ?_, ?_, ?_⟩
            · exact (hK3.block _ (blk_lt hg1.out) (by omega)).trans hg1.out
            · rw [setV_set] at hh3; exact hh3
            · exact hb.out.trans ((hK3.below (by have := blk_lt hg2.out; omega)).mono (by omega))
          case measure => simp [intOf]; omega
    · have hj' : j = 8 := by omega
      subst hj'
      obtain ⟨cz, hcz⟩ : ∃ cz, cz = setV z := ⟨_, rfl⟩
      have hst : Hid ((wr.setCells (w.heap.size + 1) 0 cz.toList).heap[w.heap.size + 1]? = some (.cells cz 162 (0, 0))) := by rw [hcz]; exact hg1.out.stored z
      have hth : Hid (wr.there (w.heap.size + 1) 0 cz.size) := by rw [hcz]; exact hg1.out.there z
      have hi : Hid ((Tryz.prog.info? 162).map (·.size) = some cz.size) := by rw [hcz]; exact info162 z
      have h1 : Hid (cz.all (·.oneCell') = true) := by rw [hcz]; exact setV_one z
      have hG : Hid (wr.heap[w.heap.size + 1 + 1]? = some (.cells cz 162 (0, 0))) := by rw [hcz]; exact hg2.out
      have hfin : Hid (∃ y, y < 2 ^ n ∧ Ending.returned (.agg cz) = .returned (.agg (setV y))) := ⟨z, hz, by rw [hcz]⟩
      clear hg1 hg2 hcz
      go_wp2_with (first | ((with_reducible show wpList _ _ _ (⟨some 32, _, _, _, _, _⟩ :: _) _ _); refine wpList_load_row rfl 162 _ rfl (w.heap.size + 1 + 1) rfl 162 _ (0, 0) _ hG.out Tryz.underlying162 rfl hi.out ?_) | ((with_reducible show wpList _ _ _ (⟨none, _, _, _, _, _⟩ :: _) _ _); refine wpList_store_mid rfl 162 _ _ rfl (w.heap.size + 1) 0 _ rfl rfl hth.out hi.out h1.out ?_))
      exact bodyPost_ret (results_cell_row rfl _ _ (w.heap.size + 1) 162 _ _ _ rfl hst.out Tryz.underlying162 rfl hi.out) rfl ⟨hfin.out, Rx.below_setCells (by omega) _ _ _ hb.out⟩
end Go.Proofs.YtghlodpbbghcoaaGreatDoor

/- borders of package dfa: walked. -/
namespace Go.Proofs.YtghlodpbbghcoaaGreatDoor
open Go.RowKit
/-- Edges whose signs are bytes. -/
def ByteEdges (es : List Rx.Edge) : Prop := ∀ e ∈ es, (0 ≤ e.low ∧ e.low ≤ 255) ∧ 0 ≤ e.high ∧ e.high ≤ 255
theorem info158 {m : List Bool} (h : m.length = 95) : (Tryz.prog.info? 158).map (·.size) = some (Rx.bcells m).size := by
  rw [Rx.bcells_size, h]
  kernel_rfl
theorem zero158 : Tryz.zeroCells158 = Rx.bcells Rx.noneM := by kernel_rfl
/-- A row of 95 truths, as a value. -/
def TruthsOut (w : World) (e : Ending) (w' : World) : Prop := (∃ m : List Bool, m.length = 95 ∧ e = .returned (.agg (Rx.bcells m))) ∧ Below w.heap.size w w'

set_option maxRecDepth 8192 in
set_option maxHeartbeats 3200000 in
theorem borders_any (n : Rx.Net) (A : Option Addr) (c : Nat) (w : World) (hn : n.edges.length ≤ 1000000) (hby : ByteEdges n.edges) (hE : Rx.EdgesAt w w.heap.size A n.edges) :
    Calls Tryz.prog 122 #[.agg #[.int .i64 n.st, .int .i64 n.start, .int .i64 n.fin, .slice A n.edges.length c]] w (TruthsOut w) := by
  go_enter Tryz.func122, Tryz.ntmps122
  go_upto_region 2 with fail
  rw [zero158]
  generalize hw1 : ((w.alloc (.cells #[.int .i64 n.st, .int .i64 n.start, .int .i64 n.fin, .slice A n.edges.length c] 143)).alloc (.cells (Rx.bcells Rx.noneM) 158)).alloc (.cells (Rx.bcells Rx.noneM) 158) = w1
  have g0 : w1.heap[w.heap.size]? = some (.cells #[.int .i64 n.st, .int .i64 n.start, .int .i64 n.fin, .slice A n.edges.length c] 143 (0, 0)) := by subst hw1; exact blk_alloc (blk_alloc (blk_new _ _) _) _
  have g1 : w1.heap[w.heap.size + 1]? = some (.cells (Rx.bcells Rx.noneM) 158 (0, 0)) := by subst hw1; exact blk_alloc (blk_new' (by simp)) _
  have g2 : w1.heap[w.heap.size + 1 + 1]? = some (.cells (Rx.bcells Rx.noneM) 158 (0, 0)) := by subst hw1; exact blk_new' (by simp)
  have hb : Below w.heap.size w w1 := by subst hw1; exact (((Below.refl _ _).alloc (Nat.le_refl _) _).alloc (by simp) _).alloc (by simp; omega) _
  clear hw1
  have c3 : w1.cell? ⟨w.heap.size, 3, none⟩ = some (.slice A n.edges.length c) := blk_cell g0 3
  have d0 : w1.cell? ⟨w.heap.size + 1 + 1, 0, none⟩ = some (.bool false) := (blk_cell g2 0).trans (Rx.bcells_get (by rw [Rx.noneM_length]; omega))
  have f0 := blk_frozen g2 0
  have G0 := Lib.hid g0
  have G1 := Lib.hid g1
  have G2 := Lib.hid g2
  have HE := Lib.hid hE
  clear g0 g1 g2 hE
  go_wp2_with fail
  go_loopw [12] (fun i wr => ∃ (k : Nat) (m : List Bool), i = .int .i64 k ∧ k ≤ n.edges.length ∧ m.length = 95 ∧ Hid (wr.heap[w.heap.size + 1]? = some (.cells (Rx.bcells Rx.noneM) 158 (0, 0))) ∧ Hid (wr.heap[w.heap.size + 1 + 1]? = some (.cells (Rx.bcells m) 158 (0, 0))) ∧ Hid (Below w.heap.size w wr)) (fun i _ => n.edges.length - (intOf i).toNat)
  case atStart =>
    refine ⟨0, Rx.noneM.set 0 true, rfl, by omega, by rw [List.length_set, Rx.noneM_length], ?_, ?_, ?_⟩
    · exact blk_set G1.out (by simp) _
    · show _ = _
      rw [← Rx.bcells_set]
      exact blk_set_self G2.out 0 _
    · exact hb.setCell (p := ⟨w.heap.size + 1 + 1, 0, none⟩) (by simp; omega) _
  case round =>
    clear G0 G1 G2 hb c3 d0 f0
    obtain ⟨k, m, rfl, hk, hm, hg1, hg2, hb⟩ := hrel
    by_cases hlt : k < n.edges.length
    · obtain ⟨b, o, e, rfl, hbB, he, ce0, ce1, ce2, ce3⟩ := Rx.edge_at HE.out hb.out hlt
      obtain ⟨⟨hl0, hl1⟩, hh0, hh1⟩ := hby e (List.mem_of_getElem? he.out)
      have hsz := hb.out.size
      go_upto_region 6 with fail
      have hg1' : Hid ((wr.alloc (.cells #[.int .i64 e.frm, .int .i64 e.to, .int .u8 e.low, .int .u8 e.high] 185)).heap[w.heap.size + 1]? = some (.cells (Rx.bcells Rx.noneM) 158 (0, 0))) := blk_alloc hg1.out _
      have hg2' : Hid ((wr.alloc (.cells #[.int .i64 e.frm, .int .i64 e.to, .int .u8 e.low, .int .u8 e.high] 185)).heap[w.heap.size + 1 + 1]? = some (.cells (Rx.bcells m) 158 (0, 0))) := blk_alloc hg2.out _
      have hb' : Hid (Below w.heap.size w (wr.alloc (.cells #[.int .i64 e.frm, .int .i64 e.to, .int .u8 e.low, .int .u8 e.high] 185))) := hb.out.alloc hsz _
      have x2 : (wr.alloc (.cells #[.int .i64 e.frm, .int .i64 e.to, .int .u8 e.low, .int .u8 e.high] 185)).cell? ⟨wr.heap.size, 2, none⟩ = some (.int .u8 e.low) := blk_cell (blk_new _ _) 2
      have x3 : (wr.alloc (.cells #[.int .i64 e.frm, .int .i64 e.to, .int .u8 e.low, .int .u8 e.high] 185)).cell? ⟨wr.heap.size, 3, none⟩ = some (.int .u8 e.high) := blk_cell (blk_new _ _) 3
      generalize wr.alloc (.cells #[.int .i64 e.frm, .int .i64 e.to, .int .u8 e.low, .int .u8 e.high] 185) = w2 at hg1' hg2' hb' x2 x3 ⊢
      clear hg1 hg2 hb
      go_region
      have q0 : (32 : Int) ≤ max e.low 32 := by omega
      have q1 : max e.low 32 ≤ 255 := by omega
      have q2 : min e.high 126 ≤ 126 := by omega
      have q3 : (0 : Int) ≤ min e.high 126 := by omega
      generalize max e.low 32 = lo at q0 q1 ⊢
      generalize min e.high 126 = hi at q2 q3 ⊢
      obtain ⟨L, hL⟩ := Int.eq_ofNat_of_zero_le (show 0 ≤ lo - 32 by omega)
      obtain rfl : lo = 32 + (L : Int) := by omega
      clear ce0 ce1 ce2 ce3 x2 x3 hL
      by_cases hlh : hi < 32 + (L : Int)
      · go_wp2_with fail
        go_roundw
        case rel => exact ⟨k + 1, m, by go_num, by omega, hm, hg1'.out, hg2'.out, hb'.out.drew⟩
        case measure => simp [intOf]; omega
      · obtain ⟨H, hH⟩ := Int.eq_ofNat_of_zero_le (show 0 ≤ hi - 32 by omega)
        obtain rfl : hi = 32 + (H : Int) := by omega
        have hLH : L ≤ H := by omega
        have hH94 : H ≤ 94 := by omega
        clear hH
        have y0 : w2.cell? ⟨w.heap.size + 1 + 1, L, none⟩ = some (.bool (m.getD L false)) := (blk_cell hg2'.out L).trans (Rx.bcells_get (by omega))
        have z0 := blk_frozen hg2'.out L
        by_cases h94 : H < 94
        · have h94i : (32 : Int) + (H : Int) < 126 := by omega
          go_upto_region 10 with fail
          have k1 : Hid ((w2.setCell ⟨w.heap.size + 1 + 1, L, none⟩ (.bool true)).heap[w.heap.size + 1]? = some (.cells (Rx.bcells Rx.noneM) 158 (0, 0))) := blk_set hg1'.out (by simp) _
          have k2 : Hid ((w2.setCell ⟨w.heap.size + 1 + 1, L, none⟩ (.bool true)).heap[w.heap.size + 1 + 1]? = some (.cells (Rx.bcells (m.set L true)) 158 (0, 0))) := by
            show _ = _
            rw [← Rx.bcells_set]
            exact blk_set_self hg2'.out L _
          have k3 : Hid (Below w.heap.size w (w2.setCell ⟨w.heap.size + 1 + 1, L, none⟩ (.bool true))) := hb'.out.setCell (p := ⟨w.heap.size + 1 + 1, L, none⟩) (by simp; omega) _
          generalize w2.setCell ⟨w.heap.size + 1 + 1, L, none⟩ (.bool true) = w3 at k1 k2 k3 ⊢
          clear y0 z0 hg1' hg2' hb'
          have hoff : 32 + H - 31 = H + 1 := by omega
          have y1 : w3.cell? ⟨w.heap.size + 1 + 1, 32 + H - 31, none⟩ = some (.bool ((m.set L true).getD (H + 1) false)) := by
            rw [hoff]
            exact (blk_cell k2.out (H + 1)).trans (Rx.bcells_get (by simp; omega))
          have z1 := blk_frozen k2.out (32 + H - 31)
          have Hoff := Lib.hid hoff
          clear hoff
          go_wp2_with fail
          go_roundw
          case rel =>
            refine ⟨k + 1, (m.set L true).set (H + 1) true, by go_num, by omega, by simp [hm], ?_, ?_, ?_⟩
            · exact blk_set k1.out (by simp) _
            · show _ = _
              rw [← Rx.bcells_set, ← Hoff.out]
              exact blk_set_self k2.out (32 + H - 31) _
            · exact (k3.out.setCell (p := ⟨w.heap.size + 1 + 1, 32 + H - 31, none⟩) (by simp; omega) _).drew
          case measure => simp [intOf]; omega
        · have h94i : ¬ (32 : Int) + (H : Int) < 126 := by omega
          go_wp2_with fail
          go_roundw
          case rel =>
            refine ⟨k + 1, m.set L true, by go_num, by omega, by simp [hm], ?_, ?_, ?_⟩
            · exact blk_set hg1'.out (by simp) _
            · show _ = _
              rw [← Rx.bcells_set]
              exact blk_set_self hg2'.out L _
            · exact hb'.out.drew.setCell (p := ⟨w.heap.size + 1 + 1, L, none⟩) (by simp; omega) _
          case measure => simp [intOf]; omega
    · have hk' : k = n.edges.length := by omega
      subst hk'
      obtain ⟨cz, hcz⟩ : ∃ cz, cz = Rx.bcells m := ⟨_, rfl⟩
      have hst : Hid ((wr.setCells (w.heap.size + 1) 0 cz.toList).heap[w.heap.size + 1]? = some (.cells cz 158 (0, 0))) := by
        have h := Rx.blk_setCellsAll cz.toList (Rx.noneM.map Value.bool) [] wr (by rw [hcz]; simp [Rx.bcells, hm, Rx.noneM_length]) hg1.out
        show _ = _
        simpa using h
      have hth : Hid (wr.there (w.heap.size + 1) 0 cz.size) := by
        intro j hj
        have hj2 : j < 95 := by rw [hcz, Rx.bcells_size] at hj; omega
        rw [Nat.zero_add]
        refine ⟨?_, blk_frozen hg1.out j⟩
        rw [blk_cell hg1.out j, Rx.bcells_get (by rw [Rx.noneM_length]; exact hj2)]; rfl
      have hi : Hid ((Tryz.prog.info? 158).map (·.size) = some cz.size) := by rw [hcz]; exact info158 hm
      have h1 : Hid (cz.all (·.oneCell') = true) := by rw [hcz]; exact Rx.bcells_one m
      have hG : Hid (wr.heap[w.heap.size + 1 + 1]? = some (.cells cz 158 (0, 0))) := by rw [hcz]; exact hg2.out
      have hfin : Hid (∃ m : List Bool, m.length = 95 ∧ Ending.returned (.agg cz) = .returned (.agg (Rx.bcells m))) := ⟨m, hm, by rw [hcz]⟩
      clear hg1 hg2 hcz
      go_wp2_with (first | ((with_reducible show wpList _ _ _ (⟨some 37, _, _, _, _, _⟩ :: _) _ _); refine wpList_load_row rfl 158 _ rfl (w.heap.size + 1 + 1) rfl 158 _ (0, 0) _ hG.out Tryz.underlying158 rfl hi.out ?_) | ((with_reducible show wpList _ _ _ (⟨none, _, _, _, _, _⟩ :: _) _ _); refine wpList_store_mid rfl 158 _ _ rfl (w.heap.size + 1) 0 _ rfl rfl hth.out hi.out h1.out ?_))
      exact bodyPost_ret (results_cell_row rfl _ _ (w.heap.size + 1) 158 _ _ _ rfl hst.out Tryz.underlying158 rfl hi.out) rfl ⟨hfin.out, Rx.below_setCells (by omega) _ _ _ hb.out⟩
end Go.Proofs.YtghlodpbbghcoaaGreatDoor

/- Rows of sets: as they are made, read and stored. -/
namespace Go.Proofs.YtghlodpbbghcoaaGreatDoor
open Go.RowKit
/-- The cells of N sets side by side. -/
def cellsF (f : Nat → Nat) (N : Nat) : Array Value := (Array.range (N * 8)).map fun k => .int .u64 (if k % 8 = 0 then (f (k / 8) : Nat) else 0 : Nat)
theorem cellsF_size (f : Nat → Nat) (N : Nat) : (cellsF f N).size = N * 8 := by simp [cellsF]
theorem cellsF_get (f : Nat → Nat) {N k : Nat} (h : k < N * 8) : (cellsF f N)[k]? = some (.int .u64 (if k % 8 = 0 then (f (k / 8) : Nat) else 0 : Nat)) := by
  unfold cellsF
  rw [Array.getElem?_map, Array.getElem?_range, if_pos h]
  rfl
def upd (f : Nat → Nat) (i x : Nat) : Nat → Nat := fun j => if j = i then x else f j
theorem cellsF_set (f : Nat → Nat) {N i : Nat} (x : Nat) (h : i < N) : (cellsF f N).setIfInBounds (i * 8) (.int .u64 x) = cellsF (upd f i x) N := by
  apply Array.ext_getElem?
  intro k
  rw [Array.getElem?_setIfInBounds]
  by_cases hk : k < N * 8
  · rw [cellsF_get _ hk, cellsF_get _ hk]
    by_cases e : i * 8 = k
    · subst e
      rw [if_pos rfl, if_pos (by rw [cellsF_size]; omega)]
      rw [if_pos (by omega), show i * 8 / 8 = i by omega]
      simp [upd]
    · rw [if_neg e]
      by_cases h8 : k % 8 = 0
      · rw [if_pos h8, if_pos h8]
        have : k / 8 ≠ i := by omega
        simp [upd, this]
      · rw [if_neg h8, if_neg h8]
  · rw [Array.getElem?_eq_none (by rw [cellsF_size]; omega), Array.getElem?_eq_none (by rw [cellsF_size]; omega)]
    split
    · rw [if_neg (by rw [cellsF_size]; omega)]
    · rfl
/-- A block that is a row of N sets. -/
def SetsBlk (w : World) (g : Nat) (f : Nat → Nat) (N : Nat) (T : TypeId) : Prop := w.heap[g]? = some (.cells (cellsF f N) T (0, 0))
theorem SetsBlk.at_ {w : World} {g : Nat} {f : Nat → Nat} {N : Nat} {T : TypeId} (h : SetsBlk w g f N T) {i : Nat} (hi : i < N) : SetAt w g (i * 8) (f i) := by
  refine ⟨?_, fun j h0 h8 => ?_⟩
  · rw [blk_cell h, cellsF_get _ (by omega), if_pos (by omega), show i * 8 / 8 = i by omega]
  · rw [blk_cell h, cellsF_get _ (by omega), if_neg (by omega)]
    rfl
theorem SetsBlk.there {w : World} {g : Nat} {f : Nat → Nat} {N : Nat} {T : TypeId} (h : SetsBlk w g f N T) {i : Nat} (hi : i < N) (x : Nat) : w.there g (i * 8) (setV x).size := by
  intro j hj
  rw [setV_size] at hj
  refine ⟨?_, blk_frozen h _⟩
  rw [blk_cell h, cellsF_get _ (by omega)]
  rfl
theorem blk_setSet {w : World} {g o x : Nat} {cs : Array Value} {T : TypeId} (h : w.heap[g]? = some (.cells cs T (0, 0))) (hz : ∀ i, 0 < i → i < 8 → cs[o + i]? = some (.int .u64 0)) :
    (w.setCells g o (setV x).toList).heap[g]? = some (.cells (cs.setIfInBounds o (.int .u64 x)) T (0, 0)) := by
  have z : ∀ i, 0 < i → i < 8 → (cs.setIfInBounds o (.int .u64 x))[o + i]? = some (.int .u64 0) := fun i h0 h8 => by
    rw [Array.getElem?_setIfInBounds, if_neg (by omega)]; exact hz i h0 h8
  have step : ∀ (w : World) (i : Nat), 0 < i → i < 8 → w.heap[g]? = some (.cells (cs.setIfInBounds o (.int .u64 x)) T (0, 0)) → (w.setCell ⟨g, o + i, none⟩ (.int .u64 0)).heap[g]? = some (.cells (cs.setIfInBounds o (.int .u64 x)) T (0, 0)) := fun w i h0 h8 hw => by
    have := blk_set_self hw (o + i) (.int .u64 0)
    rwa [arr_set_same (z i h0 h8)] at this
  exact step _ 7 (by omega) (by omega) (step _ 6 (by omega) (by omega) (step _ 5 (by omega) (by omega) (step _ 4 (by omega) (by omega) (step _ 3 (by omega) (by omega) (step _ 2 (by omega) (by omega) (step _ 1 (by omega) (by omega) (blk_set_self h o _)))))))
theorem SetsBlk.stored {w : World} {g : Nat} {f : Nat → Nat} {N : Nat} {T : TypeId} (h : SetsBlk w g f N T) {i : Nat} (hi : i < N) (x : Nat) : SetsBlk (w.setCells g (i * 8) (setV x).toList) g (upd f i x) N T := by
  have := blk_setSet (x := x) h (o := i * 8) (fun j h0 h8 => by rw [cellsF_get _ (by omega), if_neg (by omega)]; rfl)
  rwa [cellsF_set _ _ hi] at this
theorem cellsF0 (N : Nat) (z : Array Value) (M : Nat) (hM : 0 < M) (hz : z = (List.replicate (M * 8) (Value.int .u64 0)).toArray) : madeCells z (N * (M * 8)) = cellsF (fun _ => 0) (N * M) := by
  unfold madeCells
  apply Array.ext_getElem?
  intro k
  by_cases hk : k < N * (M * 8)
  · have hk2 : k < N * M * 8 := by rw [Nat.mul_assoc]; exact hk
    rw [cellsF_get _ hk2, Array.getElem?_map, Array.getElem?_range, if_pos hk]
    have hm : k % z.size < M * 8 := by rw [hz]; simp; exact Nat.mod_lt _ (by omega)
    have h1 : z[k % z.size]? = some (.int .u64 0) := by
      generalize k % z.size = j at hm
      rw [hz, List.getElem?_toArray, List.getElem?_replicate, if_pos hm]
    simp only [Option.map_some, Option.some.injEq]
    rw [getElem!_def, h1]
    simp
  · rw [Array.getElem?_eq_none (by simp; omega), Array.getElem?_eq_none (by rw [cellsF_size, Nat.mul_assoc]; omega)]
theorem made162 : (Tryz.prog.info? 162).map (fun i => (i.zero, i.size, i.bytes)) = some (some (.agg (setV 0)), 8, 64) := by kernel_rfl
theorem made186 : (Tryz.prog.info? 186).map (fun i => (i.zero, i.size, i.bytes)) = some (some (.agg Tryz.zeroCells186), 760, 6080) := by kernel_rfl
theorem zero186 : Tryz.zeroCells186 = (List.replicate (95 * 8) (Value.int .u64 0)).toArray := by kernel_rfl
theorem setV0_rep : setV 0 = (List.replicate (1 * 8) (Value.int .u64 0)).toArray := by kernel_rfl
theorem make164 (N : Nat) (hN : N ≤ 8) (w : World) : (Instr.makeSlice 164 (.int .i64 (N : Int)) (.int .i64 (N : Int))).run Tryz.prog w = .ok (.slice (some ⟨w.heap.size, 0, none⟩) N N) (w.alloc (.cells (cellsF (fun _ => 0) N) 162)) := by
  obtain ⟨i, hi, hz, hs, hb⟩ := info_parts made162
  have h := run_make (P := Tryz.prog) (w := w) 164 162 i _ Tryz.underlying164 hi hz .i64 .i64 (N : Int) (N : Int) (by omega) (by omega) (by rw [hb]; omega) (by omega)
  rw [h, hs]
  have e := cellsF0 N (setV 0) 1 (by omega) setV0_rep
  simp only [Int.toNat_natCast]
  rw [show N * 8 = N * (1 * 8) by omega]
  show Result.ok _ (w.alloc (.cells (madeCells (setV 0) _) 162)) = _
  rw [e, Nat.mul_one]
theorem make156 (N : Nat) (hN : N ≤ 8) (w : World) : (Instr.makeSlice 156 (.int .i64 (N : Int)) (.int .i64 (N : Int))).run Tryz.prog w = .ok (.slice (some ⟨w.heap.size, 0, none⟩) N N) (w.alloc (.cells (cellsF (fun _ => 0) (N * 95)) 186)) := by
  obtain ⟨i, hi, hz, hs, hb⟩ := info_parts made186
  have h := run_make (P := Tryz.prog) (w := w) 156 186 i _ Tryz.underlying156 hi hz .i64 .i64 (N : Int) (N : Int) (by omega) (by omega) (by rw [hb]; omega) (by omega)
  rw [h, hs]
  have e := cellsF0 N Tryz.zeroCells186 95 (by omega) zero186
  simp only [Int.toNat_natCast]
  rw [show N * 760 = N * (95 * 8) by omega]
  show Result.ok _ (w.alloc (.cells (madeCells Tryz.zeroCells186 _) 186)) = _
  rw [e]
end Go.Proofs.YtghlodpbbghcoaaGreatDoor
