/- Walks over the document's parser: what stands in brackets. -/
import Derived.Test.YtaefhfldgemcnaaR30
import Derived.Test.YtaefhfldgemcnaaP9
import Derived.Deep.DeepCutAuto
namespace Go.Proofs.Ytaefhfldgemcnaa
open Go.RowKit

/-- A sign, in one form for both ends. -/
def Plain2 (A : Option Addr) (n c : Nat) (s : ByteArray) (bad : Bool) (r : Option (UInt8 × Nat)) (w : World) (e : Ending) (w' : World) : Prop :=
  ∃ (k' : Nat) (b' : Bool) (ch : UInt8), e = .returned (.tuple #[pvOf A n c s k' b', .int .u8 ch.toNat]) ∧ k' ≤ s.size ∧ Hid ((r = some (ch, k') ∧ b' = bad) ∨ (r = none ∧ b' = true)) ∧ Below w.heap.size w w'
theorem refPlain2_any (A : Option Addr) (n c : Nat) (s odd : ByteArray) (ol : List UInt8) (ho : odd.data.toList = ol) (hod : odd.size ≤ 1000) (k : Nat) (bad : Bool) (w : World) (hk : k ≤ s.size) (hs : s.size ≤ 1000) :
    Calls Try.prog 86 #[pvOf A n c s k bad, .string odd] w (Plain2 A n c s bad (signF s k ol) w) := by
  refine (refPlain_any A n c s odd ol ho hod k bad w hk hs).mono ?_
  rintro e w' ⟨h1, h2⟩
  cases hr : signF s k ol with
  | none =>
    rw [hr] at h1
    obtain ⟨k', hk', rfl⟩ := h1
    exact ⟨k', true, 32, rfl, hk', .inr ⟨rfl, rfl⟩, h2⟩
  | some p =>
    obtain ⟨ch, k'⟩ := p
    rw [hr] at h1
    subst h1
    exact ⟨k', bad, ch, rfl, (signF_some hr).2.1, .inl ⟨rfl, rfl⟩, h2⟩

/-- What the document's parser of a piece of text hands back. -/
def PPost (P : Nat → Prop) (s : ByteArray) (ns : List RN) (r : Option (T × Nat)) (more ex last lastN : Nat) (w : World) (e : Ending) (w' : World) : Prop :=
  ∃ (A : Option Addr) (c : Nat) (ms : List RN) (K k' : Nat) (bad : Bool), e = .returned (.tuple #[pvOf A (ns ++ ms).length c s k' bad, .int .i64 K]) ∧ Hid (NodesAt w' (fun g => P g ∨ Fresh w w' g) A (ns ++ ms)) ∧ Hid (Below w.heap.size w w') ∧
    Hid ((∃ t, r = some (t, k') ∧ bad = false ∧ Den (ns ++ ms) K (Lang t) ∧ (NsOk ns → NsOk (ns ++ ms)) ∧ ms.length + 2 * more ≤ 2 * k' + ex) ∨ (r = none ∧ bad = true ∧ k' ≤ last ∧ ms.length ≤ lastN))

/-- The mask that a set's list is. -/
def MaskOf (m0 m : List Bool) : Prop := (m0 = [] ∧ m = noneM) ∨ m0 = m
theorem MaskOf.get {m0 m : List Bool} (h : MaskOf m0 m) (i : Nat) : m0.getD i false = m.getD i false := by
  rcases h with ⟨rfl, rfl⟩ | rfl
  · rw [noneM_get]; rfl
  · rfl
theorem signs_range {m0 m : List Bool} (h : MaskOf m0 m) (hm : m.length = 95) {l hh : Nat} (hl : 32 ≤ l) (hlh : l ≤ hh) (hh2 : hh ≤ 126) : ∀ i, i < 95 → sgF m0 l hh i = (rangeM m l (hh + 1 - l)).getD i false := by
  intro i hi
  have := rangeM_getD hm (l - 32) (hh + 1 - l) (by omega) i
  rw [show 32 + (l - 32) = l from by omega] at this
  rw [this]
  unfold sgF
  rw [h.get i]
  congr 1
  rw [Bool.eq_iff_iff]
  simp only [Bool.and_eq_true, decide_eq_true_eq]
  omega
/-- Signs in a row lie in memory as a list. -/
theorem row_cells {w : World} {g : Nat} {f : Nat → Bool} {m : List Bool} {P : Nat → Prop} (h : w.rowIs g 4 95 (fun i => .bool (f i))) (hm : m.length = 95) (hf : ∀ i, i < 95 → f i = m.getD i false) (hP : P g) : CellsIn w P (some ⟨g, 0, none⟩) (m.map Value.bool) := by
  intro j hj
  have hj2 : j < 95 := by simpa [hm] using hj
  refine ⟨g, 0, rfl, hP, ?_⟩
  rw [Nat.zero_add, h.cell hj2, hf j hj2]
  simp [List.getD_eq_getElem?_getD, List.getElem?_eq_getElem (show j < m.length by omega)]
/-- One more item of a class. -/
theorem item_eq {s : ByteArray} {K K1 K2 : Nat} {m : List Bool} {lo hi : UInt8} (h1 : signF s K spC = some (lo, K1)) (h2 : (atL s K1 [45] = true ∧ signF s (K1 + 1) spC = some (hi, K2)) ∨ (atL s K1 [45] = false ∧ hi = lo ∧ K2 = K1)) :
    itemF s K m = if hi.toNat < lo.toNat then none else some (rangeM m lo.toNat (hi.toNat + 1 - lo.toNat), K2) := by
  unfold itemF
  rw [h1]
  show (if atL s K1 [45] = true then _ else _) = _
  rcases h2 with ⟨h2, h3⟩ | ⟨h2, rfl, rfl⟩
  · rw [h2, if_pos rfl, h3]
  · rw [h2, if_neg (by decide), if_neg (by omega), show hi.toNat + 1 - hi.toNat = 1 from by omega]
theorem item_none {s : ByteArray} {K : Nat} {m : List Bool} (h : signF s K spC = none) : itemF s K m = none := by
  unfold itemF
  rw [h]
theorem item_none2 {s : ByteArray} {K K1 : Nat} {m : List Bool} {lo : UInt8} (h1 : signF s K spC = some (lo, K1)) (h2 : atL s K1 [45] = true) (h3 : signF s (K1 + 1) spC = none) : itemF s K m = none := by
  unfold itemF
  rw [h1]
  show (if atL s K1 [45] = true then _ else _) = _
  rw [h2, if_pos rfl, h3]

def classOut (neg : Bool) : Option (List Bool × Nat) → Option (T × Nat)
  | none => none
  | some (m, k') => some (T.set (if neg then m.map (!·) else m), k' + 1)
theorem classF_out (s : ByteArray) (k : Nat) : classF s k = classOut (atL s k [94]) (classL s (s.size + 1) noneM true (class0 s k)) := by
  unfold classF classOut classT
  cases classL s (s.size + 1) noneM true (class0 s k) <;> rfl
/-- The blocks that were made since w, but for its first two. -/
def Late (w wr : World) (g : Nat) : Prop := w.heap.size + 2 ≤ g ∧ g < wr.heap.size
theorem Late.of {w wr wx : World} (hs : wr.heap.size ≤ wx.heap.size) (h : ∀ g, w.heap.size + 2 ≤ g → g < wr.heap.size → wx.heap[g]? = wr.heap[g]?) : Moves (Late w wr) (Late w wx) wr wx :=
  fun g hg => ⟨⟨hg.1, Nat.lt_of_lt_of_le hg.2 hs⟩, h g hg.1 hg.2⟩
theorem Late.below {w wr wx : World} (h : Below wr.heap.size wr wx) : Moves (Late w wr) (Late w wx) wr wx := Late.of h.size fun g _ h2 => h.block g h2
theorem Late.set {w wr : World} {p : Addr} (hp : p.block < w.heap.size + 2) (v : Value) : Moves (Late w wr) (Late w (wr.setCell p v)) wr (wr.setCell p v) :=
  Late.of (by simp) fun g h1 _ => Below.heap_setCell wr p v g (by omega)
theorem setCells_size : ∀ (vs : List Value) (g o : Nat) (w : World), (w.setCells g o vs).heap.size = w.heap.size := by
  intro vs
  induction vs with
  | nil => intro g o w; rfl
  | cons v vs ih => intro g o w; show ((w.setCell ⟨g, o, none⟩ v).setCells g (o + 1) vs).heap.size = _; rw [ih]; simp
theorem Late.sets {w wr : World} {b : Nat} (hp : b < w.heap.size + 2) (vs : List Value) : Moves (Late w wr) (Late w (wr.setCells b 0 vs)) wr (wr.setCells b 0 vs) :=
  Late.of (by rw [setCells_size]; exact Nat.le_refl _) fun g h1 _ => heap_setCells_other (by omega) _ _ _

set_option maxRecDepth 8192 in
set_option maxHeartbeats 6400000 in
theorem refClass_any (P : Nat → Prop) (A : Option Addr) (c : Nat) (s : ByteArray) (k : Nat) (ns : List RN) (w : World) (hn : ns.length ≤ 9000) (hN : NodesAt w P A ns) (hP : ∀ g, P g → g < w.heap.size) (hk : k ≤ s.size) (hs : s.size ≤ 1000) :
    Calls Try.prog 85 #[pvOf A ns.length c s k false] w (PPost P s ns (classF s k) k 0 (s.size + 1) 1 w) := by
  obtain ⟨res, hres⟩ : ∃ res, res = classF s k := ⟨_, rfl⟩
  rw [← hres]
  have Hres := Lib.hid hres
  have HN := Lib.hid hN
  have HP := Lib.hid hP
  obtain ⟨n, hnn⟩ : ∃ n, ns.length = n := ⟨_, rfl⟩
  rw [hnn] at hn
  have Hnn := Lib.hid hnn
  have HIS := Lib.hid (fun (kx : Nat) (b : Bool) (ch : UInt8) (wx : World) => refIs_any A n c s kx b ch wx)
  rw [hnn]
  clear hres hN hP hnn
  go_enter Try.func85, Try.ntmps85
  go_upto_region 1 with fail
  generalize hW : (w.alloc _).alloc _ = W
  have hX : Hid (BoxP W w.heap.size A n c s k false) := by subst hW; exact blk_alloc (blk_new _ _) _
  have hY : Hid (RoomP W (w.heap.size + 1)) := by subst hW; exact ⟨_, _, _, _, blk_new' (by simp)⟩
  have hB : Hid (Below w.heap.size w W) := by subst hW; exact ((Below.refl _ _).alloc (Nat.le_refl _) _).alloc (by simp) _
  have hz : w.heap.size + 2 ≤ W.heap.size := by subst hW; simp
  clear hW
  go_wp2_with ((with_reducible show wpList _ _ _ (⟨some 14, _, _, _, _, _⟩ :: _) _ _); refine wpList_load_row rfl 82 _ rfl w.heap.size rfl 82 _ (0, 0) _ hX.out Try.underlying82 rfl info82 ?_)
  refine (HIS.out k false 94 _).mono ?_
  rintro e w1 ⟨rfl, hb1⟩
  have hX1 := Lib.hid (hX.out.below hb1 (by omega))
  have hY1 := Lib.hid (hY.out.below hb1 (by omega))
  have hB1 := Lib.hid (hB.out.trans (hb1.mono hB.out.size))
  have hz1 : w.heap.size + 2 ≤ w1.heap.size := by have := hb1.size; omega
  obtain ⟨neg, hneg⟩ : ∃ neg, atL s k [94] = neg := ⟨_, rfl⟩
  have Hneg := Lib.hid hneg
  rw [hneg]
  clear hX hY hB hb1 hneg
  go_upto_if 16 with fail
  go_cut [] (fun wx => ∃ K, K = class0 s k ∧ K ≤ s.size ∧ Hid (BoxP wx w.heap.size A n c s K false) ∧ Hid (RoomP wx (w.heap.size + 1)) ∧ Hid (Below w.heap.size w wx) ∧ w.heap.size + 2 ≤ wx.heap.size)
  case first =>
    cases neg with
    | true =>
      have hlt := atL_lt Hneg.out
      have c2 : w1.cell? ⟨w.heap.size, 2, none⟩ = some (.int .i64 k) := blk_cell hX1.out 2
      have f2 : w1.frozen? ⟨w.heap.size, 2, none⟩ = false := blk_frozen hX1.out 2
      go_wp2_with fail
      go_meet
      exact ⟨k + 1, by unfold class0; rw [Hneg.out, if_pos rfl], by omega, hX1.out.at_, hY1.out.set (by simp) _, hB1.out.setCell (p := ⟨w.heap.size, 2, none⟩) (Nat.le_refl _) _, by simpa using hz1⟩
    | false =>
      go_wp2_with fail
      go_meet
      exact ⟨k, by unfold class0; rw [Hneg.out, if_neg (by decide)], hk, hX1, hY1, hB1, hz1⟩
  case rest =>
  obtain ⟨K0, hK0, hK0s, hX, hY, hB, hz⟩ := hcut
  obtain ⟨cl, hcl⟩ : ∃ cl, classL s (s.size + 1) noneM true K0 = cl := ⟨_, rfl⟩
  have Hres2 : Hid (res = classOut neg cl) := by
    show _ = _
    rw [Hres.out, classF_out, Hneg.out, ← hK0, hcl]
  have Hcl := Lib.hid hcl.symm
  clear hX1 hY1 hB1 hz1 hK0 hcl
  go_wp2_with fail
  obtain ⟨wo, rfl⟩ : ∃ wo : World, wo = wc := ⟨_, rfl⟩
  go_loopg [5, 6] (s.size + 1 - K0) (fun q sv nv wr => ∃ (K cnt cs sn : Nat) (A' : Option Addr) (m m0 : List Bool) (bad : Bool), sv = .slice A' sn cs ∧ nv = .int .i64 cnt ∧ m0.length = sn ∧ q = (if bad then 0 else s.size + 1 - K) ∧ Hid (MaskOf m0 m) ∧ m.length = 95 ∧ Hid (CellsIn wr (Late w wr) A' (m0.map Value.bool)) ∧
      K ≤ s.size ∧ cnt ≤ s.size + 1 ∧ Hid ((bad = true ∧ cl = none) ∨ (bad = false ∧ cnt ≤ K ∧ ∃ f, cl = classL s f m (decide (cnt = 0)) K ∧ s.size + 1 ≤ f + K)) ∧ Hid (BoxP wr w.heap.size A n c s K bad) ∧ Hid (RoomP wr (w.heap.size + 1)) ∧ Hid (Below w.heap.size w wr) ∧ w.heap.size + 2 ≤ wr.heap.size)
  case atStart =>
    exact ⟨K0, 0, 0, 0, none, noneM, [], false, rfl, rfl, rfl, by simp, .inl ⟨rfl, rfl⟩, noneM_length, fun j h => absurd h (by simp), hK0s, by omega, .inr ⟨rfl, Nat.zero_le _, s.size + 1, by simpa using Hcl.out, by omega⟩, hX, hY, hB, hz⟩
  case round =>
    clear hX hY hB hz
    obtain ⟨K, cnt, cs, sn, A', m, m0, bad, rfl, rfl, hsn, hq, hmk, hm95, hcs, hKs, hcnt, hst, hX, hY, hB, hz⟩ := hrel
    obtain ⟨cont, hcont⟩ : ∃ cont, (!bad && (decide (cnt = 0) || !atL s K [93])) = cont := ⟨_, rfl⟩
    have Hcont := Lib.hid hcont
    have Hsn := Lib.hid hsn
    clear hcont hsn
    go_upto_region 6 with fail
    go_cut [32] (fun x wx => x = .bool cont ∧ Hid (Below wr.heap.size wr wx))
    case first =>
      have c0 : wr.cell? ⟨w.heap.size, 0, none⟩ = some (.slice A n c) := blk_cell hX.out 0
      have c1 : wr.cell? ⟨w.heap.size, 1, none⟩ = some (.string s) := blk_cell hX.out 1
      have c2 : wr.cell? ⟨w.heap.size, 2, none⟩ = some (.int .i64 K) := blk_cell hX.out 2
      have c3 : wr.cell? ⟨w.heap.size, 3, none⟩ = some (.bool bad) := blk_cell hX.out 3
      have hco := Hcont.out
      cases bad with
      | true =>
        rw [Bool.not_true, Bool.false_and] at hco
        subst hco
        go_wp2_with fail
        go_meet
        exact ⟨rfl, Below.refl _ _⟩
      | false =>
        rw [Bool.not_false, Bool.true_and] at hco
        by_cases h0 : cnt = 0
        · have hd : ((cnt : Int) == 0) = true := by rw [h0]; rfl
          rw [decide_eq_true h0, Bool.true_or] at hco
          subst hco
          clear h0
          go_wp2_with fail
          go_meet
          exact ⟨rfl, Below.refl _ _⟩
        · have hd : ((cnt : Int) == 0) = false := beq_eq_false_iff_ne.2 (by omega)
          rw [decide_eq_false h0, Bool.false_or] at hco
          have Hco := Lib.hid hco
          clear h0 hco
          go_wp2_with fail
          refine (HIS.out K false 93 _).mono ?_
          rintro e w2 ⟨rfl, hb2⟩
          go_wp2_with fail
          go_meet
          exact ⟨by rw [Hco.out], hb2⟩
    case rest =>
    obtain ⟨rfl, hb2⟩ := hcut
    obtain ⟨W2, rfl⟩ : ∃ W2 : World, W2 = wc := ⟨_, rfl⟩
    have hX2 := Lib.hid (hX.out.below hb2.out (by omega))
    have hY2 := Lib.hid (hY.out.below hb2.out (by omega))
    have hB2 := Lib.hid (hB.out.trans (hb2.out.mono hB.out.size))
    have hcs2 := Lib.hid (hcs.out.move (Late.below hb2.out))
    have hz2 : w.heap.size + 2 ≤ W2.heap.size := by have := hb2.out.size; omega
    clear hX hY hB hcs hb2 hz
    cases cont with
    | false =>
      have hend : Hid ((bad = true ∧ cl = none) ∨ (bad = false ∧ atL s K [93] = true ∧ cl = some (m, K))) := by
        rcases hst.out with h | ⟨h1, h2, f, h3, h4⟩
        · exact .inl h
        · have hco := Hcont.out
          rw [h1, Bool.not_false, Bool.true_and, Bool.or_eq_false_iff] at hco
          have h93 : atL s K [93] = true := by simpa using hco.2
          obtain ⟨f', rfl⟩ : ∃ f', f = f' + 1 := ⟨f - 1, by omega⟩
          rw [classL, hco.1, h93, if_neg (by decide)] at h3
          exact .inr ⟨h1, h93, h3⟩
      clear hst Hcont hq hcnt
      go_wp2_with ((with_reducible show wpList _ _ _ (⟨some 64, _, _, _, _, _⟩ :: _) _ _); refine wpList_load_row rfl 82 _ rfl w.heap.size rfl 82 _ (0, 0) _ hX2.out Try.underlying82 rfl info82 ?_)
      refine (HIS.out K bad 93 _).mono ?_
      rintro e w3 ⟨rfl, hb3⟩
      have hX3 := Lib.hid (hX2.out.below hb3 (by omega))
      have hY3 := Lib.hid (hY2.out.below hb3 (by omega))
      have hB3 := Lib.hid (hB2.out.trans (hb3.mono hB2.out.size))
      have hcs3 := Lib.hid (hcs2.out.move (Late.below hb3))
      have hz3 : w.heap.size + 2 ≤ w3.heap.size := by have := hb3.size; omega
      obtain ⟨ends, hends⟩ : ∃ ends, atL s K [93] = ends := ⟨_, rfl⟩
      have Hends := Lib.hid hends
      rw [hends]
      clear hX2 hY2 hB2 hcs2 hb3 hends hz2
      go_upto_if 67 with fail
      go_cut [] (fun wx => Hid (BoxP wx w.heap.size A n c s K bad) ∧ Hid (RoomP wx (w.heap.size + 1)) ∧ Hid (Below w.heap.size w wx) ∧ Hid (CellsIn wx (Late w wx) A' (m0.map Value.bool)) ∧ w.heap.size + 2 ≤ wx.heap.size)
      case first =>
        cases ends with
        | true =>
          go_wp2_with fail
          go_meet
          exact ⟨hX3, hY3, hB3, hcs3, hz3⟩
        | false =>
          have hbad : bad = true := by
            rcases hend.out with h | h
            · exact h.1
            · rw [h.2.1] at Hends; exact absurd Hends.out (by decide)
          subst hbad
          have c3 : w3.cell? ⟨w.heap.size, 3, none⟩ = some (.bool true) := blk_cell hX3.out 3
          have f3 : w3.frozen? ⟨w.heap.size, 3, none⟩ = false := blk_frozen hX3.out 3
          go_wp2_with fail
          go_meet
          exact ⟨hX3.out.bad, hY3.out.set (by simp) _, hB3.out.setCell (p := ⟨w.heap.size, 3, none⟩) (Nat.le_refl _) _, hcs3.out.move (Late.set (by simp) _), by simpa using hz3⟩
      case rest =>
      clear hX3 hY3 hB3 hcs3 hz3
      obtain ⟨hX4, hY4, hB4, hcs4, hz4⟩ := hcut
      obtain ⟨W4, rfl⟩ : ∃ W4 : World, W4 = wc := ⟨_, rfl⟩
      have c2 : W4.cell? ⟨w.heap.size, 2, none⟩ = some (.int .i64 K) := blk_cell hX4.out 2
      have f2 : W4.frozen? ⟨w.heap.size, 2, none⟩ = false := blk_frozen hX4.out 2
      go_upto_region 23 with fail
      have hX5 := Lib.hid hX4.out.at_
      have hY5 := Lib.hid (hY4.out.set (p := ⟨w.heap.size, 2, none⟩) (by simp) (.int .i64 ((K : Int) + 1)))
      have hB5 := Lib.hid (hB4.out.setCell (p := ⟨w.heap.size, 2, none⟩) (Nat.le_refl _) (.int .i64 ((K : Int) + 1)))
      have hcs5 := Lib.hid (hcs4.out.move (Late.set (p := ⟨w.heap.size, 2, none⟩) (by simp) (.int .i64 ((K : Int) + 1))))
      have hz5 : w.heap.size + 2 ≤ (W4.setCell ⟨w.heap.size, 2, none⟩ (.int .i64 ((K : Int) + 1))).heap.size := by simpa using hz4
      generalize W4.setCell _ _ = W5 at hX5 hY5 hB5 hcs5 hz5 ⊢
      clear hX4 hY4 hB4 hcs4 hz4 c2 f2
      have hmk5 := make95
      go_upto_region 24 with fail
      have hb6 : Below W5.heap.size W5 (W5.alloc (.cells (madeCells #[.bool false] 95) 4)) := (Below.refl _ _).alloc (Nat.le_refl _) _
      have hX6 := Lib.hid (hX5.out.below hb6 (by omega))
      have hY6 := Lib.hid (hY5.out.below hb6 (by omega))
      have hB6 := Lib.hid (hB5.out.trans (hb6.mono hB5.out.size))
      have hcs6 := Lib.hid (hcs5.out.move (w' := W5.alloc (.cells (madeCells #[.bool false] 95) 4)) (Q := fun g => w.heap.size + 2 ≤ g ∧ g < W5.heap.size) (fun g hg => ⟨hg, hb6.block g hg.2⟩))
      have hR6 : Hid ((W5.alloc (.cells (madeCells #[.bool false] 95) 4)).rowIs W5.heap.size 4 95 (fun i => .bool (decide (i < 0) && (m.getD i false != neg)))) := by
        show World.rowIs _ _ _ _ _
        refine World.rowIs.congr (World.rowIs_made W5 (.bool false) 95 4) ?_
        intro j hj
        simp
      have hz6 : (W5.alloc (.cells (madeCells #[.bool false] 95) 4)).heap.size = W5.heap.size + 1 := by simp
      obtain ⟨G, hG⟩ : ∃ G, W5.heap.size = G := ⟨_, rfl⟩
      rw [hG] at hR6 hz6 hz5 hcs6
      obtain ⟨K1, hK1⟩ : ∃ K1, K + 1 = K1 := ⟨_, rfl⟩
      rw [hK1] at hX6
      have HK1 := Lib.hid hK1
      have hK1s : K1 ≤ s.size + 1 := by omega
      clear hK1
      have HG := Lib.hid hG
      rw [hG]
      generalize W5.alloc _ = W6 at hX6 hY6 hB6 hcs6 hR6 hz6 ⊢
      clear hX5 hY5 hB5 hcs5 hmk5 hb6 hG
      go_wp2_with fail
      obtain ⟨wOut, rfl⟩ : ∃ wOut : World, wOut = wr := ⟨_, rfl⟩
      go_loopw [12] (fun x wr => ∃ i : Nat, x = .int .i64 i ∧ i ≤ 95 ∧ Hid (wr.rowIs G 4 95 (fun j => .bool (decide (j < i) && (m.getD j false != neg)))) ∧ Hid (BoxP wr w.heap.size A n c s K1 bad) ∧ Hid (RoomP wr (w.heap.size + 1)) ∧ Hid (Below w.heap.size w wr) ∧ Hid (∀ g, g ≠ G → wr.heap[g]? = W6.heap[g]?) ∧ wr.heap.size = W6.heap.size) (fun x _ => 95 - (intOf x).toNat)
      case atStart => exact ⟨0, rfl, by omega, hR6, hX6, hY6, hB6, fun g _ => rfl, rfl⟩
      case round =>
        clear hR6 hX6 hY6 hB6
        obtain ⟨i, rfl, hi, hR, hX, hY, hB, hsame, hwz⟩ := hrel
        by_cases hlt : i < 95
        · have hlti : (i : Int) < 95 := by omega
          have q0 := hR.out.cell hlt
          have qf := hR.out.frozen i
          have hne1 : w.heap.size ≠ G := by omega
          have HF : Hid (∀ val, val = (m.getD i false != neg) → Hid ((wr.setCell ⟨G, i, none⟩ (.bool val)).rowIs G 4 95 (fun j => .bool (decide (j < i + 1) && (m.getD j false != neg)))) ∧ Hid (BoxP (wr.setCell ⟨G, i, none⟩ (.bool val)) w.heap.size A n c s K1 bad) ∧ Hid (RoomP (wr.setCell ⟨G, i, none⟩ (.bool val)) (w.heap.size + 1)) ∧ Hid (Below w.heap.size w (wr.setCell ⟨G, i, none⟩ (.bool val))) ∧ Hid (∀ g, g ≠ G → (wr.setCell ⟨G, i, none⟩ (.bool val)).heap[g]? = W6.heap[g]?) ∧ (wr.setCell ⟨G, i, none⟩ (.bool val)).heap.size = W6.heap.size) := by
            rintro val rfl
            refine ⟨?_, blk_set hX.out (by simpa using hne1) _, hY.out.set (by simp; omega) _, hB.out.setCell (p := ⟨G, i, none⟩) (by simp; omega) _, fun g hg => (Below.heap_setCell wr ⟨G, i, none⟩ _ g hg).trans (hsame.out g hg), by simpa using hwz⟩
            show World.rowIs _ _ _ _ _
            refine World.rowIs.congr (hR.out.set i (.bool (m.getD i false != neg))) ?_
            intro j hj
            by_cases hji : j = i
            · subst hji; simp
            · simp only [hji, if_false]
              congr 2
              rw [decide_eq_decide]
              omega
          by_cases hin : i < sn
          · have hini : (i : Int) < (sn : Int) := by omega
            have dn : decide ((i : Int) < (sn : Int)) = true := decide_eq_true hini
            have hi0 : (0 : Int) ≤ (i : Int) := by omega
            obtain ⟨g, o, rfl, hg, hcell⟩ := hcs6.out.at_ (j := i) (v := .bool (m0.getD i false)) (by
              rw [List.getElem?_map, List.getElem?_eq_getElem (by rw [Hsn.out]; exact hin), List.getD_eq_getElem?_getD, List.getElem?_eq_getElem (by rw [Hsn.out]; exact hin)]
              rfl)
            have hgG : g ≠ G := by have := hg.2; omega
            have hcell2 : wr.cell? ⟨g, o + i, none⟩ = some (.bool (m.getD i false)) := by
              rw [cell_congr (hsame.out g hgG), hcell, hmk.out.get i]
            obtain ⟨mi, hmi⟩ : ∃ mi, m.getD i false = mi := ⟨_, rfl⟩
            rw [hmi] at HF hcell2
            clear hcell hmi
            go_wp2_with fail
            obtain ⟨f1, f2, f3, f4, f5, f6⟩ := HF.out (!mi == neg) (by cases mi <;> cases neg <;> rfl)
            go_roundw
            case rel => exact ⟨i + 1, by go_num, by omega, f1, f2, f3, f4, f5, f6⟩
            case measure => simp [intOf]; omega
          · have hini : ¬ (i : Int) < (sn : Int) := by omega
            have dn : decide ((i : Int) < (sn : Int)) = false := decide_eq_false hini
            have hv : Hid (m.getD i false = false) := by
              show _ = _
              rw [← hmk.out.get i, List.getD_eq_getElem?_getD, List.getElem?_eq_none (by rw [Hsn.out]; omega)]
              rfl
            go_wp2_with fail
            obtain ⟨f1, f2, f3, f4, f5, f6⟩ := HF.out neg (by rw [hv.out]; cases neg <;> rfl)
            go_roundw
            case rel => exact ⟨i + 1, by go_num, by omega, f1, f2, f3, f4, f5, f6⟩
            case measure => simp [intOf]; omega
        · obtain rfl : i = 95 := by omega
          go_wp2_with ((with_reducible show wpList _ _ _ (⟨some 94, _, _, _, _, _⟩ :: _) _ _); refine wpList_load_row rfl 82 _ rfl w.heap.size rfl 82 _ (0, 0) _ hX.out Try.underlying82 rfl info82 ?_)
          obtain ⟨mm, hmm⟩ : ∃ mm : List Bool, mm = if neg then m.map (!·) else m := ⟨_, rfl⟩
          have hmml : mm.length = 95 := by rw [hmm]; split <;> simp [hm95]
          have hmmg : ∀ i, i < 95 → (decide (i < 95) && (m.getD i false != neg)) = mm.getD i false := by
            intro i hi
            rw [decide_eq_true hi, Bool.true_and, hmm]
            cases neg with
            | true => rw [if_pos rfl, List.getD_eq_getElem?_getD, List.getD_eq_getElem?_getD, List.getElem?_map, List.getElem?_eq_getElem (by omega)]; simp
            | false => rw [if_neg (by decide)]; simp
          have hwz2 : wr.heap.size = G + 1 := by omega
          have hcl := row_cells (P := fun g => P g ∨ (w.heap.size + 2 ≤ g ∧ g < wr.heap.size)) hR.out hmml hmmg (.inr ⟨hz5, by omega⟩)
          have hNw : NodesAt wr (fun g => P g ∨ (w.heap.size + 2 ≤ g ∧ g < wr.heap.size)) A ns := HN.out.move (fun g hg => ⟨.inl hg, hB.out.block g (HP.out g hg)⟩)
          have hNd : NodeAt wr (fun g => P g ∨ (w.heap.size + 2 ≤ g ∧ g < wr.heap.size)) (.slice (some ⟨G, 0, none⟩) 95 95, .slice none 0 0) ⟨115, mm, []⟩ :=
            ⟨⟨_, 95, by rw [hmml], hcl⟩, none, 0, rfl, fun j h => absurd h (by simp [jInts])⟩
          have HADD := refAdd_any (fun g => P g ∨ (w.heap.size + 2 ≤ g ∧ g < wr.heap.size)) A c s K1 bad ns ⟨115, mm, []⟩ _ wr (by rw [Hnn.out]; omega) hNw hNd (fun g hg => by
            rcases hg with hg | hg
            · have := HP.out g hg; omega
            · exact hg.2)
          rw [Hnn.out] at HADD
          have Hadd := Lib.hid HADD
          have Hmm := Lib.hid hmm
          have Hmml := Lib.hid hmml
          clear HADD hNw hNd hcl hmm hmml hmmg hR
          refine Hadd.out.mono ?_
          rintro e w8 ⟨A8, c8, rfl, hN8, hb8⟩
          have hN8' := Lib.hid hN8
          have hY8 := Lib.hid (hY.out.below hb8 (by omega))
          have hB8 := Lib.hid (hB.out.trans (hb8.mono (by omega)))
          have hz8 := hb8.size
          rw [Hnn.out]
          have Hb8 := Lib.hid hb8
          clear hN8 hb8 Hadd hX hY hsame
          go_wp2_with ((with_reducible show wpList _ _ _ (⟨none, _, _, _, _, _⟩ :: _) _ _); refine wpList_store_mid rfl 82 _ _ rfl (w.heap.size + 1) 0 _ rfl rfl hY8.out.there info82 (one82 _ _ _ _ _ _) ?_)
          refine bodyPost_ret (results_pv rfl _ _ rfl (hY8.out.stored A8 (n + 1) c8 s K1 bad)) rfl ⟨A8, c8, [⟨115, mm, []⟩], n, K1, bad, ?_, ?_, ?_, ?_⟩
          · rw [List.length_append, Hnn.out]; rfl
          · show NodesAt _ _ _ _
            refine hN8'.out.move (fun g hg => ?_)
            have hsz : (w8.setCells (w.heap.size + 1) 0 [.slice A8 (n + 1) c8, .string s, .int .i64 K1, .bool bad]).heap.size = w8.heap.size := setCells_size _ _ _ _
            rcases hg with (hg | hg) | hg
            · have := HP.out g hg
              exact ⟨.inl hg, heap_setCells_other (by omega) _ _ _⟩
            · exact ⟨.inr ⟨by omega, Nat.lt_of_lt_of_eq (by omega) hsz.symm⟩, heap_setCells_other (by omega) _ _ _⟩
            · have := hg.1
              exact ⟨.inr ⟨by omega, Nat.lt_of_lt_of_eq hg.2 hsz.symm⟩, heap_setCells_other (by omega) _ _ _⟩
          · exact below_setCells (by omega) _ _ _ hB8.out
          · rcases hend.out with ⟨h1, h2⟩ | ⟨h1, h2, h3⟩
            · exact .inr ⟨by rw [Hres2.out, h2]; rfl, h1, hK1s, by simp⟩
            · have hr : res = some (.set mm, K1) := by
                rw [Hres2.out, h3, Hmm.out, ← HK1.out]
                rfl
              have hcf := classF_some (s := s) (k := k) (t := .set mm) (k' := K1) (by rw [← Hres.out, hr])
              refine .inl ⟨.set mm, hr, h1, ?_, fun hok => hok.snoc (.inl ⟨rfl, Hmml.out, rfl⟩), ?_⟩
              · rw [← Hnn.out]; exact den_set ns mm
              · have := hcf.1
                simp only [List.length_cons, List.length_nil]
                omega
    | true =>
      have hst2 : Hid (bad = false ∧ cnt ≤ K ∧ ∃ f', (cl = match itemF s K m with | none => none | some (m', k') => classL s f' m' false k') ∧ s.size ≤ f' + K) := by
        have hco := Hcont.out
        rcases hst.out with ⟨h1, _⟩ | ⟨h1, h2, f, h3, h4⟩
        · rw [h1] at hco; simp at hco
        · obtain ⟨f', rfl⟩ : ∃ f', f = f' + 1 := ⟨f - 1, by omega⟩
          rw [h1, Bool.not_false, Bool.true_and] at hco
          rw [classL, if_pos hco] at h3
          exact ⟨h1, h2, f', h3, by omega⟩
      obtain ⟨rfl, hcK, f', hcl2, hf'⟩ := hst2.out
      have Hcl2 := Lib.hid hcl2
      rw [if_neg (by decide)] at hq
      clear hst hst2 Hcont hcl2
      have HPL := Lib.hid (fun (kx : Nat) (b : Bool) (wx : World) (hkx : kx ≤ s.size) => refPlain2_any A n c s (ByteArray.mk #[92, 93, 45, 94]) spC rfl (by decide) kx b wx hkx hs)
      go_wp2_with ((with_reducible show wpList _ _ _ (⟨some 36, _, _, _, _, _⟩ :: _) _ _); refine wpList_load_row rfl 82 _ rfl w.heap.size rfl 82 _ (0, 0) _ hX2.out Try.underlying82 rfl info82 ?_)
      refine (HPL.out K false _ hKs).mono ?_
      rintro e w3 ⟨K1, b1, lo, rfl, hK1, hp1, hb3⟩
      have hX3 := Lib.hid (hX2.out.below hb3 (by omega))
      have hY3 := Lib.hid (hY2.out.below hb3 (by omega))
      have hB3 := Lib.hid (hB2.out.trans (hb3.mono hB2.out.size))
      have hcs3 := Lib.hid (hcs2.out.move (Late.below hb3))
      have hz3 : w.heap.size + 2 ≤ w3.heap.size := by have := hb3.size; omega
      clear hX2 hY2 hB2 hcs2 hb3 hz2
      go_upto_region 10 with ((with_reducible show wpList _ _ _ (⟨none, _, _, _, _, _⟩ :: _) _ _); refine wpList_store_mid rfl 82 _ _ rfl w.heap.size 0 _ rfl rfl hX3.out.room.there info82 (one82 _ _ _ _ _ _) ?_)
      have hX4 := Lib.hid (hX3.out.room.stored A n c s K1 b1)
      have hY4 : Hid (RoomP (w3.setCells w.heap.size 0 [.slice A n c, .string s, .int .i64 K1, .bool b1]) (w.heap.size + 1)) := by
        obtain ⟨y0, y1, y2, y3, hy⟩ := hY3.out
        exact ⟨y0, y1, y2, y3, (heap_setCells_other (by omega) _ _ _).trans hy⟩
      have hB4 := Lib.hid (below_setCells (B := w.heap.size) (b := w.heap.size) (Nat.le_refl _) [.slice A n c, .string s, .int .i64 K1, .bool b1] w3 0 hB3.out)
      have hcs4 := Lib.hid (hcs3.out.move (Late.sets (b := w.heap.size) (by omega) [.slice A n c, .string s, .int .i64 K1, .bool b1]))
      have hz4 : w.heap.size + 2 ≤ (w3.setCells w.heap.size 0 [.slice A n c, .string s, .int .i64 K1, .bool b1]).heap.size := by rw [setCells_size]; exact hz3
      have hp4 : Hid ((b1 = false ∧ signF s K spC = some (lo, K1)) ∨ (b1 = true ∧ signF s K spC = none)) := by
        rcases hp1.out with h | h
        · exact .inl ⟨h.2, h.1⟩
        · exact .inr ⟨h.2, h.1⟩
      generalize w3.setCells _ _ _ = W4 at hX4 hY4 hB4 hcs4 hz4 ⊢
      clear hX3 hY3 hB3 hcs3 hz3 hp1
      go_wp2_with ((with_reducible show wpList _ _ _ (⟨some 41, _, _, _, _, _⟩ :: _) _ _); refine wpList_load_row rfl 82 _ rfl w.heap.size rfl 82 _ (0, 0) _ hX4.out Try.underlying82 rfl info82 ?_)
      refine (HIS.out K1 b1 45 _).mono ?_
      rintro e w5 ⟨rfl, hb5⟩
      have hX5 := Lib.hid (hX4.out.below hb5 (by omega))
      have hY5 := Lib.hid (hY4.out.below hb5 (by omega))
      have hB5 := Lib.hid (hB4.out.trans (hb5.mono hB4.out.size))
      have hcs5 := Lib.hid (hcs4.out.move (Late.below hb5))
      have hz5 : w.heap.size + 2 ≤ w5.heap.size := by have := hb5.size; omega
      obtain ⟨dash, hdash⟩ : ∃ dash, atL s K1 [45] = dash := ⟨_, rfl⟩
      have Hdash := Lib.hid hdash
      rw [hdash]
      clear hX4 hY4 hB4 hcs4 hb5 hdash hz4
      go_upto_if 43 with fail
      go_cut [8] (fun hv wx => ∃ (K2 : Nat) (b2 : Bool) (hi : UInt8), hv = .int .u8 hi.toNat ∧ K2 ≤ s.size ∧ Hid ((b2 = false ∧ K < K2 ∧ isS lo = true ∧ isS hi = true ∧ itemF s K m = if hi.toNat < lo.toNat then none else some (rangeM m lo.toNat (hi.toNat + 1 - lo.toNat), K2)) ∨ (b2 = true ∧ itemF s K m = none)) ∧
        Hid (BoxP wx w.heap.size A n c s K2 b2) ∧ Hid (RoomP wx (w.heap.size + 1)) ∧ Hid (Below w.heap.size w wx) ∧ Hid (CellsIn wx (Late w wx) A' (m0.map Value.bool)) ∧ w.heap.size + 2 ≤ wx.heap.size)
      case first =>
        cases dash with
        | false =>
          go_wp2_with fail
          go_meet
          refine ⟨K1, b1, lo, rfl, hK1, ?_, hX5, hY5, hB5, hcs5, hz5⟩
          rcases hp4.out with ⟨h1, h2⟩ | ⟨h1, h2⟩
          · have hs2 := signF_some h2
            exact .inl ⟨h1, hs2.1, hs2.2.2, hs2.2.2, item_eq h2 (.inr ⟨Hdash.out, rfl, rfl⟩)⟩
          · exact .inr ⟨h1, item_none h2⟩
        | true =>
          have hlt := atL_lt Hdash.out
          have c2 : w5.cell? ⟨w.heap.size, 2, none⟩ = some (.int .i64 K1) := blk_cell hX5.out 2
          have f2 : w5.frozen? ⟨w.heap.size, 2, none⟩ = false := blk_frozen hX5.out 2
          go_upto_region 14 with fail
          have hX6 := Lib.hid hX5.out.at_
          have hY6 := Lib.hid (hY5.out.set (p := ⟨w.heap.size, 2, none⟩) (by simp) (.int .i64 ((K1 : Int) + 1)))
          have hB6 := Lib.hid (hB5.out.setCell (p := ⟨w.heap.size, 2, none⟩) (Nat.le_refl _) (.int .i64 ((K1 : Int) + 1)))
          have hcs6 := Lib.hid (hcs5.out.move (Late.set (p := ⟨w.heap.size, 2, none⟩) (by simp) (.int .i64 ((K1 : Int) + 1))))
          have hz6 : w.heap.size + 2 ≤ (w5.setCell ⟨w.heap.size, 2, none⟩ (.int .i64 ((K1 : Int) + 1))).heap.size := by simpa using hz5
          generalize w5.setCell _ _ = W6 at hX6 hY6 hB6 hcs6 hz6 ⊢
          clear hX5 hY5 hB5 hcs5 hz5 c2 f2
          obtain ⟨J, hJ⟩ : ∃ J, K1 + 1 = J := ⟨_, rfl⟩
          rw [hJ] at hX6
          have HJ := Lib.hid hJ
          have hJs : J ≤ s.size := by omega
          clear hJ
          go_wp2_with ((with_reducible show wpList _ _ _ (⟨some 49, _, _, _, _, _⟩ :: _) _ _); refine wpList_load_row rfl 82 _ rfl w.heap.size rfl 82 _ (0, 0) _ hX6.out Try.underlying82 rfl info82 ?_)
          refine (HPL.out J b1 _ hJs).mono ?_
          rintro e w7 ⟨K2, b2, hi, rfl, hK2, hp2, hb7⟩
          have hX7 := Lib.hid (hX6.out.below hb7 (by omega))
          have hY7 := Lib.hid (hY6.out.below hb7 (by omega))
          have hB7 := Lib.hid (hB6.out.trans (hb7.mono hB6.out.size))
          have hcs7 := Lib.hid (hcs6.out.move (Late.below hb7))
          have hz7 : w.heap.size + 2 ≤ w7.heap.size := by have := hb7.size; omega
          clear hX6 hY6 hB6 hcs6 hb7 hz6
          go_wp2_with ((with_reducible show wpList _ _ _ (⟨none, _, _, _, _, _⟩ :: _) _ _); refine wpList_store_mid rfl 82 _ _ rfl w.heap.size 0 _ rfl rfl hX7.out.room.there info82 (one82 _ _ _ _ _ _) ?_)
          go_meet
          refine ⟨K2, b2, hi, rfl, hK2, ?_, hX7.out.room.stored A n c s K2 b2, ?_, below_setCells (Nat.le_refl _) _ _ _ hB7.out, hcs7.out.move (Late.sets (by omega) _), by rw [setCells_size]; exact hz7⟩
          · rcases hp4.out with ⟨h1, h2⟩ | ⟨h1, h2⟩
            · have hs2 := signF_some h2
              rcases hp2.out with ⟨h3, h4⟩ | ⟨h3, h4⟩
              · rw [← HJ.out] at h3
                have hs3 := signF_some h3
                exact .inl ⟨h4.trans h1, by omega, hs2.2.2, hs3.2.2, item_eq h2 (.inl ⟨Hdash.out, h3⟩)⟩
              · rw [← HJ.out] at h3
                exact .inr ⟨h4, item_none2 h2 Hdash.out h3⟩
            · rcases hp2.out with ⟨h3, h4⟩ | ⟨h3, h4⟩
              · exact .inr ⟨h4.trans h1, item_none h2⟩
              · exact .inr ⟨h4, item_none h2⟩
          · obtain ⟨y0, y1, y2, y3, hy⟩ := hY7.out
            exact ⟨y0, y1, y2, y3, (heap_setCells_other (by omega) _ _ _).trans hy⟩
      case rest =>
      clear hX5 hY5 hB5 hcs5 hz5 hp4 Hdash
      obtain ⟨K2, b2, hi, rfl, hK2, hit, hX, hY, hB, hcs, hz⟩ := hcut
      obtain ⟨W8, rfl⟩ : ∃ W8 : World, W8 = wc := ⟨_, rfl⟩
      obtain ⟨l8, hl8⟩ : ∃ l8, lo.toNat = l8 := ⟨_, rfl⟩
      obtain ⟨h8, hh8⟩ : ∃ h8, hi.toNat = h8 := ⟨_, rfl⟩
      by_cases hlh : h8 < l8
      · have hlhi : (h8 : Int) < (l8 : Int) := by omega
        have c3 : W8.cell? ⟨w.heap.size, 3, none⟩ = some (.bool b2) := blk_cell hX.out 3
        have f3 : W8.frozen? ⟨w.heap.size, 3, none⟩ = false := blk_frozen hX.out 3
        have hin : Hid (cl = none) := by
          show _ = _
          have h9 : itemF s K m = none := by
            rcases hit.out with ⟨_, _, _, _, h5⟩ | ⟨_, h2⟩
            · rw [h5, if_pos (by omega)]
            · exact h2
          rw [Hcl2.out, h9]
        rw [hl8, hh8]
        clear hit Hcl2 hl8 hh8
        go_wp2_with fail
        go_roundg 0
        case rel => exact ⟨K2, cnt + 1, cs, sn, A', m, m0, true, rfl, by go_num, Hsn.out, rfl, hmk, hm95, hcs.out.move (Late.set (by simp) _), hK2, by omega, .inl ⟨rfl, hin.out⟩, hX.out.bad, hY.out.set (by simp) _, hB.out.setCell (p := ⟨w.heap.size, 3, none⟩) (Nat.le_refl _) _, by simpa using hz⟩
        case measure => omega
      · have hlhi : ¬ (h8 : Int) < (l8 : Int) := by omega
        have c3 : W8.cell? ⟨w.heap.size, 3, none⟩ = some (.bool b2) := blk_cell hX.out 3
        cases b2 with
        | true =>
          have hin : Hid (cl = none) := by
            show _ = _
            have h9 : itemF s K m = none := by
              rcases hit.out with ⟨h1, _⟩ | ⟨_, h2⟩
              · cases h1
              · exact h2
            rw [Hcl2.out, h9]
          rw [hl8, hh8]
          clear hit Hcl2 hl8 hh8
          go_wp2_with fail
          go_roundg 0
          case rel => exact ⟨K2, cnt + 1, cs, sn, A', m, m0, true, rfl, by go_num, Hsn.out, rfl, hmk, hm95, hcs, hK2, by omega, .inl ⟨rfl, hin.out⟩, hX, hY, hB, hz⟩
          case measure => omega
        | false =>
          have hit2 : Hid (K < K2 ∧ isS lo = true ∧ isS hi = true ∧ cl = classL s f' (rangeM m lo.toNat (hi.toNat + 1 - lo.toNat)) false K2) := by
            rcases hit.out with ⟨_, h2, h3, h4, h5⟩ | ⟨h1, _⟩
            · refine ⟨h2, h3, h4, ?_⟩
              rw [Hcl2.out, h5, if_neg (by omega)]
            · cases h1
          obtain ⟨hKK, hlo, hhi, hcl3⟩ := hit2.out
          have Hcl3 := Lib.hid hcl3
          have hb1 : 32 ≤ lo.toNat := by unfold isS at hlo; simp only [Bool.and_eq_true, decide_eq_true_eq] at hlo; exact hlo.1
          have hb2 : hi.toNat ≤ 126 := by unfold isS at hhi; simp only [Bool.and_eq_true, decide_eq_true_eq] at hhi; exact hhi.2
          have HSG := Lib.hid (refSigns_any (Late w W8) A' sn cs m0 lo hi W8 Hsn.out hcs.out (fun g hg => hg.2))
          have hrg := signs_range hmk.out hm95 hb1 (show lo.toNat ≤ hi.toNat by omega) hb2
          have Hrg := Lib.hid hrg
          have hrl := rangeM_length hm95 lo.toNat (hi.toNat + 1 - lo.toNat)
          rw [hl8, hh8] at HSG ⊢
          clear hit hit2 Hcl2 hcl3 hrg hlo hhi
          go_wp2_with fail
          refine HSG.out.mono ?_
          rintro e w9 ⟨g9, rfl, hg9, hr9, hb9⟩
          have hcs9 : Hid (CellsIn w9 (Late w w9) (some ⟨g9, 0, none⟩) ((rangeM m lo.toNat (hi.toNat + 1 - lo.toNat)).map Value.bool)) := by
            rw [← hl8, ← hh8] at hr9
            exact row_cells hr9 hrl Hrg.out ⟨by omega, hr9.lt⟩
          have hX9 := Lib.hid (hX.out.below hb9 (by omega))
          have hY9 := Lib.hid (hY.out.below hb9 (by omega))
          have hB9 := Lib.hid (hB.out.trans (hb9.mono hB.out.size))
          have hz9 : w.heap.size + 2 ≤ w9.heap.size := by have := hb9.size; omega
          generalize rangeM m lo.toNat (hi.toNat + 1 - lo.toNat) = m9 at hcs9 hrl Hcl3
          clear hr9 hb9 HSG Hrg hX hY hB hcs
          go_wp2_with fail
          go_roundg (s.size + 1 - K2)
          case rel => exact ⟨K2, cnt + 1, 95, 95, some ⟨g9, 0, none⟩, m9, m9, false, rfl, by go_num, hrl, by simp, .inr rfl, hrl, hcs9, hK2, by omega, .inr ⟨rfl, by omega, f', by rw [Hcl3.out]; simp, by omega⟩, hX9, hY9, hB9, hz9⟩
          case measure => omega
end Go.Proofs.Ytaefhfldgemcnaa
