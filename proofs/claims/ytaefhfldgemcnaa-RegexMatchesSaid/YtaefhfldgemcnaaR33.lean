/- Walks over the document's parser: a piece. -/
import Derived.Test.YtaefhfldgemcnaaR32
namespace Go.Proofs.Ytaefhfldgemcnaa
open Go.RowKit

/-- Where a function of the document's parser, entered at w, stands at W. -/
structure PSt (P : Nat → Prop) (s : ByteArray) (w W : World) (A : Option Addr) (n c k : Nat) (bad : Bool) (ns : List RN) : Prop where
  X : BoxP W w.heap.size A n c s k bad
  Y : RoomP W (w.heap.size + 1)
  B : Below w.heap.size w W
  N : NodesAt W (fun g => P g ∨ Late w W g) A ns
  z : w.heap.size + 2 ≤ W.heap.size
  n : ns.length = n
section
variable {P : Nat → Prop} {s : ByteArray} {w W : World} {A : Option Addr} {n c k : Nat} {bad : Bool} {ns : List RN}
theorem PSt.below (h : PSt P s w W A n c k bad ns) (hP : ∀ g, P g → g < w.heap.size) {W' : World} (hb : Below W.heap.size W W') : PSt P s w W' A n c k bad ns := by
  have hz := h.z
  have hs := hb.size
  refine ⟨h.X.below hb (by omega), h.Y.below hb (by omega), h.B.trans (hb.mono h.B.size), h.N.move (fun g hg => ?_), by omega, h.n⟩
  rcases hg with hg | hg
  · have := hP g hg
    exact ⟨.inl hg, hb.block g (by omega)⟩
  · exact ⟨.inr ⟨hg.1, Nat.lt_of_lt_of_le hg.2 hs⟩, hb.block g hg.2⟩
theorem PSt.cells (h : PSt P s w W A n c k bad ns) (hP : ∀ g, P g → g < w.heap.size) {W' : World} {A' : Option Addr} {n' c' k' : Nat} {bad' : Bool} (hX : BoxP W' w.heap.size A' n' c' s k' bad') (hA : A' = A) (hn : n' = n) (hs : W'.heap.size = W.heap.size) (hh : ∀ g, g ≠ w.heap.size → W'.heap[g]? = W.heap[g]?)
    (hB : Below w.heap.size w W') : PSt P s w W' A' n' c' k' bad' ns := by
  subst hA hn
  have hz := h.z
  refine ⟨hX, ?_, hB, h.N.move (fun g hg => ?_), by omega, h.n⟩
  · obtain ⟨a, b, c, d, hy⟩ := h.Y
    exact ⟨a, b, c, d, (hh _ (by omega)).trans hy⟩
  · rcases hg with hg | hg
    · have := hP g hg
      exact ⟨.inl hg, hh g (by omega)⟩
    · exact ⟨.inr ⟨hg.1, by have := hg.2; omega⟩, hh g (by have := hg.1; omega)⟩
theorem PSt.at_ (h : PSt P s w W A n c k bad ns) (hP : ∀ g, P g → g < w.heap.size) : PSt P s w (W.setCell ⟨w.heap.size, 2, none⟩ (.int .i64 ((k : Int) + 1))) A n c (k + 1) bad ns :=
  h.cells hP h.X.at_ rfl rfl (by simp) (fun g hg => Below.heap_setCell W ⟨w.heap.size, 2, none⟩ _ g hg) (h.B.setCell (p := ⟨w.heap.size, 2, none⟩) (Nat.le_refl _) _)
theorem PSt.stored (h : PSt P s w W A n c k bad ns) (hP : ∀ g, P g → g < w.heap.size) {W' : World} (hb : Below W.heap.size W W') {A' : Option Addr} {n' c' k' : Nat} {bad' : Bool} {ns' : List RN} (hN : NodesAt W' (fun g => P g ∨ Late w W' g) A' ns') (hn : ns'.length = n') :
    PSt P s w (W'.setCells w.heap.size 0 [.slice A' n' c', .string s, .int .i64 k', .bool bad']) A' n' c' k' bad' ns' := by
  have h' := h.below hP hb
  have hsz := setCells_size [.slice A' n' c', .string s, .int .i64 k', .bool bad'] w.heap.size 0 W'
  have hz := h'.z
  refine ⟨h'.X.room.stored A' n' c' s k' bad', ?_, below_setCells (Nat.le_refl _) _ _ _ h'.B, hN.move (fun g hg => ?_), by omega, hn⟩
  · obtain ⟨a, b, c, d, hy⟩ := h'.Y
    exact ⟨a, b, c, d, (heap_setCells_other (by omega) _ _ _).trans hy⟩
  · rcases hg with hg | hg
    · have := hP g hg
      exact ⟨.inl hg, heap_setCells_other (by omega) _ _ _⟩
    · exact ⟨.inr ⟨hg.1, by have := hg.2; omega⟩, heap_setCells_other (by have := hg.1; omega) _ _ _⟩
theorem PSt.final (h : PSt P s w W A n c k bad ns) (hP : ∀ g, P g → g < w.heap.size) (vs : List Value) :
    NodesAt (W.setCells (w.heap.size + 1) 0 vs) (fun g => P g ∨ Fresh w (W.setCells (w.heap.size + 1) 0 vs) g) A ns ∧ Below w.heap.size w (W.setCells (w.heap.size + 1) 0 vs) := by
  have hsz := setCells_size vs (w.heap.size + 1) 0 W
  refine ⟨h.N.move (fun g hg => ?_), below_setCells (by omega) _ _ _ h.B⟩
  rcases hg with hg | hg
  · have := hP g hg
    exact ⟨.inl hg, heap_setCells_other (by omega) _ _ _⟩
  · have := hg.1
    exact ⟨.inr ⟨by omega, by have := hg.2; omega⟩, heap_setCells_other (by omega) _ _ _⟩
theorem PSt.start {A : Option Addr} {n c k : Nat} {bad : Bool} {ns : List RN} (hN : NodesAt w P A ns) (hP : ∀ g, P g → g < w.heap.size) (hn : ns.length = n) (o : Obj) (ho : ∃ a b c d, o = .cells #[a, b, c, d] 82) :
    PSt P s w ((w.alloc (.cells #[.slice A n c, .string s, .int .i64 k, .bool bad] 82)).alloc o) A n c k bad ns := by
  obtain ⟨o0, o1, o2, o3, rfl⟩ := ho
  have hB : Below w.heap.size w ((w.alloc (.cells #[.slice A n c, .string s, .int .i64 k, .bool bad] 82)).alloc (.cells #[o0, o1, o2, o3] 82)) := ((Below.refl _ _).alloc (Nat.le_refl _) _).alloc (by simp) _
  exact ⟨blk_alloc (blk_new _ _) _, ⟨_, _, _, _, blk_new' (by simp)⟩, hB, hN.move (fun g hg => ⟨.inl hg, hB.block g (hP g hg)⟩), by simp, hn⟩
/-- What came of a call on what is parsed. -/
theorem PSt.of_call (h : PSt P s w W A n c k bad ns) {W' : World} {A' : Option Addr} {ns' : List RN} (hb : Below W.heap.size W W') (hN : NodesAt W' (fun g => (P g ∨ Late w W g) ∨ Fresh W W' g) A' ns') : NodesAt W' (fun g => P g ∨ Late w W' g) A' ns' := by
  have hz := h.z
  have hs := hb.size
  refine hN.move (fun g hg => ⟨?_, rfl⟩)
  rcases hg with (hg | hg) | hg
  · exact .inl hg
  · exact .inr ⟨hg.1, Nat.lt_of_lt_of_le hg.2 hs⟩
  · exact .inr ⟨Nat.le_trans hz hg.1, hg.2⟩
theorem PSt.bound (h : PSt P s w W A n c k bad ns) (hP : ∀ g, P g → g < w.heap.size) : ∀ g, (P g ∨ Late w W g) → g < W.heap.size := fun g hg => by
  have hz := h.z
  rcases hg with hg | hg
  · have := hP g hg; omega
  · exact hg.2
def Added (P : Nat → Prop) (s : ByteArray) (w W : World) (n k : Nat) (bad : Bool) (ns : List RN) (r : RN) (e : Ending) (w' : World) : Prop :=
  ∃ A' c', e = .returned (.tuple #[pvOf A' (n + 1) c' s k bad, .int .i64 n]) ∧ Hid (NodesAt w' (fun g => P g ∨ Late w w' g) A' (ns ++ [r])) ∧ Hid (Below W.heap.size W w')
theorem PSt.add_none (h : PSt P s w W A n c k bad ns) (hP : ∀ g, P g → g < w.heap.size) (hn : n ≤ 9000) (op : UInt8) :
    Calls Try.prog 69 #[pvOf A n c s k bad, .agg #[.int .u8 op.toNat, .slice none 0 0, .slice none 0 0]] W (Added P s w W n k bad ns ⟨op, [], []⟩) := by
  have hnn := h.n
  have := refAdd_any (fun g => P g ∨ Late w W g) A c s k bad ns ⟨op, [], []⟩ (.slice none 0 0, .slice none 0 0) W (by omega) h.N ⟨⟨none, 0, rfl, nil_cells _ _ _⟩, none, 0, rfl, nil_cells _ _ _⟩ (h.bound hP)
  rw [hnn] at this
  refine this.mono ?_
  rintro e w' ⟨A', c', rfl, hN, hb⟩
  exact ⟨A', c', by rw [hnn], h.of_call hb hN, hb⟩
theorem PSt.add_list (h : PSt P s w W A n c k bad ns) (hP : ∀ g, P g → g < w.heap.size) (hn : n ≤ 9000) (op : UInt8) (l : List Nat) {cs : Array Value} (hcs : cs.toList = jInts l) {m : Nat} (hm : l.length = m) :
    Calls Try.prog 69 #[pvOf A n c s k bad, .agg #[.int .u8 op.toNat, .slice none 0 0, .slice (some ⟨W.heap.size, 0, none⟩) m m]] (W.alloc (.cells cs 3)) (Added P s w W n k bad ns ⟨op, [], l⟩) := by
  have hnn := h.n
  have hb0 : Below W.heap.size W (W.alloc (.cells cs 3)) := (Below.refl _ _).alloc (Nat.le_refl _) _
  have h' := h.below hP hb0
  have hz := h.z
  have hc : CellsIn (W.alloc (.cells cs 3)) (fun g => P g ∨ Late w (W.alloc (.cells cs 3)) g) (some ⟨W.heap.size, 0, none⟩) (jInts l) := by
    intro j hj
    refine ⟨W.heap.size, 0, rfl, .inr ⟨hz, by simp⟩, ?_⟩
    rw [Nat.zero_add, blk_cell (blk_new W (.cells cs 3)) j, ← Array.getElem?_toList, hcs, List.getElem?_eq_getElem hj]
  have := refAdd_any (fun g => P g ∨ Late w (W.alloc (.cells cs 3)) g) A c s k bad ns ⟨op, [], l⟩ (.slice none 0 0, .slice (some ⟨W.heap.size, 0, none⟩) m m) (W.alloc (.cells cs 3)) (by omega) h'.N ⟨⟨none, 0, rfl, nil_cells _ _ _⟩, _, m, by rw [hm], hc⟩ (h'.bound hP)
  rw [hnn] at this
  refine this.mono ?_
  rintro e w' ⟨A', c', rfl, hN, hb⟩
  exact ⟨A', c', by rw [hnn], h'.of_call hb hN, hb0.trans (hb.mono (by simp))⟩
end

def pieceF (s : ByteArray) (f k : Nat) : Option (T × Nat) :=
  match atomF s f k with
  | none => none
  | some (p, k') => some (reps s p k')
def RefPieceOk (s : ByteArray) (k : Nat) : Prop := RefOk 68 s k (fun f => pieceF s f k) (3 * (s.size - k) + 1) 0 (2 * s.size + 2 - k) (2 * (s.size - k) + 1)
theorem atL_ops (s : ByteArray) (k : Nat) : atL s k [42, 43, 63] = (atL s k [42] || (atL s k [43] || atL s k [63])) := by
  unfold atL inL
  cases decide (k < s.size) <;> simp
theorem atL_is {s : ByteArray} {k : Nat} {c : UInt8} (h : atL s k [c] = true) : byteAt s k = c := by
  unfold atL at h
  rw [inL_one] at h
  simpa using (Bool.and_eq_true_iff.1 h).2
theorem atL_not {s : ByteArray} {k : Nat} {c d : UInt8} (h : atL s k [c] = true) (hne : c ≠ d) : atL s k [d] = false := by
  have hb := atL_is h
  unfold atL
  rw [hb, inL_one, beq_eq_false_iff_ne.2 hne, Bool.and_false]

set_option maxRecDepth 8192 in
set_option maxHeartbeats 6400000 in
theorem refPiece_any (s : ByteArray) (k : Nat) (hs : s.size ≤ 1000) (hk : k < s.size) (IH : RefAtomOk s k) : RefPieceOk s k := by
  intro P A c ns f w hN hP hbud hf
  obtain ⟨res, hres⟩ : ∃ res, res = pieceF s f k := ⟨_, rfl⟩
  show Calls _ _ _ _ (PPost P s ns (pieceF s f k) k 0 _ _ w)
  rw [← hres]
  unfold pieceF at hres
  have HP := Lib.hid hP
  obtain ⟨n, hnn⟩ : ∃ n, ns.length = n := ⟨_, rfl⟩
  have HS0 : Hid (∀ (o : Obj), (∃ a b c d, o = .cells #[a, b, c, d] 82) → PSt P s w ((w.alloc (.cells #[.slice A n c, .string s, .int .i64 k, .bool false] 82)).alloc o) A n c k false ns) := fun o ho => PSt.start hN hP hnn o ho
  rw [hnn] at hbud
  have Hnn := Lib.hid hnn
  have Hres := Lib.hid hres
  have HIS := Lib.hid (fun (A : Option Addr) (n c kx : Nat) (b : Bool) (ch : UInt8) (wx : World) => refIs_any A n c s kx b ch wx)
  have HIH := Lib.hid IH
  rw [hnn]
  clear hres hN hP hnn IH
  go_enter Try.func68, Try.ntmps68
  go_upto_region 1 with fail
  have hS := Lib.hid (HS0.out (.cells #[.slice none 0 0, .string (ByteArray.mk #[]), .int .i64 0, .bool false] 82) ⟨_, _, _, _, rfl⟩)
  generalize (w.alloc _).alloc _ = W at hS ⊢
  have hzz := hS.out.z
  have HA := HIH.out (fun g => P g ∨ Late w W g) A c ns f W hS.out.N (hS.out.bound HP.out) (by rw [Hnn.out]; omega) (by omega)
  rw [Hnn.out] at HA
  have HA2 : Hid (Calls Try.prog 77 #[pvOf A n c s k false] W (PPost (fun g => P g ∨ Late w W g) s ns (atomF s f k) k 0 (2 * s.size + 2 - k) (2 * (s.size - k) + 1) W)) := HA
  clear HA HIH HS0
  go_wp2_with ((with_reducible show wpList _ _ _ (⟨some 10, _, _, _, _, _⟩ :: _) _ _); refine wpList_load_row rfl 82 _ rfl w.heap.size rfl 82 _ (0, 0) _ hS.out.X Try.underlying82 rfl info82 ?_)
  refine HA2.out.mono ?_
  rintro e w1 ⟨A1, c1, ms, kk, K1, bad, rfl, hN1, hb1, hpp⟩
  obtain ⟨n1, hn1⟩ : ∃ n1, (ns ++ ms).length = n1 := ⟨_, rfl⟩
  rw [hn1]
  have hS1 := Lib.hid (hS.out.stored HP.out hb1.out (c' := c1) (k' := K1) (bad' := bad) (hS.out.of_call hb1.out hN1.out) hn1)
  have hX1 := Lib.hid ((hS.out.below HP.out hb1.out).X)
  have hK1s : K1 ≤ 5000 := by
    rcases hpp.out with ⟨t, h1, h2, h3, h4, h5⟩ | ⟨h1, h2, h3, h4⟩
    · have := ((pfacts s f).a k t K1 (by omega) h1).2.1; omega
    · omega
  have hpp2 : Hid ((bad = false ∧ ∃ t, res = some (reps s t K1) ∧ Den (ns ++ ms) kk (Lang t) ∧ (NsOk ns → NsOk (ns ++ ms)) ∧ ms.length + 2 * k ≤ 2 * K1 ∧ K1 ≤ s.size) ∨ (bad = true ∧ res = none ∧ K1 ≤ 2 * s.size + 2 - k ∧ ms.length ≤ 2 * (s.size - k) + 1)) := by
    rcases hpp.out with ⟨t, h1, h2, h3, h4, h5⟩ | ⟨h1, h2, h3, h4⟩
    · exact .inl ⟨h2, t, by rw [Hres.out, h1], h3, h4, by omega, ((pfacts s f).a k t K1 (by omega) h1).2.1⟩
    · exact .inr ⟨h2, by rw [Hres.out, h1], h3, h4⟩
  clear hS hN1 hb1 hpp hn1 HA2 Hres
  go_upto_region 2 with ((with_reducible show wpList _ _ _ (⟨none, _, _, _, _, _⟩ :: _) _ _); refine wpList_store_mid rfl 82 _ _ rfl w.heap.size 0 _ rfl rfl hX1.out.room.there info82 (one82 _ _ _ _ _ _) ?_)
  generalize w1.setCells _ _ _ = W1 at hS1 ⊢
  clear hX1
  go_loopg [4] (if bad then 0 else s.size + 1 - K1) (fun q kv wr => ∃ (K kk nn c' : Nat) (A' : Option Addr) (ms : List RN) (bad : Bool), kv = .int .i64 kk ∧ q = (if bad then 0 else s.size + 1 - K) ∧ K ≤ 5000 ∧ Hid (PSt P s w wr A' nn c' K bad (ns ++ ms)) ∧
    Hid ((bad = false ∧ ∃ t, res = some (reps s t K) ∧ Den (ns ++ ms) kk (Lang t) ∧ (NsOk ns → NsOk (ns ++ ms)) ∧ ms.length + 2 * k ≤ 2 * K ∧ K ≤ s.size) ∨ (bad = true ∧ res = none ∧ K ≤ 2 * s.size + 2 - k ∧ ms.length ≤ 2 * (s.size - k) + 1)))
  case atStart => exact ⟨K1, kk, n1, c1, A1, ms, bad, rfl, rfl, hK1s, hS1, hpp2⟩
  case round =>
    clear hS1 hpp2
    obtain ⟨K, kk, nn, c', A', ms, bad, rfl, hq, hK5, hS, hpp⟩ := hrel
    cases bad with
    | true =>
      have hres : res = none ∧ K ≤ 2 * s.size + 2 - k ∧ ms.length ≤ 2 * (s.size - k) + 1 := by
        rcases hpp.out with ⟨h1, _⟩ | ⟨_, h2⟩
        · cases h1
        · exact h2
      have Hr := Lib.hid hres
      have c3 : wr.cell? ⟨w.heap.size, 3, none⟩ = some (.bool true) := blk_cell hS.out.X 3
      clear hres hpp
      go_wp2_with (first
        | ((with_reducible show wpList _ _ _ (⟨some 74, _, _, _, _, _⟩ :: _) _ _); refine wpList_load_row rfl 82 _ rfl w.heap.size rfl 82 _ (0, 0) _ hS.out.X Try.underlying82 rfl info82 ?_)
        | ((with_reducible show wpList _ _ _ (⟨none, _, _, _, _, _⟩ :: _) _ _); refine wpList_store_mid rfl 82 _ _ rfl (w.heap.size + 1) 0 _ rfl rfl hS.out.Y.there info82 (one82 _ _ _ _ _ _) ?_))
      have hfin := hS.out.final HP.out [.slice A' nn c', .string s, .int .i64 K, .bool true]
      refine bodyPost_ret (results_pv (p := 2) (u := 3) rfl _ _ rfl (hS.out.Y.stored A' nn c' s K true)) rfl ⟨A', c', ms, kk, K, true, ?_, hfin.1, hfin.2, .inr ⟨Hr.out.1, rfl, Hr.out.2⟩⟩
      rw [hS.out.n]
      rfl
    | false =>
      have hgood : ∃ t, res = some (reps s t K) ∧ Den (ns ++ ms) kk (Lang t) ∧ (NsOk ns → NsOk (ns ++ ms)) ∧ ms.length + 2 * k ≤ 2 * K ∧ K ≤ s.size := by
        rcases hpp.out with ⟨_, h2⟩ | ⟨h1, _⟩
        · exact h2
        · cases h1
      obtain ⟨t, hr, hden, hok, hml, hKs⟩ := hgood
      have Hr := Lib.hid hr
      have Hden := Lib.hid hden
      have Hok := Lib.hid hok
      have hnn := hS.out.n
      rw [List.length_append, Hnn.out] at hnn
      have hnn9 : nn ≤ 4000 := by omega
      have Hnn2 := Lib.hid hnn
      have c3 : wr.cell? ⟨w.heap.size, 3, none⟩ = some (.bool false) := blk_cell hS.out.X 3
      rw [if_neg (by decide)] at hq
      clear hpp hr hden hok hnn
      go_wp2_with ((with_reducible show wpList _ _ _ (⟨some 17, _, _, _, _, _⟩ :: _) _ _); refine wpList_load_row rfl 82 _ rfl w.heap.size rfl 82 _ (0, 0) _ hS.out.X Try.underlying82 rfl info82 ?_)
      refine (HIS.out A' nn c' K false 42 _).mono ?_
      rintro e wa ⟨rfl, hba⟩
      have hSa := Lib.hid (hS.out.below HP.out hba)
      clear hS hba c3
      go_wp2_with ((with_reducible show wpList _ _ _ (⟨some 19, _, _, _, _, _⟩ :: _) _ _); refine wpList_load_row rfl 82 _ rfl w.heap.size rfl 82 _ (0, 0) _ hSa.out.X Try.underlying82 rfl info82 ?_)
      refine (HIS.out A' nn c' K false 43 _).mono ?_
      rintro e wb ⟨rfl, hbb⟩
      have hSb := Lib.hid (hSa.out.below HP.out hbb)
      clear hSa hbb
      go_wp2_with ((with_reducible show wpList _ _ _ (⟨some 21, _, _, _, _, _⟩ :: _) _ _); refine wpList_load_row rfl 82 _ rfl w.heap.size rfl 82 _ (0, 0) _ hSb.out.X Try.underlying82 rfl info82 ?_)
      refine (HIS.out A' nn c' K false 63 _).mono ?_
      rintro e wd ⟨rfl, hbd⟩
      have hS := Lib.hid (hSb.out.below HP.out hbd)
      clear hSb hbd
      by_cases hany : atL s K [42, 43, 63] = true
      · have hlt := atL_lt hany
        have hr2 : Hid (res = some (reps s (.rep t (byteAt s K)) (K + 1))) := by show _ = _; rw [Hr.out, reps_yes hany]
        rw [atL_ops, Bool.or_eq_true, Bool.or_eq_true] at hany
        obtain ⟨J, hJ⟩ : ∃ J, K + 1 = J := ⟨_, rfl⟩
        have hS9 := Lib.hid (hS.out.at_ HP.out)
        rw [hJ] at hr2 hS9
        have c2 : wd.cell? ⟨w.heap.size, 2, none⟩ = some (.int .i64 K) := blk_cell hS.out.X 2
        have f2 : wd.frozen? ⟨w.heap.size, 2, none⟩ = false := blk_frozen hS.out.X 2
        have hms : J ≤ s.size := by omega
        have hmq : s.size + 1 - J < gk := by omega
        have hJ5 : J ≤ 5000 := by omega
        have HJ := Lib.hid hJ
        have Hany := Lib.hid hany
        clear hJ hany Hr hS
        by_cases hmb : atL s K [63] = true
        · have h42 := atL_not (d := 42) hmb (by decide)
          have h43 := atL_not (d := 43) hmb (by decide)
          have hbt := atL_is hmb
          rw [hbt] at hr2
          rw [hmb, h42, h43]
          clear hmb h42 h43 hbt
          go_upto_region 11 with fail
          generalize wd.setCell _ _ = W1 at hS9 ⊢
          clear c2 f2
          go_wp2_with ((with_reducible show wpList _ _ _ (⟨some 41, _, _, _, _, _⟩ :: _) _ _); refine wpList_load_row rfl 82 _ rfl w.heap.size rfl 82 _ (0, 0) _ hS9.out.X Try.underlying82 rfl info82 ?_)
          refine (hS9.out.add_none HP.out (by omega) 116).mono ?_
          rintro e w2 ⟨A2, c2, rfl, hN2, hb2⟩
          have hX2 := Lib.hid (hS9.out.below HP.out hb2.out).X
          have hS2 := Lib.hid (hS9.out.stored HP.out hb2.out (c' := c2) (k' := J) (bad' := false) hN2.out (n' := nn + 1) (by rw [List.length_append, hS9.out.n]; rfl))
          go_upto_region 12 with ((with_reducible show wpList _ _ _ (⟨none, _, _, _, _, _⟩ :: _) _ _); refine wpList_store_mid rfl 82 _ _ rfl w.heap.size 0 _ rfl rfl hX2.out.room.there info82 (one82 _ _ _ _ _ _) ?_)
          generalize w2.setCells _ _ _ = W2 at hS2 ⊢
          clear hX2 hN2 hb2 hS9
          go_wp2_with ((with_reducible show wpList _ _ _ (⟨some 47, _, _, _, _, _⟩ :: _) _ _); refine wpList_load_row rfl 82 _ rfl w.heap.size rfl 82 _ (0, 0) _ hS2.out.X Try.underlying82 rfl info82 ?_)
          refine (hS2.out.add_list HP.out (by omega) 111 [kk, nn] (cs := #[.int .i64 kk, .int .i64 nn]) rfl rfl).mono ?_
          rintro e w3 ⟨A3, c3, rfl, hN3, hb3⟩
          have hX3 := Lib.hid (hS2.out.below HP.out hb3.out).X
          have hS3 := Lib.hid (hS2.out.stored HP.out hb3.out (c' := c3) (k' := J) (bad' := false) hN3.out (n' := nn + 1 + 1) (by rw [List.length_append, hS2.out.n]; rfl))
          clear hN3 hb3
          go_wp2_with ((with_reducible show wpList _ _ _ (⟨none, _, _, _, _, _⟩ :: _) _ _); refine wpList_store_mid rfl 82 _ _ rfl w.heap.size 0 _ rfl rfl hX3.out.room.there info82 (one82 _ _ _ _ _ _) ?_)
          have e1 : ns ++ (ms ++ [⟨116, [], []⟩, ⟨111, [], [kk, nn]⟩]) = ((ns ++ ms) ++ [⟨116, [], []⟩]) ++ [⟨111, [], [kk, nn]⟩] := by simp
          have hl0 : (ns ++ ms).length = nn := by rw [List.length_append, Hnn.out]; exact Hnn2.out
          have hl1 : ((ns ++ ms) ++ [(⟨116, [], []⟩ : RN)]).length = nn + 1 := by rw [List.length_append, hl0]; rfl
          have hd1 : Den ((ns ++ ms) ++ [⟨116, [], []⟩]) nn (fun u => u = []) := by have := den_none (ns ++ ms); rwa [hl0] at this
          have hd2 : Den (((ns ++ ms) ++ [⟨116, [], []⟩]) ++ [⟨111, [], [kk, nn]⟩]) (nn + 1) (Lang (.rep t 63)) := by have := den_maybe (Hden.out.snoc _) hd1; rwa [hl1] at this
          have hkn : kk < nn := by have := Hden.out.lt; omega
          have hok2 : NsOk ns → NsOk (((ns ++ ms) ++ [⟨116, [], []⟩]) ++ [⟨111, [], [kk, nn]⟩]) := fun h => ((Hok.out h).snoc (.inr (.inr (.inl ⟨rfl, by simp, by intro j hj; simp at hj⟩)))).snoc (.inr (.inl ⟨rfl, by simp, by
            intro j hj
            rw [hl1]
            simp at hj
            omega⟩))
          have Hd2 := Lib.hid hd2
          have Hok2 := Lib.hid hok2
          have hfin : Hid ((false = false ∧ ∃ t, res = some (reps s t J) ∧ Den (ns ++ (ms ++ [⟨116, [], []⟩, ⟨111, [], [kk, nn]⟩])) (nn + 1) (Lang t) ∧ (NsOk ns → NsOk (ns ++ (ms ++ [⟨116, [], []⟩, ⟨111, [], [kk, nn]⟩]))) ∧ (ms ++ [(⟨116, [], []⟩ : RN), ⟨111, [], [kk, nn]⟩]).length + 2 * k ≤ 2 * J ∧ J ≤ s.size) ∨ (false = true ∧ res = none ∧ J ≤ 2 * s.size + 2 - k ∧ (ms ++ [(⟨116, [], []⟩ : RN), ⟨111, [], [kk, nn]⟩]).length ≤ 2 * (s.size - k) + 1)) := by
            refine .inl ⟨rfl, _, hr2.out, ?_, ?_, ?_, hms⟩
            · rw [e1]; exact Hd2.out
            · rw [e1]; exact Hok2.out
            · have := HJ.out
              rw [List.length_append]
              show ms.length + 2 + _ ≤ _
              omega
          rw [← e1] at hS3
          clear hd1 hd2 hok2 Hd2 Hok2 hl0 hl1 e1 hX3 hS2
          go_roundg (s.size + 1 - J)
          case rel => exact ⟨J, nn + 1, nn + 1 + 1, c3, A3, _, false, by go_num, rfl, hJ5, hS3, hfin⟩
          case measure => exact hmq
        · have hmb2 : atL s K [63] = false := by simpa using hmb
          by_cases hst : atL s K [42] = true
          · have h43 := atL_not (d := 43) hst (by decide)
            have hbt := atL_is hst
            rw [hbt] at hr2
            rw [hmb2, hst, h43]
            clear hmb hst h43 hbt hmb2
            go_upto_region 13 with fail
            generalize wd.setCell _ _ = W1 at hS9 ⊢
            clear c2 f2
            go_wp2_with ((with_reducible show wpList _ _ _ (⟨some 56, _, _, _, _, _⟩ :: _) _ _); refine wpList_load_row rfl 82 _ rfl w.heap.size rfl 82 _ (0, 0) _ hS9.out.X Try.underlying82 rfl info82 ?_)
            refine (hS9.out.add_list HP.out (by omega) 109 [kk] (cs := #[.int .i64 kk]) rfl rfl).mono ?_
            rintro e w3 ⟨A3, c3, rfl, hN3, hb3⟩
            have hX3 := Lib.hid (hS9.out.below HP.out hb3.out).X
            have hS3 := Lib.hid (hS9.out.stored HP.out hb3.out (c' := c3) (k' := J) (bad' := false) hN3.out (n' := nn + 1) (by rw [List.length_append, hS9.out.n]; rfl))
            clear hN3 hb3
            go_wp2_with ((with_reducible show wpList _ _ _ (⟨none, _, _, _, _, _⟩ :: _) _ _); refine wpList_store_mid rfl 82 _ _ rfl w.heap.size 0 _ rfl rfl hX3.out.room.there info82 (one82 _ _ _ _ _ _) ?_)
            have e1 : ns ++ (ms ++ [⟨109, [], [kk]⟩]) = (ns ++ ms) ++ [⟨109, [], [kk]⟩] := by simp
            have hl0 : (ns ++ ms).length = nn := by rw [List.length_append, Hnn.out]; exact Hnn2.out
            have hd2 : Den ((ns ++ ms) ++ [⟨109, [], [kk]⟩]) nn (Lang (.rep t 42)) := by have := den_star Hden.out; rwa [hl0] at this
            have hkn : kk < nn := by have := Hden.out.lt; omega
            have hok2 : NsOk ns → NsOk ((ns ++ ms) ++ [⟨109, [], [kk]⟩]) := fun h => (Hok.out h).snoc (.inr (.inr (.inr ⟨rfl, kk, by rw [hl0]; exact hkn, rfl⟩)))
            have Hd2 := Lib.hid hd2
            have Hok2 := Lib.hid hok2
            have hfin : Hid ((false = false ∧ ∃ t, res = some (reps s t J) ∧ Den (ns ++ (ms ++ [⟨109, [], [kk]⟩])) nn (Lang t) ∧ (NsOk ns → NsOk (ns ++ (ms ++ [⟨109, [], [kk]⟩]))) ∧ (ms ++ [(⟨109, [], [kk]⟩ : RN)]).length + 2 * k ≤ 2 * J ∧ J ≤ s.size) ∨ (false = true ∧ res = none ∧ J ≤ 2 * s.size + 2 - k ∧ (ms ++ [(⟨109, [], [kk]⟩ : RN)]).length ≤ 2 * (s.size - k) + 1)) := by
              refine .inl ⟨rfl, _, hr2.out, ?_, ?_, ?_, hms⟩
              · rw [e1]; exact Hd2.out
              · rw [e1]; exact Hok2.out
              · have := HJ.out
                rw [List.length_append]
                show ms.length + 1 + _ ≤ _
                omega
            rw [← e1] at hS3
            clear hd2 hok2 Hd2 Hok2 hl0 e1 hX3
            go_roundg (s.size + 1 - J)
            case rel => exact ⟨J, nn, nn + 1, c3, A3, _, false, by go_num, rfl, hJ5, hS3, hfin⟩
            case measure => exact hmq
          · have hst2 : atL s K [42] = false := by simpa using hst
            have hpl : atL s K [43] = true := by
              rcases Hany.out with h | h | h
              · exact absurd h hst
              · exact h
              · exact absurd h hmb
            have hbt := atL_is hpl
            rw [hbt] at hr2
            rw [hmb2, hst2, hpl]
            clear hmb hst hst2 hbt hmb2 hpl
            go_upto_region 13 with fail
            generalize wd.setCell _ _ = W1 at hS9 ⊢
            clear c2 f2
            go_wp2_with ((with_reducible show wpList _ _ _ (⟨some 56, _, _, _, _, _⟩ :: _) _ _); refine wpList_load_row rfl 82 _ rfl w.heap.size rfl 82 _ (0, 0) _ hS9.out.X Try.underlying82 rfl info82 ?_)
            refine (hS9.out.add_list HP.out (by omega) 109 [kk] (cs := #[.int .i64 kk]) rfl rfl).mono ?_
            rintro e w2 ⟨A2, c2, rfl, hN2, hb2⟩
            have hX2 := Lib.hid (hS9.out.below HP.out hb2.out).X
            have hS2 := Lib.hid (hS9.out.stored HP.out hb2.out (c' := c2) (k' := J) (bad' := false) hN2.out (n' := nn + 1) (by rw [List.length_append, hS9.out.n]; rfl))
            go_upto_region 15 with ((with_reducible show wpList _ _ _ (⟨none, _, _, _, _, _⟩ :: _) _ _); refine wpList_store_mid rfl 82 _ _ rfl w.heap.size 0 _ rfl rfl hX2.out.room.there info82 (one82 _ _ _ _ _ _) ?_)
            generalize w2.setCells _ _ _ = W2 at hS2 ⊢
            clear hX2 hN2 hb2 hS9
            go_wp2_with ((with_reducible show wpList _ _ _ (⟨some 65, _, _, _, _, _⟩ :: _) _ _); refine wpList_load_row rfl 82 _ rfl w.heap.size rfl 82 _ (0, 0) _ hS2.out.X Try.underlying82 rfl info82 ?_)
            refine (hS2.out.add_list HP.out (by omega) 116 [kk, nn] (cs := #[.int .i64 kk, .int .i64 nn]) rfl rfl).mono ?_
            rintro e w3 ⟨A3, c3, rfl, hN3, hb3⟩
            have hX3 := Lib.hid (hS2.out.below HP.out hb3.out).X
            have hS3 := Lib.hid (hS2.out.stored HP.out hb3.out (c' := c3) (k' := J) (bad' := false) hN3.out (n' := nn + 1 + 1) (by rw [List.length_append, hS2.out.n]; rfl))
            clear hN3 hb3
            go_wp2_with ((with_reducible show wpList _ _ _ (⟨none, _, _, _, _, _⟩ :: _) _ _); refine wpList_store_mid rfl 82 _ _ rfl w.heap.size 0 _ rfl rfl hX3.out.room.there info82 (one82 _ _ _ _ _ _) ?_)
            have e1 : ns ++ (ms ++ [⟨109, [], [kk]⟩, ⟨116, [], [kk, nn]⟩]) = ((ns ++ ms) ++ [⟨109, [], [kk]⟩]) ++ [⟨116, [], [kk, nn]⟩] := by simp
            have hl0 : (ns ++ ms).length = nn := by rw [List.length_append, Hnn.out]; exact Hnn2.out
            have hl1 : ((ns ++ ms) ++ [(⟨109, [], [kk]⟩ : RN)]).length = nn + 1 := by rw [List.length_append, hl0]; rfl
            have hd1 : Den ((ns ++ ms) ++ [⟨109, [], [kk]⟩]) nn (Lang (.rep t 42)) := by have := den_star Hden.out; rwa [hl0] at this
            have hd2 : Den (((ns ++ ms) ++ [⟨109, [], [kk]⟩]) ++ [⟨116, [], [kk, nn]⟩]) (nn + 1) (Lang (.rep t 43)) := by have := den_plus (Hden.out.snoc _) hd1; rwa [hl1] at this
            have hkn : kk < nn := by have := Hden.out.lt; omega
            have hok2 : NsOk ns → NsOk (((ns ++ ms) ++ [⟨109, [], [kk]⟩]) ++ [⟨116, [], [kk, nn]⟩]) := fun h => ((Hok.out h).snoc (.inr (.inr (.inr ⟨rfl, kk, by rw [hl0]; exact hkn, rfl⟩)))).snoc (.inr (.inr (.inl ⟨rfl, by simp, by
              intro j hj
              rw [hl1]
              simp at hj
              omega⟩)))
            have Hd2 := Lib.hid hd2
            have Hok2 := Lib.hid hok2
            have hfin : Hid ((false = false ∧ ∃ t, res = some (reps s t J) ∧ Den (ns ++ (ms ++ [⟨109, [], [kk]⟩, ⟨116, [], [kk, nn]⟩])) (nn + 1) (Lang t) ∧ (NsOk ns → NsOk (ns ++ (ms ++ [⟨109, [], [kk]⟩, ⟨116, [], [kk, nn]⟩]))) ∧ (ms ++ [(⟨109, [], [kk]⟩ : RN), ⟨116, [], [kk, nn]⟩]).length + 2 * k ≤ 2 * J ∧ J ≤ s.size) ∨ (false = true ∧ res = none ∧ J ≤ 2 * s.size + 2 - k ∧ (ms ++ [(⟨109, [], [kk]⟩ : RN), ⟨116, [], [kk, nn]⟩]).length ≤ 2 * (s.size - k) + 1)) := by
              refine .inl ⟨rfl, _, hr2.out, ?_, ?_, ?_, hms⟩
              · rw [e1]; exact Hd2.out
              · rw [e1]; exact Hok2.out
              · have := HJ.out
                rw [List.length_append]
                show ms.length + 2 + _ ≤ _
                omega
            rw [← e1] at hS3
            clear hd1 hd2 hok2 Hd2 Hok2 hl0 hl1 e1 hX3 hS2
            go_roundg (s.size + 1 - J)
            case rel => exact ⟨J, nn + 1, nn + 1 + 1, c3, A3, _, false, by go_num, rfl, hJ5, hS3, hfin⟩
            case measure => exact hmq
      · have hany2 : atL s K [42, 43, 63] = false := by simpa using hany
        have hr2 : Hid (res = some (t, K)) := by show _ = _; rw [Hr.out, reps_no hany2]
        rw [atL_ops, Bool.or_eq_false_iff, Bool.or_eq_false_iff] at hany2
        obtain ⟨h42, h43, h63⟩ := hany2
        rw [h42, h43, h63]
        clear h42 h43 h63 hany Hr
        go_wp2_with (first
          | ((with_reducible show wpList _ _ _ (⟨some 33, _, _, _, _, _⟩ :: _) _ _); refine wpList_load_row rfl 82 _ rfl w.heap.size rfl 82 _ (0, 0) _ hS.out.X Try.underlying82 rfl info82 ?_)
          | ((with_reducible show wpList _ _ _ (⟨none, _, _, _, _, _⟩ :: _) _ _); refine wpList_store_mid rfl 82 _ _ rfl (w.heap.size + 1) 0 _ rfl rfl hS.out.Y.there info82 (one82 _ _ _ _ _ _) ?_))
        have hfin := hS.out.final HP.out [.slice A' nn c', .string s, .int .i64 K, .bool false]
        refine bodyPost_ret (results_pv (p := 2) (u := 3) rfl _ _ rfl (hS.out.Y.stored A' nn c' s K false)) rfl ⟨A', c', ms, kk, K, false, ?_, hfin.1, hfin.2, .inl ⟨t, hr2.out, rfl, Hden.out, Hok.out, by omega⟩⟩
        rw [hS.out.n]
        rfl
end Go.Proofs.Ytaefhfldgemcnaa
