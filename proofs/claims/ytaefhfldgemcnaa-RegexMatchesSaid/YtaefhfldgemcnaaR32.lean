/- Walks over the document's parser: an atom. -/
import Derived.Test.YtaefhfldgemcnaaR31
import Derived.Deep.RegionWith
namespace Go.Proofs.Ytaefhfldgemcnaa
open Go.RowKit

/-- Function fn of the document's parser, from k on, does as F says. -/
def RefOk (fn : Nat) (s : ByteArray) (k : Nat) (F : Nat → Option (T × Nat)) (need ex L1 L2 : Nat) : Prop :=
  ∀ (P : Nat → Prop) (A : Option Addr) (c : Nat) (ns : List RN) (f : Nat) (w : World), NodesAt w P A ns → (∀ g, P g → g < w.heap.size) → ns.length + 2 * (s.size - k) ≤ 4000 → need ≤ f →
    Calls Try.prog fn #[pvOf A ns.length c s k false] w (PPost P s ns (F f) k ex L1 L2 w)
def RefExprOk (s : ByteArray) (k : Nat) : Prop := RefOk 54 s k (fun f => exprF s f [] k) (3 * (s.size - k) + 3) 2 (2 * s.size + 2 - k) (2 * (s.size - k) + 3)
def RefAtomOk (s : ByteArray) (k : Nat) : Prop := RefOk 77 s k (fun f => atomF s f k) (3 * (s.size - k) + 1) 0 (2 * s.size + 2 - k) (2 * (s.size - k) + 1)

theorem nodes_final {P : Nat → Prop} {w W w8 : World} {A : Option Addr} {ns : List RN} (h : NodesAt w8 (fun g => P g ∨ Fresh W w8 g) A ns) (hP : ∀ g, P g → g < w.heap.size) (hW : w.heap.size + 2 ≤ W.heap.size) (vs : List Value) :
    NodesAt (w8.setCells (w.heap.size + 1) 0 vs) (fun g => P g ∨ Fresh w (w8.setCells (w.heap.size + 1) 0 vs) g) A ns := by
  have hsz := setCells_size vs (w.heap.size + 1) 0 w8
  refine h.move (fun g hg => ?_)
  rcases hg with hg | hg
  · have := hP g hg
    exact ⟨.inl hg, heap_setCells_other (by omega) _ _ _⟩
  · have := hg.1
    exact ⟨.inr ⟨by omega, Nat.lt_of_lt_of_eq hg.2 hsz.symm⟩, heap_setCells_other (by omega) _ _ _⟩
theorem nil_cells (w : World) (P : Nat → Prop) (A : Option Addr) : CellsIn w P A [] := fun j h => absurd h (by simp)
theorem sg_single {c : UInt8} (h : isS c = true) : ∀ i, i < 95 → sgF [] c.toNat c.toNat i = (singleM c.toNat).getD i false := by
  intro i hi
  have hc : 32 ≤ c.toNat ∧ c.toNat ≤ 126 := by unfold isS at h; simpa using h
  unfold sgF singleM
  by_cases hci : c.toNat = i + 32
  · rw [List.getD_eq_getElem?_getD, List.getD_eq_getElem?_getD, show c.toNat - 32 = i from by omega, List.getElem?_set_self (by rw [noneM_length]; exact hi)]
    simp [hci]
  · rw [List.getD_eq_getElem?_getD (l := noneM.set _ _), List.getElem?_set_ne (by omega), ← List.getD_eq_getElem?_getD, noneM_get]
    rw [Bool.eq_false_iff]
    intro h2
    simp at h2
    omega
theorem sg_every : ∀ i, i < 95 → sgF [] 32 126 i = everyM.getD i false := by decide +kernel
/-- Any mask: what signs makes. -/
def sgL (lo hi : Nat) : List Bool := (List.range 95).map (sgF [] lo hi)
theorem sgL_get (lo hi : Nat) : ∀ i, i < 95 → sgF [] lo hi i = (sgL lo hi).getD i false := by
  intro i h
  unfold sgL
  rw [List.getD_eq_getElem?_getD, List.getElem?_map, List.getElem?_range h]
  rfl
theorem sgL_length (lo hi : Nat) : (sgL lo hi).length = 95 := by unfold sgL; simp
theorem sgL_single {c : UInt8} (h : isS c = true) : sgL c.toNat c.toNat = singleM c.toNat :=
  mask_ext (sgL_length _ _) (singleM_length _) fun j hj => by rw [← sgL_get _ _ j hj, sg_single h j hj]
theorem sgL_every : sgL 32 126 = everyM := mask_ext (sgL_length _ _) everyM_length fun j hj => by rw [← sgL_get _ _ j hj, sg_every j hj]

/-- A set of signs is added. -/
theorem add_signs {P : Nat → Prop} {A : Option Addr} {c : Nat} {s : ByteArray} {k : Nat} {bad : Bool} {ns : List RN} {lo hi g : Nat} {w W1 : World} (hn : ns.length ≤ 9000) (hN : NodesAt w P A ns) (hP : ∀ g, P g → g < w.heap.size) (hb : Below w.heap.size w W1)
    (hr : W1.rowIs g 4 95 (fun i => .bool (sgF [] lo hi i))) :
    Calls Try.prog 69 #[pvOf A ns.length c s k bad, .agg #[.int .u8 115, .slice (some ⟨g, 0, none⟩) 95 95, .slice none 0 0]] W1 (AddPost (fun x => P x ∨ (x = g)) s k bad ns ⟨115, sgL lo hi, []⟩ W1) := by
  have hgl := hr.lt
  have hcl := row_cells (P := fun x => P x ∨ x = g) hr (sgL_length lo hi) (sgL_get lo hi) (.inr rfl)
  have hNw : NodesAt W1 (fun x => P x ∨ x = g) A ns := hN.move (fun x hx => ⟨.inl hx, hb.block x (hP x hx)⟩)
  have hNd : NodeAt W1 (fun x => P x ∨ x = g) (.slice (some ⟨g, 0, none⟩) 95 95, .slice none 0 0) ⟨115, sgL lo hi, []⟩ :=
    ⟨⟨_, 95, by rw [sgL_length], hcl⟩, none, 0, rfl, nil_cells _ _ _⟩
  have hPP : ∀ x, (P x ∨ x = g) → x < W1.heap.size := fun x hx => by
    rcases hx with hx | rfl
    · have := hP x hx
      have := hb.size
      omega
    · exact hgl
  have := refAdd_any (fun x => P x ∨ x = g) A c s k bad ns ⟨115, sgL lo hi, []⟩ (.slice (some ⟨g, 0, none⟩) 95 95, .slice none 0 0) W1 (by omega) hNw hNd hPP
  exact this
theorem add_signs_back {P : Nat → Prop} {A : Option Addr} {ns : List RN} {g : Nat} {W W1 w8 : World} (h : NodesAt w8 (fun x => (P x ∨ x = g) ∨ Fresh W1 w8 x) A ns) (hg : W.heap.size ≤ g) (hg2 : g < W1.heap.size) (hW : W.heap.size ≤ W1.heap.size) (h8 : W1.heap.size ≤ w8.heap.size) : NodesAt w8 (fun x => P x ∨ Fresh W w8 x) A ns :=
  h.move (fun x hx => by
    rcases hx with (hx | rfl) | hx
    · exact ⟨.inl hx, rfl⟩
    · exact ⟨.inr ⟨hg, by omega⟩, rfl⟩
    · exact ⟨.inr ⟨Nat.le_trans hW hx.1, hx.2⟩, rfl⟩)

theorem set_done {P : Nat → Prop} {s : ByteArray} {ns : List RN} {r : Option (T × Nat)} {k L1 L2 n K c8 g4 lo hi : Nat} {b : Bool} {w w3 w4 w8 : World} {A8 : Option Addr} (hN : ns.length = n) (h8 : NodesAt w8 (fun g => (P g ∨ g = g4) ∨ Fresh w4 w8 g) A8 (ns ++ [⟨115, sgL lo hi, []⟩]))
    (hP : ∀ g, P g → g < w.heap.size) (hW : w.heap.size + 2 ≤ w3.heap.size) (hb : Below w.heap.size w w3) (hb4 : Below w3.heap.size w3 w4) (hg : w3.heap.size ≤ g4) (hg4 : g4 < w4.heap.size) (hb8 : Below w4.heap.size w4 w8)
    (hc : (r = some (.set (sgL lo hi), K) ∧ b = false ∧ k < K) ∨ (r = none ∧ b = true ∧ K ≤ L1 ∧ 1 ≤ L2)) (vs : List Value) :
    PPost P s ns r k 0 L1 L2 w (.returned (.tuple #[pvOf A8 (n + 1) c8 s K b, .int .i64 n])) (w8.setCells (w.heap.size + 1) 0 vs) := by
  have hz4 := hb4.size
  have hz8 := hb8.size
  refine ⟨A8, c8, [⟨115, sgL lo hi, []⟩], n, K, b, ?_, nodes_final (add_signs_back h8 hg hg4 hz4 hz8) hP hW vs, ?_, ?_⟩
  · rw [List.length_append, hN]; rfl
  · exact below_setCells (by omega) _ _ _ (hb.trans ((hb4.trans (hb8.mono hz4)).mono hb.size))
  · rcases hc with ⟨h1, h2, h3⟩ | ⟨h1, h2, h3, h4⟩
    · refine .inl ⟨_, h1, h2, ?_, fun hok => hok.snoc (.inl ⟨rfl, sgL_length _ _, rfl⟩), by simp only [List.length_cons, List.length_nil]; omega⟩
      rw [← hN]
      exact den_set ns _
    · exact .inr ⟨h1, h2, h3, by simpa using h4⟩

set_option maxRecDepth 8192 in
set_option maxHeartbeats 6400000 in
theorem refAtom_any (s : ByteArray) (k : Nat) (hs : s.size ≤ 1000) (hk : k < s.size) (IH : k + 1 ≤ s.size → RefExprOk s (k + 1)) : RefAtomOk s k := by
  intro P A c ns f w hN hP hbud hf
  obtain ⟨f', rfl⟩ : ∃ f', f = f' + 1 := ⟨f - 1, by omega⟩
  obtain ⟨res, hres⟩ : ∃ res, res = atomF s (f' + 1) k := ⟨_, rfl⟩
  show Calls _ _ _ _ (PPost P s ns (atomF s (f' + 1) k) k 0 _ _ w)
  rw [← hres]
  rw [atomF] at hres
  have Hres := Lib.hid hres
  have HN := Lib.hid hN
  have HP := Lib.hid hP
  obtain ⟨n, hnn⟩ : ∃ n, ns.length = n := ⟨_, rfl⟩
  rw [hnn] at hbud
  have Hnn := Lib.hid hnn
  have HIS := Lib.hid (fun (A : Option Addr) (n c kx : Nat) (b : Bool) (ch : UInt8) (wx : World) => refIs_any A n c s kx b ch wx)
  have HIH := Lib.hid (IH (by omega))
  rw [hnn]
  clear hres hN hP hnn IH
  go_enter Try.func77, Try.ntmps77
  go_upto_region 1 with fail
  generalize hW : (w.alloc _).alloc _ = W
  have hX : Hid (BoxP W w.heap.size A n c s k false) := by subst hW; exact blk_alloc (blk_new _ _) _
  have hY : Hid (RoomP W (w.heap.size + 1)) := by subst hW; exact ⟨_, _, _, _, blk_new' (by simp)⟩
  have hB : Hid (Below w.heap.size w W) := by subst hW; exact ((Below.refl _ _).alloc (Nat.le_refl _) _).alloc (by simp) _
  have hz : w.heap.size + 2 ≤ W.heap.size := by subst hW; simp
  clear hW
  go_wp2_with ((with_reducible show wpList _ _ _ (⟨some 12, _, _, _, _, _⟩ :: _) _ _); refine wpList_load_row rfl 82 _ rfl w.heap.size rfl 82 _ (0, 0) _ hX.out Try.underlying82 rfl info82 ?_)
  refine (HIS.out A n c k false 40 _).mono ?_
  rintro e w1 ⟨rfl, hb1⟩
  have hX1 := Lib.hid (hX.out.below hb1 (by omega))
  have hY1 := Lib.hid (hY.out.below hb1 (by omega))
  have hB1 := Lib.hid (hB.out.trans (hb1.mono hB.out.size))
  have hz1 : w.heap.size + 2 ≤ w1.heap.size := by have := hb1.size; omega
  obtain ⟨J, hJ⟩ : ∃ J, k + 1 = J := ⟨_, rfl⟩
  have HJ := Lib.hid hJ
  have hJs : J ≤ s.size := by omega
  have hJi : ((J : Nat) : Int) = (k : Int) + 1 := by omega
  clear hX hY hB hb1 hz
  cases h1 : atL s k [40] with
  | true =>
    have hres := Hres.out
    rw [h1, if_pos rfl, hJ] at hres
    have Hres2 := Lib.hid hres
    have c2 : w1.cell? ⟨w.heap.size, 2, none⟩ = some (.int .i64 k) := blk_cell hX1.out 2
    have f2 : w1.frozen? ⟨w.heap.size, 2, none⟩ = false := blk_frozen hX1.out 2
    have hX2 := Lib.hid hX1.out.at_
    rw [hJ] at hX2
    clear hres Hres h1 hJ hJi
    go_upto_region 4 with fail
    have hY2 := Lib.hid (hY1.out.set (p := ⟨w.heap.size, 2, none⟩) (by simp) (.int .i64 ((k : Int) + 1)))
    have hB2 := Lib.hid (hB1.out.setCell (p := ⟨w.heap.size, 2, none⟩) (Nat.le_refl _) (.int .i64 ((k : Int) + 1)))
    have hz2 : w.heap.size + 2 ≤ (w1.setCell ⟨w.heap.size, 2, none⟩ (.int .i64 ((k : Int) + 1))).heap.size := by simpa using hz1
    generalize w1.setCell _ _ = W2 at hX2 hY2 hB2 hz2 ⊢
    clear hX1 hY1 hB1 hz1 c2 f2
    have HE := HIH.out P A c ns f' W2 (HN.out.move (fun g hg => ⟨hg, hB2.out.block g (HP.out g hg)⟩)) (fun g hg => by have := HP.out g hg; omega) (by rw [Hnn.out]; omega) (by omega)
    rw [Hnn.out, HJ.out] at HE
    have HE2 : Hid (Calls Try.prog 54 #[pvOf A n c s J false] W2 (PPost P s ns (exprF s f' [] J) J 2 (2 * s.size + 2 - J) (2 * (s.size - J) + 3) W2)) := HE
    clear HE HIH
    go_wp2_with ((with_reducible show wpList _ _ _ (⟨some 20, _, _, _, _, _⟩ :: _) _ _); refine wpList_load_row rfl 82 _ rfl w.heap.size rfl 82 _ (0, 0) _ hX2.out Try.underlying82 rfl info82 ?_)
    refine HE2.out.mono ?_
    rintro e w3 ⟨A3, c3, ms, K3, k3, bad, rfl, hN3, hb3, hpp⟩
    obtain ⟨n3, hn3⟩ : ∃ n3, (ns ++ ms).length = n3 := ⟨_, rfl⟩
    rw [hn3]
    have Hn3 := Lib.hid hn3
    have hY3 := Lib.hid (hY2.out.below hb3.out (by omega))
    have hB3 := Lib.hid (hB2.out.trans (hb3.out.mono hB2.out.size))
    have hz3 : W2.heap.size ≤ w3.heap.size := hb3.out.size
    clear hb3 hX2 hY2 hB2 HE2 hn3
    go_upto_region 5 with fail
    have hb4 : Below w3.heap.size w3 (w3.alloc (.cells #[.slice A3 n3 c3, .string s, .int .i64 k3, .bool bad] 82)) := (Below.refl _ _).alloc (Nat.le_refl _) _
    have hZ4 : Hid (BoxP (w3.alloc (.cells #[.slice A3 n3 c3, .string s, .int .i64 k3, .bool bad] 82)) w3.heap.size A3 n3 c3 s k3 bad) := blk_new _ _
    have hY4 := Lib.hid (hY3.out.below hb4 (by omega))
    have hB4 := Lib.hid (hB3.out.trans (hb4.mono hB3.out.size))
    have hN4 : Hid (NodesAt (w3.alloc (.cells #[.slice A3 n3 c3, .string s, .int .i64 k3, .bool bad] 82)) (fun g => P g ∨ Fresh W2 w3 g) A3 (ns ++ ms)) := hN3.out.move (fun g hg => ⟨hg, hb4.block g (by
      rcases hg with hg | hg
      · have := HP.out g hg; omega
      · exact hg.2)⟩)
    have hz4 : (w3.alloc (.cells #[.slice A3 n3 c3, .string s, .int .i64 k3, .bool bad] 82)).heap.size = w3.heap.size + 1 := by simp
    obtain ⟨Z, hZ⟩ : ∃ Z, w3.heap.size = Z := ⟨_, rfl⟩
    rw [hZ] at hZ4 hz4 hz3 ⊢
    have HZ := Lib.hid hZ
    generalize w3.alloc _ = W4 at hZ4 hY4 hB4 hN4 hz4 ⊢
    clear hY3 hB3 hN3 hb4 hZ
    go_wp2_with ((with_reducible show wpList _ _ _ (⟨some 24, _, _, _, _, _⟩ :: _) _ _); refine wpList_load_row rfl 82 _ rfl Z rfl 82 _ (0, 0) _ hZ4.out Try.underlying82 rfl info82 ?_)
    refine (HIS.out A3 n3 c3 k3 bad 41 _).mono ?_
    rintro e w5 ⟨rfl, hb5⟩
    have hZ5 := Lib.hid (hZ4.out.below hb5 (by omega))
    have hY5 := Lib.hid (hY4.out.below hb5 (by omega))
    have hB5 := Lib.hid (hB4.out.trans (hb5.mono hB4.out.size))
    have hN5 : Hid (NodesAt w5 (fun g => P g ∨ Fresh W2 w3 g) A3 (ns ++ ms)) := hN4.out.move (fun g hg => ⟨hg, hb5.block g (by
      rcases hg with hg | hg
      · have := HP.out g hg; omega
      · have := hg.2; have := HZ.out; omega)⟩)
    have hz5 : Z + 1 ≤ w5.heap.size := by have := hb5.size; omega
    obtain ⟨ends, hends⟩ : ∃ ends, atL s k3 [41] = ends := ⟨_, rfl⟩
    have Hends := Lib.hid hends
    rw [hends]
    clear hZ4 hY4 hB4 hN4 hb5 hends hz4
    go_upto_if 27 with fail
    go_cut [] (fun wx => ∃ b5, b5 = (bad || !ends) ∧ Hid (BoxP wx Z A3 n3 c3 s k3 b5) ∧ Hid (RoomP wx (w.heap.size + 1)) ∧ Hid (Below w.heap.size w wx) ∧ Hid (NodesAt wx (fun g => P g ∨ Fresh W2 w3 g) A3 (ns ++ ms)) ∧ Z + 1 ≤ wx.heap.size)
    case first =>
      cases ends with
      | true =>
        go_wp2_with fail
        go_meet
        exact ⟨bad, by simp, hZ5, hY5, hB5, hN5, hz5⟩
      | false =>
        have c3 : w5.cell? ⟨Z, 3, none⟩ = some (.bool bad) := blk_cell hZ5.out 3
        have f3 : w5.frozen? ⟨Z, 3, none⟩ = false := blk_frozen hZ5.out 3
        go_wp2_with fail
        go_meet
        refine ⟨true, by simp, hZ5.out.bad, hY5.out.set (by simp; omega) _, hB5.out.setCell (p := ⟨Z, 3, none⟩) (by simp; omega) _, ?_, by simpa using hz5⟩
        refine hN5.out.move (fun g hg => ⟨hg, Below.heap_setCell w5 ⟨Z, 3, none⟩ _ g ?_⟩)
        rcases hg with hg | hg
        · have := HP.out g hg; intro h; simp at h; omega
        · have := hg.2; have := HZ.out; intro h; simp at h; omega
    case rest =>
    clear hZ5 hY5 hB5 hN5 hz5
    obtain ⟨b5, hb5, hZ6, hY6, hB6, hN6, hz6⟩ := hcut
    have Hb5 := Lib.hid hb5
    clear hb5
    have c2 : wc.cell? ⟨Z, 2, none⟩ = some (.int .i64 k3) := blk_cell hZ6.out 2
    have f2 : wc.frozen? ⟨Z, 2, none⟩ = false := blk_frozen hZ6.out 2
    have hk3 : k3 ≤ 5000 := by
      rcases hpp.out with ⟨t, h1, _⟩ | ⟨_, _, h3, _⟩
      · have := ((pfacts s f').e _ _ _ _ hJs h1).2.1
        omega
      · omega
    go_upto_region 9 with fail
    have hZ7 := Lib.hid hZ6.out.at_
    have hY7 := Lib.hid (hY6.out.set (p := ⟨Z, 2, none⟩) (by simp; omega) (.int .i64 ((k3 : Int) + 1)))
    have hB7 := Lib.hid (hB6.out.setCell (p := ⟨Z, 2, none⟩) (by simp; omega) (.int .i64 ((k3 : Int) + 1)))
    have hN7 : Hid (NodesAt (wc.setCell ⟨Z, 2, none⟩ (.int .i64 ((k3 : Int) + 1))) (fun g => P g ∨ Fresh W2 (wc.setCell ⟨Z, 2, none⟩ (.int .i64 ((k3 : Int) + 1))) g) A3 (ns ++ ms)) := by
      refine hN6.out.move (fun g hg => ?_)
      rcases hg with hg | hg
      · have := HP.out g hg
        exact ⟨.inl hg, Below.heap_setCell wc ⟨Z, 2, none⟩ _ g (by intro h; simp at h; omega)⟩
      · have h1 := hg.1
        have h2 := hg.2
        have h3 := HZ.out
        exact ⟨.inr ⟨h1, by simp; omega⟩, Below.heap_setCell wc ⟨Z, 2, none⟩ _ g (by intro h; simp at h; omega)⟩
    generalize wc.setCell _ _ = W7 at hZ7 hY7 hB7 hN7 ⊢
    clear hZ6 hY6 hB6 hN6 c2 f2
    go_wp2_with (first
      | ((with_reducible show wpList _ _ _ (⟨some 33, _, _, _, _, _⟩ :: _) _ _); refine wpList_load_row rfl 82 _ rfl Z rfl 82 _ (0, 0) _ hZ7.out Try.underlying82 rfl info82 ?_)
      | ((with_reducible show wpList _ _ _ (⟨none, _, _, _, _, _⟩ :: _) _ _); refine wpList_store_mid rfl 82 _ _ rfl (w.heap.size + 1) 0 _ rfl rfl hY7.out.there info82 (one82 _ _ _ _ _ _) ?_))
    refine bodyPost_ret (results_pv rfl _ _ rfl (hY7.out.stored A3 n3 c3 s (k3 + 1) b5)) rfl ⟨A3, c3, ms, K3, k3 + 1, b5, ?_, nodes_final hN7.out HP.out hz2 _, below_setCells (by omega) _ _ _ hB7.out, ?_⟩
    · rw [Hn3.out]; rfl
    · have hJk := HJ.out
      rcases hpp.out with ⟨t, h1, h2, h3, h4, h5⟩ | ⟨h1, h2, h3, h4⟩
      · have hpf := (pfacts s f').e _ _ _ _ hJs h1
        have hr : res = if ends then some (t, k3 + 1) else none := by
          rw [Hres2.out, h1]
          show (if atL s k3 [41] = true then _ else _) = _
          rw [Hends.out]
        cases ends with
        | true => exact .inl ⟨t, hr, by rw [Hb5.out, h2]; rfl, h3, h4, by omega⟩
        | false => exact .inr ⟨hr, by rw [Hb5.out]; simp, by omega, by omega⟩
      · exact .inr ⟨by rw [Hres2.out, h1], by rw [Hb5.out, h2]; rfl, by omega, by omega⟩
  | false =>
    have hres := Hres.out
    rw [h1, if_neg (by decide)] at hres
    have Hres2 := Lib.hid hres
    clear hres Hres h1 HIH
    go_wp2_with ((with_reducible show wpList _ _ _ (⟨some 35, _, _, _, _, _⟩ :: _) _ _); refine wpList_load_row rfl 82 _ rfl w.heap.size rfl 82 _ (0, 0) _ hX1.out Try.underlying82 rfl info82 ?_)
    refine (HIS.out A n c k false 46 _).mono ?_
    rintro e w2 ⟨rfl, hb2⟩
    have hX2 := Lib.hid (hX1.out.below hb2 (by omega))
    have hY2 := Lib.hid (hY1.out.below hb2 (by omega))
    have hB2 := Lib.hid (hB1.out.trans (hb2.mono hB1.out.size))
    have hz2 : w.heap.size + 2 ≤ w2.heap.size := by have := hb2.size; omega
    clear hX1 hY1 hB1 hb2 hz1
    cases h2 : atL s k [46] with
    | true =>
      have hres := Hres2.out
      rw [h2, if_pos rfl, hJ] at hres
      have Hres3 := Lib.hid hres
      have c2 : w2.cell? ⟨w.heap.size, 2, none⟩ = some (.int .i64 k) := blk_cell hX2.out 2
      have f2 : w2.frozen? ⟨w.heap.size, 2, none⟩ = false := blk_frozen hX2.out 2
      have hX3 := Lib.hid hX2.out.at_
      rw [hJ] at hX3
      clear hres Hres2 h2 hJ hJi
      go_upto_region 13 with fail
      have hY3 := Lib.hid (hY2.out.set (p := ⟨w.heap.size, 2, none⟩) (by simp) (.int .i64 ((k : Int) + 1)))
      have hB3 := Lib.hid (hB2.out.setCell (p := ⟨w.heap.size, 2, none⟩) (Nat.le_refl _) (.int .i64 ((k : Int) + 1)))
      have hz3 : w.heap.size + 2 ≤ (w2.setCell ⟨w.heap.size, 2, none⟩ (.int .i64 ((k : Int) + 1))).heap.size := by simpa using hz2
      generalize w2.setCell _ _ = W3 at hX3 hY3 hB3 hz3 ⊢
      clear hX2 hY2 hB2 hz2 c2 f2
      have HSG : Hid (∀ wx : World, Calls Try.prog 84 #[.slice none 0 0, .int .u8 32, .int .u8 126] wx (SignsPost (sgF [] 32 126) wx)) := fun wx => by
        have := refSigns_any (fun _ => False) none 0 0 [] 32 126 wx rfl (nil_cells _ _ _) (fun g hg => hg.elim)
        exact this
      have q0 : W3.cell? ⟨w.heap.size, 0, none⟩ = some (.slice A n c) := blk_cell hX3.out 0
      have q1 : W3.cell? ⟨w.heap.size, 1, none⟩ = some (.string s) := blk_cell hX3.out 1
      have q2 : W3.cell? ⟨w.heap.size, 2, none⟩ = some (.int .i64 J) := blk_cell hX3.out 2
      have q3 : W3.cell? ⟨w.heap.size, 3, none⟩ = some (.bool false) := blk_cell hX3.out 3
      have hBd : Hid (Below W3.heap.size W3 W3.drew) := (Below.refl _ _).drew
      have HAD : Hid (∀ (w4 : World) (g4 : Nat), Below W3.heap.size W3 w4 → w4.rowIs g4 4 95 (fun i => .bool (sgF [] 32 126 i)) → Calls Try.prog 69 #[.agg #[.slice A n c, .string s, .int .i64 J, .bool false], .agg #[.int .u8 115, .slice (some ⟨g4, 0, none⟩) 95 95, .slice none 0 0]] w4 (AddPost (fun x => P x ∨ x = g4) s J false ns ⟨115, sgL 32 126, []⟩ w4)) := fun w4 g4 hb4 hr4 => by
        have := add_signs (A := A) (c := c) (s := s) (k := J) (bad := false) (by rw [Hnn.out]; omega) HN.out HP.out (hB3.out.trans (hb4.mono hB3.out.size)) hr4
        rwa [Hnn.out] at this
      go_region_with (first
        | (go_at_call 84; refine (HSG.out _).mono ?_; rintro e w4 ⟨g4, rfl, hg4, hr4, hb4⟩; have hX4 := Lib.hid ((hX3.out.below hBd.out (by omega)).below hb4 (by simp; omega)); have hY4 := Lib.hid ((hY3.out.below hBd.out (by omega)).below hb4 (by simp; omega)); have hB4 := Lib.hid (hBd.out.trans hb4); have Hr4 := Lib.hid hr4; have hg4' : W3.heap.size ≤ g4 := hg4; have q0 : w4.cell? ⟨w.heap.size, 0, none⟩ = some (.slice A n c) := blk_cell hX4.out 0; have q1 : w4.cell? ⟨w.heap.size, 1, none⟩ = some (.string s) := blk_cell hX4.out 1; have q2 : w4.cell? ⟨w.heap.size, 2, none⟩ = some (.int .i64 J) := blk_cell hX4.out 2; have q3 : w4.cell? ⟨w.heap.size, 3, none⟩ = some (.bool false) := blk_cell hX4.out 3; clear hb4 hr4 hg4)
        | (go_at_call 69; refine (HAD.out w4 g4 hB4.out Hr4.out).mono ?_; rintro e w8 ⟨A8, c8, rfl, hN8, hb8⟩; rw [Hnn.out]; have HN8 := Lib.hid hN8; have hY8 := Lib.hid (hY4.out.below hb8 (by have := hB4.out.size; omega)); have hB8 := Lib.hid hb8; obtain ⟨y0, y1, y2, y3, hy⟩ := hY8.out; have z0 : w8.cell? ⟨w.heap.size + 1, 0, none⟩ = some y0 := blk_cell hy 0; have z1 : w8.cell? ⟨w.heap.size + 1, 1, none⟩ = some y1 := blk_cell hy 1; have z2 : w8.cell? ⟨w.heap.size + 1, 2, none⟩ = some y2 := blk_cell hy 2; have z3 : w8.cell? ⟨w.heap.size + 1, 3, none⟩ = some y3 := blk_cell hy 3; have g0 : w8.frozen? ⟨w.heap.size + 1, 0, none⟩ = false := blk_frozen hy 0; have g1 : w8.frozen? ⟨w.heap.size + 1, 1, none⟩ = false := blk_frozen hy 1; have g2 : w8.frozen? ⟨w.heap.size + 1, 2, none⟩ = false := blk_frozen hy 2; have g3 : w8.frozen? ⟨w.heap.size + 1, 3, none⟩ = false := blk_frozen hy 3; clear hy hN8 hb8))
      all_goals
        change Exit.then _ _ _ _ (w8.setCells (w.heap.size + 1) 0 [.slice A8 (n + 1) c8, .string s, .int .i64 J, .bool false])
        have hst := Lib.hid (hY8.out.stored A8 (n + 1) c8 s J false)
        have hdone := Lib.hid (set_done (s := s) (r := res) (k := k) (L1 := 2 * s.size + 2 - k) (L2 := 2 * (s.size - k) + 1) (K := J) (c8 := c8) (b := false) Hnn.out HN8.out HP.out hz3 hB3.out hB4.out hg4' Hr4.out.lt hB8.out (.inl ⟨by rw [Hres3.out, sgL_every], rfl, by have := HJ.out; omega⟩) [.slice A8 (n + 1) c8, .string s, .int .i64 J, .bool false])
        generalize w8.setCells _ _ _ = W9 at hst hdone ⊢
        go_wp2_with fail
        exact bodyPost_ret (results_pv (p := 2) (u := 3) rfl _ _ rfl hst.out) rfl hdone.out
    | false =>
      have hres := Hres2.out
      rw [h2, if_neg (by decide)] at hres
      have Hres3 := Lib.hid hres
      clear hres Hres2 h2
      go_wp2_with ((with_reducible show wpList _ _ _ (⟨some 48, _, _, _, _, _⟩ :: _) _ _); refine wpList_load_row rfl 82 _ rfl w.heap.size rfl 82 _ (0, 0) _ hX2.out Try.underlying82 rfl info82 ?_)
      refine (HIS.out A n c k false 91 _).mono ?_
      rintro e w3 ⟨rfl, hb3⟩
      have hX3 := Lib.hid (hX2.out.below hb3 (by omega))
      have hY3 := Lib.hid (hY2.out.below hb3 (by omega))
      have hB3 := Lib.hid (hB2.out.trans (hb3.mono hB2.out.size))
      have hz3 : w.heap.size + 2 ≤ w3.heap.size := by have := hb3.size; omega
      clear hX2 hY2 hB2 hb3 hz2
      cases h3 : atL s k [91] with
      | true =>
        have hres := Hres3.out
        rw [h3, if_pos rfl, hJ] at hres
        subst hres
        have c2 : w3.cell? ⟨w.heap.size, 2, none⟩ = some (.int .i64 k) := blk_cell hX3.out 2
        have f2 : w3.frozen? ⟨w.heap.size, 2, none⟩ = false := blk_frozen hX3.out 2
        have hX4 := Lib.hid hX3.out.at_
        rw [hJ] at hX4
        clear Hres3 h3 hJ hJi
        go_upto_region 17 with fail
        have hY4 := Lib.hid (hY3.out.set (p := ⟨w.heap.size, 2, none⟩) (by simp) (.int .i64 ((k : Int) + 1)))
        have hB4 := Lib.hid (hB3.out.setCell (p := ⟨w.heap.size, 2, none⟩) (Nat.le_refl _) (.int .i64 ((k : Int) + 1)))
        have hz4 : w.heap.size + 2 ≤ (w3.setCell ⟨w.heap.size, 2, none⟩ (.int .i64 ((k : Int) + 1))).heap.size := by simpa using hz3
        generalize w3.setCell _ _ = W4 at hX4 hY4 hB4 hz4 ⊢
        clear hX3 hY3 hB3 hz3 c2 f2
        have HC := refClass_any P A c s J ns W4 (by rw [Hnn.out]; omega) (HN.out.move (fun g hg => ⟨hg, hB4.out.block g (HP.out g hg)⟩)) (fun g hg => by have := HP.out g hg; omega) hJs hs
        rw [Hnn.out] at HC
        have HC2 := Lib.hid HC
        clear HC
        go_wp2_with ((with_reducible show wpList _ _ _ (⟨some 55, _, _, _, _, _⟩ :: _) _ _); refine wpList_load_row rfl 82 _ rfl w.heap.size rfl 82 _ (0, 0) _ hX4.out Try.underlying82 rfl info82 ?_)
        refine HC2.out.mono ?_
        rintro e w5 ⟨A5, c5, ms, K5, k5, bad, rfl, hN5, hb5, hpp⟩
        obtain ⟨n5, hn5⟩ : ∃ n5, (ns ++ ms).length = n5 := ⟨_, rfl⟩
        rw [hn5]
        have Hn5 := Lib.hid hn5
        have hY5 := Lib.hid (hY4.out.below hb5.out (by omega))
        have hB5 := Lib.hid (hB4.out.trans (hb5.out.mono hB4.out.size))
        clear hb5 hX4 hY4 hB4 HC2 hn5
        go_wp2_with ((with_reducible show wpList _ _ _ (⟨none, _, _, _, _, _⟩ :: _) _ _); refine wpList_store_mid rfl 82 _ _ rfl (w.heap.size + 1) 0 _ rfl rfl hY5.out.there info82 (one82 _ _ _ _ _ _) ?_)
        refine bodyPost_ret (results_pv rfl _ _ rfl (hY5.out.stored A5 n5 c5 s k5 bad)) rfl ⟨A5, c5, ms, K5, k5, bad, ?_, nodes_final hN5.out HP.out hz4 _, below_setCells (by omega) _ _ _ hB5.out, ?_⟩
        · rw [Hn5.out]; rfl
        · have := HJ.out
          rcases hpp.out with ⟨t, h1, h2, h3, h4, h5⟩ | ⟨h1, h2, h3, h4⟩
          · exact .inl ⟨t, h1, h2, h3, h4, by omega⟩
          · exact .inr ⟨h1, h2, by omega, by omega⟩
      | false =>
        have hres := Hres3.out
        rw [h3, if_neg (by decide)] at hres
        have Hres4 := Lib.hid hres
        clear hres Hres3 h3 hJ hJi
        have HPL := Lib.hid (fun (wx : World) => refPlain2_any A n c s (ByteArray.mk #[92, 40, 41, 91, 93, 124, 42, 43, 63, 46]) spA rfl (by decide) k false wx (by omega) hs)
        go_wp2_with ((with_reducible show wpList _ _ _ (⟨some 60, _, _, _, _, _⟩ :: _) _ _); refine wpList_load_row rfl 82 _ rfl w.heap.size rfl 82 _ (0, 0) _ hX3.out Try.underlying82 rfl info82 ?_)
        refine (HPL.out _).mono ?_
        rintro e w5 ⟨K5, b5, ch, rfl, hK5, hp5, hb5⟩
        have hY5 := Lib.hid (hY3.out.below hb5 (by omega))
        have hB5 := Lib.hid (hB3.out.trans (hb5.mono hB3.out.size))
        have hz5 : w.heap.size + 2 ≤ w5.heap.size := by have := hb5.size; omega
        clear hX3 hY3 hB3 hb5
        go_upto_region 19 with fail
        have hb6 : Below w5.heap.size w5 (w5.alloc (.cells #[.slice A n c, .string s, .int .i64 K5, .bool b5] 82)) := (Below.refl _ _).alloc (Nat.le_refl _) _
        have hX3 : Hid (BoxP (w5.alloc (.cells #[.slice A n c, .string s, .int .i64 K5, .bool b5] 82)) w5.heap.size A n c s K5 b5) := blk_new _ _
        have hY3 := Lib.hid (hY5.out.below hb6 (by omega))
        have hB3 := Lib.hid (hB5.out.trans (hb6.mono hB5.out.size))
        have hz6 : (w5.alloc (.cells #[.slice A n c, .string s, .int .i64 K5, .bool b5] 82)).heap.size = w5.heap.size + 1 := by simp
        obtain ⟨Z, hZ⟩ : ∃ Z, w5.heap.size = Z := ⟨_, rfl⟩
        rw [hZ] at hX3 hz6 hz5 ⊢
        generalize w5.alloc _ = W3 at hX3 hY3 hB3 hz6 ⊢
        clear hY5 hB5 hb6 hZ
        have hz3 : w.heap.size + 2 ≤ W3.heap.size := by omega
        obtain ⟨lo, hlo⟩ : ∃ lo, ch.toNat = lo := ⟨_, rfl⟩
        have HSG : Hid (∀ wx : World, Calls Try.prog 84 #[.slice none 0 0, .int .u8 lo, .int .u8 lo] wx (SignsPost (sgF [] lo lo) wx)) := fun wx => by
          have := refSigns_any (fun _ => False) none 0 0 [] ch ch wx rfl (nil_cells _ _ _) (fun g hg => hg.elim)
          rwa [hlo] at this
        have hdc : Hid ((res = some (.set (sgL lo lo), K5) ∧ b5 = false ∧ k < K5) ∨ (res = none ∧ b5 = true ∧ K5 ≤ 2 * s.size + 2 - k ∧ 1 ≤ 2 * (s.size - k) + 1)) := by
          rcases hp5.out with ⟨h1, h2⟩ | ⟨h1, h2⟩
          · have hsf := signF_some h1
            refine .inl ⟨?_, h2, hsf.1⟩
            rw [Hres4.out, h1, ← hlo, sgL_single hsf.2.2]
          · exact .inr ⟨by rw [Hres4.out, h1], h2, by omega, by omega⟩
        rw [hlo]
        clear hlo hp5 Hres4 HPL
        have q0 : W3.cell? ⟨Z, 0, none⟩ = some (.slice A n c) := blk_cell hX3.out 0
        have q1 : W3.cell? ⟨Z, 1, none⟩ = some (.string s) := blk_cell hX3.out 1
        have q2 : W3.cell? ⟨Z, 2, none⟩ = some (.int .i64 K5) := blk_cell hX3.out 2
        have q3 : W3.cell? ⟨Z, 3, none⟩ = some (.bool b5) := blk_cell hX3.out 3
        have hBd : Hid (Below W3.heap.size W3 W3.drew) := (Below.refl _ _).drew
        have HAD : Hid (∀ (w4 : World) (g4 : Nat), Below W3.heap.size W3 w4 → w4.rowIs g4 4 95 (fun i => .bool (sgF [] lo lo i)) → Calls Try.prog 69 #[.agg #[.slice A n c, .string s, .int .i64 K5, .bool b5], .agg #[.int .u8 115, .slice (some ⟨g4, 0, none⟩) 95 95, .slice none 0 0]] w4 (AddPost (fun x => P x ∨ x = g4) s K5 b5 ns ⟨115, sgL lo lo, []⟩ w4)) := fun w4 g4 hb4 hr4 => by
          have := add_signs (A := A) (c := c) (s := s) (k := K5) (bad := b5) (by rw [Hnn.out]; omega) HN.out HP.out (hB3.out.trans (hb4.mono hB3.out.size)) hr4
          rwa [Hnn.out] at this
        go_region_with (first
          | (go_at_call 84; refine (HSG.out _).mono ?_; rintro e w4 ⟨g4, rfl, hg4, hr4, hb4⟩; have hX4 := Lib.hid ((hX3.out.below hBd.out (by omega)).below hb4 (by simp; omega)); have hY4 := Lib.hid ((hY3.out.below hBd.out (by omega)).below hb4 (by simp; omega)); have hB4 := Lib.hid (hBd.out.trans hb4); have Hr4 := Lib.hid hr4; have hg4' : W3.heap.size ≤ g4 := hg4; have q0 : w4.cell? ⟨Z, 0, none⟩ = some (.slice A n c) := blk_cell hX4.out 0; have q1 : w4.cell? ⟨Z, 1, none⟩ = some (.string s) := blk_cell hX4.out 1; have q2 : w4.cell? ⟨Z, 2, none⟩ = some (.int .i64 K5) := blk_cell hX4.out 2; have q3 : w4.cell? ⟨Z, 3, none⟩ = some (.bool b5) := blk_cell hX4.out 3; clear hb4 hr4 hg4)
          | (go_at_call 69; refine (HAD.out w4 g4 hB4.out Hr4.out).mono ?_; rintro e w8 ⟨A8, c8, rfl, hN8, hb8⟩; rw [Hnn.out]; have HN8 := Lib.hid hN8; have hY8 := Lib.hid (hY4.out.below hb8 (by have := hB4.out.size; omega)); have hB8 := Lib.hid hb8; obtain ⟨y0, y1, y2, y3, hy⟩ := hY8.out; have z0 : w8.cell? ⟨w.heap.size + 1, 0, none⟩ = some y0 := blk_cell hy 0; have z1 : w8.cell? ⟨w.heap.size + 1, 1, none⟩ = some y1 := blk_cell hy 1; have z2 : w8.cell? ⟨w.heap.size + 1, 2, none⟩ = some y2 := blk_cell hy 2; have z3 : w8.cell? ⟨w.heap.size + 1, 3, none⟩ = some y3 := blk_cell hy 3; have g0 : w8.frozen? ⟨w.heap.size + 1, 0, none⟩ = false := blk_frozen hy 0; have g1 : w8.frozen? ⟨w.heap.size + 1, 1, none⟩ = false := blk_frozen hy 1; have g2 : w8.frozen? ⟨w.heap.size + 1, 2, none⟩ = false := blk_frozen hy 2; have g3 : w8.frozen? ⟨w.heap.size + 1, 3, none⟩ = false := blk_frozen hy 3; clear hy hN8 hb8))
        all_goals
          change Exit.then _ _ _ _ (w8.setCells (w.heap.size + 1) 0 [.slice A8 (n + 1) c8, .string s, .int .i64 K5, .bool b5])
          have hst := Lib.hid (hY8.out.stored A8 (n + 1) c8 s K5 b5)
          have hdone := Lib.hid (set_done (s := s) (r := res) (k := k) (L1 := 2 * s.size + 2 - k) (L2 := 2 * (s.size - k) + 1) (K := K5) (c8 := c8) (b := b5) Hnn.out HN8.out HP.out hz3 hB3.out hB4.out hg4' Hr4.out.lt hB8.out hdc.out [.slice A8 (n + 1) c8, .string s, .int .i64 K5, .bool b5])
          generalize w8.setCells _ _ _ = W9 at hst hdone ⊢
          go_wp2_with fail
          exact bodyPost_ret (results_pv (p := 2) (u := 3) rfl _ _ rfl hst.out) rfl hdone.out
end Go.Proofs.Ytaefhfldgemcnaa
