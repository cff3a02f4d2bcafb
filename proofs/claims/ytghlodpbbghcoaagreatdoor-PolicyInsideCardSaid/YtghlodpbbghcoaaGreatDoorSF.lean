/- Nodes that may be, made of any: walked. -/
import Derived.Test.YtghlodpbbghcoaaGreatDoorSQ
import Derived.Test.YtghlodpbbghcoaaGreatDoorProg
import Derived.Lib.ConvBytes
import Derived.WalkKit
import Derived.Lib.Hide
import Derived.Test.YtghlodpbbghcoaaGreatDoorZ41
namespace Go.Proofs.YtghlodpbbghcoaaGreatDoor.Nd
section
open Go.Lib Go.RowKit
theorem bytesV_made (w : World) (s : ByteArray) : BytesV (bytesWorld w 5 s) (some ⟨w.heap.size, 0, none⟩) s.size (grownCap w s.size 0 5) s.data.toList :=
  ⟨(Array.length_toList).symm, grownCap_ge w s.size 0 5, fun _ => ⟨_, _, rfl, by rw [bytesWorld_size]; omega, fun j hj => by rw [Nat.zero_add]; exact bytesWorld_cell w 5 s j (by rwa [Array.length_toList] at hj)⟩⟩
theorem below_made (w : World) (s : ByteArray) : Below w.heap.size w (bytesWorld w 5 s) :=
  ⟨rfl, rfl, rfl, by rw [bytesWorld_size]; omega, fun k hk => bytesWorld_at_old w 5 s k hk⟩
def GoodPost (w : World) (n : Nat) (e : Ending) (w' : World) : Prop :=
  ∃ (v : Value) (out : List NCells), e = .returned v ∧ RowInv w w' v out ∧ (∀ c ∈ out, okC 10000 c ∧ c.text.size ≤ 10000) ∧ noTw false (nFo out) ∧ (nFo out).size ≤ n
/-- WHAT good DOES AT NODES. -/
def GoodOk (g : Fo) : Prop := ∀ (A : Option Addr) (cap : Nat) (B : Nat) (w : World), smallF g → g.len ≤ cap → g.size ≤ 40 → B ≤ w.heap.size → (0 < g.len → ∃ b o, A = some ⟨b, o, none⟩ ∧ RowAt w B b o g) → Calls Tryz.prog 38 #[.slice A g.len cap] w (GoodPost w g.size)
theorem smallF_drop : ∀ (f : Fo) (i : Nat) (q : Bool), smallF f → smallF (Fo.drop q f i).2
  | f, 0, q, h => by simpa [Fo.drop] using h
  | .nil, i + 1, q, h => trivial
  | .node _ _ _ _ _ rest, i + 1, q, h => by rw [Fo.drop]; exact smallF_drop rest i _ h.2.2.2.2
theorem right_call (W W2 : World) (s : ByteArray) (hs : s.size ≤ 30) (hB : Below (bytesWorld W 5 s).heap.size (bytesWorld W 5 s) W2) :
    Calls Tryz.prog 67 #[.slice (some ⟨W.heap.size, 0, none⟩) s.size (grownCap W s.size 0 5)] W2 fun e W' => ∃ t : ByteArray, e = .returned (.string t) ∧ t.size ≤ 120 ∧ Below W2.heap.size W2 W' := by
  have hv := bytesV_made W s
  have hv2 : BytesV W2 (some ⟨W.heap.size, 0, none⟩) s.size (grownCap W s.size 0 5) s.data.toList := by
    obtain ⟨h1, h2, h3⟩ := hv
    refine ⟨h1, h2, fun hp => ?_⟩
    obtain ⟨b, o, e, hb, hc⟩ := h3 hp
    exact ⟨b, o, e, Nat.lt_of_lt_of_le hb hB.size, fun j hj => (hB.cell (p := ⟨b, _, none⟩) hb).trans (hc j hj)⟩
  refine (right_any _ _ _ _ (by omega) W2 hv2).mono ?_
  rintro e W' ⟨rfl, hb⟩
  refine ⟨_, rfl, ?_, hb⟩
  have h1 := rightL_length s.data.toList
  have h2 : s.data.toList.length = s.size := Array.length_toList
  show (rightL s.data.toList).toArray.size ≤ 120
  rw [List.size_toArray]
  omega
theorem right_call2 (W W2 : World) (s : ByteArray) (n : Nat) (hn : W.heap.size = n) (hs : s.size ≤ 30) (hB : Below (bytesWorld W 5 s).heap.size (bytesWorld W 5 s) W2) :
    Calls Tryz.prog 67 #[.slice (some ⟨n, 0, none⟩) s.size (grownCap W s.size 0 5)] W2 fun e W' => ∃ t : ByteArray, e = .returned (.string t) ∧ t.size ≤ 120 ∧ Below W2.heap.size W2 W' := by
  subst hn
  exact right_call W W2 s hs hB
theorem own_far {w : World} {base : Nat} {e : TypeId} {size n : Nat} {v : Value} {xs : List Value} (h : w.ownsRow base e size v n xs) {p : Addr} (hne : v.ownBlock ≠ some p.block) (u : Value) : (w.setCell p u).ownsRow base e size v n xs := by
  obtain ⟨h1, h2⟩ := h
  refine ⟨h1, ?_⟩
  rcases h2 with h2 | ⟨g, cap, cur, rfl, hb, hh, hr⟩
  · exact .inl h2
  · exact .inr ⟨g, cap, cur, rfl, hb, blk_set hh (fun e => hne (by rw [← e]; rfl)) u, hr⟩
theorem BC {w0 W : World} (s : ByteArray) (h : Below w0.heap.size w0 W) : Below w0.heap.size w0 (bytesWorld W 5 s) := h.trans ((below_made W s).mono h.size)
theorem BA {w0 W : World} (o : Obj) (h : Below w0.heap.size w0 W) : Below w0.heap.size w0 (W.alloc o) := h.alloc h.size o
theorem BT {w0 W w' : World} (h : Below w0.heap.size w0 W) (hb : Below W.heap.size W w') : Below w0.heap.size w0 w' := h.trans (hb.mono h.size)
/-- An attribute's cells. -/
abbrev noA : Obj := .cells #[.string ⟨#[]⟩, .string ⟨#[]⟩] 100
/-- A block for an attribute, made behind a world. -/
def NA (w0 w' : World) (g : Nat) : Prop := w0.heap.size ≤ g ∧ w'.heap[g]? = some (.cells #[.string ⟨#[]⟩, .string ⟨#[]⟩] 100)
theorem NA.mk' {w0 W w' : World} (h : Below w0.heap.size w0 W) (hb : Below (W.alloc (.cells #[.string ⟨#[]⟩, .string ⟨#[]⟩] 100)).heap.size (W.alloc (.cells #[.string ⟨#[]⟩, .string ⟨#[]⟩] 100)) w') : NA w0 w' W.heap.size := ⟨h.size, blk_below (blk_new W _) hb (by simp)⟩
theorem NA.step {w0 W w' : World} {g : Nat} (h : NA w0 W g) (hb : Below W.heap.size W w') : NA w0 w' g := ⟨h.1, blk_below h.2 hb (blk_lt h.2)⟩
theorem NA.stepC {w0 W w' : World} {g : Nat} {s : ByteArray} (h : NA w0 W g) (hb : Below (bytesWorld W 5 s).heap.size (bytesWorld W 5 s) w') : NA w0 w' g := (h.step (below_made W s)).step hb
theorem NA.mkC {w0 W w' : World} {s : ByteArray} (h : Below w0.heap.size w0 W) (hb : Below (bytesWorld (W.alloc (.cells #[.string ⟨#[]⟩, .string ⟨#[]⟩] 100)) 5 s).heap.size (bytesWorld (W.alloc (.cells #[.string ⟨#[]⟩, .string ⟨#[]⟩] 100)) 5 s) w') : NA w0 w' W.heap.size :=
  (NA.mk' h (below_made _ s)).step hb
set_option maxRecDepth 100000 in
set_option maxHeartbeats 6400000 in
theorem good_step (f : Fo) (ih : ∀ g : Fo, g.size < f.size → GoodOk g) : GoodOk f := by
  intro A cap B w hf hcap hfs hBw hrow
  obtain ⟨i0, hi, hz0, hz1, hz2⟩ := info_parts info28
  obtain ⟨i1, hj, hy0, hy1, hy2⟩ := info_parts info56
  have hfl := Fo.len_size f
  obtain ⟨n, hn⟩ : ∃ n, f.len = n := ⟨_, rfl⟩
  rw [hn] at hcap hrow hfl ⊢
  have hn40 : n ≤ 40 := by omega
  replace hn := Lib.hid hn
  replace ih := Lib.hid ih
  replace hf := Lib.hid hf
  go_enter Tryz.func38, Tryz.ntmps38
  go_wp2
  go_loopw [3, 4] (fun v x4 wr => ∃ (i : Nat) (l : List NCells), i ≤ n ∧ x4 = .int .i64 i ∧ l.length ≤ i ∧ Hid ((nFo l).size + (Fo.drop false f i).2.size ≤ f.size) ∧ Hid (∀ c ∈ l, okC 10000 c ∧ c.text.size ≤ 200) ∧ Hid (RowInv w wr v l)) (fun _ x4 _ => n - (Lib.intOf x4).toNat)
  case atStart => exact ⟨0, [], Nat.zero_le _, rfl, Nat.le_refl _, Lib.hid (by rw [Fo.drop_zero]; simp [nFo, Fo.size]), Lib.hid (fun c hc => absurd hc (by simp)), Lib.hid (RowInv.nil w)⟩
  case round =>
    obtain ⟨i, l, hin, rfl, hli, hsz, hlo, hinv⟩ := hrel
    by_cases hlt : i < n
    · obtain ⟨b, o, rfl, hr⟩ := hrow (by omega)
      have hdl := Fo.drop_len f i false
      have hdr := RowAt.drop i false hr
      have hI := smallF_drop f i false hf.out
      have hks := Fo.drop_size f i false
      have hsz' := hsz.out
      cases hd : Fo.drop false f i with
      | mk q g =>
      rw [hd] at hdl hdr hI hks hsz'
      cases g with
      | nil => exfalso; have := hn.out; simp only [Fo.len] at hdl; omega
      | node kd nm al tx kids rest =>
      have hnx := Fo.drop_node hd
      obtain ⟨hb, h0, h1, ⟨va, h2, ⟨Aa, capa, rfl, hca, hat⟩⟩, h3, ⟨A4, cap4, h4, hc4, hk4⟩, _⟩ := hdr
      obtain ⟨hnz, htz, ⟨hal5, halz⟩, hkS, _⟩ := hI
      simp only [Fo.size] at hks hsz'
      have hks2 : kids.size < f.size := by omega
      have hnext : Hid ((nFo l).size + (1 + kids.size) + (Fo.drop false f (i + 1)).2.size ≤ f.size) := Lib.hid (by rw [hnx]; show _ + rest.size ≤ _; omega)
      have hB := hinv.out.below
      have hbw : b < w.heap.size := Nat.lt_of_lt_of_le hb hBw
      have c0 := (hB.cell (p := ⟨b, o + i * 5, none⟩) hbw).trans h0
      have c2 := (hB.cell (p := ⟨b, o + i * 5 + 2, none⟩) hbw).trans h2
      have c3 := (hB.cell (p := ⟨b, o + i * 5 + 3, none⟩) hbw).trans h3
      have hi0 : (0 : Int) ≤ (i : Int) := by omega
      have hi1 : (i : Int) < (n : Int) := by omega
      obtain ⟨na, hna⟩ : ∃ na, al.length = na := ⟨_, rfl⟩
      obtain ⟨nk, hnk⟩ : ∃ nk, kids.len = nk := ⟨_, rfl⟩
      rw [hna] at c2 hca hal5 h2
      rw [hnk] at h4 hc4
      replace hna := Lib.hid hna
      replace hnk := Lib.hid hnk
      replace hat := Lib.hid hat
      replace hk4 := Lib.hid hk4
      replace hkS := Lib.hid hkS
      replace h1 := Lib.hid h1
      replace h2 := Lib.hid h2
      replace h4 := Lib.hid h4
      replace halz := Lib.hid halz
      clear h0 hdl hr hd hks hnx hsz' hsz
      go_upto_region 6 with fail
      obtain ⟨W1, hW1⟩ : ∃ W1, wr.alloc (.cells #[.int .i64 kd, .string ⟨#[]⟩, .slice none 0 0, .string ⟨#[]⟩, .slice none 0 0] 44) = W1 := ⟨_, rfl⟩
      have hX1 : Hid (W1.heap[wr.heap.size]? = some (.cells #[.int .i64 kd, .string ⟨#[]⟩, .slice none 0 0, .string ⟨#[]⟩, .slice none 0 0] 44)) := Lib.hid (by rw [← hW1]; exact blk_new _ _)
      have hB1 : Hid (Below wr.heap.size wr W1) := Lib.hid (by rw [← hW1]; exact (Below.refl _ _).alloc (Nat.le_refl _) _)
      rw [hW1]
      obtain ⟨X, hX⟩ : ∃ X, wr.heap.size = X := ⟨_, rfl⟩
      rw [hX] at hX1 hB1 ⊢
      replace hX := Lib.hid hX
      have hwX : Hid (w.heap.size ≤ X) := Lib.hid (by rw [← hX.out]; exact hinv.out.below.size)
      have hll : l.length ≤ 40 := by omega
      have hfin : Hid (∀ (W7 w8 : World) (v' : Value) (x : Obj) (c : NCells), Below X wr W7 → c.Fine W7 (fun k => X ≤ k ∧ k < W7.heap.size) → okC 10000 c → c.text.size ≤ 200 → c.kids.size ≤ kids.size → w8.ownsRow w.heap.size 44 5 v' (l.length + 1) (nCells l ++ c.list) →
          (W7.alloc x).grownBy w8 u3.ownBlock → (v'.ownBlock = u3.ownBlock ∨ v'.ownBlock = some (W7.alloc x).heap.size) →
          ∃ l2 : List NCells, l2.length ≤ i + 1 ∧ Hid ((nFo l2).size + (Fo.drop false f (i + 1)).2.size ≤ f.size) ∧ Hid (∀ c ∈ l2, okC 10000 c ∧ c.text.size ≤ 200) ∧ Hid (RowInv w w8 v' l2)) := Lib.hid (by
        intro W7 w8 v' x c hB7 hf7 hok htx hks7 hown' hg8 hat8
        refine ⟨l ++ [c], by simp; omega, Lib.hid ?_, Lib.hid ?_, Lib.hid ?_⟩
        · rw [nFo_snoc]
          have := hnext.out
          omega
        · intro d hd
          rcases List.mem_append.1 hd with hd | hd
          · exact hlo.out d hd
          · rw [List.mem_singleton.1 hd]
            exact ⟨hok, htx⟩
        · exact (hinv.out.carry (by rw [hX.out]; exact hB7)).push (c := c) hwX.out (fun x hx => by rw [← hX.out]; exact (hinv.out.own.lt x hx).2) hf7 hown' hg8 hat8)
      clear hW1 c0 c2 c3 hB hnext
      obtain ⟨bad, hbad⟩ : ∃ bad, decide (kd < 1 ∨ 3 < kd) = bad := ⟨_, rfl⟩
      go_cut [29] (fun x wx => x = .bool bad ∧ wx = W1)
      case first =>
        have d0 : W1.cell? ⟨X, 0, none⟩ = some (.int .i64 kd) := blk_cell hX1.out 0
        by_cases hk1 : kd < 1
        · have hb1 : bad = true := by rw [← hbad]; simp [hk1]
          subst hb1
          go_wp2_with fail
          go_meet
          exact ⟨rfl, rfl⟩
        · by_cases hk3 : 3 < kd
          · have hb1 : bad = true := by rw [← hbad]; simp [hk3]
            subst hb1
            go_wp2_with fail
            go_meet
            exact ⟨rfl, rfl⟩
          · have hb1 : bad = false := by rw [← hbad]; simp [hk1, hk3]
            subst hb1
            go_wp2_with fail
            go_meet
            exact ⟨rfl, rfl⟩
      case rest =>
      obtain ⟨rfl, rfl⟩ := hcut
      go_upto_if 29 with fail
      go_cut [] (fun wx => ∃ k2 : Int, Hid (k2 = 1 ∨ k2 = 2 ∨ k2 = 3) ∧ Hid (wx.heap[X]? = some (.cells #[.int .i64 k2, .string ⟨#[]⟩, .slice none 0 0, .string ⟨#[]⟩, .slice none 0 0] 44)) ∧ Hid (Below X wr wx))
      case first =>
        have d0 : wc.cell? ⟨X, 0, none⟩ = some (.int .i64 kd) := blk_cell hX1.out 0
        have f0 := blk_frozen hX1.out 0
        cases bad with
        | true =>
          go_wp2_with fail
          go_meet
          exact ⟨1, Lib.hid (.inl rfl), Lib.hid (blk_set_self hX1.out 0 _), Lib.hid (hB1.out.setCell (p := ⟨X, 0, none⟩) (Nat.le_refl _) _)⟩
        | false =>
          have hkd := of_decide_eq_false hbad
          go_wp2_with fail
          go_meet
          exact ⟨kd, Lib.hid (by omega), hX1, hB1⟩
      case rest =>
      obtain ⟨k2, hk2, hX2, hB2⟩ := hcut
      clear hX1 hB1 hbad
      obtain ⟨w1, rfl⟩ : ∃ w1 : World, w1 = wc := ⟨_, rfl⟩
      have hXw : Hid (X < w1.heap.size) := Lib.hid (blk_lt hX2.out)
      have hBw1 : Hid (Below w.heap.size w w1) := Lib.hid (hinv.out.below.trans (hB2.out.mono hwX.out))
      have d0 : w1.cell? ⟨X, 0, none⟩ = some (.int .i64 k2) := blk_cell hX2.out 0
      by_cases hk : k2 = 1
      · subst hk
        have c1 : w1.cell? ⟨b, o + i * 5 + 1, none⟩ = some (.string nm) := (hBw1.out.cell (p := ⟨b, _, none⟩) hbw).trans h1.out
        have d1 : w1.cell? ⟨X, 1, none⟩ = some (.string ⟨#[]⟩) := blk_cell hX2.out 1
        go_upto_region 13 with (go_at_call 68; refine (word_any nm (by omega) _).mono ?_; rintro e w2 ⟨⟨nm2, rfl, hnz2, hnt2⟩, hB3⟩; have hX3 := blk_below hX2.out hB3 hXw.out; have e1 := blk_cell hX3 1; have f1 := blk_frozen hX3 1; replace hX3 := Lib.hid hX3; replace hB3 := Lib.hid hB3)
        obtain ⟨W5, hW5⟩ : ∃ W5, w2.setCell ⟨X, 1, none⟩ (.string nm2) = W5 := ⟨_, rfl⟩
        have hX5 : Hid (W5.heap[X]? = some (.cells #[.int .i64 1, .string nm2, .slice none 0 0, .string ⟨#[]⟩, .slice none 0 0] 44)) := Lib.hid (by rw [← hW5]; exact blk_set_self hX3.out 1 _)
        have hB5 : Hid (Below X wr W5) := Lib.hid (by rw [← hW5]; exact (hB2.out.trans (hB3.out.mono (Nat.le_of_lt hXw.out))).setCell (p := ⟨X, 1, none⟩) (Nat.le_refl _) _)
        have hXw5 : Hid (X < W5.heap.size) := Lib.hid (blk_lt hX5.out)
        rw [hW5]
        clear hW5 e1 f1 c1 d1 d0 hX3 hB3
        replace hnz2 := Lib.hid hnz2
        replace hnt2 := Lib.hid hnt2
        obtain ⟨v, hv⟩ : ∃ v, v = u3 := ⟨_, rfl⟩
        rw [← hv] at hinv hfin ⊢
        clear hv
        obtain ⟨wo, rfl⟩ : ∃ wo, wo = wr := ⟨_, rfl⟩
        go_loopw [6] (fun x6 wr => ∃ (k : Nat) (al' : List (ByteArray × ByteArray)) (Av : Option Addr) (nv capv : Nat), k ≤ na ∧ x6 = .int .i64 k ∧ Hid (nv = al'.length) ∧ nv ≤ k ∧ Hid (∀ p ∈ al', p.1.size ≤ 200 ∧ p.2.size ≤ 200) ∧
          Hid (wr.heap[X]? = some (.cells #[.int .i64 1, .string nm2, .slice Av nv capv, .string ⟨#[]⟩, .slice none 0 0] 44)) ∧ Hid (wr.ownsRow W5.heap.size 100 2 (.slice Av nv capv) nv (attrCells al')) ∧ Hid (Below X wo wr) ∧ Hid (W5.heap.size ≤ wr.heap.size)) (fun x6 _ => na - (Lib.intOf x6).toNat)
        case atStart => exact ⟨0, [], none, 0, 0, Nat.zero_le _, rfl, Lib.hid rfl, Nat.le_refl _, Lib.hid (fun p hp => absurd hp (by simp)), hX5, Lib.hid (World.ownsRow_nil _ _ _ _), hB5, Lib.hid (Nat.le_refl _)⟩
        case round =>
          obtain ⟨k, al', Av, nv, capv, hk1, rfl, hnv, hnk', hsa, hX6, hoa, hB6, hs6⟩ := hrel
          have hBw6 : Hid (Below w.heap.size w wr) := Lib.hid (hinv.out.below.trans (hB6.out.mono hwX.out))
          have hXw6 : Hid (X < wr.heap.size) := Lib.hid (blk_lt hX6.out)
          have c2 : wr.cell? ⟨b, o + i * 5 + 2, none⟩ = some (.slice Aa na capa) := (hBw6.out.cell (p := ⟨b, _, none⟩) hbw).trans h2.out
          by_cases hlk : k < na
          · obtain ⟨b2, o2, rfl, hb2, h5, h6⟩ := hat.out k (by rw [hna.out]; exact hlk)
            obtain ⟨s0, hs0⟩ : ∃ s, (al[k]'(by rw [hna.out]; exact hlk)).1 = s := ⟨_, rfl⟩
            obtain ⟨s1, hs1⟩ : ∃ s, (al[k]'(by rw [hna.out]; exact hlk)).2 = s := ⟨_, rfl⟩
            have hsz01 := halz.out _ (List.getElem_mem (by rw [hna.out]; exact hlk : k < al.length))
            rw [hs0, hs1] at hsz01
            rw [hs0] at h5
            rw [hs1] at h6
            obtain ⟨hsz0, hsz1⟩ := hsz01
            have hb2w : b2 < w.heap.size := Nat.lt_of_lt_of_le hb2 hBw
            have q5 : wr.cell? ⟨b2, o2 + k * 2, none⟩ = some (.string s0) := (hBw6.out.cell (p := ⟨b2, _, none⟩) hb2w).trans h5
            have q6 : wr.cell? ⟨b2, o2 + k * 2 + 1, none⟩ = some (.string s1) := (hBw6.out.cell (p := ⟨b2, _, none⟩) hb2w).trans h6
            have hk0 : (0 : Int) ≤ (k : Int) := by omega
            have hk3 : (k : Int) < (na : Int) := by omega
            clear hs0 hs1
            go_upto_region 15 with fail
            have hconv := fun W => Lib.run_convert_string_bytes (P := Tryz.prog) W 9 74 5 s1 Tryz.underlying9 Tryz.underlying74 Tryz.underlying5
            have hbwr : Hid (b < wr.heap.size) := Lib.hid (Nat.lt_of_lt_of_le hbw hBw6.out.size)
            have hb2wr : Hid (b2 < wr.heap.size) := Lib.hid (Nat.lt_of_lt_of_le hb2w hBw6.out.size)
            have HS : Hid (∀ W, Below wr.heap.size wr W → W.cell? ⟨b, o + i * 5 + 2, none⟩ = some (.slice (some ⟨b2, o2, none⟩) na capa) ∧ W.cell? ⟨b2, o2 + k * 2, none⟩ = some (.string s0) ∧ W.cell? ⟨b2, o2 + k * 2 + 1, none⟩ = some (.string s1)) :=
              Lib.hid (fun W hW => ⟨(hW.cell (p := ⟨b, _, none⟩) hbwr.out).trans c2, (hW.cell (p := ⟨b2, _, none⟩) hb2wr.out).trans q5, (hW.cell (p := ⟨b2, _, none⟩) hb2wr.out).trans q6⟩)
            go_cut [7] (fun x wx => ∃ (g : Nat) (t0 t1 : ByteArray), x = .pointer (some ⟨g, 0, none⟩) ∧ Hid (t0.size ≤ 200 ∧ t1.size ≤ 200) ∧ Hid (wx.heap[g]? = some (.cells #[.string t0, .string t1] 100)) ∧ Hid (Below wr.heap.size wr wx))
            case first =>
              have hB : Hid (Below wr.heap.size wr wr.drew) := Lib.hid ((Below.refl wr.heap.size wr).drew)
              have hBd : Hid (Below wr.heap.size wr (wr.alloc noA).drew) := Lib.hid ((BA noA (Below.refl wr.heap.size wr)).drew)
              have hN : NA wr (wr.alloc noA).drew wr.heap.size := ⟨Nat.le_refl _, blk_new wr noA⟩
              replace hsz0 := Lib.hid hsz0
              replace hsz1 := Lib.hid hsz1
              clear c2 q5 q6 hinv hfin hX6 hB6
              refine wp_region_held_drew (S := fun w' => w'.cell? ⟨b, o + i * 5 + 2, none⟩ = some (.slice (some ⟨b2, o2, none⟩) na capa) ∧ w'.cell? ⟨b2, o2 + k * 2, none⟩ = some (.string s0) ∧ w'.cell? ⟨b2, o2 + k * 2 + 1, none⟩ = some (.string s1)) (by kernel_rfl) ?_ (fun hHeld => ?_)
              · exact HS.out _ hB.out
              refine wpAnyH_take (i := 0) (v := ?_) rfl (by kernel_rfl) (by kernel_rfl) (by kernel_rfl) (fun _ _ _ h => h) (Or.inl ⟨by rfl, ?_⟩) (by assumption) ?_
              rotate_left
              · (intro W hSw; (try dsimp only at hSw); go_simp; try with_reducible rfl)
              (try simp only [Act.put, List.setIfInBounds_toArray, List.set_cons_zero, List.set_cons_succ])
              refine wpAnyH_take (i := 1) (v := ?_) rfl (by kernel_rfl) (by kernel_rfl) (by kernel_rfl) (fun _ _ _ h => h) (Or.inl ⟨by rfl, ?_⟩) (by assumption) ?_
              rotate_left
              · (intro W hSw; (try dsimp only at hSw); go_simp; try with_reducible rfl)
              (try simp only [Act.put, List.setIfInBounds_toArray, List.set_cons_zero, List.set_cons_succ])
              refine wpAnyH_take (i := 2) (v := ?_) rfl (by kernel_rfl) (by kernel_rfl) (by kernel_rfl) (fun _ _ _ h => h) (Or.inl ⟨by rfl, ?_⟩) (by assumption) ?_
              rotate_left
              · (intro W hSw; (try dsimp only at hSw); go_simp; try with_reducible rfl)
              (try simp only [Act.put, List.setIfInBounds_toArray, List.set_cons_zero, List.set_cons_succ])
              refine wpAnyH_take (i := 3) (v := ?_) rfl (by kernel_rfl) (by kernel_rfl) (by kernel_rfl) (fun _ _ _ h => h) (Or.inl ⟨by rfl, ?_⟩) (by assumption) ?_
              rotate_left
              · (intro W hSw; (try dsimp only at hSw); go_simp; try with_reducible rfl)
              (try simp only [Act.put, List.setIfInBounds_toArray, List.set_cons_zero, List.set_cons_succ])
              refine wpAnyH_take (i := 4) (v := ?_) rfl (by kernel_rfl) (by kernel_rfl) (by kernel_rfl) (fun _ _ _ h => h) (Or.inl ⟨by rfl, ?_⟩) (by assumption) ?_
              rotate_left
              · (intro W hSw; (try dsimp only at hSw); go_simp; try with_reducible rfl)
              (try simp only [Act.put, List.setIfInBounds_toArray, List.set_cons_zero, List.set_cons_succ])
              refine wpAnyH_take (i := 5) (v := ?_) rfl (by kernel_rfl) (by kernel_rfl) (by kernel_rfl) (fun _ _ _ h => h) (Or.inl ⟨by rfl, ?_⟩) (by assumption) ?_
              rotate_left
              · (intro W hSw; (try dsimp only at hSw); go_simp; try with_reducible rfl)
              (try simp only [Act.put, List.setIfInBounds_toArray, List.set_cons_zero, List.set_cons_succ])
              refine wpAnyH_take (i := 6) (v := ?_) rfl (by kernel_rfl) (by kernel_rfl) (by kernel_rfl) (fun _ _ _ h => h) (Or.inl ⟨by rfl, ?_⟩) (by assumption) ?_
              rotate_left
              · (intro W hSw; (try dsimp only at hSw); go_simp; try with_reducible rfl)
              (try simp only [Act.put, List.setIfInBounds_toArray, List.set_cons_zero, List.set_cons_succ])
              refine wpAnyH_take (i := 7) (v := ?_) rfl (by kernel_rfl) (by kernel_rfl) (by kernel_rfl) (fun _ _ _ h => h) (Or.inl ⟨by rfl, ?_⟩) (by assumption) ?_
              rotate_left
              · (intro W hSw; (try dsimp only at hSw); go_simp; try with_reducible rfl)
              (try simp only [Act.put, List.setIfInBounds_toArray, List.set_cons_zero, List.set_cons_succ])
              refine wpAnyH_take (i := 8) (v := ?_) rfl (by kernel_rfl) (by kernel_rfl) (by kernel_rfl) (fun _ _ _ h => h) (Or.inl ⟨by rfl, ?_⟩) (by assumption) ?_
              rotate_left
              · (intro W hSw; (try dsimp only at hSw); go_simp; try with_reducible rfl)
              (try simp only [Act.put, List.setIfInBounds_toArray, List.set_cons_zero, List.set_cons_succ])
              refine wpAnyH_take (i := 10) (v := ?_) rfl (by kernel_rfl) (by kernel_rfl) (by kernel_rfl) (fun _ _ _ h => h) (Or.inl ⟨by rfl, ?_⟩) (by assumption) ?_
              rotate_left
              · (intro W hSw; (try dsimp only at hSw); go_simp; try with_reducible rfl)
              (try simp only [Act.put, List.setIfInBounds_toArray, List.set_cons_zero, List.set_cons_succ])
              refine wpAnyH_take (i := 11) (v := ?_) rfl (by kernel_rfl) (by kernel_rfl) (by kernel_rfl) (fun _ _ _ h => h) (Or.inl ⟨by rfl, ?_⟩) (by assumption) ?_
              rotate_left
              · (intro W hSw; (try dsimp only at hSw); go_simp; try with_reducible rfl)
              (try simp only [Act.put, List.setIfInBounds_toArray, List.set_cons_zero, List.set_cons_succ])
              refine wpAnyH_take (i := 12) (v := ?_) rfl (by kernel_rfl) (by kernel_rfl) (by kernel_rfl) (fun _ _ _ h => h) (Or.inl ⟨by rfl, ?_⟩) (by assumption) ?_
              rotate_left
              · (intro W hSw; (try dsimp only at hSw); go_simp; try with_reducible rfl)
              (try simp only [Act.put, List.setIfInBounds_toArray, List.set_cons_zero, List.set_cons_succ])
              refine wpAnyH_take (i := 13) (v := ?_) rfl (by kernel_rfl) (by kernel_rfl) (by kernel_rfl) (fun _ _ _ h => h) (Or.inl ⟨by rfl, ?_⟩) (by assumption) ?_
              rotate_left
              · (intro W hSw; (try dsimp only at hSw); go_simp; try with_reducible rfl)
              (try simp only [Act.put, List.setIfInBounds_toArray, List.set_cons_zero, List.set_cons_succ])
              refine wpAnyH_take (i := 14) (v := ?_) rfl (by kernel_rfl) (by kernel_rfl) (by kernel_rfl) (fun _ _ _ h => h) (Or.inl ⟨by rfl, ?_⟩) (by assumption) ?_
              rotate_left
              · (intro W hSw; (try dsimp only at hSw); go_simp; try with_reducible rfl)
              (try simp only [Act.put, List.setIfInBounds_toArray, List.set_cons_zero, List.set_cons_succ])
              refine wpAnyH_take (i := 15) (v := ?_) rfl (by kernel_rfl) (by kernel_rfl) (by kernel_rfl) (fun _ _ _ h => h) (Or.inl ⟨by rfl, ?_⟩) (by assumption) ?_
              rotate_left
              · (intro W hSw; (try dsimp only at hSw); go_simp; try with_reducible rfl)
              (try simp only [Act.put, List.setIfInBounds_toArray, List.set_cons_zero, List.set_cons_succ])
              refine wpAnyH_take (i := 16) (v := ?_) rfl (by kernel_rfl) (by kernel_rfl) (by kernel_rfl) (fun _ _ _ h => h) (Or.inl ⟨by rfl, ?_⟩) (by assumption) ?_
              rotate_left
              · (intro W hSw; (try dsimp only at hSw); go_simp; try with_reducible rfl)
              (try simp only [Act.put, List.setIfInBounds_toArray, List.set_cons_zero, List.set_cons_succ])
              refine wpAnyH_take (i := 17) (v := ?_) rfl (by kernel_rfl) (by kernel_rfl) (by kernel_rfl) (fun _ _ _ h => h) (Or.inl ⟨by rfl, ?_⟩) (by assumption) ?_
              rotate_left
              · (intro W hSw; (try dsimp only at hSw); go_simp; try with_reducible rfl)
              (try simp only [Act.put, List.setIfInBounds_toArray, List.set_cons_zero, List.set_cons_succ])
              refine wpAnyH_take (i := 18) (v := ?_) rfl (by kernel_rfl) (by kernel_rfl) (by kernel_rfl) (fun _ _ _ h => h) (Or.inl ⟨by rfl, ?_⟩) (by assumption) ?_
              rotate_left
              · (intro W hSw; (try dsimp only at hSw); go_simp; try with_reducible rfl)
              (try simp only [Act.put, List.setIfInBounds_toArray, List.set_cons_zero, List.set_cons_succ])
              refine wpAnyH_ready (rs := [9, 19, 22]) (by kernel_rfl) (by simp) ?_
              refine AllReadyH.cons rfl (fun K hK => ?_) ?_
              · go_simp
                (first | (go_at_call 69; refine (attribute_any s0 (by have := hsz0.out; omega) _).mono ?_; rintro e w4 ⟨⟨t0, rfl, ht0⟩, hb'⟩; (first | (with_reducible have hC := Lib.hid (BT hC.out hb')) | (with_reducible have hC := Lib.hid (BT (BA noA hC.out) hb')) | (with_reducible have hC : Hid (Below (bytesWorld _ 5 s1).heap.size (bytesWorld _ 5 s1) w4) := Lib.hid hb') | (with_reducible have hC : Hid (Below (bytesWorld _ 5 s1).heap.size (bytesWorld _ 5 s1) w4) := Lib.hid (BT (BA noA (Below.refl _ _)) hb')) | skip); (first | (with_reducible have hN := NA.step hN hb') | (with_reducible have hN := NA.stepC hN hb') | (with_reducible have hN := NA.mk' hB.out hb') | (with_reducible have hN := NA.mk' (BC s1 hB.out) hb') | (with_reducible have hN := NA.mkC hB.out hb') | skip); (first | (have n0 := blk_cell hN.2 0; have n1 := blk_cell hN.2 1; have m0 := blk_frozen hN.2 0; have m1 := blk_frozen hN.2 1; simp only [List.getElem?_toArray, List.getElem?_cons_zero, List.getElem?_cons_succ] at n0 n1) | skip); (first | (with_reducible have hB := Lib.hid (BT hB.out hb')) | (with_reducible have hB := Lib.hid (BT (BC s1 hB.out) hb')) | (with_reducible have hB := Lib.hid (BT (BA noA hB.out) hb')) | (with_reducible have hB := Lib.hid (BT (BA noA (BC s1 hB.out)) hb')) | (with_reducible have hB := Lib.hid (BT (BC s1 (BA noA hB.out)) hb')) | (with_reducible have hB := Lib.hid (BT hBd.out hb')) | (with_reducible have hB := Lib.hid (BT (BC s1 hBd.out) hb'))); clear hb') | (go_at_call 67; (first | with_reducible refine (right_call2 _ _ s1 _ (by first | rfl | simp) hsz1.out (Below.refl _ _)).mono ?_ | with_reducible refine (right_call2 _ _ s1 _ (by first | rfl | simp) hsz1.out (hC.out)).mono ?_ | with_reducible refine (right_call2 _ _ s1 _ (by first | rfl | simp) hsz1.out (BA noA (Below.refl _ _))).mono ?_ | with_reducible refine (right_call2 _ _ s1 _ (by first | rfl | simp) hsz1.out (BA noA hC.out)).mono ?_); rintro e w4 ⟨t1, rfl, ht1, hb'⟩; (first | (with_reducible have hC := Lib.hid (BT hC.out hb')) | (with_reducible have hC := Lib.hid (BT (BA noA hC.out) hb')) | (with_reducible have hC : Hid (Below (bytesWorld _ 5 s1).heap.size (bytesWorld _ 5 s1) w4) := Lib.hid hb') | (with_reducible have hC : Hid (Below (bytesWorld _ 5 s1).heap.size (bytesWorld _ 5 s1) w4) := Lib.hid (BT (BA noA (Below.refl _ _)) hb')) | skip); (first | (with_reducible have hN := NA.step hN hb') | (with_reducible have hN := NA.stepC hN hb') | (with_reducible have hN := NA.mk' hB.out hb') | (with_reducible have hN := NA.mk' (BC s1 hB.out) hb') | (with_reducible have hN := NA.mkC hB.out hb') | skip); (first | (have n0 := blk_cell hN.2 0; have n1 := blk_cell hN.2 1; have m0 := blk_frozen hN.2 0; have m1 := blk_frozen hN.2 1; simp only [List.getElem?_toArray, List.getElem?_cons_zero, List.getElem?_cons_succ] at n0 n1) | skip); (first | (with_reducible have hB := Lib.hid (BT hB.out hb')) | (with_reducible have hB := Lib.hid (BT (BC s1 hB.out) hb')) | (with_reducible have hB := Lib.hid (BT (BA noA hB.out) hb')) | (with_reducible have hB := Lib.hid (BT (BA noA (BC s1 hB.out)) hb')) | (with_reducible have hB := Lib.hid (BT (BC s1 (BA noA hB.out)) hb')) | (with_reducible have hB := Lib.hid (BT hBd.out hb')) | (with_reducible have hB := Lib.hid (BT (BC s1 hBd.out) hb'))); clear hb'))
                (try go_wp2_with fail)
                refine hK.out _ _ ?_ (fun hHeld => ?_)
                · (try dsimp only)
                  (first | with_reducible exact HS.out _ hB.out | with_reducible exact HS.out _ (BC s1 hB.out) | with_reducible exact HS.out _ (BA noA hB.out) | with_reducible exact HS.out _ (BA noA (BC s1 hB.out)) | with_reducible exact HS.out _ (BC s1 (BA noA hB.out)) | with_reducible exact HS.out _ (BA _ hB.out) | with_reducible exact HS.out _ hBd.out | with_reducible exact HS.out _ (BC s1 hBd.out) | exact HS.out _ ((hB.out.setCell (p := ⟨_, 0, none⟩) hN.1 _).setCell (p := ⟨_, 1, none⟩) hN.1 _))
                clear hK K
                (try simp only [Act.put, List.setIfInBounds_toArray, List.set_cons_zero, List.set_cons_succ])
                refine wpAnyH_ready (rs := [19, 22]) (by kernel_rfl) (by simp) ?_
                refine AllReadyH.cons rfl (fun K hK => ?_) ?_
                · go_simp
                  refine hK.out _ _ ?_ (fun hHeld => ?_)
                  · (try dsimp only)
                    (first | with_reducible exact HS.out _ hB.out | with_reducible exact HS.out _ (BC s1 hB.out) | with_reducible exact HS.out _ (BA noA hB.out) | with_reducible exact HS.out _ (BA noA (BC s1 hB.out)) | with_reducible exact HS.out _ (BC s1 (BA noA hB.out)) | with_reducible exact HS.out _ (BA _ hB.out) | with_reducible exact HS.out _ hBd.out | with_reducible exact HS.out _ (BC s1 hBd.out) | exact HS.out _ ((hB.out.setCell (p := ⟨_, 0, none⟩) hN.1 _).setCell (p := ⟨_, 1, none⟩) hN.1 _))
                  clear hK K
                  (try simp only [Act.put, List.setIfInBounds_toArray, List.set_cons_zero, List.set_cons_succ])
                  refine wpAnyH_ready (rs := [20, 22]) (by kernel_rfl) (by simp) ?_
                  refine AllReadyH.cons rfl (fun K hK => ?_) ?_
                  · go_simp
                    (first | (go_at_call 69; refine (attribute_any s0 (by have := hsz0.out; omega) _).mono ?_; rintro e w4 ⟨⟨t0, rfl, ht0⟩, hb'⟩; (first | (with_reducible have hC := Lib.hid (BT hC.out hb')) | (with_reducible have hC := Lib.hid (BT (BA noA hC.out) hb')) | (with_reducible have hC : Hid (Below (bytesWorld _ 5 s1).heap.size (bytesWorld _ 5 s1) w4) := Lib.hid hb') | (with_reducible have hC : Hid (Below (bytesWorld _ 5 s1).heap.size (bytesWorld _ 5 s1) w4) := Lib.hid (BT (BA noA (Below.refl _ _)) hb')) | skip); (first | (with_reducible have hN := NA.step hN hb') | (with_reducible have hN := NA.stepC hN hb') | (with_reducible have hN := NA.mk' hB.out hb') | (with_reducible have hN := NA.mk' (BC s1 hB.out) hb') | (with_reducible have hN := NA.mkC hB.out hb') | skip); (first | (have n0 := blk_cell hN.2 0; have n1 := blk_cell hN.2 1; have m0 := blk_frozen hN.2 0; have m1 := blk_frozen hN.2 1; simp only [List.getElem?_toArray, List.getElem?_cons_zero, List.getElem?_cons_succ] at n0 n1) | skip); (first | (with_reducible have hB := Lib.hid (BT hB.out hb')) | (with_reducible have hB := Lib.hid (BT (BC s1 hB.out) hb')) | (with_reducible have hB := Lib.hid (BT (BA noA hB.out) hb')) | (with_reducible have hB := Lib.hid (BT (BA noA (BC s1 hB.out)) hb')) | (with_reducible have hB := Lib.hid (BT (BC s1 (BA noA hB.out)) hb')) | (with_reducible have hB := Lib.hid (BT hBd.out hb')) | (with_reducible have hB := Lib.hid (BT (BC s1 hBd.out) hb'))); clear hb') | (go_at_call 67; (first | with_reducible refine (right_call2 _ _ s1 _ (by first | rfl | simp) hsz1.out (Below.refl _ _)).mono ?_ | with_reducible refine (right_call2 _ _ s1 _ (by first | rfl | simp) hsz1.out (hC.out)).mono ?_ | with_reducible refine (right_call2 _ _ s1 _ (by first | rfl | simp) hsz1.out (BA noA (Below.refl _ _))).mono ?_ | with_reducible refine (right_call2 _ _ s1 _ (by first | rfl | simp) hsz1.out (BA noA hC.out)).mono ?_); rintro e w4 ⟨t1, rfl, ht1, hb'⟩; (first | (with_reducible have hC := Lib.hid (BT hC.out hb')) | (with_reducible have hC := Lib.hid (BT (BA noA hC.out) hb')) | (with_reducible have hC : Hid (Below (bytesWorld _ 5 s1).heap.size (bytesWorld _ 5 s1) w4) := Lib.hid hb') | (with_reducible have hC : Hid (Below (bytesWorld _ 5 s1).heap.size (bytesWorld _ 5 s1) w4) := Lib.hid (BT (BA noA (Below.refl _ _)) hb')) | skip); (first | (with_reducible have hN := NA.step hN hb') | (with_reducible have hN := NA.stepC hN hb') | (with_reducible have hN := NA.mk' hB.out hb') | (with_reducible have hN := NA.mk' (BC s1 hB.out) hb') | (with_reducible have hN := NA.mkC hB.out hb') | skip); (first | (have n0 := blk_cell hN.2 0; have n1 := blk_cell hN.2 1; have m0 := blk_frozen hN.2 0; have m1 := blk_frozen hN.2 1; simp only [List.getElem?_toArray, List.getElem?_cons_zero, List.getElem?_cons_succ] at n0 n1) | skip); (first | (with_reducible have hB := Lib.hid (BT hB.out hb')) | (with_reducible have hB := Lib.hid (BT (BC s1 hB.out) hb')) | (with_reducible have hB := Lib.hid (BT (BA noA hB.out) hb')) | (with_reducible have hB := Lib.hid (BT (BA noA (BC s1 hB.out)) hb')) | (with_reducible have hB := Lib.hid (BT (BC s1 (BA noA hB.out)) hb')) | (with_reducible have hB := Lib.hid (BT hBd.out hb')) | (with_reducible have hB := Lib.hid (BT (BC s1 hBd.out) hb'))); clear hb'))
                    (try go_wp2_with fail)
                    refine hK.out _ _ ?_ (fun hHeld => ?_)
                    · (try dsimp only)
                      (first | with_reducible exact HS.out _ hB.out | with_reducible exact HS.out _ (BC s1 hB.out) | with_reducible exact HS.out _ (BA noA hB.out) | with_reducible exact HS.out _ (BA noA (BC s1 hB.out)) | with_reducible exact HS.out _ (BC s1 (BA noA hB.out)) | with_reducible exact HS.out _ (BA _ hB.out) | with_reducible exact HS.out _ hBd.out | with_reducible exact HS.out _ (BC s1 hBd.out) | exact HS.out _ ((hB.out.setCell (p := ⟨_, 0, none⟩) hN.1 _).setCell (p := ⟨_, 1, none⟩) hN.1 _))
                    clear hK K
                    (try simp only [Act.put, List.setIfInBounds_toArray, List.set_cons_zero, List.set_cons_succ])
                    refine wpAnyH_take (i := 21) (v := ?_) rfl (by kernel_rfl) (by kernel_rfl) (by kernel_rfl) (fun _ _ _ h => h) (Or.inl ⟨by rfl, ?_⟩) (by assumption) ?_
                    rotate_left
                    · (intro W hSw; (try dsimp only at hSw); go_simp; try with_reducible rfl)
                    (try simp only [Act.put, List.setIfInBounds_toArray, List.set_cons_zero, List.set_cons_succ])
                    refine wpAnyH_ready (rs := [22]) (by kernel_rfl) (by simp) ?_
                    refine AllReadyH.cons rfl (fun K hK => ?_) ?_
                    · go_simp
                      refine hK.out _ _ ?_ (fun hHeld => ?_)
                      · (try dsimp only)
                        (first | with_reducible exact HS.out _ hB.out | with_reducible exact HS.out _ (BC s1 hB.out) | with_reducible exact HS.out _ (BA noA hB.out) | with_reducible exact HS.out _ (BA noA (BC s1 hB.out)) | with_reducible exact HS.out _ (BC s1 (BA noA hB.out)) | with_reducible exact HS.out _ (BA _ hB.out) | with_reducible exact HS.out _ hBd.out | with_reducible exact HS.out _ (BC s1 hBd.out) | exact HS.out _ ((hB.out.setCell (p := ⟨_, 0, none⟩) hN.1 _).setCell (p := ⟨_, 1, none⟩) hN.1 _))
                      clear hK K
                      (try simp only [Act.put, List.setIfInBounds_toArray, List.set_cons_zero, List.set_cons_succ])
                      refine wpAnyH_ready (rs := [23]) (by kernel_rfl) (by simp) ?_
                      refine AllReadyH.cons rfl (fun K hK => ?_) ?_
                      · go_simp
                        refine hK.out _ _ ?_ (fun hHeld => ?_)
                        · (try dsimp only)
                          (first | with_reducible exact HS.out _ hB.out | with_reducible exact HS.out _ (BC s1 hB.out) | with_reducible exact HS.out _ (BA noA hB.out) | with_reducible exact HS.out _ (BA noA (BC s1 hB.out)) | with_reducible exact HS.out _ (BC s1 (BA noA hB.out)) | with_reducible exact HS.out _ (BA _ hB.out) | with_reducible exact HS.out _ hBd.out | with_reducible exact HS.out _ (BC s1 hBd.out) | exact HS.out _ ((hB.out.setCell (p := ⟨_, 0, none⟩) hN.1 _).setCell (p := ⟨_, 1, none⟩) hN.1 _))
                        clear hK K
                        (try simp only [Act.put, List.setIfInBounds_toArray, List.set_cons_zero, List.set_cons_succ])
                        refine wpAnyH_done (by kernel_rfl) ?_ _
                        (go_wp2_with fail; go_meet; first | exact ⟨_, t0, t1, rfl, Lib.hid ⟨by have := hsz0.out; omega, by omega⟩, Lib.hid (blk_new _ _), Lib.hid (BA _ hB.out)⟩ | exact ⟨_, t0, t1, rfl, Lib.hid ⟨by have := hsz0.out; omega, by omega⟩, Lib.hid (blk_set_self (blk_set_self hN.2 0 _) 1 _), Lib.hid ((hB.out.setCell (p := ⟨_, 0, none⟩) hN.1 _).setCell (p := ⟨_, 1, none⟩) hN.1 _)⟩)
                      exact AllReadyH.nil
                    exact AllReadyH.nil
                  refine AllReadyH.cons rfl (fun K hK => ?_) ?_
                  · go_simp
                    refine hK.out _ _ ?_ (fun hHeld => ?_)
                    · (try dsimp only)
                      (first | with_reducible exact HS.out _ hB.out | with_reducible exact HS.out _ (BC s1 hB.out) | with_reducible exact HS.out _ (BA noA hB.out) | with_reducible exact HS.out _ (BA noA (BC s1 hB.out)) | with_reducible exact HS.out _ (BC s1 (BA noA hB.out)) | with_reducible exact HS.out _ (BA _ hB.out) | with_reducible exact HS.out _ hBd.out | with_reducible exact HS.out _ (BC s1 hBd.out) | exact HS.out _ ((hB.out.setCell (p := ⟨_, 0, none⟩) hN.1 _).setCell (p := ⟨_, 1, none⟩) hN.1 _))
                    clear hK K
                    (try simp only [Act.put, List.setIfInBounds_toArray, List.set_cons_zero, List.set_cons_succ])
                    refine wpAnyH_ready (rs := [20]) (by kernel_rfl) (by simp) ?_
                    refine AllReadyH.cons rfl (fun K hK => ?_) ?_
                    · go_simp
                      (first | (go_at_call 69; refine (attribute_any s0 (by have := hsz0.out; omega) _).mono ?_; rintro e w4 ⟨⟨t0, rfl, ht0⟩, hb'⟩; (first | (with_reducible have hC := Lib.hid (BT hC.out hb')) | (with_reducible have hC := Lib.hid (BT (BA noA hC.out) hb')) | (with_reducible have hC : Hid (Below (bytesWorld _ 5 s1).heap.size (bytesWorld _ 5 s1) w4) := Lib.hid hb') | (with_reducible have hC : Hid (Below (bytesWorld _ 5 s1).heap.size (bytesWorld _ 5 s1) w4) := Lib.hid (BT (BA noA (Below.refl _ _)) hb')) | skip); (first | (with_reducible have hN := NA.step hN hb') | (with_reducible have hN := NA.stepC hN hb') | (with_reducible have hN := NA.mk' hB.out hb') | (with_reducible have hN := NA.mk' (BC s1 hB.out) hb') | (with_reducible have hN := NA.mkC hB.out hb') | skip); (first | (have n0 := blk_cell hN.2 0; have n1 := blk_cell hN.2 1; have m0 := blk_frozen hN.2 0; have m1 := blk_frozen hN.2 1; simp only [List.getElem?_toArray, List.getElem?_cons_zero, List.getElem?_cons_succ] at n0 n1) | skip); (first | (with_reducible have hB := Lib.hid (BT hB.out hb')) | (with_reducible have hB := Lib.hid (BT (BC s1 hB.out) hb')) | (with_reducible have hB := Lib.hid (BT (BA noA hB.out) hb')) | (with_reducible have hB := Lib.hid (BT (BA noA (BC s1 hB.out)) hb')) | (with_reducible have hB := Lib.hid (BT (BC s1 (BA noA hB.out)) hb')) | (with_reducible have hB := Lib.hid (BT hBd.out hb')) | (with_reducible have hB := Lib.hid (BT (BC s1 hBd.out) hb'))); clear hb') | (go_at_call 67; (first | with_reducible refine (right_call2 _ _ s1 _ (by first | rfl | simp) hsz1.out (Below.refl _ _)).mono ?_ | with_reducible refine (right_call2 _ _ s1 _ (by first | rfl | simp) hsz1.out (hC.out)).mono ?_ | with_reducible refine (right_call2 _ _ s1 _ (by first | rfl | simp) hsz1.out (BA noA (Below.refl _ _))).mono ?_ | with_reducible refine (right_call2 _ _ s1 _ (by first | rfl | simp) hsz1.out (BA noA hC.out)).mono ?_); rintro e w4 ⟨t1, rfl, ht1, hb'⟩; (first | (with_reducible have hC := Lib.hid (BT hC.out hb')) | (with_reducible have hC := Lib.hid (BT (BA noA hC.out) hb')) | (with_reducible have hC : Hid (Below (bytesWorld _ 5 s1).heap.size (bytesWorld _ 5 s1) w4) := Lib.hid hb') | (with_reducible have hC : Hid (Below (bytesWorld _ 5 s1).heap.size (bytesWorld _ 5 s1) w4) := Lib.hid (BT (BA noA (Below.refl _ _)) hb')) | skip); (first | (with_reducible have hN := NA.step hN hb') | (with_reducible have hN := NA.stepC hN hb') | (with_reducible have hN := NA.mk' hB.out hb') | (with_reducible have hN := NA.mk' (BC s1 hB.out) hb') | (with_reducible have hN := NA.mkC hB.out hb') | skip); (first | (have n0 := blk_cell hN.2 0; have n1 := blk_cell hN.2 1; have m0 := blk_frozen hN.2 0; have m1 := blk_frozen hN.2 1; simp only [List.getElem?_toArray, List.getElem?_cons_zero, List.getElem?_cons_succ] at n0 n1) | skip); (first | (with_reducible have hB := Lib.hid (BT hB.out hb')) | (with_reducible have hB := Lib.hid (BT (BC s1 hB.out) hb')) | (with_reducible have hB := Lib.hid (BT (BA noA hB.out) hb')) | (with_reducible have hB := Lib.hid (BT (BA noA (BC s1 hB.out)) hb')) | (with_reducible have hB := Lib.hid (BT (BC s1 (BA noA hB.out)) hb')) | (with_reducible have hB := Lib.hid (BT hBd.out hb')) | (with_reducible have hB := Lib.hid (BT (BC s1 hBd.out) hb'))); clear hb'))
                      (try go_wp2_with fail)
                      refine hK.out _ _ ?_ (fun hHeld => ?_)
                      · (try dsimp only)
                        (first | with_reducible exact HS.out _ hB.out | with_reducible exact HS.out _ (BC s1 hB.out) | with_reducible exact HS.out _ (BA noA hB.out) | with_reducible exact HS.out _ (BA noA (BC s1 hB.out)) | with_reducible exact HS.out _ (BC s1 (BA noA hB.out)) | with_reducible exact HS.out _ (BA _ hB.out) | with_reducible exact HS.out _ hBd.out | with_reducible exact HS.out _ (BC s1 hBd.out) | exact HS.out _ ((hB.out.setCell (p := ⟨_, 0, none⟩) hN.1 _).setCell (p := ⟨_, 1, none⟩) hN.1 _))
                      clear hK K
                      (try simp only [Act.put, List.setIfInBounds_toArray, List.set_cons_zero, List.set_cons_succ])
                      refine wpAnyH_take (i := 21) (v := ?_) rfl (by kernel_rfl) (by kernel_rfl) (by kernel_rfl) (fun _ _ _ h => h) (Or.inl ⟨by rfl, ?_⟩) (by assumption) ?_
                      rotate_left
                      · (intro W hSw; (try dsimp only at hSw); go_simp; try with_reducible rfl)
                      (try simp only [Act.put, List.setIfInBounds_toArray, List.set_cons_zero, List.set_cons_succ])
                      refine wpAnyH_ready (rs := [23]) (by kernel_rfl) (by simp) ?_
                      refine AllReadyH.cons rfl (fun K hK => ?_) ?_
                      · go_simp
                        refine hK.out _ _ ?_ (fun hHeld => ?_)
                        · (try dsimp only)
                          (first | with_reducible exact HS.out _ hB.out | with_reducible exact HS.out _ (BC s1 hB.out) | with_reducible exact HS.out _ (BA noA hB.out) | with_reducible exact HS.out _ (BA noA (BC s1 hB.out)) | with_reducible exact HS.out _ (BC s1 (BA noA hB.out)) | with_reducible exact HS.out _ (BA _ hB.out) | with_reducible exact HS.out _ hBd.out | with_reducible exact HS.out _ (BC s1 hBd.out) | exact HS.out _ ((hB.out.setCell (p := ⟨_, 0, none⟩) hN.1 _).setCell (p := ⟨_, 1, none⟩) hN.1 _))
                        clear hK K
                        (try simp only [Act.put, List.setIfInBounds_toArray, List.set_cons_zero, List.set_cons_succ])
                        refine wpAnyH_done (by kernel_rfl) ?_ _
                        (go_wp2_with fail; go_meet; first | exact ⟨_, t0, t1, rfl, Lib.hid ⟨by have := hsz0.out; omega, by omega⟩, Lib.hid (blk_new _ _), Lib.hid (BA _ hB.out)⟩ | exact ⟨_, t0, t1, rfl, Lib.hid ⟨by have := hsz0.out; omega, by omega⟩, Lib.hid (blk_set_self (blk_set_self hN.2 0 _) 1 _), Lib.hid ((hB.out.setCell (p := ⟨_, 0, none⟩) hN.1 _).setCell (p := ⟨_, 1, none⟩) hN.1 _)⟩)
                      exact AllReadyH.nil
                    exact AllReadyH.nil
                  exact AllReadyH.nil
                refine AllReadyH.cons rfl (fun K hK => ?_) ?_
                · go_simp
                  refine hK.out _ _ ?_ (fun hHeld => ?_)
                  · (try dsimp only)
                    (first | with_reducible exact HS.out _ hB.out | with_reducible exact HS.out _ (BC s1 hB.out) | with_reducible exact HS.out _ (BA noA hB.out) | with_reducible exact HS.out _ (BA noA (BC s1 hB.out)) | with_reducible exact HS.out _ (BC s1 (BA noA hB.out)) | with_reducible exact HS.out _ (BA _ hB.out) | with_reducible exact HS.out _ hBd.out | with_reducible exact HS.out _ (BC s1 hBd.out) | exact HS.out _ ((hB.out.setCell (p := ⟨_, 0, none⟩) hN.1 _).setCell (p := ⟨_, 1, none⟩) hN.1 _))
                  clear hK K
                  (try simp only [Act.put, List.setIfInBounds_toArray, List.set_cons_zero, List.set_cons_succ])
                  refine wpAnyH_ready (rs := [19]) (by kernel_rfl) (by simp) ?_
                  refine AllReadyH.cons rfl (fun K hK => ?_) ?_
                  · go_simp
                    refine hK.out _ _ ?_ (fun hHeld => ?_)
                    · (try dsimp only)
                      (first | with_reducible exact HS.out _ hB.out | with_reducible exact HS.out _ (BC s1 hB.out) | with_reducible exact HS.out _ (BA noA hB.out) | with_reducible exact HS.out _ (BA noA (BC s1 hB.out)) | with_reducible exact HS.out _ (BC s1 (BA noA hB.out)) | with_reducible exact HS.out _ (BA _ hB.out) | with_reducible exact HS.out _ hBd.out | with_reducible exact HS.out _ (BC s1 hBd.out) | exact HS.out _ ((hB.out.setCell (p := ⟨_, 0, none⟩) hN.1 _).setCell (p := ⟨_, 1, none⟩) hN.1 _))
                    clear hK K
                    (try simp only [Act.put, List.setIfInBounds_toArray, List.set_cons_zero, List.set_cons_succ])
                    refine wpAnyH_ready (rs := [20]) (by kernel_rfl) (by simp) ?_
                    refine AllReadyH.cons rfl (fun K hK => ?_) ?_
                    · go_simp
                      (first | (go_at_call 69; refine (attribute_any s0 (by have := hsz0.out; omega) _).mono ?_; rintro e w4 ⟨⟨t0, rfl, ht0⟩, hb'⟩; (first | (with_reducible have hC := Lib.hid (BT hC.out hb')) | (with_reducible have hC := Lib.hid (BT (BA noA hC.out) hb')) | (with_reducible have hC : Hid (Below (bytesWorld _ 5 s1).heap.size (bytesWorld _ 5 s1) w4) := Lib.hid hb') | (with_reducible have hC : Hid (Below (bytesWorld _ 5 s1).heap.size (bytesWorld _ 5 s1) w4) := Lib.hid (BT (BA noA (Below.refl _ _)) hb')) | skip); (first | (with_reducible have hN := NA.step hN hb') | (with_reducible have hN := NA.stepC hN hb') | (with_reducible have hN := NA.mk' hB.out hb') | (with_reducible have hN := NA.mk' (BC s1 hB.out) hb') | (with_reducible have hN := NA.mkC hB.out hb') | skip); (first | (have n0 := blk_cell hN.2 0; have n1 := blk_cell hN.2 1; have m0 := blk_frozen hN.2 0; have m1 := blk_frozen hN.2 1; simp only [List.getElem?_toArray, List.getElem?_cons_zero, List.getElem?_cons_succ] at n0 n1) | skip); (first | (with_reducible have hB := Lib.hid (BT hB.out hb')) | (with_reducible have hB := Lib.hid (BT (BC s1 hB.out) hb')) | (with_reducible have hB := Lib.hid (BT (BA noA hB.out) hb')) | (with_reducible have hB := Lib.hid (BT (BA noA (BC s1 hB.out)) hb')) | (with_reducible have hB := Lib.hid (BT (BC s1 (BA noA hB.out)) hb')) | (with_reducible have hB := Lib.hid (BT hBd.out hb')) | (with_reducible have hB := Lib.hid (BT (BC s1 hBd.out) hb'))); clear hb') | (go_at_call 67; (first | with_reducible refine (right_call2 _ _ s1 _ (by first | rfl | simp) hsz1.out (Below.refl _ _)).mono ?_ | with_reducible refine (right_call2 _ _ s1 _ (by first | rfl | simp) hsz1.out (hC.out)).mono ?_ | with_reducible refine (right_call2 _ _ s1 _ (by first | rfl | simp) hsz1.out (BA noA (Below.refl _ _))).mono ?_ | with_reducible refine (right_call2 _ _ s1 _ (by first | rfl | simp) hsz1.out (BA noA hC.out)).mono ?_); rintro e w4 ⟨t1, rfl, ht1, hb'⟩; (first | (with_reducible have hC := Lib.hid (BT hC.out hb')) | (with_reducible have hC := Lib.hid (BT (BA noA hC.out) hb')) | (with_reducible have hC : Hid (Below (bytesWorld _ 5 s1).heap.size (bytesWorld _ 5 s1) w4) := Lib.hid hb') | (with_reducible have hC : Hid (Below (bytesWorld _ 5 s1).heap.size (bytesWorld _ 5 s1) w4) := Lib.hid (BT (BA noA (Below.refl _ _)) hb')) | skip); (first | (with_reducible have hN := NA.step hN hb') | (with_reducible have hN := NA.stepC hN hb') | (with_reducible have hN := NA.mk' hB.out hb') | (with_reducible have hN := NA.mk' (BC s1 hB.out) hb') | (with_reducible have hN := NA.mkC hB.out hb') | skip); (first | (have n0 := blk_cell hN.2 0; have n1 := blk_cell hN.2 1; have m0 := blk_frozen hN.2 0; have m1 := blk_frozen hN.2 1; simp only [List.getElem?_toArray, List.getElem?_cons_zero, List.getElem?_cons_succ] at n0 n1) | skip); (first | (with_reducible have hB := Lib.hid (BT hB.out hb')) | (with_reducible have hB := Lib.hid (BT (BC s1 hB.out) hb')) | (with_reducible have hB := Lib.hid (BT (BA noA hB.out) hb')) | (with_reducible have hB := Lib.hid (BT (BA noA (BC s1 hB.out)) hb')) | (with_reducible have hB := Lib.hid (BT (BC s1 (BA noA hB.out)) hb')) | (with_reducible have hB := Lib.hid (BT hBd.out hb')) | (with_reducible have hB := Lib.hid (BT (BC s1 hBd.out) hb'))); clear hb'))
                      (try go_wp2_with fail)
                      refine hK.out _ _ ?_ (fun hHeld => ?_)
                      · (try dsimp only)
                        (first | with_reducible exact HS.out _ hB.out | with_reducible exact HS.out _ (BC s1 hB.out) | with_reducible exact HS.out _ (BA noA hB.out) | with_reducible exact HS.out _ (BA noA (BC s1 hB.out)) | with_reducible exact HS.out _ (BC s1 (BA noA hB.out)) | with_reducible exact HS.out _ (BA _ hB.out) | with_reducible exact HS.out _ hBd.out | with_reducible exact HS.out _ (BC s1 hBd.out) | exact HS.out _ ((hB.out.setCell (p := ⟨_, 0, none⟩) hN.1 _).setCell (p := ⟨_, 1, none⟩) hN.1 _))
                      clear hK K
                      (try simp only [Act.put, List.setIfInBounds_toArray, List.set_cons_zero, List.set_cons_succ])
                      refine wpAnyH_take (i := 21) (v := ?_) rfl (by kernel_rfl) (by kernel_rfl) (by kernel_rfl) (fun _ _ _ h => h) (Or.inl ⟨by rfl, ?_⟩) (by assumption) ?_
                      rotate_left
                      · (intro W hSw; (try dsimp only at hSw); go_simp; try with_reducible rfl)
                      (try simp only [Act.put, List.setIfInBounds_toArray, List.set_cons_zero, List.set_cons_succ])
                      refine wpAnyH_ready (rs := [23]) (by kernel_rfl) (by simp) ?_
                      refine AllReadyH.cons rfl (fun K hK => ?_) ?_
                      · go_simp
                        refine hK.out _ _ ?_ (fun hHeld => ?_)
                        · (try dsimp only)
                          (first | with_reducible exact HS.out _ hB.out | with_reducible exact HS.out _ (BC s1 hB.out) | with_reducible exact HS.out _ (BA noA hB.out) | with_reducible exact HS.out _ (BA noA (BC s1 hB.out)) | with_reducible exact HS.out _ (BC s1 (BA noA hB.out)) | with_reducible exact HS.out _ (BA _ hB.out) | with_reducible exact HS.out _ hBd.out | with_reducible exact HS.out _ (BC s1 hBd.out) | exact HS.out _ ((hB.out.setCell (p := ⟨_, 0, none⟩) hN.1 _).setCell (p := ⟨_, 1, none⟩) hN.1 _))
                        clear hK K
                        (try simp only [Act.put, List.setIfInBounds_toArray, List.set_cons_zero, List.set_cons_succ])
                        refine wpAnyH_done (by kernel_rfl) ?_ _
                        (go_wp2_with fail; go_meet; first | exact ⟨_, t0, t1, rfl, Lib.hid ⟨by have := hsz0.out; omega, by omega⟩, Lib.hid (blk_new _ _), Lib.hid (BA _ hB.out)⟩ | exact ⟨_, t0, t1, rfl, Lib.hid ⟨by have := hsz0.out; omega, by omega⟩, Lib.hid (blk_set_self (blk_set_self hN.2 0 _) 1 _), Lib.hid ((hB.out.setCell (p := ⟨_, 0, none⟩) hN.1 _).setCell (p := ⟨_, 1, none⟩) hN.1 _)⟩)
                      exact AllReadyH.nil
                    exact AllReadyH.nil
                  exact AllReadyH.nil
                exact AllReadyH.nil
              refine AllReadyH.cons rfl (fun K hK => ?_) ?_
              · go_simp
                refine hK.out _ _ ?_ (fun hHeld => ?_)
                · (try dsimp only)
                  (first | with_reducible exact HS.out _ hB.out | with_reducible exact HS.out _ (BC s1 hB.out) | with_reducible exact HS.out _ (BA noA hB.out) | with_reducible exact HS.out _ (BA noA (BC s1 hB.out)) | with_reducible exact HS.out _ (BC s1 (BA noA hB.out)) | with_reducible exact HS.out _ (BA _ hB.out) | with_reducible exact HS.out _ hBd.out | with_reducible exact HS.out _ (BC s1 hBd.out) | exact HS.out _ ((hB.out.setCell (p := ⟨_, 0, none⟩) hN.1 _).setCell (p := ⟨_, 1, none⟩) hN.1 _))
                clear hK K
                (try simp only [Act.put, List.setIfInBounds_toArray, List.set_cons_zero, List.set_cons_succ])
                refine wpAnyH_ready (rs := [9, 22]) (by kernel_rfl) (by simp) ?_
                refine AllReadyH.cons rfl (fun K hK => ?_) ?_
                · go_simp
                  (first | (go_at_call 69; refine (attribute_any s0 (by have := hsz0.out; omega) _).mono ?_; rintro e w4 ⟨⟨t0, rfl, ht0⟩, hb'⟩; (first | (with_reducible have hC := Lib.hid (BT hC.out hb')) | (with_reducible have hC := Lib.hid (BT (BA noA hC.out) hb')) | (with_reducible have hC : Hid (Below (bytesWorld _ 5 s1).heap.size (bytesWorld _ 5 s1) w4) := Lib.hid hb') | (with_reducible have hC : Hid (Below (bytesWorld _ 5 s1).heap.size (bytesWorld _ 5 s1) w4) := Lib.hid (BT (BA noA (Below.refl _ _)) hb')) | skip); (first | (with_reducible have hN := NA.step hN hb') | (with_reducible have hN := NA.stepC hN hb') | (with_reducible have hN := NA.mk' hB.out hb') | (with_reducible have hN := NA.mk' (BC s1 hB.out) hb') | (with_reducible have hN := NA.mkC hB.out hb') | skip); (first | (have n0 := blk_cell hN.2 0; have n1 := blk_cell hN.2 1; have m0 := blk_frozen hN.2 0; have m1 := blk_frozen hN.2 1; simp only [List.getElem?_toArray, List.getElem?_cons_zero, List.getElem?_cons_succ] at n0 n1) | skip); (first | (with_reducible have hB := Lib.hid (BT hB.out hb')) | (with_reducible have hB := Lib.hid (BT (BC s1 hB.out) hb')) | (with_reducible have hB := Lib.hid (BT (BA noA hB.out) hb')) | (with_reducible have hB := Lib.hid (BT (BA noA (BC s1 hB.out)) hb')) | (with_reducible have hB := Lib.hid (BT (BC s1 (BA noA hB.out)) hb')) | (with_reducible have hB := Lib.hid (BT hBd.out hb')) | (with_reducible have hB := Lib.hid (BT (BC s1 hBd.out) hb'))); clear hb') | (go_at_call 67; (first | with_reducible refine (right_call2 _ _ s1 _ (by first | rfl | simp) hsz1.out (Below.refl _ _)).mono ?_ | with_reducible refine (right_call2 _ _ s1 _ (by first | rfl | simp) hsz1.out (hC.out)).mono ?_ | with_reducible refine (right_call2 _ _ s1 _ (by first | rfl | simp) hsz1.out (BA noA (Below.refl _ _))).mono ?_ | with_reducible refine (right_call2 _ _ s1 _ (by first | rfl | simp) hsz1.out (BA noA hC.out)).mono ?_); rintro e w4 ⟨t1, rfl, ht1, hb'⟩; (first | (with_reducible have hC := Lib.hid (BT hC.out hb')) | (with_reducible have hC := Lib.hid (BT (BA noA hC.out) hb')) | (with_reducible have hC : Hid (Below (bytesWorld _ 5 s1).heap.size (bytesWorld _ 5 s1) w4) := Lib.hid hb') | (with_reducible have hC : Hid (Below (bytesWorld _ 5 s1).heap.size (bytesWorld _ 5 s1) w4) := Lib.hid (BT (BA noA (Below.refl _ _)) hb')) | skip); (first | (with_reducible have hN := NA.step hN hb') | (with_reducible have hN := NA.stepC hN hb') | (with_reducible have hN := NA.mk' hB.out hb') | (with_reducible have hN := NA.mk' (BC s1 hB.out) hb') | (with_reducible have hN := NA.mkC hB.out hb') | skip); (first | (have n0 := blk_cell hN.2 0; have n1 := blk_cell hN.2 1; have m0 := blk_frozen hN.2 0; have m1 := blk_frozen hN.2 1; simp only [List.getElem?_toArray, List.getElem?_cons_zero, List.getElem?_cons_succ] at n0 n1) | skip); (first | (with_reducible have hB := Lib.hid (BT hB.out hb')) | (with_reducible have hB := Lib.hid (BT (BC s1 hB.out) hb')) | (with_reducible have hB := Lib.hid (BT (BA noA hB.out) hb')) | (with_reducible have hB := Lib.hid (BT (BA noA (BC s1 hB.out)) hb')) | (with_reducible have hB := Lib.hid (BT (BC s1 (BA noA hB.out)) hb')) | (with_reducible have hB := Lib.hid (BT hBd.out hb')) | (with_reducible have hB := Lib.hid (BT (BC s1 hBd.out) hb'))); clear hb'))
                  (try go_wp2_with fail)
                  refine hK.out _ _ ?_ (fun hHeld => ?_)
                  · (try dsimp only)
                    (first | with_reducible exact HS.out _ hB.out | with_reducible exact HS.out _ (BC s1 hB.out) | with_reducible exact HS.out _ (BA noA hB.out) | with_reducible exact HS.out _ (BA noA (BC s1 hB.out)) | with_reducible exact HS.out _ (BC s1 (BA noA hB.out)) | with_reducible exact HS.out _ (BA _ hB.out) | with_reducible exact HS.out _ hBd.out | with_reducible exact HS.out _ (BC s1 hBd.out) | exact HS.out _ ((hB.out.setCell (p := ⟨_, 0, none⟩) hN.1 _).setCell (p := ⟨_, 1, none⟩) hN.1 _))
                  clear hK K
                  (try simp only [Act.put, List.setIfInBounds_toArray, List.set_cons_zero, List.set_cons_succ])
                  refine wpAnyH_ready (rs := [20, 22]) (by kernel_rfl) (by simp) ?_
                  refine AllReadyH.cons rfl (fun K hK => ?_) ?_
                  · go_simp
                    (first | (go_at_call 69; refine (attribute_any s0 (by have := hsz0.out; omega) _).mono ?_; rintro e w4 ⟨⟨t0, rfl, ht0⟩, hb'⟩; (first | (with_reducible have hC := Lib.hid (BT hC.out hb')) | (with_reducible have hC := Lib.hid (BT (BA noA hC.out) hb')) | (with_reducible have hC : Hid (Below (bytesWorld _ 5 s1).heap.size (bytesWorld _ 5 s1) w4) := Lib.hid hb') | (with_reducible have hC : Hid (Below (bytesWorld _ 5 s1).heap.size (bytesWorld _ 5 s1) w4) := Lib.hid (BT (BA noA (Below.refl _ _)) hb')) | skip); (first | (with_reducible have hN := NA.step hN hb') | (with_reducible have hN := NA.stepC hN hb') | (with_reducible have hN := NA.mk' hB.out hb') | (with_reducible have hN := NA.mk' (BC s1 hB.out) hb') | (with_reducible have hN := NA.mkC hB.out hb') | skip); (first | (have n0 := blk_cell hN.2 0; have n1 := blk_cell hN.2 1; have m0 := blk_frozen hN.2 0; have m1 := blk_frozen hN.2 1; simp only [List.getElem?_toArray, List.getElem?_cons_zero, List.getElem?_cons_succ] at n0 n1) | skip); (first | (with_reducible have hB := Lib.hid (BT hB.out hb')) | (with_reducible have hB := Lib.hid (BT (BC s1 hB.out) hb')) | (with_reducible have hB := Lib.hid (BT (BA noA hB.out) hb')) | (with_reducible have hB := Lib.hid (BT (BA noA (BC s1 hB.out)) hb')) | (with_reducible have hB := Lib.hid (BT (BC s1 (BA noA hB.out)) hb')) | (with_reducible have hB := Lib.hid (BT hBd.out hb')) | (with_reducible have hB := Lib.hid (BT (BC s1 hBd.out) hb'))); clear hb') | (go_at_call 67; (first | with_reducible refine (right_call2 _ _ s1 _ (by first | rfl | simp) hsz1.out (Below.refl _ _)).mono ?_ | with_reducible refine (right_call2 _ _ s1 _ (by first | rfl | simp) hsz1.out (hC.out)).mono ?_ | with_reducible refine (right_call2 _ _ s1 _ (by first | rfl | simp) hsz1.out (BA noA (Below.refl _ _))).mono ?_ | with_reducible refine (right_call2 _ _ s1 _ (by first | rfl | simp) hsz1.out (BA noA hC.out)).mono ?_); rintro e w4 ⟨t1, rfl, ht1, hb'⟩; (first | (with_reducible have hC := Lib.hid (BT hC.out hb')) | (with_reducible have hC := Lib.hid (BT (BA noA hC.out) hb')) | (with_reducible have hC : Hid (Below (bytesWorld _ 5 s1).heap.size (bytesWorld _ 5 s1) w4) := Lib.hid hb') | (with_reducible have hC : Hid (Below (bytesWorld _ 5 s1).heap.size (bytesWorld _ 5 s1) w4) := Lib.hid (BT (BA noA (Below.refl _ _)) hb')) | skip); (first | (with_reducible have hN := NA.step hN hb') | (with_reducible have hN := NA.stepC hN hb') | (with_reducible have hN := NA.mk' hB.out hb') | (with_reducible have hN := NA.mk' (BC s1 hB.out) hb') | (with_reducible have hN := NA.mkC hB.out hb') | skip); (first | (have n0 := blk_cell hN.2 0; have n1 := blk_cell hN.2 1; have m0 := blk_frozen hN.2 0; have m1 := blk_frozen hN.2 1; simp only [List.getElem?_toArray, List.getElem?_cons_zero, List.getElem?_cons_succ] at n0 n1) | skip); (first | (with_reducible have hB := Lib.hid (BT hB.out hb')) | (with_reducible have hB := Lib.hid (BT (BC s1 hB.out) hb')) | (with_reducible have hB := Lib.hid (BT (BA noA hB.out) hb')) | (with_reducible have hB := Lib.hid (BT (BA noA (BC s1 hB.out)) hb')) | (with_reducible have hB := Lib.hid (BT (BC s1 (BA noA hB.out)) hb')) | (with_reducible have hB := Lib.hid (BT hBd.out hb')) | (with_reducible have hB := Lib.hid (BT (BC s1 hBd.out) hb'))); clear hb'))
                    (try go_wp2_with fail)
                    refine hK.out _ _ ?_ (fun hHeld => ?_)
                    · (try dsimp only)
                      (first | with_reducible exact HS.out _ hB.out | with_reducible exact HS.out _ (BC s1 hB.out) | with_reducible exact HS.out _ (BA noA hB.out) | with_reducible exact HS.out _ (BA noA (BC s1 hB.out)) | with_reducible exact HS.out _ (BC s1 (BA noA hB.out)) | with_reducible exact HS.out _ (BA _ hB.out) | with_reducible exact HS.out _ hBd.out | with_reducible exact HS.out _ (BC s1 hBd.out) | exact HS.out _ ((hB.out.setCell (p := ⟨_, 0, none⟩) hN.1 _).setCell (p := ⟨_, 1, none⟩) hN.1 _))
                    clear hK K
                    (try simp only [Act.put, List.setIfInBounds_toArray, List.set_cons_zero, List.set_cons_succ])
                    refine wpAnyH_take (i := 21) (v := ?_) rfl (by kernel_rfl) (by kernel_rfl) (by kernel_rfl) (fun _ _ _ h => h) (Or.inl ⟨by rfl, ?_⟩) (by assumption) ?_
                    rotate_left
                    · (intro W hSw; (try dsimp only at hSw); go_simp; try with_reducible rfl)
                    (try simp only [Act.put, List.setIfInBounds_toArray, List.set_cons_zero, List.set_cons_succ])
                    refine wpAnyH_ready (rs := [22]) (by kernel_rfl) (by simp) ?_
                    refine AllReadyH.cons rfl (fun K hK => ?_) ?_
                    · go_simp
                      refine hK.out _ _ ?_ (fun hHeld => ?_)
                      · (try dsimp only)
                        (first | with_reducible exact HS.out _ hB.out | with_reducible exact HS.out _ (BC s1 hB.out) | with_reducible exact HS.out _ (BA noA hB.out) | with_reducible exact HS.out _ (BA noA (BC s1 hB.out)) | with_reducible exact HS.out _ (BC s1 (BA noA hB.out)) | with_reducible exact HS.out _ (BA _ hB.out) | with_reducible exact HS.out _ hBd.out | with_reducible exact HS.out _ (BC s1 hBd.out) | exact HS.out _ ((hB.out.setCell (p := ⟨_, 0, none⟩) hN.1 _).setCell (p := ⟨_, 1, none⟩) hN.1 _))
                      clear hK K
                      (try simp only [Act.put, List.setIfInBounds_toArray, List.set_cons_zero, List.set_cons_succ])
                      refine wpAnyH_ready (rs := [23]) (by kernel_rfl) (by simp) ?_
                      refine AllReadyH.cons rfl (fun K hK => ?_) ?_
                      · go_simp
                        refine hK.out _ _ ?_ (fun hHeld => ?_)
                        · (try dsimp only)
                          (first | with_reducible exact HS.out _ hB.out | with_reducible exact HS.out _ (BC s1 hB.out) | with_reducible exact HS.out _ (BA noA hB.out) | with_reducible exact HS.out _ (BA noA (BC s1 hB.out)) | with_reducible exact HS.out _ (BC s1 (BA noA hB.out)) | with_reducible exact HS.out _ (BA _ hB.out) | with_reducible exact HS.out _ hBd.out | with_reducible exact HS.out _ (BC s1 hBd.out) | exact HS.out _ ((hB.out.setCell (p := ⟨_, 0, none⟩) hN.1 _).setCell (p := ⟨_, 1, none⟩) hN.1 _))
                        clear hK K
                        (try simp only [Act.put, List.setIfInBounds_toArray, List.set_cons_zero, List.set_cons_succ])
                        refine wpAnyH_done (by kernel_rfl) ?_ _
                        (go_wp2_with fail; go_meet; first | exact ⟨_, t0, t1, rfl, Lib.hid ⟨by have := hsz0.out; omega, by omega⟩, Lib.hid (blk_new _ _), Lib.hid (BA _ hB.out)⟩ | exact ⟨_, t0, t1, rfl, Lib.hid ⟨by have := hsz0.out; omega, by omega⟩, Lib.hid (blk_set_self (blk_set_self hN.2 0 _) 1 _), Lib.hid ((hB.out.setCell (p := ⟨_, 0, none⟩) hN.1 _).setCell (p := ⟨_, 1, none⟩) hN.1 _)⟩)
                      exact AllReadyH.nil
                    exact AllReadyH.nil
                  refine AllReadyH.cons rfl (fun K hK => ?_) ?_
                  · go_simp
                    refine hK.out _ _ ?_ (fun hHeld => ?_)
                    · (try dsimp only)
                      (first | with_reducible exact HS.out _ hB.out | with_reducible exact HS.out _ (BC s1 hB.out) | with_reducible exact HS.out _ (BA noA hB.out) | with_reducible exact HS.out _ (BA noA (BC s1 hB.out)) | with_reducible exact HS.out _ (BC s1 (BA noA hB.out)) | with_reducible exact HS.out _ (BA _ hB.out) | with_reducible exact HS.out _ hBd.out | with_reducible exact HS.out _ (BC s1 hBd.out) | exact HS.out _ ((hB.out.setCell (p := ⟨_, 0, none⟩) hN.1 _).setCell (p := ⟨_, 1, none⟩) hN.1 _))
                    clear hK K
                    (try simp only [Act.put, List.setIfInBounds_toArray, List.set_cons_zero, List.set_cons_succ])
                    refine wpAnyH_ready (rs := [20]) (by kernel_rfl) (by simp) ?_
                    refine AllReadyH.cons rfl (fun K hK => ?_) ?_
                    · go_simp
                      (first | (go_at_call 69; refine (attribute_any s0 (by have := hsz0.out; omega) _).mono ?_; rintro e w4 ⟨⟨t0, rfl, ht0⟩, hb'⟩; (first | (with_reducible have hC := Lib.hid (BT hC.out hb')) | (with_reducible have hC := Lib.hid (BT (BA noA hC.out) hb')) | (with_reducible have hC : Hid (Below (bytesWorld _ 5 s1).heap.size (bytesWorld _ 5 s1) w4) := Lib.hid hb') | (with_reducible have hC : Hid (Below (bytesWorld _ 5 s1).heap.size (bytesWorld _ 5 s1) w4) := Lib.hid (BT (BA noA (Below.refl _ _)) hb')) | skip); (first | (with_reducible have hN := NA.step hN hb') | (with_reducible have hN := NA.stepC hN hb') | (with_reducible have hN := NA.mk' hB.out hb') | (with_reducible have hN := NA.mk' (BC s1 hB.out) hb') | (with_reducible have hN := NA.mkC hB.out hb') | skip); (first | (have n0 := blk_cell hN.2 0; have n1 := blk_cell hN.2 1; have m0 := blk_frozen hN.2 0; have m1 := blk_frozen hN.2 1; simp only [List.getElem?_toArray, List.getElem?_cons_zero, List.getElem?_cons_succ] at n0 n1) | skip); (first | (with_reducible have hB := Lib.hid (BT hB.out hb')) | (with_reducible have hB := Lib.hid (BT (BC s1 hB.out) hb')) | (with_reducible have hB := Lib.hid (BT (BA noA hB.out) hb')) | (with_reducible have hB := Lib.hid (BT (BA noA (BC s1 hB.out)) hb')) | (with_reducible have hB := Lib.hid (BT (BC s1 (BA noA hB.out)) hb')) | (with_reducible have hB := Lib.hid (BT hBd.out hb')) | (with_reducible have hB := Lib.hid (BT (BC s1 hBd.out) hb'))); clear hb') | (go_at_call 67; (first | with_reducible refine (right_call2 _ _ s1 _ (by first | rfl | simp) hsz1.out (Below.refl _ _)).mono ?_ | with_reducible refine (right_call2 _ _ s1 _ (by first | rfl | simp) hsz1.out (hC.out)).mono ?_ | with_reducible refine (right_call2 _ _ s1 _ (by first | rfl | simp) hsz1.out (BA noA (Below.refl _ _))).mono ?_ | with_reducible refine (right_call2 _ _ s1 _ (by first | rfl | simp) hsz1.out (BA noA hC.out)).mono ?_); rintro e w4 ⟨t1, rfl, ht1, hb'⟩; (first | (with_reducible have hC := Lib.hid (BT hC.out hb')) | (with_reducible have hC := Lib.hid (BT (BA noA hC.out) hb')) | (with_reducible have hC : Hid (Below (bytesWorld _ 5 s1).heap.size (bytesWorld _ 5 s1) w4) := Lib.hid hb') | (with_reducible have hC : Hid (Below (bytesWorld _ 5 s1).heap.size (bytesWorld _ 5 s1) w4) := Lib.hid (BT (BA noA (Below.refl _ _)) hb')) | skip); (first | (with_reducible have hN := NA.step hN hb') | (with_reducible have hN := NA.stepC hN hb') | (with_reducible have hN := NA.mk' hB.out hb') | (with_reducible have hN := NA.mk' (BC s1 hB.out) hb') | (with_reducible have hN := NA.mkC hB.out hb') | skip); (first | (have n0 := blk_cell hN.2 0; have n1 := blk_cell hN.2 1; have m0 := blk_frozen hN.2 0; have m1 := blk_frozen hN.2 1; simp only [List.getElem?_toArray, List.getElem?_cons_zero, List.getElem?_cons_succ] at n0 n1) | skip); (first | (with_reducible have hB := Lib.hid (BT hB.out hb')) | (with_reducible have hB := Lib.hid (BT (BC s1 hB.out) hb')) | (with_reducible have hB := Lib.hid (BT (BA noA hB.out) hb')) | (with_reducible have hB := Lib.hid (BT (BA noA (BC s1 hB.out)) hb')) | (with_reducible have hB := Lib.hid (BT (BC s1 (BA noA hB.out)) hb')) | (with_reducible have hB := Lib.hid (BT hBd.out hb')) | (with_reducible have hB := Lib.hid (BT (BC s1 hBd.out) hb'))); clear hb'))
                      (try go_wp2_with fail)
                      refine hK.out _ _ ?_ (fun hHeld => ?_)
                      · (try dsimp only)
                        (first | with_reducible exact HS.out _ hB.out | with_reducible exact HS.out _ (BC s1 hB.out) | with_reducible exact HS.out _ (BA noA hB.out) | with_reducible exact HS.out _ (BA noA (BC s1 hB.out)) | with_reducible exact HS.out _ (BC s1 (BA noA hB.out)) | with_reducible exact HS.out _ (BA _ hB.out) | with_reducible exact HS.out _ hBd.out | with_reducible exact HS.out _ (BC s1 hBd.out) | exact HS.out _ ((hB.out.setCell (p := ⟨_, 0, none⟩) hN.1 _).setCell (p := ⟨_, 1, none⟩) hN.1 _))
                      clear hK K
                      (try simp only [Act.put, List.setIfInBounds_toArray, List.set_cons_zero, List.set_cons_succ])
                      refine wpAnyH_take (i := 21) (v := ?_) rfl (by kernel_rfl) (by kernel_rfl) (by kernel_rfl) (fun _ _ _ h => h) (Or.inl ⟨by rfl, ?_⟩) (by assumption) ?_
                      rotate_left
                      · (intro W hSw; (try dsimp only at hSw); go_simp; try with_reducible rfl)
                      (try simp only [Act.put, List.setIfInBounds_toArray, List.set_cons_zero, List.set_cons_succ])
                      refine wpAnyH_ready (rs := [23]) (by kernel_rfl) (by simp) ?_
                      refine AllReadyH.cons rfl (fun K hK => ?_) ?_
                      · go_simp
                        refine hK.out _ _ ?_ (fun hHeld => ?_)
                        · (try dsimp only)
                          (first | with_reducible exact HS.out _ hB.out | with_reducible exact HS.out _ (BC s1 hB.out) | with_reducible exact HS.out _ (BA noA hB.out) | with_reducible exact HS.out _ (BA noA (BC s1 hB.out)) | with_reducible exact HS.out _ (BC s1 (BA noA hB.out)) | with_reducible exact HS.out _ (BA _ hB.out) | with_reducible exact HS.out _ hBd.out | with_reducible exact HS.out _ (BC s1 hBd.out) | exact HS.out _ ((hB.out.setCell (p := ⟨_, 0, none⟩) hN.1 _).setCell (p := ⟨_, 1, none⟩) hN.1 _))
                        clear hK K
                        (try simp only [Act.put, List.setIfInBounds_toArray, List.set_cons_zero, List.set_cons_succ])
                        refine wpAnyH_done (by kernel_rfl) ?_ _
                        (go_wp2_with fail; go_meet; first | exact ⟨_, t0, t1, rfl, Lib.hid ⟨by have := hsz0.out; omega, by omega⟩, Lib.hid (blk_new _ _), Lib.hid (BA _ hB.out)⟩ | exact ⟨_, t0, t1, rfl, Lib.hid ⟨by have := hsz0.out; omega, by omega⟩, Lib.hid (blk_set_self (blk_set_self hN.2 0 _) 1 _), Lib.hid ((hB.out.setCell (p := ⟨_, 0, none⟩) hN.1 _).setCell (p := ⟨_, 1, none⟩) hN.1 _)⟩)
                      exact AllReadyH.nil
                    exact AllReadyH.nil
                  exact AllReadyH.nil
                refine AllReadyH.cons rfl (fun K hK => ?_) ?_
                · go_simp
                  refine hK.out _ _ ?_ (fun hHeld => ?_)
                  · (try dsimp only)
                    (first | with_reducible exact HS.out _ hB.out | with_reducible exact HS.out _ (BC s1 hB.out) | with_reducible exact HS.out _ (BA noA hB.out) | with_reducible exact HS.out _ (BA noA (BC s1 hB.out)) | with_reducible exact HS.out _ (BC s1 (BA noA hB.out)) | with_reducible exact HS.out _ (BA _ hB.out) | with_reducible exact HS.out _ hBd.out | with_reducible exact HS.out _ (BC s1 hBd.out) | exact HS.out _ ((hB.out.setCell (p := ⟨_, 0, none⟩) hN.1 _).setCell (p := ⟨_, 1, none⟩) hN.1 _))
                  clear hK K
                  (try simp only [Act.put, List.setIfInBounds_toArray, List.set_cons_zero, List.set_cons_succ])
                  refine wpAnyH_ready (rs := [9]) (by kernel_rfl) (by simp) ?_
                  refine AllReadyH.cons rfl (fun K hK => ?_) ?_
                  · go_simp
                    (first | (go_at_call 69; refine (attribute_any s0 (by have := hsz0.out; omega) _).mono ?_; rintro e w4 ⟨⟨t0, rfl, ht0⟩, hb'⟩; (first | (with_reducible have hC := Lib.hid (BT hC.out hb')) | (with_reducible have hC := Lib.hid (BT (BA noA hC.out) hb')) | (with_reducible have hC : Hid (Below (bytesWorld _ 5 s1).heap.size (bytesWorld _ 5 s1) w4) := Lib.hid hb') | (with_reducible have hC : Hid (Below (bytesWorld _ 5 s1).heap.size (bytesWorld _ 5 s1) w4) := Lib.hid (BT (BA noA (Below.refl _ _)) hb')) | skip); (first | (with_reducible have hN := NA.step hN hb') | (with_reducible have hN := NA.stepC hN hb') | (with_reducible have hN := NA.mk' hB.out hb') | (with_reducible have hN := NA.mk' (BC s1 hB.out) hb') | (with_reducible have hN := NA.mkC hB.out hb') | skip); (first | (have n0 := blk_cell hN.2 0; have n1 := blk_cell hN.2 1; have m0 := blk_frozen hN.2 0; have m1 := blk_frozen hN.2 1; simp only [List.getElem?_toArray, List.getElem?_cons_zero, List.getElem?_cons_succ] at n0 n1) | skip); (first | (with_reducible have hB := Lib.hid (BT hB.out hb')) | (with_reducible have hB := Lib.hid (BT (BC s1 hB.out) hb')) | (with_reducible have hB := Lib.hid (BT (BA noA hB.out) hb')) | (with_reducible have hB := Lib.hid (BT (BA noA (BC s1 hB.out)) hb')) | (with_reducible have hB := Lib.hid (BT (BC s1 (BA noA hB.out)) hb')) | (with_reducible have hB := Lib.hid (BT hBd.out hb')) | (with_reducible have hB := Lib.hid (BT (BC s1 hBd.out) hb'))); clear hb') | (go_at_call 67; (first | with_reducible refine (right_call2 _ _ s1 _ (by first | rfl | simp) hsz1.out (Below.refl _ _)).mono ?_ | with_reducible refine (right_call2 _ _ s1 _ (by first | rfl | simp) hsz1.out (hC.out)).mono ?_ | with_reducible refine (right_call2 _ _ s1 _ (by first | rfl | simp) hsz1.out (BA noA (Below.refl _ _))).mono ?_ | with_reducible refine (right_call2 _ _ s1 _ (by first | rfl | simp) hsz1.out (BA noA hC.out)).mono ?_); rintro e w4 ⟨t1, rfl, ht1, hb'⟩; (first | (with_reducible have hC := Lib.hid (BT hC.out hb')) | (with_reducible have hC := Lib.hid (BT (BA noA hC.out) hb')) | (with_reducible have hC : Hid (Below (bytesWorld _ 5 s1).heap.size (bytesWorld _ 5 s1) w4) := Lib.hid hb') | (with_reducible have hC : Hid (Below (bytesWorld _ 5 s1).heap.size (bytesWorld _ 5 s1) w4) := Lib.hid (BT (BA noA (Below.refl _ _)) hb')) | skip); (first | (with_reducible have hN := NA.step hN hb') | (with_reducible have hN := NA.stepC hN hb') | (with_reducible have hN := NA.mk' hB.out hb') | (with_reducible have hN := NA.mk' (BC s1 hB.out) hb') | (with_reducible have hN := NA.mkC hB.out hb') | skip); (first | (have n0 := blk_cell hN.2 0; have n1 := blk_cell hN.2 1; have m0 := blk_frozen hN.2 0; have m1 := blk_frozen hN.2 1; simp only [List.getElem?_toArray, List.getElem?_cons_zero, List.getElem?_cons_succ] at n0 n1) | skip); (first | (with_reducible have hB := Lib.hid (BT hB.out hb')) | (with_reducible have hB := Lib.hid (BT (BC s1 hB.out) hb')) | (with_reducible have hB := Lib.hid (BT (BA noA hB.out) hb')) | (with_reducible have hB := Lib.hid (BT (BA noA (BC s1 hB.out)) hb')) | (with_reducible have hB := Lib.hid (BT (BC s1 (BA noA hB.out)) hb')) | (with_reducible have hB := Lib.hid (BT hBd.out hb')) | (with_reducible have hB := Lib.hid (BT (BC s1 hBd.out) hb'))); clear hb'))
                    (try go_wp2_with fail)
                    refine hK.out _ _ ?_ (fun hHeld => ?_)
                    · (try dsimp only)
                      (first | with_reducible exact HS.out _ hB.out | with_reducible exact HS.out _ (BC s1 hB.out) | with_reducible exact HS.out _ (BA noA hB.out) | with_reducible exact HS.out _ (BA noA (BC s1 hB.out)) | with_reducible exact HS.out _ (BC s1 (BA noA hB.out)) | with_reducible exact HS.out _ (BA _ hB.out) | with_reducible exact HS.out _ hBd.out | with_reducible exact HS.out _ (BC s1 hBd.out) | exact HS.out _ ((hB.out.setCell (p := ⟨_, 0, none⟩) hN.1 _).setCell (p := ⟨_, 1, none⟩) hN.1 _))
                    clear hK K
                    (try simp only [Act.put, List.setIfInBounds_toArray, List.set_cons_zero, List.set_cons_succ])
                    refine wpAnyH_ready (rs := [20]) (by kernel_rfl) (by simp) ?_
                    refine AllReadyH.cons rfl (fun K hK => ?_) ?_
                    · go_simp
                      (first | (go_at_call 69; refine (attribute_any s0 (by have := hsz0.out; omega) _).mono ?_; rintro e w4 ⟨⟨t0, rfl, ht0⟩, hb'⟩; (first | (with_reducible have hC := Lib.hid (BT hC.out hb')) | (with_reducible have hC := Lib.hid (BT (BA noA hC.out) hb')) | (with_reducible have hC : Hid (Below (bytesWorld _ 5 s1).heap.size (bytesWorld _ 5 s1) w4) := Lib.hid hb') | (with_reducible have hC : Hid (Below (bytesWorld _ 5 s1).heap.size (bytesWorld _ 5 s1) w4) := Lib.hid (BT (BA noA (Below.refl _ _)) hb')) | skip); (first | (with_reducible have hN := NA.step hN hb') | (with_reducible have hN := NA.stepC hN hb') | (with_reducible have hN := NA.mk' hB.out hb') | (with_reducible have hN := NA.mk' (BC s1 hB.out) hb') | (with_reducible have hN := NA.mkC hB.out hb') | skip); (first | (have n0 := blk_cell hN.2 0; have n1 := blk_cell hN.2 1; have m0 := blk_frozen hN.2 0; have m1 := blk_frozen hN.2 1; simp only [List.getElem?_toArray, List.getElem?_cons_zero, List.getElem?_cons_succ] at n0 n1) | skip); (first | (with_reducible have hB := Lib.hid (BT hB.out hb')) | (with_reducible have hB := Lib.hid (BT (BC s1 hB.out) hb')) | (with_reducible have hB := Lib.hid (BT (BA noA hB.out) hb')) | (with_reducible have hB := Lib.hid (BT (BA noA (BC s1 hB.out)) hb')) | (with_reducible have hB := Lib.hid (BT (BC s1 (BA noA hB.out)) hb')) | (with_reducible have hB := Lib.hid (BT hBd.out hb')) | (with_reducible have hB := Lib.hid (BT (BC s1 hBd.out) hb'))); clear hb') | (go_at_call 67; (first | with_reducible refine (right_call2 _ _ s1 _ (by first | rfl | simp) hsz1.out (Below.refl _ _)).mono ?_ | with_reducible refine (right_call2 _ _ s1 _ (by first | rfl | simp) hsz1.out (hC.out)).mono ?_ | with_reducible refine (right_call2 _ _ s1 _ (by first | rfl | simp) hsz1.out (BA noA (Below.refl _ _))).mono ?_ | with_reducible refine (right_call2 _ _ s1 _ (by first | rfl | simp) hsz1.out (BA noA hC.out)).mono ?_); rintro e w4 ⟨t1, rfl, ht1, hb'⟩; (first | (with_reducible have hC := Lib.hid (BT hC.out hb')) | (with_reducible have hC := Lib.hid (BT (BA noA hC.out) hb')) | (with_reducible have hC : Hid (Below (bytesWorld _ 5 s1).heap.size (bytesWorld _ 5 s1) w4) := Lib.hid hb') | (with_reducible have hC : Hid (Below (bytesWorld _ 5 s1).heap.size (bytesWorld _ 5 s1) w4) := Lib.hid (BT (BA noA (Below.refl _ _)) hb')) | skip); (first | (with_reducible have hN := NA.step hN hb') | (with_reducible have hN := NA.stepC hN hb') | (with_reducible have hN := NA.mk' hB.out hb') | (with_reducible have hN := NA.mk' (BC s1 hB.out) hb') | (with_reducible have hN := NA.mkC hB.out hb') | skip); (first | (have n0 := blk_cell hN.2 0; have n1 := blk_cell hN.2 1; have m0 := blk_frozen hN.2 0; have m1 := blk_frozen hN.2 1; simp only [List.getElem?_toArray, List.getElem?_cons_zero, List.getElem?_cons_succ] at n0 n1) | skip); (first | (with_reducible have hB := Lib.hid (BT hB.out hb')) | (with_reducible have hB := Lib.hid (BT (BC s1 hB.out) hb')) | (with_reducible have hB := Lib.hid (BT (BA noA hB.out) hb')) | (with_reducible have hB := Lib.hid (BT (BA noA (BC s1 hB.out)) hb')) | (with_reducible have hB := Lib.hid (BT (BC s1 (BA noA hB.out)) hb')) | (with_reducible have hB := Lib.hid (BT hBd.out hb')) | (with_reducible have hB := Lib.hid (BT (BC s1 hBd.out) hb'))); clear hb'))
                      (try go_wp2_with fail)
                      refine hK.out _ _ ?_ (fun hHeld => ?_)
                      · (try dsimp only)
                        (first | with_reducible exact HS.out _ hB.out | with_reducible exact HS.out _ (BC s1 hB.out) | with_reducible exact HS.out _ (BA noA hB.out) | with_reducible exact HS.out _ (BA noA (BC s1 hB.out)) | with_reducible exact HS.out _ (BC s1 (BA noA hB.out)) | with_reducible exact HS.out _ (BA _ hB.out) | with_reducible exact HS.out _ hBd.out | with_reducible exact HS.out _ (BC s1 hBd.out) | exact HS.out _ ((hB.out.setCell (p := ⟨_, 0, none⟩) hN.1 _).setCell (p := ⟨_, 1, none⟩) hN.1 _))
                      clear hK K
                      (try simp only [Act.put, List.setIfInBounds_toArray, List.set_cons_zero, List.set_cons_succ])
                      refine wpAnyH_take (i := 21) (v := ?_) rfl (by kernel_rfl) (by kernel_rfl) (by kernel_rfl) (fun _ _ _ h => h) (Or.inl ⟨by rfl, ?_⟩) (by assumption) ?_
                      rotate_left
                      · (intro W hSw; (try dsimp only at hSw); go_simp; try with_reducible rfl)
                      (try simp only [Act.put, List.setIfInBounds_toArray, List.set_cons_zero, List.set_cons_succ])
                      refine wpAnyH_ready (rs := [23]) (by kernel_rfl) (by simp) ?_
                      refine AllReadyH.cons rfl (fun K hK => ?_) ?_
                      · go_simp
                        refine hK.out _ _ ?_ (fun hHeld => ?_)
                        · (try dsimp only)
                          (first | with_reducible exact HS.out _ hB.out | with_reducible exact HS.out _ (BC s1 hB.out) | with_reducible exact HS.out _ (BA noA hB.out) | with_reducible exact HS.out _ (BA noA (BC s1 hB.out)) | with_reducible exact HS.out _ (BC s1 (BA noA hB.out)) | with_reducible exact HS.out _ (BA _ hB.out) | with_reducible exact HS.out _ hBd.out | with_reducible exact HS.out _ (BC s1 hBd.out) | exact HS.out _ ((hB.out.setCell (p := ⟨_, 0, none⟩) hN.1 _).setCell (p := ⟨_, 1, none⟩) hN.1 _))
                        clear hK K
                        (try simp only [Act.put, List.setIfInBounds_toArray, List.set_cons_zero, List.set_cons_succ])
                        refine wpAnyH_done (by kernel_rfl) ?_ _
                        (go_wp2_with fail; go_meet; first | exact ⟨_, t0, t1, rfl, Lib.hid ⟨by have := hsz0.out; omega, by omega⟩, Lib.hid (blk_new _ _), Lib.hid (BA _ hB.out)⟩ | exact ⟨_, t0, t1, rfl, Lib.hid ⟨by have := hsz0.out; omega, by omega⟩, Lib.hid (blk_set_self (blk_set_self hN.2 0 _) 1 _), Lib.hid ((hB.out.setCell (p := ⟨_, 0, none⟩) hN.1 _).setCell (p := ⟨_, 1, none⟩) hN.1 _)⟩)
                      exact AllReadyH.nil
                    exact AllReadyH.nil
                  exact AllReadyH.nil
                exact AllReadyH.nil
              refine AllReadyH.cons rfl (fun K hK => ?_) ?_
              · go_simp
                refine hK.out _ _ ?_ (fun hHeld => ?_)
                · (try dsimp only)
                  (first | with_reducible exact HS.out _ hB.out | with_reducible exact HS.out _ (BC s1 hB.out) | with_reducible exact HS.out _ (BA noA hB.out) | with_reducible exact HS.out _ (BA noA (BC s1 hB.out)) | with_reducible exact HS.out _ (BC s1 (BA noA hB.out)) | with_reducible exact HS.out _ (BA _ hB.out) | with_reducible exact HS.out _ hBd.out | with_reducible exact HS.out _ (BC s1 hBd.out) | exact HS.out _ ((hB.out.setCell (p := ⟨_, 0, none⟩) hN.1 _).setCell (p := ⟨_, 1, none⟩) hN.1 _))
                clear hK K
                (try simp only [Act.put, List.setIfInBounds_toArray, List.set_cons_zero, List.set_cons_succ])
                refine wpAnyH_ready (rs := [9, 19]) (by kernel_rfl) (by simp) ?_
                refine AllReadyH.cons rfl (fun K hK => ?_) ?_
                · go_simp
                  (first | (go_at_call 69; refine (attribute_any s0 (by have := hsz0.out; omega) _).mono ?_; rintro e w4 ⟨⟨t0, rfl, ht0⟩, hb'⟩; (first | (with_reducible have hC := Lib.hid (BT hC.out hb')) | (with_reducible have hC := Lib.hid (BT (BA noA hC.out) hb')) | (with_reducible have hC : Hid (Below (bytesWorld _ 5 s1).heap.size (bytesWorld _ 5 s1) w4) := Lib.hid hb') | (with_reducible have hC : Hid (Below (bytesWorld _ 5 s1).heap.size (bytesWorld _ 5 s1) w4) := Lib.hid (BT (BA noA (Below.refl _ _)) hb')) | skip); (first | (with_reducible have hN := NA.step hN hb') | (with_reducible have hN := NA.stepC hN hb') | (with_reducible have hN := NA.mk' hB.out hb') | (with_reducible have hN := NA.mk' (BC s1 hB.out) hb') | (with_reducible have hN := NA.mkC hB.out hb') | skip); (first | (have n0 := blk_cell hN.2 0; have n1 := blk_cell hN.2 1; have m0 := blk_frozen hN.2 0; have m1 := blk_frozen hN.2 1; simp only [List.getElem?_toArray, List.getElem?_cons_zero, List.getElem?_cons_succ] at n0 n1) | skip); (first | (with_reducible have hB := Lib.hid (BT hB.out hb')) | (with_reducible have hB := Lib.hid (BT (BC s1 hB.out) hb')) | (with_reducible have hB := Lib.hid (BT (BA noA hB.out) hb')) | (with_reducible have hB := Lib.hid (BT (BA noA (BC s1 hB.out)) hb')) | (with_reducible have hB := Lib.hid (BT (BC s1 (BA noA hB.out)) hb')) | (with_reducible have hB := Lib.hid (BT hBd.out hb')) | (with_reducible have hB := Lib.hid (BT (BC s1 hBd.out) hb'))); clear hb') | (go_at_call 67; (first | with_reducible refine (right_call2 _ _ s1 _ (by first | rfl | simp) hsz1.out (Below.refl _ _)).mono ?_ | with_reducible refine (right_call2 _ _ s1 _ (by first | rfl | simp) hsz1.out (hC.out)).mono ?_ | with_reducible refine (right_call2 _ _ s1 _ (by first | rfl | simp) hsz1.out (BA noA (Below.refl _ _))).mono ?_ | with_reducible refine (right_call2 _ _ s1 _ (by first | rfl | simp) hsz1.out (BA noA hC.out)).mono ?_); rintro e w4 ⟨t1, rfl, ht1, hb'⟩; (first | (with_reducible have hC := Lib.hid (BT hC.out hb')) | (with_reducible have hC := Lib.hid (BT (BA noA hC.out) hb')) | (with_reducible have hC : Hid (Below (bytesWorld _ 5 s1).heap.size (bytesWorld _ 5 s1) w4) := Lib.hid hb') | (with_reducible have hC : Hid (Below (bytesWorld _ 5 s1).heap.size (bytesWorld _ 5 s1) w4) := Lib.hid (BT (BA noA (Below.refl _ _)) hb')) | skip); (first | (with_reducible have hN := NA.step hN hb') | (with_reducible have hN := NA.stepC hN hb') | (with_reducible have hN := NA.mk' hB.out hb') | (with_reducible have hN := NA.mk' (BC s1 hB.out) hb') | (with_reducible have hN := NA.mkC hB.out hb') | skip); (first | (have n0 := blk_cell hN.2 0; have n1 := blk_cell hN.2 1; have m0 := blk_frozen hN.2 0; have m1 := blk_frozen hN.2 1; simp only [List.getElem?_toArray, List.getElem?_cons_zero, List.getElem?_cons_succ] at n0 n1) | skip); (first | (with_reducible have hB := Lib.hid (BT hB.out hb')) | (with_reducible have hB := Lib.hid (BT (BC s1 hB.out) hb')) | (with_reducible have hB := Lib.hid (BT (BA noA hB.out) hb')) | (with_reducible have hB := Lib.hid (BT (BA noA (BC s1 hB.out)) hb')) | (with_reducible have hB := Lib.hid (BT (BC s1 (BA noA hB.out)) hb')) | (with_reducible have hB := Lib.hid (BT hBd.out hb')) | (with_reducible have hB := Lib.hid (BT (BC s1 hBd.out) hb'))); clear hb'))
                  (try go_wp2_with fail)
                  refine hK.out _ _ ?_ (fun hHeld => ?_)
                  · (try dsimp only)
                    (first | with_reducible exact HS.out _ hB.out | with_reducible exact HS.out _ (BC s1 hB.out) | with_reducible exact HS.out _ (BA noA hB.out) | with_reducible exact HS.out _ (BA noA (BC s1 hB.out)) | with_reducible exact HS.out _ (BC s1 (BA noA hB.out)) | with_reducible exact HS.out _ (BA _ hB.out) | with_reducible exact HS.out _ hBd.out | with_reducible exact HS.out _ (BC s1 hBd.out) | exact HS.out _ ((hB.out.setCell (p := ⟨_, 0, none⟩) hN.1 _).setCell (p := ⟨_, 1, none⟩) hN.1 _))
                  clear hK K
                  (try simp only [Act.put, List.setIfInBounds_toArray, List.set_cons_zero, List.set_cons_succ])
                  refine wpAnyH_ready (rs := [19]) (by kernel_rfl) (by simp) ?_
                  refine AllReadyH.cons rfl (fun K hK => ?_) ?_
                  · go_simp
                    refine hK.out _ _ ?_ (fun hHeld => ?_)
                    · (try dsimp only)
                      (first | with_reducible exact HS.out _ hB.out | with_reducible exact HS.out _ (BC s1 hB.out) | with_reducible exact HS.out _ (BA noA hB.out) | with_reducible exact HS.out _ (BA noA (BC s1 hB.out)) | with_reducible exact HS.out _ (BC s1 (BA noA hB.out)) | with_reducible exact HS.out _ (BA _ hB.out) | with_reducible exact HS.out _ hBd.out | with_reducible exact HS.out _ (BC s1 hBd.out) | exact HS.out _ ((hB.out.setCell (p := ⟨_, 0, none⟩) hN.1 _).setCell (p := ⟨_, 1, none⟩) hN.1 _))
                    clear hK K
                    (try simp only [Act.put, List.setIfInBounds_toArray, List.set_cons_zero, List.set_cons_succ])
                    refine wpAnyH_ready (rs := [20]) (by kernel_rfl) (by simp) ?_
                    refine AllReadyH.cons rfl (fun K hK => ?_) ?_
                    · go_simp
                      (first | (go_at_call 69; refine (attribute_any s0 (by have := hsz0.out; omega) _).mono ?_; rintro e w4 ⟨⟨t0, rfl, ht0⟩, hb'⟩; (first | (with_reducible have hC := Lib.hid (BT hC.out hb')) | (with_reducible have hC := Lib.hid (BT (BA noA hC.out) hb')) | (with_reducible have hC : Hid (Below (bytesWorld _ 5 s1).heap.size (bytesWorld _ 5 s1) w4) := Lib.hid hb') | (with_reducible have hC : Hid (Below (bytesWorld _ 5 s1).heap.size (bytesWorld _ 5 s1) w4) := Lib.hid (BT (BA noA (Below.refl _ _)) hb')) | skip); (first | (with_reducible have hN := NA.step hN hb') | (with_reducible have hN := NA.stepC hN hb') | (with_reducible have hN := NA.mk' hB.out hb') | (with_reducible have hN := NA.mk' (BC s1 hB.out) hb') | (with_reducible have hN := NA.mkC hB.out hb') | skip); (first | (have n0 := blk_cell hN.2 0; have n1 := blk_cell hN.2 1; have m0 := blk_frozen hN.2 0; have m1 := blk_frozen hN.2 1; simp only [List.getElem?_toArray, List.getElem?_cons_zero, List.getElem?_cons_succ] at n0 n1) | skip); (first | (with_reducible have hB := Lib.hid (BT hB.out hb')) | (with_reducible have hB := Lib.hid (BT (BC s1 hB.out) hb')) | (with_reducible have hB := Lib.hid (BT (BA noA hB.out) hb')) | (with_reducible have hB := Lib.hid (BT (BA noA (BC s1 hB.out)) hb')) | (with_reducible have hB := Lib.hid (BT (BC s1 (BA noA hB.out)) hb')) | (with_reducible have hB := Lib.hid (BT hBd.out hb')) | (with_reducible have hB := Lib.hid (BT (BC s1 hBd.out) hb'))); clear hb') | (go_at_call 67; (first | with_reducible refine (right_call2 _ _ s1 _ (by first | rfl | simp) hsz1.out (Below.refl _ _)).mono ?_ | with_reducible refine (right_call2 _ _ s1 _ (by first | rfl | simp) hsz1.out (hC.out)).mono ?_ | with_reducible refine (right_call2 _ _ s1 _ (by first | rfl | simp) hsz1.out (BA noA (Below.refl _ _))).mono ?_ | with_reducible refine (right_call2 _ _ s1 _ (by first | rfl | simp) hsz1.out (BA noA hC.out)).mono ?_); rintro e w4 ⟨t1, rfl, ht1, hb'⟩; (first | (with_reducible have hC := Lib.hid (BT hC.out hb')) | (with_reducible have hC := Lib.hid (BT (BA noA hC.out) hb')) | (with_reducible have hC : Hid (Below (bytesWorld _ 5 s1).heap.size (bytesWorld _ 5 s1) w4) := Lib.hid hb') | (with_reducible have hC : Hid (Below (bytesWorld _ 5 s1).heap.size (bytesWorld _ 5 s1) w4) := Lib.hid (BT (BA noA (Below.refl _ _)) hb')) | skip); (first | (with_reducible have hN := NA.step hN hb') | (with_reducible have hN := NA.stepC hN hb') | (with_reducible have hN := NA.mk' hB.out hb') | (with_reducible have hN := NA.mk' (BC s1 hB.out) hb') | (with_reducible have hN := NA.mkC hB.out hb') | skip); (first | (have n0 := blk_cell hN.2 0; have n1 := blk_cell hN.2 1; have m0 := blk_frozen hN.2 0; have m1 := blk_frozen hN.2 1; simp only [List.getElem?_toArray, List.getElem?_cons_zero, List.getElem?_cons_succ] at n0 n1) | skip); (first | (with_reducible have hB := Lib.hid (BT hB.out hb')) | (with_reducible have hB := Lib.hid (BT (BC s1 hB.out) hb')) | (with_reducible have hB := Lib.hid (BT (BA noA hB.out) hb')) | (with_reducible have hB := Lib.hid (BT (BA noA (BC s1 hB.out)) hb')) | (with_reducible have hB := Lib.hid (BT (BC s1 (BA noA hB.out)) hb')) | (with_reducible have hB := Lib.hid (BT hBd.out hb')) | (with_reducible have hB := Lib.hid (BT (BC s1 hBd.out) hb'))); clear hb'))
                      (try go_wp2_with fail)
                      refine hK.out _ _ ?_ (fun hHeld => ?_)
                      · (try dsimp only)
                        (first | with_reducible exact HS.out _ hB.out | with_reducible exact HS.out _ (BC s1 hB.out) | with_reducible exact HS.out _ (BA noA hB.out) | with_reducible exact HS.out _ (BA noA (BC s1 hB.out)) | with_reducible exact HS.out _ (BC s1 (BA noA hB.out)) | with_reducible exact HS.out _ (BA _ hB.out) | with_reducible exact HS.out _ hBd.out | with_reducible exact HS.out _ (BC s1 hBd.out) | exact HS.out _ ((hB.out.setCell (p := ⟨_, 0, none⟩) hN.1 _).setCell (p := ⟨_, 1, none⟩) hN.1 _))
                      clear hK K
                      (try simp only [Act.put, List.setIfInBounds_toArray, List.set_cons_zero, List.set_cons_succ])
                      refine wpAnyH_take (i := 21) (v := ?_) rfl (by kernel_rfl) (by kernel_rfl) (by kernel_rfl) (fun _ _ _ h => h) (Or.inl ⟨by rfl, ?_⟩) (by assumption) ?_
                      rotate_left
                      · (intro W hSw; (try dsimp only at hSw); go_simp; try with_reducible rfl)
                      (try simp only [Act.put, List.setIfInBounds_toArray, List.set_cons_zero, List.set_cons_succ])
                      refine wpAnyH_ready (rs := [23]) (by kernel_rfl) (by simp) ?_
                      refine AllReadyH.cons rfl (fun K hK => ?_) ?_
                      · go_simp
                        refine hK.out _ _ ?_ (fun hHeld => ?_)
                        · (try dsimp only)
                          (first | with_reducible exact HS.out _ hB.out | with_reducible exact HS.out _ (BC s1 hB.out) | with_reducible exact HS.out _ (BA noA hB.out) | with_reducible exact HS.out _ (BA noA (BC s1 hB.out)) | with_reducible exact HS.out _ (BC s1 (BA noA hB.out)) | with_reducible exact HS.out _ (BA _ hB.out) | with_reducible exact HS.out _ hBd.out | with_reducible exact HS.out _ (BC s1 hBd.out) | exact HS.out _ ((hB.out.setCell (p := ⟨_, 0, none⟩) hN.1 _).setCell (p := ⟨_, 1, none⟩) hN.1 _))
                        clear hK K
                        (try simp only [Act.put, List.setIfInBounds_toArray, List.set_cons_zero, List.set_cons_succ])
                        refine wpAnyH_done (by kernel_rfl) ?_ _
                        (go_wp2_with fail; go_meet; first | exact ⟨_, t0, t1, rfl, Lib.hid ⟨by have := hsz0.out; omega, by omega⟩, Lib.hid (blk_new _ _), Lib.hid (BA _ hB.out)⟩ | exact ⟨_, t0, t1, rfl, Lib.hid ⟨by have := hsz0.out; omega, by omega⟩, Lib.hid (blk_set_self (blk_set_self hN.2 0 _) 1 _), Lib.hid ((hB.out.setCell (p := ⟨_, 0, none⟩) hN.1 _).setCell (p := ⟨_, 1, none⟩) hN.1 _)⟩)
                      exact AllReadyH.nil
                    exact AllReadyH.nil
                  exact AllReadyH.nil
                refine AllReadyH.cons rfl (fun K hK => ?_) ?_
                · go_simp
                  refine hK.out _ _ ?_ (fun hHeld => ?_)
                  · (try dsimp only)
                    (first | with_reducible exact HS.out _ hB.out | with_reducible exact HS.out _ (BC s1 hB.out) | with_reducible exact HS.out _ (BA noA hB.out) | with_reducible exact HS.out _ (BA noA (BC s1 hB.out)) | with_reducible exact HS.out _ (BC s1 (BA noA hB.out)) | with_reducible exact HS.out _ (BA _ hB.out) | with_reducible exact HS.out _ hBd.out | with_reducible exact HS.out _ (BC s1 hBd.out) | exact HS.out _ ((hB.out.setCell (p := ⟨_, 0, none⟩) hN.1 _).setCell (p := ⟨_, 1, none⟩) hN.1 _))
                  clear hK K
                  (try simp only [Act.put, List.setIfInBounds_toArray, List.set_cons_zero, List.set_cons_succ])
                  refine wpAnyH_ready (rs := [9]) (by kernel_rfl) (by simp) ?_
                  refine AllReadyH.cons rfl (fun K hK => ?_) ?_
                  · go_simp
                    (first | (go_at_call 69; refine (attribute_any s0 (by have := hsz0.out; omega) _).mono ?_; rintro e w4 ⟨⟨t0, rfl, ht0⟩, hb'⟩; (first | (with_reducible have hC := Lib.hid (BT hC.out hb')) | (with_reducible have hC := Lib.hid (BT (BA noA hC.out) hb')) | (with_reducible have hC : Hid (Below (bytesWorld _ 5 s1).heap.size (bytesWorld _ 5 s1) w4) := Lib.hid hb') | (with_reducible have hC : Hid (Below (bytesWorld _ 5 s1).heap.size (bytesWorld _ 5 s1) w4) := Lib.hid (BT (BA noA (Below.refl _ _)) hb')) | skip); (first | (with_reducible have hN := NA.step hN hb') | (with_reducible have hN := NA.stepC hN hb') | (with_reducible have hN := NA.mk' hB.out hb') | (with_reducible have hN := NA.mk' (BC s1 hB.out) hb') | (with_reducible have hN := NA.mkC hB.out hb') | skip); (first | (have n0 := blk_cell hN.2 0; have n1 := blk_cell hN.2 1; have m0 := blk_frozen hN.2 0; have m1 := blk_frozen hN.2 1; simp only [List.getElem?_toArray, List.getElem?_cons_zero, List.getElem?_cons_succ] at n0 n1) | skip); (first | (with_reducible have hB := Lib.hid (BT hB.out hb')) | (with_reducible have hB := Lib.hid (BT (BC s1 hB.out) hb')) | (with_reducible have hB := Lib.hid (BT (BA noA hB.out) hb')) | (with_reducible have hB := Lib.hid (BT (BA noA (BC s1 hB.out)) hb')) | (with_reducible have hB := Lib.hid (BT (BC s1 (BA noA hB.out)) hb')) | (with_reducible have hB := Lib.hid (BT hBd.out hb')) | (with_reducible have hB := Lib.hid (BT (BC s1 hBd.out) hb'))); clear hb') | (go_at_call 67; (first | with_reducible refine (right_call2 _ _ s1 _ (by first | rfl | simp) hsz1.out (Below.refl _ _)).mono ?_ | with_reducible refine (right_call2 _ _ s1 _ (by first | rfl | simp) hsz1.out (hC.out)).mono ?_ | with_reducible refine (right_call2 _ _ s1 _ (by first | rfl | simp) hsz1.out (BA noA (Below.refl _ _))).mono ?_ | with_reducible refine (right_call2 _ _ s1 _ (by first | rfl | simp) hsz1.out (BA noA hC.out)).mono ?_); rintro e w4 ⟨t1, rfl, ht1, hb'⟩; (first | (with_reducible have hC := Lib.hid (BT hC.out hb')) | (with_reducible have hC := Lib.hid (BT (BA noA hC.out) hb')) | (with_reducible have hC : Hid (Below (bytesWorld _ 5 s1).heap.size (bytesWorld _ 5 s1) w4) := Lib.hid hb') | (with_reducible have hC : Hid (Below (bytesWorld _ 5 s1).heap.size (bytesWorld _ 5 s1) w4) := Lib.hid (BT (BA noA (Below.refl _ _)) hb')) | skip); (first | (with_reducible have hN := NA.step hN hb') | (with_reducible have hN := NA.stepC hN hb') | (with_reducible have hN := NA.mk' hB.out hb') | (with_reducible have hN := NA.mk' (BC s1 hB.out) hb') | (with_reducible have hN := NA.mkC hB.out hb') | skip); (first | (have n0 := blk_cell hN.2 0; have n1 := blk_cell hN.2 1; have m0 := blk_frozen hN.2 0; have m1 := blk_frozen hN.2 1; simp only [List.getElem?_toArray, List.getElem?_cons_zero, List.getElem?_cons_succ] at n0 n1) | skip); (first | (with_reducible have hB := Lib.hid (BT hB.out hb')) | (with_reducible have hB := Lib.hid (BT (BC s1 hB.out) hb')) | (with_reducible have hB := Lib.hid (BT (BA noA hB.out) hb')) | (with_reducible have hB := Lib.hid (BT (BA noA (BC s1 hB.out)) hb')) | (with_reducible have hB := Lib.hid (BT (BC s1 (BA noA hB.out)) hb')) | (with_reducible have hB := Lib.hid (BT hBd.out hb')) | (with_reducible have hB := Lib.hid (BT (BC s1 hBd.out) hb'))); clear hb'))
                    (try go_wp2_with fail)
                    refine hK.out _ _ ?_ (fun hHeld => ?_)
                    · (try dsimp only)
                      (first | with_reducible exact HS.out _ hB.out | with_reducible exact HS.out _ (BC s1 hB.out) | with_reducible exact HS.out _ (BA noA hB.out) | with_reducible exact HS.out _ (BA noA (BC s1 hB.out)) | with_reducible exact HS.out _ (BC s1 (BA noA hB.out)) | with_reducible exact HS.out _ (BA _ hB.out) | with_reducible exact HS.out _ hBd.out | with_reducible exact HS.out _ (BC s1 hBd.out) | exact HS.out _ ((hB.out.setCell (p := ⟨_, 0, none⟩) hN.1 _).setCell (p := ⟨_, 1, none⟩) hN.1 _))
                    clear hK K
                    (try simp only [Act.put, List.setIfInBounds_toArray, List.set_cons_zero, List.set_cons_succ])
                    refine wpAnyH_ready (rs := [20]) (by kernel_rfl) (by simp) ?_
                    refine AllReadyH.cons rfl (fun K hK => ?_) ?_
                    · go_simp
                      (first | (go_at_call 69; refine (attribute_any s0 (by have := hsz0.out; omega) _).mono ?_; rintro e w4 ⟨⟨t0, rfl, ht0⟩, hb'⟩; (first | (with_reducible have hC := Lib.hid (BT hC.out hb')) | (with_reducible have hC := Lib.hid (BT (BA noA hC.out) hb')) | (with_reducible have hC : Hid (Below (bytesWorld _ 5 s1).heap.size (bytesWorld _ 5 s1) w4) := Lib.hid hb') | (with_reducible have hC : Hid (Below (bytesWorld _ 5 s1).heap.size (bytesWorld _ 5 s1) w4) := Lib.hid (BT (BA noA (Below.refl _ _)) hb')) | skip); (first | (with_reducible have hN := NA.step hN hb') | (with_reducible have hN := NA.stepC hN hb') | (with_reducible have hN := NA.mk' hB.out hb') | (with_reducible have hN := NA.mk' (BC s1 hB.out) hb') | (with_reducible have hN := NA.mkC hB.out hb') | skip); (first | (have n0 := blk_cell hN.2 0; have n1 := blk_cell hN.2 1; have m0 := blk_frozen hN.2 0; have m1 := blk_frozen hN.2 1; simp only [List.getElem?_toArray, List.getElem?_cons_zero, List.getElem?_cons_succ] at n0 n1) | skip); (first | (with_reducible have hB := Lib.hid (BT hB.out hb')) | (with_reducible have hB := Lib.hid (BT (BC s1 hB.out) hb')) | (with_reducible have hB := Lib.hid (BT (BA noA hB.out) hb')) | (with_reducible have hB := Lib.hid (BT (BA noA (BC s1 hB.out)) hb')) | (with_reducible have hB := Lib.hid (BT (BC s1 (BA noA hB.out)) hb')) | (with_reducible have hB := Lib.hid (BT hBd.out hb')) | (with_reducible have hB := Lib.hid (BT (BC s1 hBd.out) hb'))); clear hb') | (go_at_call 67; (first | with_reducible refine (right_call2 _ _ s1 _ (by first | rfl | simp) hsz1.out (Below.refl _ _)).mono ?_ | with_reducible refine (right_call2 _ _ s1 _ (by first | rfl | simp) hsz1.out (hC.out)).mono ?_ | with_reducible refine (right_call2 _ _ s1 _ (by first | rfl | simp) hsz1.out (BA noA (Below.refl _ _))).mono ?_ | with_reducible refine (right_call2 _ _ s1 _ (by first | rfl | simp) hsz1.out (BA noA hC.out)).mono ?_); rintro e w4 ⟨t1, rfl, ht1, hb'⟩; (first | (with_reducible have hC := Lib.hid (BT hC.out hb')) | (with_reducible have hC := Lib.hid (BT (BA noA hC.out) hb')) | (with_reducible have hC : Hid (Below (bytesWorld _ 5 s1).heap.size (bytesWorld _ 5 s1) w4) := Lib.hid hb') | (with_reducible have hC : Hid (Below (bytesWorld _ 5 s1).heap.size (bytesWorld _ 5 s1) w4) := Lib.hid (BT (BA noA (Below.refl _ _)) hb')) | skip); (first | (with_reducible have hN := NA.step hN hb') | (with_reducible have hN := NA.stepC hN hb') | (with_reducible have hN := NA.mk' hB.out hb') | (with_reducible have hN := NA.mk' (BC s1 hB.out) hb') | (with_reducible have hN := NA.mkC hB.out hb') | skip); (first | (have n0 := blk_cell hN.2 0; have n1 := blk_cell hN.2 1; have m0 := blk_frozen hN.2 0; have m1 := blk_frozen hN.2 1; simp only [List.getElem?_toArray, List.getElem?_cons_zero, List.getElem?_cons_succ] at n0 n1) | skip); (first | (with_reducible have hB := Lib.hid (BT hB.out hb')) | (with_reducible have hB := Lib.hid (BT (BC s1 hB.out) hb')) | (with_reducible have hB := Lib.hid (BT (BA noA hB.out) hb')) | (with_reducible have hB := Lib.hid (BT (BA noA (BC s1 hB.out)) hb')) | (with_reducible have hB := Lib.hid (BT (BC s1 (BA noA hB.out)) hb')) | (with_reducible have hB := Lib.hid (BT hBd.out hb')) | (with_reducible have hB := Lib.hid (BT (BC s1 hBd.out) hb'))); clear hb'))
                      (try go_wp2_with fail)
                      refine hK.out _ _ ?_ (fun hHeld => ?_)
                      · (try dsimp only)
                        (first | with_reducible exact HS.out _ hB.out | with_reducible exact HS.out _ (BC s1 hB.out) | with_reducible exact HS.out _ (BA noA hB.out) | with_reducible exact HS.out _ (BA noA (BC s1 hB.out)) | with_reducible exact HS.out _ (BC s1 (BA noA hB.out)) | with_reducible exact HS.out _ (BA _ hB.out) | with_reducible exact HS.out _ hBd.out | with_reducible exact HS.out _ (BC s1 hBd.out) | exact HS.out _ ((hB.out.setCell (p := ⟨_, 0, none⟩) hN.1 _).setCell (p := ⟨_, 1, none⟩) hN.1 _))
                      clear hK K
                      (try simp only [Act.put, List.setIfInBounds_toArray, List.set_cons_zero, List.set_cons_succ])
                      refine wpAnyH_take (i := 21) (v := ?_) rfl (by kernel_rfl) (by kernel_rfl) (by kernel_rfl) (fun _ _ _ h => h) (Or.inl ⟨by rfl, ?_⟩) (by assumption) ?_
                      rotate_left
                      · (intro W hSw; (try dsimp only at hSw); go_simp; try with_reducible rfl)
                      (try simp only [Act.put, List.setIfInBounds_toArray, List.set_cons_zero, List.set_cons_succ])
                      refine wpAnyH_ready (rs := [23]) (by kernel_rfl) (by simp) ?_
                      refine AllReadyH.cons rfl (fun K hK => ?_) ?_
                      · go_simp
                        refine hK.out _ _ ?_ (fun hHeld => ?_)
                        · (try dsimp only)
                          (first | with_reducible exact HS.out _ hB.out | with_reducible exact HS.out _ (BC s1 hB.out) | with_reducible exact HS.out _ (BA noA hB.out) | with_reducible exact HS.out _ (BA noA (BC s1 hB.out)) | with_reducible exact HS.out _ (BC s1 (BA noA hB.out)) | with_reducible exact HS.out _ (BA _ hB.out) | with_reducible exact HS.out _ hBd.out | with_reducible exact HS.out _ (BC s1 hBd.out) | exact HS.out _ ((hB.out.setCell (p := ⟨_, 0, none⟩) hN.1 _).setCell (p := ⟨_, 1, none⟩) hN.1 _))
                        clear hK K
                        (try simp only [Act.put, List.setIfInBounds_toArray, List.set_cons_zero, List.set_cons_succ])
                        refine wpAnyH_done (by kernel_rfl) ?_ _
                        (go_wp2_with fail; go_meet; first | exact ⟨_, t0, t1, rfl, Lib.hid ⟨by have := hsz0.out; omega, by omega⟩, Lib.hid (blk_new _ _), Lib.hid (BA _ hB.out)⟩ | exact ⟨_, t0, t1, rfl, Lib.hid ⟨by have := hsz0.out; omega, by omega⟩, Lib.hid (blk_set_self (blk_set_self hN.2 0 _) 1 _), Lib.hid ((hB.out.setCell (p := ⟨_, 0, none⟩) hN.1 _).setCell (p := ⟨_, 1, none⟩) hN.1 _)⟩)
                      exact AllReadyH.nil
                    exact AllReadyH.nil
                  exact AllReadyH.nil
                exact AllReadyH.nil
              exact AllReadyH.nil
            case rest =>
            obtain ⟨g, t0, t1, rfl, ht01, hG, hB7⟩ := hcut
            obtain ⟨w7, rfl⟩ : ∃ w7 : World, w7 = wc := ⟨_, rfl⟩
            clear HS c2 q5 q6 hconv
            have hX7 := blk_below hX6.out hB7.out hXw6.out
            have hoa7 : Hid (w7.ownsRow W5.heap.size 100 2 (.slice Av nv capv) nv (attrCells al')) := Lib.hid (own_below hoa.out hB7.out)
            have hval := value_safe 1 nm2 ⟨#[]⟩ t0 (.slice Av nv capv) (.slice none 0 0) al' w7 ((own_attrs (al := al') (by have := hoa7.out; rwa [← hnv.out])).move (fun _ _ => rfl) (fun x hx => (hoa7.out.lt x hx).2)) (by have := hnv.out; omega)
            have d0 := blk_cell hX7 0
            have d1 := blk_cell hX7 1
            have d2 := blk_cell hX7 2
            have d3 := blk_cell hX7 3
            have d4 := blk_cell hX7 4
            have n0 := blk_cell hG.out 0
            simp only [List.getElem?_toArray, List.getElem?_cons_zero, List.getElem?_cons_succ] at d0 d1 d2 d3 d4 n0
            replace hX7 := Lib.hid hX7
            go_upto_region 17 with (go_at_call 70; refine hval.mono ?_; rintro e w8 ⟨⟨tv, had, rfl⟩, hB8⟩)
            have hX8 := blk_below hX7.out hB8 (blk_lt hX7.out)
            have hG8 := blk_below hG.out hB8 (blk_lt hG.out)
            have hoa8 : Hid (w8.ownsRow W5.heap.size 100 2 (.slice Av nv capv) nv (attrCells al')) := Lib.hid (own_below hoa7.out hB8)
            have hB9 : Hid (Below X wo w8) := Lib.hid (hB6.out.trans ((hB7.out.trans (hB8.mono hB7.out.size)).mono (Nat.le_of_lt hXw6.out)))
            have hs8 : Hid (W5.heap.size ≤ w8.heap.size) := Lib.hid (Nat.le_trans hs6.out (Nat.le_trans hB7.out.size hB8.size))
            clear d0 d1 d2 d3 d4 n0 hval hB8
            cases had with
            | true =>
              replace hX8 := Lib.hid hX8
              go_wp2
              exact ⟨⟨k + 1, al', Av, nv, capv, by omega, by simp, hnv, by omega, hsa, hX8, hoa8, hB9, hs8⟩, by simp [Lib.intOf]; omega⟩
            | false =>
              have d2 := blk_cell hX8 2
              have n0 := blk_cell hG8 0
              have n1 := blk_cell hG8 1
              simp only [List.getElem?_toArray, List.getElem?_cons_zero, List.getElem?_cons_succ] at d2 n0 n1
              replace hX8 := Lib.hid hX8
              replace hG8 := Lib.hid hG8
              have hneX : Hid ((Value.slice Av nv capv).ownBlock ≠ some X) := Lib.hid (fun h => by have := hoa8.out.lt X h; have := hXw5.out; omega)
              go_wp2_with (at_builtin; refine wpList_append_lies _ rfl _ _ 42 rfl W5.heap.size 100 i1 _ 2 32 Tryz.underlying42 hj hy0 hy1 hy2 rfl (by decide) _ _ _ rfl (hoa8.out.alloc _) ⟨_, 0, none⟩ 1 1 [.string t0, .string t1] rfl rfl (cells_new _ _ _) (by intro u hu; simp at hu; rcases hu with rfl | rfl <;> rfl) (by decide) (by unfold maxLen; omega) (by omega) (by have := hs8.out; simp; omega) _ rfl ?_; intro ga ca w9 hown9 hg9 hat9 hlt9; have hX9 := blk_grown (blk_alloc hX8.out _) hg9 hneX.out; have x2 := blk_cell hX9 2; have xf := blk_frozen hX9 2; replace hX9 := Lib.hid hX9; simp only [List.getElem?_toArray, List.getElem?_cons_zero, List.getElem?_cons_succ] at x2; go_frame)
              have hX8le : X ≤ w8.heap.size := by have := hs8.out; have := hXw5.out; omega
              have hgX : Hid (ga ≠ X) := Lib.hid (fun h => by have := (hown9.lt ga rfl).1; have := hXw5.out; omega)
              have hB10 : Hid (Below X wo w9) := Lib.hid ((hB9.out.alloc hX8le _).grown hg9 (by simp; omega) (fun j hj => by have := hoa8.out.lt j hj; have := hXw5.out; omega))
              refine ⟨⟨k + 1, al' ++ [(t0, t1)], some ⟨ga, 0, none⟩, nv + 1, ca, by omega, by simp, Lib.hid (by have := hnv.out; simp [this]), by omega, Lib.hid ?_, Lib.hid (blk_set_self hX9.out 2 _), Lib.hid ?_, Lib.hid ?_, Lib.hid ?_⟩, by simp [Lib.intOf]; omega⟩
              · intro p hp
                rcases List.mem_append.1 hp with hp | hp
                · exact hsa.out p hp
                · rw [List.mem_singleton.1 hp]
                  exact ht01.out
              · rw [attrCells_snoc]
                exact own_far hown9 (p := ⟨X, 2, none⟩) (fun h => hgX.out (by simpa [Value.ownBlock] using h)) _
              · exact hB10.out.setCell (p := ⟨X, 2, none⟩) (Nat.le_refl _) _
              · have h1 := hs8.out
                have h2 := hg9.size
                simp at h2 ⊢
                omega
          · have c4 : wr.cell? ⟨b, o + i * 5 + 4, none⟩ = some (.slice A4 nk cap4) := (hBw6.out.cell (p := ⟨b, _, none⟩) hbw).trans h4.out
            have d4 : wr.cell? ⟨X, 4, none⟩ = some (.slice none 0 0) := blk_cell hX6.out 4
            have hcall : Calls Tryz.prog 38 #[.slice A4 nk cap4] wr (GoodPost wr kids.size) := by
              rw [← hnk.out]
              refine ih.out kids hks2 A4 cap4 B wr hkS.out (by rw [hnk.out]; exact hc4) (by omega) (Nat.le_trans hBw hBw6.out.size) (fun hp => ?_)
              obtain ⟨b', o', e, hr'⟩ := hk4.out hp
              exact ⟨b', o', e, hr'.below (hBw6.out.mono hBw)⟩
            go_upto_region 20 with (go_at_call 38; refine hcall.mono ?_; rintro e w4 ⟨v2, l2, rfl, hi2, hok2, _, hz2'⟩; obtain ⟨A2, n2, cap2, rfl, hn2, hc2, hk2⟩ := hi2.fineKids; have hX9 := blk_below hX6.out hi2.below hXw6.out; have e4 := blk_cell hX9 4; have f4 := blk_frozen hX9 4; replace hn2 := Lib.hid hn2; replace hk2 := Lib.hid hk2)
            obtain ⟨W7, hW7⟩ : ∃ W7, w4.setCell ⟨X, 4, none⟩ (.slice A2 n2 cap2) = W7 := ⟨_, rfl⟩
            have hX7 : W7.heap[X]? = some (.cells #[.int .i64 1, .string nm2, .slice Av nv capv, .string ⟨#[]⟩, .slice A2 n2 cap2] 44) := by rw [← hW7]; exact blk_set_self hX9 4 _
            have hB7 : Hid (Below X wo W7) := Lib.hid (by rw [← hW7]; exact (hB6.out.trans (hi2.below.mono (Nat.le_of_lt hXw6.out))).setCell (p := ⟨X, 4, none⟩) (Nat.le_refl _) _)
            have hs7 : Hid (W7.heap.size = w4.heap.size) := Lib.hid (by rw [← hW7]; simp)
            have hfine : Hid (NCells.Fine W7 (fun k => X ≤ k ∧ k < W7.heap.size) ⟨1, nm2, al', ⟨#[]⟩, nFo l2, .slice Av nv capv, .slice A2 n2 cap2⟩) := Lib.hid (by
              have hwr4 := hi2.below.size
              refine ⟨(own_attrs (al := al') (by have := hoa.out; rwa [← hnv.out])).move ?_ ?_, A2, cap2, by rw [← hn2.out], by rw [← hn2.out]; exact hc2, fun hp => ?_⟩
              · rw [← hW7]
                exact (Stays.below hi2.below (fun x hx => (hoa.out.lt x hx).2)).trans (Stays.set (fun h => by have := hoa.out.lt X h; have := hXw5.out; omega) _)
              · intro x hx
                have := hoa.out.lt x hx
                have := hXw5.out
                exact ⟨by omega, by rw [hs7.out]; omega⟩
              · obtain ⟨b', o', e, hr'⟩ := hk2.out (by rw [hn2.out]; exact hp)
                refine ⟨b', o', e, hr'.move ?_ ?_⟩
                · rw [← hW7]
                  exact Stays.set (fun h => by have h1 : wr.heap.size ≤ X := h.1; have := hXw6.out; omega) _
                · intro x hx
                  have h1 : wr.heap.size ≤ x := hx.1
                  have h2 : x < w4.heap.size := hx.2
                  have := hXw6.out
                  exact ⟨by omega, by rw [hs7.out]; exact h2⟩)
            rw [hW7]
            clear hW7 e4 f4 d4 c4 hX9 hcall
            have e0 := blk_cell hX7 0
            have e1 := blk_cell hX7 1
            have e2 := blk_cell hX7 2
            have e3 := blk_cell hX7 3
            have e4 := blk_cell hX7 4
            simp only [List.getElem?_toArray, List.getElem?_cons_zero, List.getElem?_cons_succ] at e0 e1 e2 e3 e4
            have hinv5 : Hid (RowInv w W7 v l) := Lib.hid (hinv.out.carry (by rw [hX.out]; exact hB7.out))
            clear hX7
            replace hok2 := Lib.hid hok2
            replace hi2 := Lib.hid hi2
            go_wp2_with (at_builtin; refine wpList_append_own_at _ rfl _ _ 40 rfl w.heap.size 44 i0 _ 5 88 Tryz.underlying40 hi hz0 hz1 hz2 rfl (by decide) _ _ _ rfl (hinv5.out.own.alloc _) ⟨_, 0, none⟩ 1 1 [.int .i64 1, .string nm2, .slice Av nv capv, .string ⟨#[]⟩, .slice A2 n2 cap2] rfl rfl (cells_new _ _ _) (by intro u hu; simp at hu; rcases hu with rfl | rfl | rfl | rfl | rfl <;> rfl) (by unfold maxLen; omega) (by omega) (by have := hinv5.out.below.size; simp; omega) ?_; intro v' w8 hown' hg8 hnil8 hat8; go_frame)
            obtain ⟨l3, g1, g2, g3, g4⟩ := hfin.out W7 w8 v' _ ⟨1, nm2, al', ⟨#[]⟩, nFo l2, .slice Av nv capv, .slice A2 n2 cap2⟩ hB7.out hfine.out
              ⟨⟨Nat.le_trans hnz2.out (by omega), .inl rfl, hnt2.out⟩, ⟨by show al'.length ≤ 5; have := hnv.out; omega, hsa.out⟩, okF_of l2 hok2.out⟩ (Nat.zero_le _) hz2' hown' hg8 hat8
            exact ⟨⟨i + 1, l3, by omega, by simp, g1, g2, g3, g4⟩, by simp [Lib.intOf]; omega⟩
      · have c3 : w1.cell? ⟨b, o + i * 5 + 3, none⟩ = some (.string tx) := (hBw1.out.cell (p := ⟨b, _, none⟩) hbw).trans h3
        have d3 : w1.cell? ⟨X, 3, none⟩ = some (.string ⟨#[]⟩) := blk_cell hX2.out 3
        have hconv := fun W => Lib.run_convert_string_bytes (P := Tryz.prog) W 9 74 5 tx Tryz.underlying9 Tryz.underlying74 Tryz.underlying5
        have hk' : (k2 == 1) = false := by simpa using hk
        go_upto_region 10 with (go_at_call 67; refine (right_call _ _ tx htz (Below.refl _ _)).mono ?_; rintro e w2 ⟨t, rfl, htz2, hB3⟩; have hB3' := (below_made w1 tx).trans (hB3.mono (below_made w1 tx).size); have hX3 := blk_below hX2.out hB3' hXw.out; have e3 := blk_cell hX3 3; have f3 := blk_frozen hX3 3; replace hB3' := Lib.hid hB3'; replace hX3 := Lib.hid hX3; clear hB3)
        obtain ⟨W5, hW5⟩ : ∃ W5, w2.setCell ⟨X, 3, none⟩ (.string t) = W5 := ⟨_, rfl⟩
        have hX5 : W5.heap[X]? = some (.cells #[.int .i64 k2, .string ⟨#[]⟩, .slice none 0 0, .string t, .slice none 0 0] 44) := by rw [← hW5]; exact blk_set_self hX3.out 3 _
        have hB5 : Hid (Below X wr W5) := Lib.hid (by rw [← hW5]; exact (hB2.out.trans (hB3'.out.mono (Nat.le_of_lt hXw.out))).setCell (p := ⟨X, 3, none⟩) (Nat.le_refl _) _)
        rw [hW5]
        clear hW5 e3 f3 d3 d0 c3
        have e0 := blk_cell hX5 0
        have e1 := blk_cell hX5 1
        have e2 := blk_cell hX5 2
        have e3 := blk_cell hX5 3
        have e4 := blk_cell hX5 4
        simp only [List.getElem?_toArray, List.getElem?_cons_zero, List.getElem?_cons_succ] at e0 e1 e2 e3 e4
        have hinv5 : Hid (RowInv w W5 u3 l) := Lib.hid (hinv.out.carry (by rw [hX.out]; exact hB5.out))
        clear hX5 hconv
        replace htz2 := Lib.hid htz2
        go_wp2_with (at_builtin; refine wpList_append_own_at _ rfl _ _ 40 rfl w.heap.size 44 i0 _ 5 88 Tryz.underlying40 hi hz0 hz1 hz2 rfl (by decide) _ _ _ rfl (hinv5.out.own.alloc _) ⟨_, 0, none⟩ 1 1 [.int .i64 k2, .string ⟨#[]⟩, .slice none 0 0, .string t, .slice none 0 0] rfl rfl (cells_new _ _ _) (by intro u hu; simp at hu; rcases hu with rfl | rfl | rfl | rfl | rfl <;> rfl) (by unfold maxLen; omega) (by omega) (by have := hinv5.out.below.size; simp; omega) ?_; intro v' w8 hown' hg8 hnil8 hat8; go_frame)
        obtain ⟨l2, g1, g2, g3, g4⟩ := hfin.out W5 w8 v' _ ⟨k2, ⟨#[]⟩, [], t, .nil, .slice none 0 0, .slice none 0 0⟩ hB5.out ⟨⟨none, 0, rfl, Nat.le_refl _, fun j hj => absurd hj (by simp)⟩, none, 0, rfl, Nat.le_refl _, fun h => absurd h (by simp [Fo.len])⟩
          ⟨⟨Nat.zero_le _, hk2.out, notTag_nil⟩, ⟨Nat.zero_le _, fun p hp => absurd hp (by simp)⟩, trivial⟩ (Nat.le_trans htz2.out (by decide)) (by simp [Fo.size]) hown' hg8 hat8
        exact ⟨⟨i + 1, l2, by omega, by simp, g1, g2, g3, g4⟩, by simp [Lib.intOf]; omega⟩
    · have hmrg := merge3_row 10000 200 (by decide) w wr u3 l hinv.out (by omega) hlo.out
      have hin3 : i = n := by omega
      subst hin3
      go_wp2_with (go_at_call 71; refine hmrg.mono ?_; rintro e w2 ⟨v2, out, rfl, g1, g2, g3, g4⟩)
      go_ret
      exact ⟨_, out, rfl, g1, fun c hc => ⟨(g2 c hc).1, Nat.le_trans (g2 c hc).2 (by decide)⟩, g3, by have := hsz.out; omega⟩
theorem good_ok (f : Fo) : GoodOk f := by
  obtain ⟨n, hn⟩ : ∃ n, f.size = n := ⟨_, rfl⟩
  induction n using Nat.strongRecOn generalizing f with
  | _ n ih =>
    subst hn
    exact good_step f (fun g hg => ih _ hg g rfl)
theorem good_row (w w1 : World) (l : List NCells) (v : Value) (h1 : RowInv w w1 v l) (h2 : smallF (nFo l)) (h3 : (nFo l).size ≤ 40) : Calls Tryz.prog 38 #[v] w1 (GoodPost w1 (nFo l).size) := by
  obtain ⟨A2, n2, cap2, rfl, hn2, hc2, hk2⟩ := h1.fineKids
  have hrow : 0 < (nFo l).len → ∃ b o, A2 = some ⟨b, o, none⟩ ∧ RowAt w1 w1.heap.size b o (nFo l) := fun hp => by
    obtain ⟨b, o, e, hr⟩ := hk2 (by rw [hn2]; exact hp)
    exact ⟨b, o, e, hr.at_ (fun k hk => hk.2)⟩
  have hg := good_ok (nFo l)
  unfold GoodOk at hg
  have hg2 := hg A2 cap2 w1.heap.size w1 h2 (by rw [← hn2]; exact hc2) h3 (Nat.le_refl _) hrow
  rw [← hn2] at hg2
  exact hg2
/-- WHAT Good GIVES: nodes in memory of its own, fine, 40 at most, no texts side by side. -/
def Good12Post (w : World) (e : Ending) (w' : World) : Prop := ∃ (w1 : World) (v : Value) (out : List NCells), e = .returned v ∧ Below w.heap.size w w1 ∧ RowInv w1 w' v out ∧ (∀ c ∈ out, okC 10000 c ∧ c.text.size ≤ 10000) ∧ noTw false (nFo out) ∧ (nFo out).size ≤ 40
set_option maxRecDepth 8192 in
theorem good12_any (f : Fo) (A : Option Addr) (cap : Nat) (B : Nat) (w : World) (hf : f.In) (hc : f.len ≤ cap) (hl : f.len ≤ maxLen) (hB : B ≤ w.heap.size) (hr : 0 < f.len → ∃ b o, A = some ⟨b, o, none⟩ ∧ RowAt w B b o f) :
    Calls Tryz.prog 15 #[.slice A f.len cap] w (Good12Post w) := by
  have hfew := few_any f A cap B w hf hc hl hB hr
  obtain ⟨n, hn⟩ : ∃ n, f.len = n := ⟨_, rfl⟩
  rw [hn] at hfew ⊢
  clear hn hr hc hl
  go_enter Tryz.func15, Tryz.ntmps15
  go_wp2_with (first
    | (go_at_call 39; refine hfew.mono ?_; rintro e w1 ⟨v, l, rfl, h1, h2, h3⟩)
    | (go_at_call 38; refine (good_row w w1 l v h1 h2 h3).mono ?_; rintro e w2 ⟨v2, out, rfl, g1, g2, g3, g4⟩))
  go_ret
  exact ⟨w1, v2, out, rfl, h1.below, g1, g2, g3, Nat.le_trans g4 h3⟩
end
end Go.Proofs.YtghlodpbbghcoaaGreatDoor.Nd

/- Nodes in a row that the call owns, as cells. No program in sight. -/
namespace Go.Proofs.YtghlodpbbghcoaaGreatDoor
open Go.RowKit
def nodK : Kind Nd.NCells := ⟨Nd.NCells.list, fun c w P => c.Fine w P, 5, fun _ => rfl, fun h hs hq => Nd.NCells.Fine.move h hs hq⟩
theorem nodRow {w wr : World} {v : Value} {l : List Nd.NCells} (h : Nd.RowInv w wr v l) : RowI nodK 44 (fun b => w.heap.size ≤ b) wr v l := by
  obtain ⟨h1, ⟨P, h2, h3, h4⟩, _⟩ := h
  exact ⟨⟨h1.1, h1.2.imp id (fun ⟨g, cap, cur, a, _, c⟩ => ⟨g, cap, cur, a, Nat.zero_le _, c⟩)⟩, fun k hk => (h1.lt k hk).1, P, h2, fun k hk => h3 k hk, h4⟩
/-- A node's slices. -/
theorem nod_slices {c : Nd.NCells} {w : World} {P : Nat → Prop} (h : nodK.fine c w P) : ∃ A n k A' n' k', c.va = .slice A n k ∧ c.vk = .slice A' n' k' := by
  obtain ⟨⟨A, cap, e, _⟩, A', cap', e', _⟩ := h
  exact ⟨A, _, cap, A', _, cap', e, e'⟩
end Go.Proofs.YtghlodpbbghcoaaGreatDoor
