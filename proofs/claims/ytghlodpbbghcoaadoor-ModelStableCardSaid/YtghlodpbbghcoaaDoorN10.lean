/- Nodes, few of all: walked. -/
import Derived.Test.YtghlodpbbghcoaaDoorN10a
namespace Go.Proofs.YtghlodpbbghcoaaDoor
open Go.Lib Go.RowKit

theorem info56 : (Tryd.prog.info? 56).map (fun i => (i.zero, i.size, i.bytes)) = some (some (.agg #[.string ⟨#[]⟩, .string ⟨#[]⟩]), 2, 32) := by kernel_rfl
/-- What the cut nodes are: fresh, small, so many at most. -/
def smallA (al : List (ByteArray × ByteArray)) : Prop := al.length ≤ 5 ∧ ∀ p ∈ al, p.1.size ≤ 30 ∧ p.2.size ≤ 30
def smallF : Fo → Prop
  | .nil => True
  | .node _ nm al tx kids rest => nm.size ≤ 30 ∧ tx.size ≤ 30 ∧ smallA al ∧ smallF kids ∧ smallF rest
theorem smallF_snoc : ∀ (l : List NCells) (c : NCells), smallF (nFo l) → c.name.size ≤ 30 → c.text.size ≤ 30 → smallA c.attrs → smallF c.kids → smallF (nFo (l ++ [c]))
  | [], c, _, h1, h2, h3, h4 => ⟨h1, h2, h3, h4, trivial⟩
  | d :: l, c, ⟨g1, g2, g3, g4, g5⟩, h1, h2, h3, h4 => ⟨g1, g2, g3, g4, smallF_snoc l c g5 h1 h2 h3 h4⟩
def CutPost (w : World) (most : Nat) (e : Ending) (w' : World) : Prop :=
  ∃ (v : Value) (l : List NCells) (m : Nat), e = .returned (.tuple #[v, .int .i64 m]) ∧ RowInv w w' v l ∧ smallF (nFo l) ∧ (nFo l).size + m ≤ most

theorem Fo.drop_in : ∀ (f : Fo) (i : Nat) (q : Bool), f.In → (Fo.drop q f i).2.In
  | f, 0, q, h => by simpa [Fo.drop] using h
  | .nil, i + 1, q, h => trivial
  | .node _ _ _ _ _ rest, i + 1, q, h => by rw [Fo.drop]; exact Fo.drop_in rest i _ h.2.2.2.2.2.2
theorem Fo.drop_size : ∀ (f : Fo) (i : Nat) (q : Bool), (Fo.drop q f i).2.size ≤ f.size
  | f, 0, q => by simp [Fo.drop]
  | .nil, i + 1, q => by simp [Fo.drop]
  | .node k _ _ _ _ rest, i + 1, q => by rw [Fo.drop, Fo.size]; have := Fo.drop_size rest i (decide (k = 2)); omega

/-- WHAT Cut DOES AT NODES. -/
def CutOk (g : Fo) : Prop := ∀ (A : Option Addr) (cap most : Nat) (B : Nat) (w : World), g.In → g.len ≤ cap → g.len ≤ maxLen → most ≤ 40 → B ≤ w.heap.size → (0 < g.len → ∃ b o, A = some ⟨b, o, none⟩ ∧ RowAt w B b o g) → Calls Tryd.prog 32 #[.slice A g.len cap, .int .i64 most] w (CutPost w most)

set_option maxRecDepth 100000 in
set_option maxHeartbeats 6400000 in
theorem cut_step (f : Fo) (ih : ∀ g : Fo, g.size < f.size → CutOk g) : CutOk f := by
  intro A cap most B w hf hcap hfl hm hBw hrow
  obtain ⟨i0, hi, hz0, hz1, hz2⟩ := info_parts info28
  obtain ⟨i1, hj, hy0, hy1, hy2⟩ := info_parts info56
  obtain ⟨n, hn⟩ : ∃ n, f.len = n := ⟨_, rfl⟩
  rw [hn] at hcap hrow hfl ⊢
  replace hn := Lib.hid hn
  replace ih := Lib.hid ih
  have hfl2 : n ≤ 9223372036854775807 := hfl
  go_enter Tryd.func32, Tryd.ntmps32
  go_wp2
  go_loopw [1, 6, 7] (fun x1 v x7 wr => ∃ (i m : Nat) (l : List NCells), i ≤ n ∧ x7 = .int .i64 i ∧ x1 = .int .i64 m ∧ Hid ((nFo l).size + m ≤ most) ∧ m + l.length ≤ most ∧ Hid (smallF (nFo l)) ∧ Hid (RowInv w wr v l)) (fun _ _ x7 _ => n - (Lib.intOf x7).toNat)
  case atStart => exact ⟨0, most, [], Nat.zero_le _, rfl, rfl, Lib.hid (by simp [nFo, Fo.size]), by simp, Lib.hid trivial, Lib.hid (RowInv.nil w)⟩
  case round =>
    obtain ⟨i, m, l, hin, rfl, rfl, hsz, hml, hsm, hinv⟩ := hrel
    by_cases hlt : i < n ∧ 0 < m
    · obtain ⟨hlt, hm0⟩ := hlt
      obtain ⟨b, o, rfl, hr⟩ := hrow (by omega)
      have hdl := Fo.drop_len f i false
      have hdr := RowAt.drop i false hr
      have hI := Fo.drop_in f i false hf
      have hks := Fo.drop_size f i false
      cases hd : Fo.drop false f i with
      | mk q g =>
      rw [hd] at hdl hdr hI hks
      cases g with
      | nil => exfalso; have := hn.out; simp only [Fo.len] at hdl; omega
      | node kd nm al tx kids rest =>
      obtain ⟨hb, h0, h1, ⟨va, h2, ⟨Aa, capa, rfl, hca, hat⟩⟩, h3, ⟨A4, cap4, h4, hc4, hk4⟩, _⟩ := hdr
      obtain ⟨_, hao, hal, _, hkl, hkI, _⟩ := hI
      have hks2 : kids.size < f.size := by simp only [Fo.size] at hks; omega
      have hB := hinv.out.below
      have hbw : b < w.heap.size := Nat.lt_of_lt_of_le hb hBw
      have c0 := (hB.cell (p := ⟨b, o + i * 5, none⟩) hbw).trans h0
      have c1 := (hB.cell (p := ⟨b, o + i * 5 + 1, none⟩) hbw).trans h1
      have c2 := (hB.cell (p := ⟨b, o + i * 5 + 2, none⟩) hbw).trans h2
      have c3 := (hB.cell (p := ⟨b, o + i * 5 + 3, none⟩) hbw).trans h3
      have c4 := (hB.cell (p := ⟨b, o + i * 5 + 4, none⟩) hbw).trans h4
      obtain ⟨m', hm'⟩ : ∃ m', m = m' + 1 := ⟨m - 1, by omega⟩
      have hm1 : (m : Int) - 1 = (m' : Int) := by omega
      have hm2 : (0 : Int) < (m : Int) := by omega
      have hi0 : (0 : Int) ≤ (i : Int) := by omega
      have hi1 : (i : Int) < (n : Int) := by omega
      replace hm' := Lib.hid hm'
      obtain ⟨na, hna⟩ : ∃ na, al.length = na := ⟨_, rfl⟩
      obtain ⟨nk, hnk⟩ : ∃ nk, kids.len = nk := ⟨_, rfl⟩
      rw [hna] at c2 hca hal
      rw [hnk] at c4 hc4 hkl
      replace hna := Lib.hid hna
      replace hnk := Lib.hid hnk
      replace hat := Lib.hid hat
      replace hk4 := Lib.hid hk4
      replace hao := Lib.hid hao
      clear h0 h1 h2 h3 h4 hdl hr hd hks
      go_upto_region 7 with fail
      obtain ⟨W1, hW1⟩ : ∃ W1, wr.alloc (.cells #[.int .i64 kd, .string nm, .slice Aa na capa, .string tx, .slice A4 nk cap4] 28) = W1 := ⟨_, rfl⟩
      have hX1 : W1.heap[wr.heap.size]? = some (.cells #[.int .i64 kd, .string nm, .slice Aa na capa, .string tx, .slice A4 nk cap4] 28) := by rw [← hW1]; exact blk_new _ _
      have hB1 : Hid (Below wr.heap.size wr W1) := Lib.hid (by rw [← hW1]; exact (Below.refl _ _).alloc (Nat.le_refl _) _)
      rw [hW1]
      obtain ⟨X, hX⟩ : ∃ X, wr.heap.size = X := ⟨_, rfl⟩
      rw [hX] at hX1 ⊢
      replace hX := Lib.hid hX
      clear hW1 c0 c1 c2 c3 c4 hB
      have d1 : W1.cell? ⟨X, 1, none⟩ = some (.string nm) := blk_cell hX1 1
      have f1 := blk_frozen hX1 1
      go_upto_region 8 with (go_at_call 49; refine (few30_any _ _).mono ?_; rintro e w2 ⟨rfl, rfl⟩)
      obtain ⟨nm2, hnm2⟩ : ∃ s, cut30 nm = s := ⟨_, rfl⟩
      have hz1' : Hid (nm2.size ≤ 30) := Lib.hid (by rw [← hnm2]; exact cut30_size nm)
      rw [hnm2]
      obtain ⟨W2, hW2⟩ : ∃ W2, w2.setCell ⟨X, 1, none⟩ (.string nm2) = W2 := ⟨_, rfl⟩
      have hX2 : W2.heap[X]? = some (.cells #[.int .i64 kd, .string nm2, .slice Aa na capa, .string tx, .slice A4 nk cap4] 28) := by rw [← hW2]; exact blk_set_self hX1 1 _
      have hB2 : Hid (Below X wr W2) := Lib.hid (by have := hB1.out; rw [hX.out] at this; rw [← hW2]; exact this.setCell (p := ⟨X, 1, none⟩) (Nat.le_refl _) _)
      rw [hW2]
      clear hW2 d1 f1 hX1 hB1 hnm2
      have d3 : W2.cell? ⟨X, 3, none⟩ = some (.string tx) := blk_cell hX2 3
      have f3 := blk_frozen hX2 3
      go_upto_region 9 with (go_at_call 49; refine (few30_any _ _).mono ?_; rintro e w3 ⟨rfl, rfl⟩)
      obtain ⟨tx2, htx2⟩ : ∃ s, cut30 tx = s := ⟨_, rfl⟩
      have hz3' : Hid (tx2.size ≤ 30) := Lib.hid (by rw [← htx2]; exact cut30_size tx)
      rw [htx2]
      obtain ⟨W3, hW3⟩ : ∃ W3, w3.setCell ⟨X, 3, none⟩ (.string tx2) = W3 := ⟨_, rfl⟩
      have hX3 : W3.heap[X]? = some (.cells #[.int .i64 kd, .string nm2, .slice Aa na capa, .string tx2, .slice A4 nk cap4] 28) := by rw [← hW3]; exact blk_set_self hX2 3 _
      have hB3 : Hid (Below X wr W3) := Lib.hid (by rw [← hW3]; exact hB2.out.setCell (p := ⟨X, 3, none⟩) (Nat.le_refl _) _)
      rw [hW3]
      clear hW3 d3 f3 hX2 hB2 htx2
      have hXw : Hid (X < W3.heap.size) := Lib.hid (blk_lt hX3)
      have hwX : Hid (w.heap.size ≤ X) := Lib.hid (by rw [← hX.out]; exact hinv.out.below.size)
      have d4 : W3.cell? ⟨X, 4, none⟩ = some (.slice A4 nk cap4) := blk_cell hX3 4
      have hcall : Calls Tryd.prog 32 #[.slice A4 nk cap4, .int .i64 m'] W3 (CutPost W3 m') := by
        rw [← hnk.out]
        refine ih.out kids hks2 A4 cap4 m' B W3 hkI (by rw [hnk.out]; exact hc4) (by rw [hnk.out]; exact hkl) (by have := hm'.out; omega) (by have := hXw.out; have := hwX.out; omega) (fun hp => ?_)
        obtain ⟨b', o', e, hr'⟩ := hk4.out hp
        exact ⟨b', o', e, (hr'.below (hinv.out.below.mono hBw)).below (hB3.out.mono (by have := hwX.out; omega))⟩
      obtain ⟨v, hv⟩ : ∃ v, v = u6 := ⟨_, rfl⟩
      rw [← hv] at hinv ⊢
      clear hv
      obtain ⟨wo, rfl⟩ : ∃ wo, wo = wr := ⟨_, rfl⟩
      go_upto_region 12 with (go_at_call 32; refine hcall.mono ?_; rintro e w4 ⟨v2, l2, m2, rfl, hi2, hs2, hz2'⟩; obtain ⟨A2, n2, cap2, rfl, hn2, hc2, hk2⟩ := hi2.fineKids; have hX4 := blk_below hX3 hi2.below hXw.out; have e4 := blk_cell hX4 4; have f4 := blk_frozen hX4 4; replace hn2 := Lib.hid hn2; replace hk2 := Lib.hid hk2)
      obtain ⟨W5, hW5⟩ : ∃ W5, w4.setCell ⟨X, 4, none⟩ (.slice A2 n2 cap2) = W5 := ⟨_, rfl⟩
      have hX5 : Hid (W5.heap[X]? = some (.cells #[.int .i64 kd, .string nm2, .slice Aa na capa, .string tx2, .slice A2 n2 cap2] 28)) := Lib.hid (by rw [← hW5]; exact blk_set_self hX4 4 _)
      have hB5 : Hid (Below X wo W5) := Lib.hid (by rw [← hW5]; exact (hB3.out.trans (hi2.below.mono (Nat.le_of_lt hXw.out))).setCell (p := ⟨X, 4, none⟩) (Nat.le_refl _) _)
      have hK5 : Hid (0 < n2 → ∃ b o, A2 = some ⟨b, o, none⟩ ∧ NRow W5 (fun k => X < k ∧ k < W5.heap.size) b o (nFo l2)) := Lib.hid (fun hp => by
        obtain ⟨b', o', e, hr'⟩ := hk2.out hp
        refine ⟨b', o', e, hr'.move ?_ ?_⟩
        · rw [← hW5]
          exact Stays.set (fun h => by have h1 : W3.heap.size ≤ X := h.1; have := hXw.out; omega) _
        · intro k hk
          refine ⟨Nat.lt_of_lt_of_le hXw.out hk.1, ?_⟩
          rw [← hW5]
          simpa using hk.2)
      have hXw5 : Hid (X < W5.heap.size) := Lib.hid (blk_lt hX5.out)
      rw [hW5]
      clear hW5 e4 f4 hX4 hk2 d4 hcall hX3
      replace hc2 := Lib.hid hc2
      replace hi2 := Lib.hid hi2
      replace hs2 := Lib.hid hs2
      go_loopw [9, 10] (fun va' x10 wr => ∃ (k : Nat) (al' : List (ByteArray × ByteArray)), k ≤ na ∧ k ≤ 5 ∧ x10 = .int .i64 k ∧ Hid (al'.length = k) ∧ Hid (∀ p ∈ al', p.1.size ≤ 30 ∧ p.2.size ≤ 30) ∧ Hid (wr.ownsRow W5.heap.size 56 2 va' k (attrCells al')) ∧ Hid (Below W5.heap.size W5 wr)) (fun _ x10 _ => 5 - (Lib.intOf x10).toNat)
      case atStart => exact ⟨0, [], Nat.zero_le _, Nat.zero_le _, rfl, Lib.hid rfl, Lib.hid (fun p hp => absurd hp (by simp)), Lib.hid (World.ownsRow_nil _ _ _ _), Lib.hid (Below.refl _ _)⟩
      case round =>
        obtain ⟨k, al', hk1, hk5, rfl, hlk, hsa, hoa, hBa⟩ := hrel
        have hX6 : wr.heap[X]? = _ := blk_below hX5.out hBa.out hXw5.out
        have g0 : wr.cell? ⟨X, 0, none⟩ = some (.int .i64 kd) := blk_cell hX6 0
        have g1 : wr.cell? ⟨X, 1, none⟩ = some (.string nm2) := blk_cell hX6 1
        have g2 : wr.cell? ⟨X, 2, none⟩ = some (.slice Aa na capa) := blk_cell hX6 2
        have g3 : wr.cell? ⟨X, 3, none⟩ = some (.string tx2) := blk_cell hX6 3
        have g4 : wr.cell? ⟨X, 4, none⟩ = some (.slice A2 n2 cap2) := blk_cell hX6 4
        have gf := blk_frozen hX6 2
        by_cases hkk : k < na ∧ k < 5
        · obtain ⟨hka, hk5'⟩ := hkk
          have hBw' : Hid (Below w.heap.size w wr) := Lib.hid (hinv.out.below.trans ((hB5.out.mono hwX.out).trans (hBa.out.mono (by have := hwX.out; have := hXw5.out; omega))))
          obtain ⟨b2, o2, rfl, hb2, h5, h6⟩ := hat.out k (by rw [hna.out]; exact hka)
          obtain ⟨s0, hs0⟩ : ∃ s, (al[k]'(by rw [hna.out]; exact hka)).1 = s := ⟨_, rfl⟩
          obtain ⟨s1, hs1⟩ : ∃ s, (al[k]'(by rw [hna.out]; exact hka)).2 = s := ⟨_, rfl⟩
          rw [hs0] at h5
          rw [hs1] at h6
          have hb2w : b2 < w.heap.size := Nat.lt_of_lt_of_le hb2 hBw
          have q5 : wr.cell? ⟨b2, o2 + k * 2, none⟩ = some (.string s0) := (hBw'.out.cell (p := ⟨b2, _, none⟩) hb2w).trans h5
          have q6 : wr.cell? ⟨b2, o2 + k * 2 + 1, none⟩ = some (.string s1) := (hBw'.out.cell (p := ⟨b2, _, none⟩) hb2w).trans h6
          have hk0 : (0 : Int) ≤ (k : Int) := by omega
          have hk3 : (k : Int) < (na : Int) := by omega
          have hb5 : Hid (b2 < W5.heap.size) := Lib.hid (Nat.lt_of_lt_of_le hb2w (Nat.le_trans hwX.out (Nat.le_of_lt hXw5.out)))
          have hBw5 : Hid (Below w.heap.size w W5) := Lib.hid (hinv.out.below.trans (hB5.out.mono hwX.out))
          have p5 : Hid (W5.cell? ⟨b2, o2 + k * 2, none⟩ = some (.string s0)) := Lib.hid ((hBw5.out.cell (p := ⟨b2, _, none⟩) hb2w).trans h5)
          have p6 : Hid (W5.cell? ⟨b2, o2 + k * 2 + 1, none⟩ = some (.string s1)) := Lib.hid ((hBw5.out.cell (p := ⟨b2, _, none⟩) hb2w).trans h6)
          clear h5 h6 hs0 hs1
          go_upto_region 14 with fail
          have hbX : b2 < wr.heap.size := Nat.lt_of_lt_of_le hb2w hBw'.out.size
          have hXr := blk_lt hX6
          have hS2 : ∀ o, (wr.alloc o).cell? ⟨X, 2, none⟩ = some (.slice (some ⟨b2, o2, none⟩) na capa) := fun o => (World.cell?_alloc_lt (a := ⟨X, 2, none⟩) wr o hXr).trans g2
          have hS5 : ∀ o, (wr.alloc o).cell? ⟨b2, o2 + k * 2, none⟩ = some (.string s0) := fun o => (World.cell?_alloc_lt (a := ⟨b2, o2 + k * 2, none⟩) wr o hbX).trans q5
          have hS6 : ∀ o, (wr.alloc o).cell? ⟨b2, o2 + k * 2 + 1, none⟩ = some (.string s1) := fun o => (World.cell?_alloc_lt (a := ⟨b2, o2 + k * 2 + 1, none⟩) wr o hbX).trans q6
          replace hbX := Lib.hid hbX
          replace hXr := Lib.hid hXr
          go_region_held3 (fun w' => w'.cell? ⟨X, 2, none⟩ = some (.slice (some ⟨b2, o2, none⟩) na capa) ∧ w'.cell? ⟨b2, o2 + k * 2, none⟩ = some (.string s0) ∧ w'.cell? ⟨b2, o2 + k * 2 + 1, none⟩ = some (.string s1)) (first | exact ⟨g2, q5, q6⟩ | exact ⟨hS2 _, hS5 _, hS6 _⟩ | exact ⟨r2, r5, r6⟩)
            (first
              | (go_at_call 49; refine (few30_any _ _).mono ?_; rintro e w6 ⟨rfl, rfl⟩)
              | (refine step_append_lies _ (by rfl) _ _ _ (by rfl) W5.heap.size 56 i1 _ 2 32 Tryd.underlying26 hj hy0 hy1 hy2 rfl (by decide) u9 k _ (by rfl) (hoa.out.alloc _).drew ⟨_, 0, none⟩ 1 1 [.string (cut30 s0), .string (cut30 s1)] (by rfl) (by rfl) (cells_new _ _ _) (by intro u hu; simp at hu; rcases hu with rfl | rfl <;> rfl) (by omega) (by unfold maxLen; omega) (by omega) (by have := hBa.out.size; simp; omega) _ rfl ?_
                 intro ga ca w7 hown7 hg7 hat7 hlt7
                 have hB7 : Hid (Below W5.heap.size W5 w7) := Lib.hid ((hBa.out.alloc hBa.out.size _).drew.grown hg7 (by have := hBa.out.size; simp; omega) (fun j hj => (hoa.out.lt j hj).1))
                 have r2 : w7.cell? ⟨X, 2, none⟩ = some (.slice (some ⟨b2, o2, none⟩) na capa) := blk_cell (blk_below hX5.out hB7.out hXw5.out) 2
                 have r5 : w7.cell? ⟨b2, o2 + k * 2, none⟩ = some (.string s0) := (hB7.out.cell (p := ⟨b2, _, none⟩) hb5.out).trans p5.out
                 have r6 : w7.cell? ⟨b2, o2 + k * 2 + 1, none⟩ = some (.string s1) := (hB7.out.cell (p := ⟨b2, _, none⟩) hb5.out).trans p6.out))
          all_goals go_wp2_with fail
          all_goals
            refine ⟨⟨k + 1, al' ++ [(cut30 s0, cut30 s1)], by omega, by omega, by simp, Lib.hid (by rw [List.length_append, hlk.out]; rfl), Lib.hid ?_, Lib.hid (by rw [attrCells_snoc]; exact hown7), hB7⟩, by simp [Lib.intOf]; omega⟩
            intro p hp
            rcases List.mem_append.1 hp with hp | hp
            · exact hsa.out p hp
            · rw [List.mem_singleton.1 hp]
              exact ⟨cut30_size _, cut30_size _⟩
        · have har := own_attrs (al := al') (by have := hoa.out; rwa [← hlk.out] at this)
          obtain ⟨Aq, capq, hu9, hcq, _⟩ := id har
          subst hu9
          replace har := Lib.hid har
          rw [hlk.out] at hcq hoa har ⊢
          replace hcq := Lib.hid hcq
          have hBt : Hid (Below X wo wr) := Lib.hid (hB5.out.trans (hBa.out.mono (Nat.le_of_lt hXw5.out)))
          go_upto_region 16 with fail
          all_goals
            obtain ⟨W7, hW7⟩ : ∃ W7, wr.setCell ⟨X, 2, none⟩ (.slice Aq k capq) = W7 := ⟨_, rfl⟩
            have hX7 : W7.heap[X]? = some (.cells #[.int .i64 kd, .string nm2, .slice Aq k capq, .string tx2, .slice A2 n2 cap2] 28) := by rw [← hW7]; exact blk_set_self hX6 2 _
            have hB7 : Hid (Below wo.heap.size wo W7) := Lib.hid (by rw [hX.out, ← hW7]; exact hBt.out.setCell (p := ⟨X, 2, none⟩) (Nat.le_refl _) _)
            have hs7 : Hid (W7.heap.size = wr.heap.size) := Lib.hid (by rw [← hW7]; simp)
            have hfine : Hid (NCells.Fine W7 (fun k => X ≤ k ∧ k < W7.heap.size) ⟨kd, nm2, al', tx2, nFo l2, .slice Aq k capq, .slice A2 n2 cap2⟩) := Lib.hid (by
              refine ⟨har.out.move ?_ ?_, A2, cap2, by rw [← hn2.out], by rw [← hn2.out]; exact hc2.out, fun hp => ?_⟩
              · rw [← hW7]
                exact Stays.set (fun h => by have := hoa.out.lt X h; have := hXw5.out; omega) _
              · intro x hx
                have := hoa.out.lt x hx
                have := hXw5.out
                exact ⟨by omega, by rw [hs7.out]; omega⟩
              · obtain ⟨b', o', e, hr'⟩ := hK5.out (by rw [hn2.out]; exact hp)
                refine ⟨b', o', e, hr'.move ((Stays.below hBa.out (fun x hx => hx.2)).trans ?_) ?_⟩
                · rw [← hW7]
                  exact Stays.set (fun h => Nat.lt_irrefl _ h.1) _
                · intro x hx
                  have := hBa.out.size
                  exact ⟨Nat.le_of_lt hx.1, by rw [hs7.out]; omega⟩)
            rw [hW7]
            clear hW7 g0 g1 g2 g3 g4 gf hX6
            have e0 := blk_cell hX7 0
            have e1 := blk_cell hX7 1
            have e2 := blk_cell hX7 2
            have e3 := blk_cell hX7 3
            have e4 := blk_cell hX7 4
            simp only [List.getElem?_toArray, List.getElem?_cons_zero, List.getElem?_cons_succ] at e0 e1 e2 e3 e4
            have hinv7 : Hid (RowInv w W7 v l) := Lib.hid (hinv.out.carry hB7.out)
            have hll : l.length ≤ 40 := by omega
            clear hX7
            go_wp2_with (at_builtin; refine wpList_append_own_at _ rfl _ _ 23 rfl w.heap.size 28 i0 _ 5 88 Tryd.underlying23 hi hz0 hz1 hz2 rfl (by decide) v l.length (nCells l) rfl (hinv7.out.own.alloc _) ⟨_, 0, none⟩ 1 1 [.int .i64 kd, .string nm2, .slice Aq k capq, .string tx2, .slice A2 n2 cap2] rfl rfl (cells_new _ _ _) (by intro u hu; simp at hu; rcases hu with rfl | rfl | rfl | rfl | rfl <;> rfl) (by unfold maxLen; omega) (by omega) (by have := hinv7.out.below.size; simp; omega) ?_; intro v' w8 hown' hg8 hnil8 hat8; go_frame)
            have hm3 := hm'.out
            refine ⟨⟨i + 1, m2, l ++ [⟨kd, nm2, al', tx2, nFo l2, .slice Aq k capq, .slice A2 n2 cap2⟩], by omega, by simp, rfl, Lib.hid ?_, by simp; omega, Lib.hid ?_, Lib.hid ?_⟩, by simp [Lib.intOf]; omega⟩
            · have := hsz.out
              rw [nFo_snoc]
              simp only
              omega
            · exact smallF_snoc _ _ hsm.out hz1'.out hz3'.out ⟨by rw [hlk.out]; exact hk5, hsa.out⟩ hs2.out
            · exact hinv7.out.push (c := ⟨kd, nm2, al', tx2, nFo l2, .slice Aq k capq, .slice A2 n2 cap2⟩) hwX.out (fun x hx => by rw [← hX.out]; exact (hinv.out.own.lt x hx).2) hfine.out hown' hg8 hat8
    · go_wp2
      all_goals go_ret2
      all_goals exact ⟨_, l, m, rfl, hinv.out, hsm.out, hsz.out⟩
theorem cut_ok (f : Fo) : CutOk f := by
  obtain ⟨n, hn⟩ : ∃ n, f.size = n := ⟨_, rfl⟩
  induction n using Nat.strongRecOn generalizing f with
  | _ n ih =>
    subst hn
    exact cut_step f (fun g hg => ih _ hg g rfl)
def FewPost (w : World) (e : Ending) (w' : World) : Prop := ∃ (v : Value) (l : List NCells), e = .returned v ∧ RowInv w w' v l ∧ smallF (nFo l) ∧ (nFo l).size ≤ 40

set_option maxRecDepth 8192 in
theorem few_any (f : Fo) (A : Option Addr) (cap : Nat) (B : Nat) (w : World) (hf : f.In) (hc : f.len ≤ cap) (hl : f.len ≤ maxLen) (hB : B ≤ w.heap.size) (hr : 0 < f.len → ∃ b o, A = some ⟨b, o, none⟩ ∧ RowAt w B b o f) :
    Calls Tryd.prog 11 #[.slice A f.len cap] w (FewPost w) := by
  have hcut := cut_ok f A cap 40 B w hf hc hl (Nat.le_refl _) hB hr
  obtain ⟨n, hn⟩ : ∃ n, f.len = n := ⟨_, rfl⟩
  rw [hn] at hcut ⊢
  clear hn hr hc hl
  go_enter Tryd.func11, Tryd.ntmps11
  go_wp2_with (go_at_call 32; refine hcut.mono ?_; rintro e w1 ⟨v, l, m, rfl, h1, h2, h3⟩)
  go_ret
  exact ⟨v, l, rfl, h1, h2, by omega⟩
end Go.Proofs.YtghlodpbbghcoaaDoor
