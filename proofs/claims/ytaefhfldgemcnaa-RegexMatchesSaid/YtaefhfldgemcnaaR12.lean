/- Walks over expressions, twelfth part: the net of an expression. -/
import Derived.Test.YtaefhfldgemcnaaR11
import Derived.Test.YtaefhfldgemcnaaR8
namespace Go.Proofs.Ytaefhfldgemcnaa
open Go.RowKit

set_option maxHeartbeats 800000 in
theorem inner_any (g : Nat) (ty : TypeId) (u : Value) (w : World) (hg : w.heap[g]? = some (.cells #[.iface ty u] 80 (0, 0))) :
    Calls Try.prog 57 #[.pointer (some ⟨g, 0, none⟩)] w fun e w' => e = .returned (.iface ty u) ∧ w = w' := by
  have c0 : w.cell? ⟨g, 0, none⟩ = some (.iface ty u) := blk_cell hg 0
  clear hg
  go_enter Try.func57, Try.ntmps57
  go_wp2_with fail
  go_ret
  exact ⟨rfl, rfl⟩

theorem own_take {w : World} {base : Nat} {e : TypeId} {size n c k : Nat} {A : Option Addr} {xs : List Value} (h : w.ownsRow base e size (.slice A n c) n xs) (hk : k ≤ n) : w.ownsRow base e size (.slice A k c) k (xs.take (k * size)) := by
  obtain ⟨h1, h2⟩ := h
  have hm : k * size ≤ n * size := Nat.mul_le_mul_right _ hk
  refine ⟨by rw [List.length_take, h1]; omega, ?_⟩
  rcases h2 with ⟨hv, hn⟩ | ⟨g, cap, cur, hv, hg, hh, hcap, hmax, hcs, ht⟩
  · subst hn
    obtain rfl : k = 0 := by omega
    exact .inl ⟨hv, rfl⟩
  · simp only [Value.slice.injEq] at hv
    obtain ⟨rfl, _, rfl⟩ := hv
    exact .inr ⟨g, c, cur, rfl, hg, hh, by omega, hmax, hcs, by rw [← ht, List.take_take, Nat.min_eq_left hm]⟩

theorem job_at {w : World} {base n c k : Nat} {A : Option Addr} {js : List JV} (h : w.ownsRow base 108 3 (.slice A n c) n (flat jobCells js)) (hn : n = js.length) (hk : k < n) :
    ∃ g o j, A = some ⟨g, o, none⟩ ∧ g < w.heap.size ∧ Hid (js[k]? = some j) ∧ w.cell? ⟨g, o + k * 3, none⟩ = some j.v ∧ w.cell? ⟨g, o + k * 3 + 1, none⟩ = some (.int .i64 j.src) ∧ w.cell? ⟨g, o + k * 3 + 2, none⟩ = some (.int .i64 j.dst) := by
  have hj : js[k]? = some js[k] := List.getElem?_eq_getElem (by omega)
  have g := fun j (hj' : j < 3) => flat_get jobCells_length hj hj'
  have hc := CellsAt.of_own h
  obtain ⟨b, o, rfl, hB, c0⟩ := hc.at_ (g 0 (by omega))
  obtain ⟨b1, o1, e1, _, c1⟩ := hc.at_ (g 1 (by omega))
  obtain ⟨b2, o2, e2, _, c2⟩ := hc.at_ (g 2 (by omega))
  simp only [Option.some.injEq, Addr.mk.injEq] at e1 e2
  obtain ⟨rfl, rfl, _⟩ := e1
  obtain ⟨rfl, rfl, _⟩ := e2
  exact ⟨b, o, js[k], rfl, hB, hj, c0, c1, c2⟩

/-- What Net hands back. -/
def NetGot (t : T) (w : World) (e : Ending) (w' : World) : Prop :=
  (∃ A c, e = .returned (.agg #[.int .i64 (netT t).1, .int .i64 0, .int .i64 1, .slice A (netT t).2.length c]) ∧ EdgesAt w' w'.heap.size A (netT t).2) ∧ Below w.heap.size w w'

theorem runNet_step {f st : Nat} {es : List Edge} {js : List Job} {j : Job} (hj : js[js.length - 1]? = some j) (hf : 1 ≤ f) :
    runNet f st es js = runNet (f - 1) (jobNet st j.t j.frm j.to).st (es ++ (jobNet st j.t j.frm j.to).es) (popL js ++ (jobNet st j.t j.frm j.to).js) := by
  obtain ⟨f', rfl⟩ : ∃ f', f = f' + 1 := ⟨f - 1, by omega⟩
  rw [runNet, hj]
  rfl
theorem runNet_end {f st : Nat} {es : List Edge} : runNet f st es [] = (st, es) := by
  cases f with
  | zero => rfl
  | succ f => rfl
theorem jsizes_pop {js : List Job} {j : Job} (hj : js[js.length - 1]? = some j) : jsizes js = jsizes (popL js) + j.t.size := by
  have hl : js.length - 1 < js.length := (List.getElem?_eq_some_iff.1 hj).1
  have h1 : js = popL js ++ [j] := by
    have := take_snoc hj
    rw [List.take_of_length_le (by omega)] at this
    exact this
  conv => lhs; rw [h1]
  rw [jsizes_append]
  simp [jsizes]
theorem popL_length {α : Type} (l : List α) : (popL l).length = l.length - 1 := by simp [popL]

theorem setNet_net (N b st a c : Nat) (m : List Bool) (es : List Edge) (jvs : List JV) (w : World) (hm : m.length = 95) (h : MkAt w b st es jvs) (hn : es.length ≤ 900000) :
    Calls Try.prog 108 #[.agg (bcells m), .pointer (some ⟨b, 0, none⟩), .int .i64 a, .int .i64 c] w (NetPost N b (jobNet st (.set m) a c) es jvs w) := by
  refine (setNet_any b st a c m es jvs w hm h hn).mono ?_
  rintro e w' ⟨rfl, h1, h2⟩
  exact ⟨rfl, ⟨[], by rw [List.append_nil]; exact h1, JobsOk.nil _ _⟩, h2⟩
theorem blk_setCells4 {w : World} {g : Nat} {t : TypeId} {a b c d x y z u : Value} (h : w.heap[g]? = some (.cells #[a, b, c, d] t (0, 0))) :
    ((((w.setCell ⟨g, 0, none⟩ x).setCell ⟨g, 1, none⟩ y).setCell ⟨g, 2, none⟩ z).setCell ⟨g, 3, none⟩ u).heap[g]? = some (.cells #[x, y, z, u] t (0, 0)) :=
  blk_set_self (blk_set_self (blk_set_self (blk_set_self h 0 x) 1 y) 2 z) 3 u

theorem info24s : (Try.prog.info? 24).map (·.size) = some 4 := by kernel_rfl

set_option maxRecDepth 8192 in
set_option maxHeartbeats 6400000 in
theorem net_any (g : Nat) (ty : TypeId) (u : Value) (t : T) (w : World) (hg : w.heap[g]? = some (.cells #[.iface ty u] 80 (0, 0))) (hp : PartAt w (· < w.heap.size) (.iface ty u) t) (hs : t.size ≤ 1000) :
    Calls Try.prog 39 #[.pointer (some ⟨g, 0, none⟩)] w (NetGot t w) := by
  obtain ⟨N, hN⟩ : ∃ N, w.heap.size = N := ⟨_, rfl⟩
  have hbN : Hid (Below N w ((w.alloc (.cells #[.int .i64 0, .int .i64 0, .int .i64 0, .slice none 0 0] 24)).alloc (.cells #[.int .i64 2, .slice none 0 0, .slice none 0 0] 105))) := by
    rw [← hN]
    exact ((Below.refl _ _).alloc (Nat.le_refl _) _).alloc (by simp) _
  have hgl := blk_lt hg
  have hmk0 : Hid (MkAt ((w.alloc (.cells #[.int .i64 0, .int .i64 0, .int .i64 0, .slice none 0 0] 24)).alloc (.cells #[.int .i64 2, .slice none 0 0, .slice none 0 0] 105)) (w.heap.size + 1) 2 [] []) :=
    ⟨none, 0, none, 0, blk_new' (by simp), World.ownsRow_nil _ _ _ _, World.ownsRow_nil _ _ _ _⟩
  have hres0 : Hid (((w.alloc (.cells #[.int .i64 0, .int .i64 0, .int .i64 0, .slice none 0 0] 24)).alloc (.cells #[.int .i64 2, .slice none 0 0, .slice none 0 0] 105)).heap[N]? = some (.cells #[.int .i64 0, .int .i64 0, .int .i64 0, .slice none 0 0] 24 (0, 0))) := by
    rw [← hN]
    exact blk_alloc (blk_new _ _) _
  have Hg := Lib.hid hg
  rw [hN] at hp
  have Hp := Lib.hid hp
  clear hg hp
  go_enter Try.func39, Try.ntmps39
  go_wp2_with fail
  refine (inner_any g ty u _ (blk_alloc (blk_alloc Hg.out _) _)).mono ?_
  rintro e w1 ⟨rfl, rfl⟩
  go_wp2_with fail
  generalize (w.alloc _).alloc _ = W at hbN hmk0 hres0 ⊢
  rw [hN] at hmk0 hgl
  refine (mkPart_any (N + 1) 2 0 1 ty u [] [] W hmk0.out (by simp)).mono ?_
  rintro e w2 ⟨rfl, hmk2, hb2, hkt2⟩
  have Hmk2 : Hid (MkAt w2 (N + 1) 2 [] [⟨.iface ty u, 0, 1⟩]) := hmk2
  have Hb2 := Lib.hid (hbN.out.trans (hb2.mono (by omega)))
  have Hres2 := Lib.hid (blk_below hres0.out hb2 (by omega))
  have Hjo2 : Hid (JobsOk w2 N [⟨.iface ty u, 0, 1⟩] [⟨t, 0, 1⟩]) := JobsOk.one 0 1 (Hp.out.move (below_moves Hb2.out (Nat.le_refl _)))
  clear hmk2 hb2 hkt2 hmk0 hres0 hbN
  go_wp2_with fail
  go_loopg [] t.size (fun q wr => ∃ (f st : Nat) (es : List Edge) (jvs : List JV) (js : List Job), q = jsizes js ∧ jsizes js + 1 ≤ f ∧ jsizes js ≤ t.size ∧ Hid (netT t = runNet f st es js) ∧ Hid (JobsOk wr N jvs js) ∧ Hid (MkAt wr (N + 1) st es jvs) ∧ Hid (Below N w wr) ∧
      Hid (wr.heap[N]? = some (.cells #[.int .i64 0, .int .i64 0, .int .i64 0, .slice none 0 0] 24 (0, 0))) ∧ st + 2 * jsizes js ≤ 2 * t.size + 1 + js.length ∧ es.length + 95 * jsizes js ≤ 95 * t.size)
  case atStart =>
    refine ⟨t.size + 1, 2, [], [⟨.iface ty u, 0, 1⟩], [⟨t, 0, 1⟩], ?_, ?_, ?_, rfl, Hjo2, Hmk2, Hb2, Hres2, ?_, ?_⟩ <;> simp [jsizes] <;> omega
  case round =>
    clear Hjo2 Hmk2 Hb2 Hres2
    obtain ⟨f, st, es, jvs, js, rfl, hf, hjt, htot, hjo, hmk, hb, hres, hst, hes⟩ := hrel
    obtain ⟨A, c, A', c', h1, h2, h3⟩ := hmk.out
    have hjl := hjo.out.1
    have hjs := jsizes_len js
    have b0 : wr.cell? ⟨N + 1, 0, none⟩ = some (.int .i64 st) := blk_cell h1 0
    have b1 : wr.cell? ⟨N + 1, 1, none⟩ = some (.slice A es.length c) := blk_cell h1 1
    have b2 : wr.cell? ⟨N + 1, 2, none⟩ = some (.slice A' jvs.length c') := blk_cell h1 2
    have bf : wr.frozen? ⟨N + 1, 2, none⟩ = false := blk_frozen h1 2
    have hbl := blk_lt h1
    have hcap := own_cap h3
    rcases Nat.eq_zero_or_pos jvs.length with h0 | h0
    · have hj0 : js = [] := List.eq_nil_of_length_eq_zero (by omega)
      subst hj0
      have hnet : netT t = (st, es) := by rw [htot.out, runNet_end]
      have Hnet := Lib.hid hnet
      have Hres := Lib.hid hres.out
      have H2 := Lib.hid h2
      have hN3 : (N : Nat) < N + 1 := by omega
      rw [h0] at b2
      have r0 : wr.frozen? ⟨N, 0, none⟩ = false := blk_frozen hres.out 0
      have r1 : wr.frozen? ⟨N, 1, none⟩ = false := blk_frozen hres.out 1
      have r2 : wr.frozen? ⟨N, 2, none⟩ = false := blk_frozen hres.out 2
      have r3 : wr.frozen? ⟨N, 3, none⟩ = false := blk_frozen hres.out 3
      have q0 : wr.cell? ⟨N, 0, none⟩ = some (.int .i64 0) := blk_cell hres.out 0
      have q1 : wr.cell? ⟨N, 1, none⟩ = some (.int .i64 0) := blk_cell hres.out 1
      have q2 : wr.cell? ⟨N, 2, none⟩ = some (.int .i64 0) := blk_cell hres.out 2
      have q3 : wr.cell? ⟨N, 3, none⟩ = some (.slice none 0 0) := blk_cell hres.out 3
      clear h1 h2 h3 htot hjo hmk hnet bf
      go_upto_region 8 with fail
      have Hr4 := Lib.hid (blk_setCells4 (x := .int .i64 (st : Int)) (y := .int .i64 0) (z := .int .i64 1) (u := .slice A es.length c) Hres.out)
      have Hb4 : Hid (Below N w ((((wr.setCell ⟨N, 0, none⟩ (.int .i64 (st : Int))).setCell ⟨N, 1, none⟩ (.int .i64 0)).setCell ⟨N, 2, none⟩ (.int .i64 1)).setCell ⟨N, 3, none⟩ (.slice A es.length c))) :=
        (((hb.out.setCell (p := ⟨N, 0, none⟩) (Nat.le_refl _) _).setCell (p := ⟨N, 1, none⟩) (Nat.le_refl _) _).setCell (p := ⟨N, 2, none⟩) (Nat.le_refl _) _).setCell (p := ⟨N, 3, none⟩) (Nat.le_refl _) _
      have Ho4 : Hid (((((wr.setCell ⟨N, 0, none⟩ (.int .i64 (st : Int))).setCell ⟨N, 1, none⟩ (.int .i64 0)).setCell ⟨N, 2, none⟩ (.int .i64 1)).setCell ⟨N, 3, none⟩ (.slice A es.length c)).ownsRow (N + 1 + 1) 35 4 (.slice A es.length c) es.length (flat edgeCells es)) :=
        ownsRow_setCell_below (ownsRow_setCell_below (ownsRow_setCell_below (ownsRow_setCell_below H2.out (a := ⟨N, 0, none⟩) (by simp; omega) _) (a := ⟨N, 1, none⟩) (by simp; omega) _) (a := ⟨N, 2, none⟩) (by simp; omega) _) (a := ⟨N, 3, none⟩) (by simp; omega) _
      go_region
      all_goals go_wp2_with fail
      refine bodyPost_ret (results_cell_row rfl _ _ N 24 _ (0, 0) _ rfl Hr4.out Try.underlying24 rfl info24s) rfl ⟨⟨A, c, ?_, ?_⟩, ?_⟩
      · rw [Hnet.out]
      · rw [Hnet.out]
        exact CellsAt.of_own Ho4.out
      · rw [hN]
        exact Hb4.out.drew
    · obtain ⟨k, hk⟩ : ∃ k, jvs.length = k + 1 := ⟨jvs.length - 1, by omega⟩
      rw [hk] at b2 hcap h3 h1
      obtain ⟨g9, o9, j9, rfl, hg9, hj9, j0, j1, j2⟩ := job_at (k := k) h3 hk.symm (by omega)
      obtain ⟨jb, hjb⟩ : ∃ jb, js[k]? = some jb := ⟨_, List.getElem?_eq_getElem (by omega)⟩
      obtain ⟨e1, e2, hpt⟩ := hjo.out.2 k j9 jb hj9.out hjb
      obtain ⟨ty9, u9, hv9⟩ := hpt.form
      rw [hv9] at j0 hpt
      rw [e1] at j1
      rw [e2] at j2
      have hpos : (0 : Int) < (k : Int) + 1 := by omega
      have hkb : k ≤ 1000 := by omega
      have H1 := Lib.hid h1
      have H2 := Lib.hid h2
      have H3 := Lib.hid h3
      have Hpt := Lib.hid hpt
      have Hjb := Lib.hid hjb
      have Hk := Lib.hid hk
      clear h1 h2 h3 hpt hjb e1 e2 hv9 hj9 hk
      go_upto_region 7 with fail
      have hmk7 : MkAt ((wr.setCell ⟨N + 1, 2, none⟩ (.slice (some ⟨g9, o9, none⟩) k c')).alloc (.cells #[.iface ty9 u9, .int .i64 jb.frm, .int .i64 jb.to] 108)) (N + 1) st es (jvs.take k) := by
        have hkl : (jvs.take k).length = k := by rw [List.length_take]; have := Hk.out; omega
        refine ⟨A, c, some ⟨g9, o9, none⟩, c', ?_, ?_, ?_⟩
        · rw [hkl]
          exact blk_alloc (blk_set_self H1.out 2 _) _
        · exact (ownsRow_setCell_below H2.out (a := ⟨N + 1, 2, none⟩) (by simp) _).alloc _
        · rw [hkl, flat_take jobCells_length]
          exact (ownsRow_setCell_below (own_take H3.out (Nat.le_succ k)) (a := ⟨N + 1, 2, none⟩) (by simp) _).alloc _
      have hbx7 : ((wr.setCell ⟨N + 1, 2, none⟩ (.slice (some ⟨g9, o9, none⟩) k c')).alloc (.cells #[.iface ty9 u9, .int .i64 jb.frm, .int .i64 jb.to] 108)).heap[wr.heap.size]? = some (.cells #[.iface ty9 u9, .int .i64 jb.frm, .int .i64 jb.to] 108 (0, 0)) := blk_new' (by simp)
      have hb7 : Below (N + 1) wr ((wr.setCell ⟨N + 1, 2, none⟩ (.slice (some ⟨g9, o9, none⟩) k c')).alloc (.cells #[.iface ty9 u9, .int .i64 jb.frm, .int .i64 jb.to] 108)) := ((Below.refl _ _).setCell (p := ⟨N + 1, 2, none⟩) (Nat.le_refl _) _).alloc (by simp; omega) _
      clear b0 b1 b2 bf j0 j1 j2
      generalize World.alloc (wr.setCell _ _) _ = W7 at hmk7 hbx7 hb7 ⊢
      have q0 : W7.cell? ⟨wr.heap.size, 0, none⟩ = some (.iface ty9 u9) := blk_cell hbx7 0
      have q1 : W7.cell? ⟨wr.heap.size, 1, none⟩ = some (.int .i64 jb.frm) := blk_cell hbx7 1
      have q2 : W7.cell? ⟨wr.heap.size, 2, none⟩ = some (.int .i64 jb.to) := blk_cell hbx7 2
      have Hmk7 := Lib.hid hmk7
      have Hb7 := Lib.hid (hb.out.trans (hb7.mono (by omega)))
      have Hres7 := Lib.hid (blk_below hres.out hb7 (by omega))
      have Hpt7 : Hid (PartAt W7 (· < N) (.iface ty9 u9) jb.t) := Hpt.out.move (below_moves hb7 (by omega))
      have hjk : js.length = k + 1 := by have := Hk.out; omega
      have Hlast : Hid (js[js.length - 1]? = some jb) := by show _ = _; rw [hjk]; exact Hjb.out
      have Hjo7 : Hid (JobsOk W7 N (jvs.take k) (popL js)) := by
        have := (hjo.out.take k).below hb7 (by omega)
        show JobsOk _ _ _ _
        unfold popL
        rw [hjk]
        exact this
      have hcost := jobNet_cost st jb.t jb.frm jb.to
      have hpop := jsizes_pop Hlast.out
      have hkl : (jvs.take k).length = k := by rw [List.length_take]; have := Hk.out; omega
      clear hmk7 hbx7 hb7 H1 H2 H3 Hpt Hjb hjo hmk hb hres
      obtain ⟨tt, htt⟩ : ∃ tt, jb.t = tt := ⟨_, rfl⟩
      have hpt := Hpt7.out
      rw [htt] at hpt
      have Htt := Lib.hid htt
      clear Hpt7 htt
      cases hpt with
        | set hm =>
          go_wp2_with fail
          refine (setNet_net N (N + 1) st jb.frm jb.to _ es (jvs.take k) W7 hm Hmk7.out (by omega)).mono ?_
          rintro e w8 ⟨rfl, ⟨jn, hmk8, hjo8⟩, hb8⟩
          have Hmk8 := Lib.hid hmk8
          have Hjo8 : Hid (JobsOk w8 N (jvs.take k ++ jn) (popL js ++ (jobNet st jb.t jb.frm jb.to).js)) := by
            show JobsOk _ _ _ _
            rw [Htt.out]
            exact (Hjo7.out.below hb8 (by omega)).append (hjo8.below hb8 (by omega))
          have Hb8 := Lib.hid (Hb7.out.trans (hb8.mono (by omega)))
          have Hres8 := Lib.hid (blk_below Hres7.out hb8 (by omega))
          have Hmk9 : Hid (MkAt w8 (N + 1) (jobNet st jb.t jb.frm jb.to).st (es ++ (jobNet st jb.t jb.frm jb.to).es) (jvs.take k ++ jn)) := by
            show MkAt _ _ _ _ _
            rw [Htt.out]
            exact hmk8
          clear hmk8 hjo8 hb8
          go_wp2_with fail
          go_roundg (jsizes (popL js ++ (jobNet st jb.t jb.frm jb.to).js))
          case rel =>
            refine ⟨f - 1, _, _, _, _, rfl, ?_, ?_, ?_, Hjo8, Hmk9, Hb8, Hres8, ?_, ?_⟩
            · rw [jsizes_append]; omega
            · rw [jsizes_append]; omega
            · show _ = _
              rw [htot.out, runNet_step Hlast.out (by omega)]
            · rw [jsizes_append, List.length_append, popL_length]; omega
            · rw [jsizes_append, List.length_append]; omega
          case measure => rw [jsizes_append]; omega
        | @seq A9 n9 cap9 vs9 l9 hc hn hcap9 hl h =>
          have hln := sizes_len l9
          have hsz9 : jb.t.size = 1 + sizes l9 := by rw [Htt.out]; simp only [T.size]
          go_wp2_with fail
          refine (seqNet_any N (N + 1) st jb.frm jb.to n9 cap9 A9 vs9 l9 es (jvs.take k) W7 hn hcap9 hc ⟨hl, h⟩ (by omega) Hmk7.out (by omega) (by omega) (by omega) (by omega)).mono ?_
          rintro e w8 ⟨rfl, ⟨jn, hmk8, hjo8⟩, hb8⟩
          have Hmk8 := Lib.hid hmk8
          have Hjo8 : Hid (JobsOk w8 N (jvs.take k ++ jn) (popL js ++ (jobNet st jb.t jb.frm jb.to).js)) := by
            show JobsOk _ _ _ _
            rw [Htt.out]
            exact (Hjo7.out.below hb8 (by omega)).append (hjo8.below hb8 (by omega))
          have Hb8 := Lib.hid (Hb7.out.trans (hb8.mono (by omega)))
          have Hres8 := Lib.hid (blk_below Hres7.out hb8 (by omega))
          have Hmk9 : Hid (MkAt w8 (N + 1) (jobNet st jb.t jb.frm jb.to).st (es ++ (jobNet st jb.t jb.frm jb.to).es) (jvs.take k ++ jn)) := by
            show MkAt _ _ _ _ _
            rw [Htt.out]
            exact hmk8
          clear hmk8 hjo8 hb8
          go_wp2_with fail
          go_roundg (jsizes (popL js ++ (jobNet st jb.t jb.frm jb.to).js))
          case rel =>
            refine ⟨f - 1, _, _, _, _, rfl, ?_, ?_, ?_, Hjo8, Hmk9, Hb8, Hres8, ?_, ?_⟩
            · rw [jsizes_append]; omega
            · rw [jsizes_append]; omega
            · show _ = _
              rw [htot.out, runNet_step Hlast.out (by omega)]
            · rw [jsizes_append, List.length_append, popL_length]; omega
            · rw [jsizes_append, List.length_append]; omega
          case measure => rw [jsizes_append]; omega
        | @alt A9 n9 cap9 vs9 l9 hc hn hcap9 hl h =>
          have hln := sizes_len l9
          have hsz9 : jb.t.size = 1 + sizes l9 := by rw [Htt.out]; simp only [T.size]
          go_wp2_with fail
          refine (altNet_any N (N + 1) st jb.frm jb.to n9 cap9 A9 vs9 l9 es (jvs.take k) W7 hn hc ⟨hl, h⟩ (by omega) Hmk7.out (by omega) (by omega)).mono ?_
          rintro e w8 ⟨rfl, ⟨jn, hmk8, hjo8⟩, hb8⟩
          have Hmk8 := Lib.hid hmk8
          have Hjo8 : Hid (JobsOk w8 N (jvs.take k ++ jn) (popL js ++ (jobNet st jb.t jb.frm jb.to).js)) := by
            show JobsOk _ _ _ _
            rw [Htt.out]
            exact (Hjo7.out.below hb8 (by omega)).append (hjo8.below hb8 (by omega))
          have Hb8 := Lib.hid (Hb7.out.trans (hb8.mono (by omega)))
          have Hres8 := Lib.hid (blk_below Hres7.out hb8 (by omega))
          have Hmk9 : Hid (MkAt w8 (N + 1) (jobNet st jb.t jb.frm jb.to).st (es ++ (jobNet st jb.t jb.frm jb.to).es) (jvs.take k ++ jn)) := by
            show MkAt _ _ _ _ _
            rw [Htt.out]
            exact hmk8
          clear hmk8 hjo8 hb8
          go_wp2_with fail
          go_roundg (jsizes (popL js ++ (jobNet st jb.t jb.frm jb.to).js))
          case rel =>
            refine ⟨f - 1, _, _, _, _, rfl, ?_, ?_, ?_, Hjo8, Hmk9, Hb8, Hres8, ?_, ?_⟩
            · rw [jsizes_append]; omega
            · rw [jsizes_append]; omega
            · show _ = _
              rw [htot.out, runNet_step Hlast.out (by omega)]
            · rw [jsizes_append, List.length_append, popL_length]; omega
            · rw [jsizes_append, List.length_append]; omega
          case measure => rw [jsizes_append]; omega
        | @rep pv9 p9 op9 h =>
          obtain ⟨ty0, u0, rfl⟩ := h.form
          go_wp2_with fail
          refine (repNet_any N (N + 1) st jb.frm jb.to ty0 u0 p9 op9 es (jvs.take k) W7 h (by omega) Hmk7.out (by omega) (by omega) (by omega)).mono ?_
          rintro e w8 ⟨rfl, ⟨jn, hmk8, hjo8⟩, hb8⟩
          have Hmk8 := Lib.hid hmk8
          have Hjo8 : Hid (JobsOk w8 N (jvs.take k ++ jn) (popL js ++ (jobNet st jb.t jb.frm jb.to).js)) := by
            show JobsOk _ _ _ _
            rw [Htt.out]
            exact (Hjo7.out.below hb8 (by omega)).append (hjo8.below hb8 (by omega))
          have Hb8 := Lib.hid (Hb7.out.trans (hb8.mono (by omega)))
          have Hres8 := Lib.hid (blk_below Hres7.out hb8 (by omega))
          have Hmk9 : Hid (MkAt w8 (N + 1) (jobNet st jb.t jb.frm jb.to).st (es ++ (jobNet st jb.t jb.frm jb.to).es) (jvs.take k ++ jn)) := by
            show MkAt _ _ _ _ _
            rw [Htt.out]
            exact hmk8
          clear hmk8 hjo8 hb8
          go_wp2_with fail
          go_roundg (jsizes (popL js ++ (jobNet st jb.t jb.frm jb.to).js))
          case rel =>
            refine ⟨f - 1, _, _, _, _, rfl, ?_, ?_, ?_, Hjo8, Hmk9, Hb8, Hres8, ?_, ?_⟩
            · rw [jsizes_append]; omega
            · rw [jsizes_append]; omega
            · show _ = _
              rw [htot.out, runNet_step Hlast.out (by omega)]
            · rw [jsizes_append, List.length_append, popL_length]; omega
            · rw [jsizes_append, List.length_append]; omega
          case measure => rw [jsizes_append]; omega
end Go.Proofs.Ytaefhfldgemcnaa
