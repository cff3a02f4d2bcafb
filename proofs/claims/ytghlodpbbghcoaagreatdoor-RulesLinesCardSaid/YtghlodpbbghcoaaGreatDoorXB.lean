/- What is reached by none: walked. -/
import Derived.Test.YtghlodpbbghcoaaGreatDoorXA
import Derived.Test.YtghlodpbbghcoaaGreatDoorProg
import Derived.RegionTactic
import Derived.BigRegion
import Derived.Deep.OwnRows
import Derived.Deep.DeepCutAuto
import Derived.WalkMore
import Derived.ScopeJumps
import Derived.WalkKit
import Derived.Lib.Hide
namespace Go.Proofs.YtghlodpbbghcoaaGreatDoor.Rx
section
open Go.RowKit
/-- Ints that the call's own row from block base on holds. -/
def OwnI (w : World) (base : Nat) (xs : List Int) (v : Value) : Prop :=
  ∃ A c, v = .slice A xs.length c ∧ w.ownsRow base 3 1 (.slice A xs.length c) xs.length (xs.map (Value.int .i64))
theorem ownI_of {w : World} {base b' : Nat} {xs : List Int} {v : Value} (h : w.ownsRow base 3 1 v xs.length (xs.map (Value.int .i64))) (hb : b' ≤ base) : OwnI w b' xs v := by
  obtain ⟨h1, h2⟩ := h
  rcases h2 with ⟨rfl, hn⟩ | ⟨g, cap, cur, rfl, hg, r⟩
  · refine ⟨none, 0, by rw [hn], h1, .inl ⟨by rw [hn], hn⟩⟩
  · exact ⟨some ⟨g, 0, none⟩, cap, rfl, h1, .inr ⟨g, cap, cur, rfl, by omega, r⟩⟩
theorem quiet_left {P : Program} {f : FuncId} {args : Array Value} {w : World} {n : Nat} {v : Value}
    (h : Calls P f args (w.drewN n) fun e w' => e = .returned v ∧ w.drewN n = w') : Calls P f args (w.drewN n) fun e w'' => e = .returned v ∧ ∃ m, w'' = w.drewN m :=
  h.mono fun _ _ ⟨he, hm⟩ => ⟨he, n, hm.symm⟩
def S0 (st : Int) (l : List Int) (q : Int) : Prop := q ∈ l ∧ 0 ≤ q ∧ q < st
end
section
open Go.RowKit
theorem blk_cell {w : World} {g : Nat} {cs : Array Value} {t : TypeId} (h : w.heap[g]? = some (.cells cs t (0, 0))) (i : Nat) : w.cell? ⟨g, i, none⟩ = cs[i]? := by simp [World.cell?, h]
theorem blk_lt {w : World} {g : Nat} {o : Obj} (h : w.heap[g]? = some o) : g < w.heap.size := (Array.getElem?_eq_some_iff.1 h).1
theorem blk_alloc {w : World} {g : Nat} {o : Obj} (h : w.heap[g]? = some o) (o' : Obj) : (w.alloc o').heap[g]? = some o := (Below.heap_alloc w o' g (blk_lt h)).trans h
theorem blk_new (w : World) (o : Obj) : (w.alloc o).heap[w.heap.size]? = some o := heap_alloc_new w o
theorem blk_below {B : Nat} {w w' : World} {g : Nat} {o : Obj} (h : w.heap[g]? = some o) (hb : Below B w w') (hg : g < B) : w'.heap[g]? = some o := (hb.block g hg).trans h
theorem blk_set {w : World} {g : Nat} {o : Obj} (h : w.heap[g]? = some o) {p : Addr} (hp : g ≠ p.block) (u : Value) : (w.setCell p u).heap[g]? = some o := (Below.heap_setCell w p u g hp).trans h
theorem blk_new' {w : World} {o : Obj} {g : Nat} (h : g = w.heap.size) : (w.alloc o).heap[g]? = some o := by subst h; exact blk_new w o
theorem blk_drew {w : World} {g : Nat} {o : Obj} (h : w.heap[g]? = some o) : w.drew.heap[g]? = some o := h
theorem rowIs_made' {w : World} {z : Value} {n g : Nat} {t : TypeId} (h : g = w.heap.size) : (w.alloc (.cells (madeCells #[z] n) t)).rowIs g t n (fun _ => z) := by subst h; exact World.rowIs_made w z n t
/-- A net's edges by the state that they go from, as the code lays them: the blocks H and L. -/
structure GraphAt (w : World) (by_ : Edge → Bool) (es : List Edge) (st k H L : Nat) : Prop where
  head : w.rowIs H 3 st (fun q => .int .i64 (prevIdx by_ es (q : Int) k))
  link : w.rowIs L 3 es.length (fun j => .int .i64 (linkF by_ es k j))
set_option maxHeartbeats 3200000 in
theorem graphOf_43 (n : Net) (A : Option Addr) (c : Nat) (w : World) (st : Nat) (hst : n.st = st) (hm : n.may = true) (hne : n.edges.length ≤ 1000000)
    (hE : EdgesAt w w.heap.size A n.edges) :
    Calls Tryz.prog 149 #[.agg #[.int .i64 st, .int .i64 n.start, .int .i64 n.fin, .slice A n.edges.length c], .func (.func 142) #[] #[]] w fun e w' => (∃ H L, e = .returned (.agg #[.slice A n.edges.length c, .slice (some ⟨H, 0, none⟩) st st, .slice (some ⟨L, 0, none⟩) n.edges.length n.edges.length]) ∧
      GraphAt w' (fun e => Edge.none_ e) n.edges st n.edges.length H L ∧ w.heap.size ≤ H ∧ w.heap.size ≤ L) ∧ Below w.heap.size w w' := by
  obtain ⟨hm1, hm2, _, _, hes⟩ := may_iff.1 hm
  rw [hst] at hm1 hm2 hes
  have Hes := Lib.hid hes
  clear hes hm hst
  have hmk := run_make_row' (P := Tryz.prog) 168 3 (.int .i64 0) 8 Tryz.underlying168 info3 rfl .i64 .i64 st (by omega) (by omega)
  have hmk2 := run_make_row' (P := Tryz.prog) 168 3 (.int .i64 0) 8 Tryz.underlying168 info3 rfl .i64 .i64 n.edges.length (by omega) (by omega)
  go_enter Tryz.func149, Tryz.ntmps149
  go_upto_region 1 with fail
  go_cut [5] (fun s5 wx => ∃ G H L : Nat, s5 = .pointer (some ⟨G, 0, none⟩) ∧ wx.heap[G]? = some (.cells #[.slice A n.edges.length c, .slice (some ⟨H, 0, none⟩) st st, .slice (some ⟨L, 0, none⟩) n.edges.length n.edges.length] 212 (0, 0)) ∧ GraphAt wx (fun e => Edge.none_ e) n.edges st 0 H L ∧ w.heap.size + 2 ≤ G ∧ w.heap.size + 2 ≤ H ∧ w.heap.size + 2 ≤ L ∧ G ≠ H ∧ G ≠ L ∧ H ≠ L ∧
    Below (w.heap.size + 2) ((w.alloc (.cells #[.int .i64 st, .int .i64 n.start, .int .i64 n.fin, .slice A n.edges.length c] 143)).alloc (.cells #[.slice none 0 0, .slice none 0 0, .slice none 0 0] 212)) wx)
  case first =>
    go_region
    all_goals go_wp2_with fail
    all_goals go_meet
    all_goals
      apply Exists.intro
      apply Exists.intro
      apply Exists.intro
      refine ⟨rfl, ?qG, ?qR⟩
      case qG => first | exact blk_drew (blk_new' (by simp)) | exact blk_drew (blk_alloc (blk_new' (by simp)) _) | exact blk_drew (blk_alloc (blk_alloc (blk_new' (by simp)) _) _)
      case qR =>
        refine ⟨⟨?_, ?_⟩, by omega, by omega, by omega, by omega, by omega, by omega, ?_⟩
        · refine World.rowIs.congr (f := fun _ => .int .i64 0) ?_ (fun _ _ => rfl)
          first | exact (rowIs_made' (by simp)).drew | exact ((rowIs_made' (by simp)).alloc _).drew | exact (((rowIs_made' (by simp)).alloc _).alloc _).drew
        · refine World.rowIs.congr (f := fun _ => .int .i64 0) ?_ (fun _ _ => by rw [linkF_ge (Nat.zero_le _)]; rfl)
          first | exact (rowIs_made' (by simp)).drew | exact ((rowIs_made' (by simp)).alloc _).drew | exact (((rowIs_made' (by simp)).alloc _).alloc _).drew
        · exact (((Below.refl _ _).alloc (by simp) _).alloc (by simp) _).alloc (by simp) _ |>.drew
  case rest =>
    clear hmk hmk2
    obtain ⟨G, H, L, rfl, hG, hgr, hG2, hH2, hL2, hGH, hGL, hHL, hb⟩ := hcut
    obtain ⟨bb0, bb1, bb2, bb3, bsz⟩ := boxed4 (w := w) (((Below.refl _ _).alloc (by simp) _).trans (hb.mono (by omega)))
    go_wp2
    go_loopw [21] (fun i wr => ∃ k : Nat, k ≤ n.edges.length ∧ i = .int .i64 k ∧ wr.heap[G]? = some (.cells #[.slice A n.edges.length c, .slice (some ⟨H, 0, none⟩) st st, .slice (some ⟨L, 0, none⟩) n.edges.length n.edges.length] 212 (0, 0)) ∧ GraphAt wr (fun e => Edge.none_ e) n.edges st k H L ∧
      Below (w.heap.size + 2) ((w.alloc (.cells #[.int .i64 st, .int .i64 n.start, .int .i64 n.fin, .slice A n.edges.length c] 143)).alloc (.cells #[.slice none 0 0, .slice none 0 0, .slice none 0 0] 212)) wr) (fun i _ => n.edges.length - (intOf i).toNat)
    case atStart => exact ⟨0, Nat.zero_le _, rfl, hG, hgr, hb⟩
    case round =>
      clear hb bb0 bb1 bb2 bb3 bsz hG hgr
      obtain ⟨k, hk, rfl, hG, hgr, hb⟩ := hrel
      have hbw : Below w.heap.size w wr := unbox (((Below.refl _ _).alloc (by simp) _).trans (hb.mono (by omega)))
      have hsz := hb.size
      simp only [World.size_alloc] at hsz
      by_cases hlt : k < n.edges.length
      · obtain ⟨bb, o, e, rfl, hbb, he, e0, e1, e2, e3⟩ := edge_at hE hbw hlt
        obtain ⟨⟨hf0, hf1⟩, ht0, ht1⟩ := ok_iff.1 (Hes.out e (List.mem_of_getElem? he.out))
        obtain ⟨f, hf⟩ := Int.eq_ofNat_of_zero_le hf0
        rw [hf] at e0 hf1
        have Hf := Lib.hid hf
        clear hf hf0
        have hfs : f < st := by omega
        have g0 : wr.cell? ⟨G, 0, none⟩ = some (.slice (some ⟨bb, o, none⟩) n.edges.length c) := blk_cell hG 0
        have g1 : wr.cell? ⟨G, 1, none⟩ = some (.slice (some ⟨H, 0, none⟩) st st) := blk_cell hG 1
        have g2 : wr.cell? ⟨G, 2, none⟩ = some (.slice (some ⟨L, 0, none⟩) n.edges.length n.edges.length) := blk_cell hG 2
        have hGl := blk_lt hG
        have hHl := hgr.head.lt
        have hLl := hgr.link.lt
        have hHc := hgr.head.cell hfs
        have hLc := hgr.link.cell hlt
        have hHf := hgr.head.frozen f
        have hLf := hgr.link.frozen k
        obtain ⟨p, hp⟩ : ∃ p : Nat, p = prevIdx (fun e => Edge.none_ e) n.edges (f : Int) k := ⟨_, rfl⟩
        rw [← hp] at hHc
        have Hp := Lib.hid hp
        clear hp
        obtain ⟨q, hq⟩ : ∃ q : Nat, q = linkF (fun e => Edge.none_ e) n.edges k k := ⟨_, rfl⟩
        rw [← hq] at hLc
        clear hq
        have HG := Lib.hid hG
        clear hG
        cases hby : Edge.none_ ⟨(f : Int), e.to, e.low, e.high⟩ with
        | true =>
          go_upto_region 6 with (go_at_call 142; refine (none_any _ _ _ _ _).mono ?_; rintro e w' ⟨rfl, rfl⟩)
          go_region
          go_wp2
          go_roundw
          case rel =>
            refine ⟨k + 1, by omega, by go_num, ?_, ⟨?_, ?_⟩, ?_⟩
            · exact blk_drew (blk_alloc (blk_alloc (blk_set (p := ⟨H, f, none⟩) (blk_set (p := ⟨L, k, none⟩) HG.out hGL _) hGH _) _) _)
            · refine World.rowIs.congr (((((hgr.head.setOther (a := ⟨L, k, none⟩) hHL _).set f _).alloc _).alloc _).drew) ?_
              intro j hj
              by_cases hjf : j = f
              · subst hjf
                rw [if_pos rfl, prevIdx_yes he.out hby Hf.out]
                go_num
              · rw [if_neg hjf, prevIdx_no he.out (.inr (by rw [Hf.out]; omega))]
            · refine World.rowIs.congr (((((hgr.link.set k _).setOther (a := ⟨H, f, none⟩) (Ne.symm hHL) _).alloc _).alloc _).drew) ?_
              intro j hj
              by_cases hjk : j = k
              · subst hjk
                rw [if_pos rfl, linkF_at he.out hby, Hp.out, Hf.out]
              · rw [if_neg hjk, linkF_ne hjk]
            · exact ((((hb.setCell (p := ⟨L, k, none⟩) hL2 _).setCell (p := ⟨H, f, none⟩) hH2 _).alloc (by simp; omega) _).alloc (by simp; omega) _).drew
          case measure => simp [intOf]; omega
        | false =>
          go_wp2_with (go_at_call 142; refine (none_any _ _ _ _ _).mono ?_; rintro e w' ⟨rfl, rfl⟩)
          go_roundw
          case rel =>
            refine ⟨k + 1, by omega, by go_num, blk_alloc (blk_alloc HG.out _) _, ⟨?_, ?_⟩, (hb.alloc (by omega) _).alloc (by simp; omega) _⟩
            · refine World.rowIs.congr ((hgr.head.alloc _).alloc _) ?_
              intro j hj
              rw [prevIdx_no he.out (.inl hby)]
            · refine World.rowIs.congr ((hgr.link.alloc _).alloc _) ?_
              intro j hj
              by_cases hjk : j = k
              · subst hjk
                rw [linkF_not he.out hby, linkF_ge (Nat.le_refl _)]
              · rw [linkF_ne hjk]
          case measure => simp [intOf]; omega
      · obtain rfl : k = n.edges.length := by omega
        have g0 : wr.cell? ⟨G, 0, none⟩ = some (.slice A n.edges.length c) := blk_cell hG 0
        have g1 : wr.cell? ⟨G, 1, none⟩ = some (.slice (some ⟨H, 0, none⟩) st st) := blk_cell hG 1
        have g2 : wr.cell? ⟨G, 2, none⟩ = some (.slice (some ⟨L, 0, none⟩) n.edges.length n.edges.length) := blk_cell hG 2
        have q0 := hb.cell (p := ⟨w.heap.size + 1, 0, none⟩) (by simp)
        have q1 := hb.cell (p := ⟨w.heap.size + 1, 1, none⟩) (by simp)
        have q2 := hb.cell (p := ⟨w.heap.size + 1, 2, none⟩) (by simp)
        have r0 := hb.frozen (p := ⟨w.heap.size + 1, 0, none⟩) (by simp)
        have r1 := hb.frozen (p := ⟨w.heap.size + 1, 1, none⟩) (by simp)
        have r2 := hb.frozen (p := ⟨w.heap.size + 1, 2, none⟩) (by simp)
        simp at q0 q1 q2 r0 r1 r2
        go_wp2
        refine bodyPost_ret (v := .agg #[.slice A n.edges.length c, .slice (some ⟨H, 0, none⟩) st st, .slice (some ⟨L, 0, none⟩) n.edges.length n.edges.length]) (by simp [results, Tryz.results149, go_sem, q0, q1, q2]) rfl ⟨⟨H, L, rfl, ⟨?_, ?_⟩, by omega, by omega⟩, ?_⟩
        · exact ((hgr.head.setOther (a := ⟨w.heap.size + 1, 0, none⟩) (by simp; omega) _).setOther (a := ⟨w.heap.size + 1, 1, none⟩) (by simp; omega) _).setOther (a := ⟨w.heap.size + 1, 2, none⟩) (by simp; omega) _
        · exact ((hgr.link.setOther (a := ⟨w.heap.size + 1, 0, none⟩) (by simp; omega) _).setOther (a := ⟨w.heap.size + 1, 1, none⟩) (by simp; omega) _).setOther (a := ⟨w.heap.size + 1, 2, none⟩) (by simp; omega) _
        · exact ((hbw.setCell (p := ⟨w.heap.size + 1, 0, none⟩) (by simp) _).setCell (p := ⟨w.heap.size + 1, 1, none⟩) (by simp) _).setCell (p := ⟨w.heap.size + 1, 2, none⟩) (by simp) _
end
section
open Go.RowKit
theorem own_ne {w : World} {base : Nat} {e t : TypeId} {size n g : Nat} {v : Value} {xs : List Value} {cs : Array Value} (h : w.ownsRow base e size v n xs) (hg : w.heap[g]? = some (.cells cs t (0, 0))) (hne : e ≠ t) : v.ownBlock ≠ some g := by
  rcases h.2 with ⟨rfl, _⟩ | ⟨g', cap, cur, rfl, _, hh, _⟩
  · simp [Value.ownBlock]
  · intro he
    have : g' = g := by simpa [Value.ownBlock] using he
    subst this
    rw [hg] at hh
    injection hh with hh
    injection hh with _ ht
    exact hne ht.symm
theorem own_ne_lt {w : World} {base : Nat} {e : TypeId} {size n g : Nat} {v : Value} {xs : List Value} (h : w.ownsRow base e size v n xs) (hg : g < base) : v.ownBlock ≠ some g := by
  intro he
  have := h.lt g he
  omega
theorem blk_grown {w w' : World} {g : Nat} {o : Obj} {row : Option Nat} (h : w.heap[g]? = some o) (hg : w.grownBy w' row) (hne : row ≠ some g) : w'.heap[g]? = some o := (hg.block g (blk_lt h) (Ne.symm hne)).trans h
theorem rowIs_grown {w w' : World} {g n : Nat} {t : TypeId} {f : Nat → Value} {row : Option Nat} (h : w.rowIs g t n f) (hg : w.grownBy w' row) (hne : row ≠ some g) : w'.rowIs g t n f := h.of_block (hg.block g h.lt (Ne.symm hne))
/-- A scope that begins with its label: what holds at the label whenever the run comes there, and a measure that each pass lowers. -/
theorem wp_scope_label {P : Program} {a : Act} {w : World} {Q : Exit → Act → World → Prop} {C rest : Code} {l : Nat} (J : Act → World → Prop) (μ : Act → World → Nat) (hC : findLabel C l = none)
    (first : C.wp P (Exit.then J (Exit.jump l J Q)) a w)
    (pass : ∀ a w, J a w → rest.wp P (Exit.jump l (fun a' w' => J a' w' ∧ μ a' w' < μ a w) Q) a w) : (Code.scope (C.seq ((Code.label l).seq rest))).wp P Q a w := by
  refine wp_scope_jumps l J μ (rest := .seq .skip rest) (by simp [findLabel, hC]) ?_ ?_
  · refine wp_seq (wp_mono first ?_)
    intro e a' w' h
    cases e with
    | normal =>
      refine wp_seq (wp_label ?_)
      refine wp_mono (pass _ _ h) ?_
      intro e a w q
      cases e with
      | goto l' => exact ⟨q.1, q.2.1⟩
      | _ => exact q
    | _ => exact h
  · intro a w h
    exact wp_seq (wp_skip (pass a w h))
/-- What stays while a set grows: the edges by states, and the box that holds where they lie. -/
structure GFix (w wr : World) (by_ : Edge → Bool) (es : List Edge) (st H L : Nat) (A : Option Addr) (c : Nat) : Prop where
  gr : GraphAt wr by_ es st es.length H L
  box : wr.heap[w.heap.size]? = some (.cells #[.slice A es.length c, .slice (some ⟨H, 0, none⟩) st st, .slice (some ⟨L, 0, none⟩) es.length es.length] 212 (0, 0))
namespace GFix
variable {w wr wx : World} {by_ : Edge → Bool} {es : List Edge} {st H L : Nat} {A : Option Addr} {c : Nat}
theorem c0 (h : GFix w wr by_ es st H L A c) : wr.cell? ⟨w.heap.size, 0, none⟩ = some (.slice A es.length c) := blk_cell h.box 0
theorem c1 (h : GFix w wr by_ es st H L A c) : wr.cell? ⟨w.heap.size, 1, none⟩ = some (.slice (some ⟨H, 0, none⟩) st st) := blk_cell h.box 1
theorem c2 (h : GFix w wr by_ es st H L A c) : wr.cell? ⟨w.heap.size, 2, none⟩ = some (.slice (some ⟨L, 0, none⟩) es.length es.length) := blk_cell h.box 2
theorem set (h : GFix w wr by_ es st H L A c) {p : Addr} (hH : H ≠ p.block) (hL : L ≠ p.block) (hw : w.heap.size ≠ p.block) (u : Value) : GFix w (wr.setCell p u) by_ es st H L A c :=
  ⟨⟨h.gr.head.setOther hH u, h.gr.link.setOther hL u⟩, blk_set h.box hw u⟩
theorem grown (h : GFix w wr by_ es st H L A c) {row : Option Nat} (hg : wr.grownBy wx row) (hH : row ≠ some H) (hL : row ≠ some L) (hw : row ≠ some w.heap.size) : GFix w wx by_ es st H L A c :=
  ⟨⟨rowIs_grown h.gr.head hg hH, rowIs_grown h.gr.link hg hL⟩, blk_grown h.box hg hw⟩
theorem drewN (h : GFix w wr by_ es st H L A c) (n : Nat) : GFix w (wr.drewN n) by_ es st H L A c := ⟨⟨h.gr.head, h.gr.link⟩, h.box⟩
end GFix
theorem rowIs_drewN {w : World} {b : Nat} {t : TypeId} {n : Nat} {f : Nat → Value} (h : w.rowIs b t n f) (k : Nat) : (w.drewN k).rowIs b t n f := h
structure GInv (w wr : World) (by_ : Edge → Bool) (es : List Edge) (st H L I : Nat) (A : Option Addr) (c : Nat) (xs0 xs : List Int) (k : Nat) (v : Value) : Prop where
  own : OwnI wr (I + 1) xs v
  inv : CInv by_ es st (· ∈ xs0) xs k
  row : wr.rowIs I 4 st (fun q => .bool (hasB xs (q : Int)))
  fix_ : GFix w wr by_ es st H L A c
  bel : Below I w wr
  nH : v.ownBlock ≠ some H
  nL : v.ownBlock ≠ some L
set_option maxHeartbeats 3200000 in
theorem grow_any (by_ : Edge → Bool) (es : List Edge) (st H L I : Nat) (A : Option Addr) (c : Nat) (xs0 : List Int) (v2 : Value) (w : World) (hst : st ≤ 500) (hne : es.length ≤ 1000000)
    (hes : ∀ e ∈ es, e.ok (st : Int) = true) (hE : EdgesAt w I A es) (hgr : GraphAt w by_ es st es.length H L) (hHI : H ≠ I) (hLI : L ≠ I) (hvH : v2.ownBlock ≠ some H) (hvL : v2.ownBlock ≠ some L)
    (hin : w.rowIs I 4 st (fun q => .bool (hasB xs0 (q : Int)))) (hown : w.ownsRow (I + 1) 3 1 v2 xs0.length (xs0.map (Value.int .i64)))
    (hnd : xs0.Nodup) (hrng : ∀ q ∈ xs0, 0 ≤ q ∧ q < (st : Int)) :
    Calls Tryz.prog 150 #[.agg #[.slice A es.length c, .slice (some ⟨H, 0, none⟩) st st, .slice (some ⟨L, 0, none⟩) es.length es.length], .slice (some ⟨I, 0, none⟩) st st, v2] w fun e w' =>
      (∃ v xs, e = .returned v ∧ OwnI w' (I + 1) xs v ∧ CInv by_ es st (· ∈ xs0) xs xs.length ∧ w'.rowIs I 4 st (fun q => .bool (hasB xs (q : Int)))) ∧ Below I w w' := by
  have Hes := Lib.hid hes
  have Hin := Lib.hid hin
  clear hes hin
  have hI := Hin.out.lt
  have hHw := hgr.head.lt
  have hLw := hgr.link.lt
  go_enter Tryz.func150, Tryz.ntmps150
  go_wp2
  refine wp_scope_label (fun a' w' => ∃ (k : Nat) (xs : List Int) (v : Value) (u8 u9 u10 u11 u12 u13 u14 u15 u16 u17 u18 u19 u20 u21 u22 u23 u24 u25 u26 u27 u28 u29 u30 u31 u32 u33 u34 u35 u36 u37 u38 u39 u40 u41 u42 u43 u44 u45 u46 u47 u48 u49 u50 u51 : Value), a' = { tmps := #[.agg #[.slice A es.length c, .slice (some ⟨H, 0, none⟩) st st, .slice (some ⟨L, 0, none⟩) es.length es.length], .slice (some ⟨I, 0, none⟩) st st, v, .pointer (some ⟨w.heap.size, 0, none⟩), undef, undef, .slice none 0 0, .int .i64 k, u8, u9, u10, u11, u12, u13, u14, u15, u16, u17, u18, u19, u20, u21, u22, u23, u24, u25, u26, u27, u28, u29, u30, u31, u32, u33, u34, u35, u36, u37, u38, u39, u40, u41, u42, u43, u44, u45, u46, u47, u48, u49, u50, u51], defers := [] } ∧
    k ≤ xs.length ∧ GInv w w' by_ es st H L I A c xs0 xs k v) (fun a' _ => st - (intOf (a'.tmps.getD 7 undef)).toNat) rfl ?_ ?_
  · go_wp2
    refine ⟨0, xs0, v2, _, _, _, _, _, _, _, _, _, _, _, _, _, _, _, _, _, _, _, _, _, _, _, _, _, _, _, _, _, _, _, _, _, _, _, _, _, _, _, _, _, _, _, _, rfl, Nat.zero_le _, ?_⟩
    exact ⟨ownI_of (hown.alloc _) (Nat.le_refl _), CInv.start hnd hrng (fun _ => Iff.rfl), Hin.out.alloc _, ⟨⟨hgr.head.alloc _, hgr.link.alloc _⟩, blk_new _ _⟩, (Below.refl _ _).alloc (by omega) _, hvH, hvL⟩
  · rintro a' wr ⟨k, xs, v, u8, u9, u10, u11, u12, u13, u14, u15, u16, u17, u18, u19, u20, u21, u22, u23, u24, u25, u26, u27, u28, u29, u30, u31, u32, u33, u34, u35, u36, u37, u38, u39, u40, u41, u42, u43, u44, u45, u46, u47, u48, u49, u50, u51, rfl, hk, hinv⟩
    obtain ⟨A2, c2, rfl, hown2⟩ := hinv.own
    have hlen : (xs.length : Int) ≤ st := hinv.inv.length (by omega)
    have hfix := hinv.fix_
    have g0 := hfix.c0
    have g1 := hfix.c1
    have g2 := hfix.c2
    have hbl := blk_lt hfix.box
    by_cases hlt : k < xs.length
    · obtain ⟨b4, o4, q, rfl, _, hq, hcell⟩ := int_at (CellsAt.of_own hown2) (Below.refl _ _) hlt
      have hqr := hinv.inv.rng q (List.mem_of_getElem? hq.out)
      obtain ⟨qn, hqn⟩ := Int.eq_ofNat_of_zero_le hqr.1
      rw [hqn] at hcell
      have Hqn := Lib.hid hqn
      have hqs : qn < st := by omega
      clear hqn hqr
      have hHc := hfix.gr.head.cell hqs
      obtain ⟨p, hp⟩ : ∃ p : Nat, p = prevIdx by_ es (qn : Int) es.length := ⟨_, rfl⟩
      rw [← hp] at hHc
      have Hp := Lib.hid hp
      clear hp
      go_wp2
      go_quiet (fail)
      go_wp2
      clear hHc g0 g1 g2 hcell hbl
      go_loopw [2, 8] (fun v at_ wi => ∃ (a i' : Nat) (ys : List Int), at_ = .int .i64 a ∧ Hid (a = prevIdx by_ es (qn : Int) i') ∧ OwnI wi (I + 1) ys v ∧ Hid (CIr by_ es st (· ∈ xs0) ys k (qn : Int) i') ∧ wi.rowIs I 4 st (fun q => .bool (hasB ys (q : Int))) ∧ GFix w wi by_ es st H L A c ∧ Below I w wi ∧ v.ownBlock ≠ some H ∧ v.ownBlock ≠ some L) (fun _ at_ _ => (intOf at_).toNat)
      case atStart => exact ⟨p, es.length, xs, rfl, Hp, ⟨_, _, rfl, hown2.drewN _⟩, CIr.start hinv.inv (by rw [hq.out, Hqn.out]), rowIs_drewN hinv.row _, hfix.drewN _, below_drewN hinv.bel _, hinv.nH, hinv.nL⟩
      case round =>
        clear hfix hown2 hinv
        obtain ⟨a, i', ys, rfl, ha, ⟨A3, c3, rfl, hown3⟩, hcir, hrow, hfix, hbel, hnH, hnL⟩ := hrel
        have hylen : (ys.length : Int) ≤ st := hcir.out.inv.length (by omega)
        have hyk : k < ys.length := (List.getElem?_eq_some_iff.1 hcir.out.at_).1
        have g0 := hfix.c0
        have g1 := hfix.c1
        have g2 := hfix.c2
        have hbl := blk_lt hfix.box
        rcases Nat.eq_zero_or_pos a with h0 | h0
        · have hz : ((a : Int) != 0) = false := by simp [h0]
          have hinv' := hcir.out.end_ (by rw [← ha.out]; exact h0)
          have Hinv := Lib.hid hinv'
          clear hinv' h0
          go_wp2
          go_step3
          rw [show (k : Int) + 1 = ((k + 1 : Nat) : Int) from by omega]
          refine ⟨rfl, ⟨k + 1, ys, _, _, _, _, _, _, _, _, _, _, _, _, _, _, _, _, _, _, _, _, _, _, _, _, _, _, _, _, _, _, _, _, _, _, _, _, _, _, _, _, _, _, _, _, _, rfl, by omega, ⟨⟨_, _, rfl, hown3⟩, Hinv.out, hrow, hfix, hbel, hnH, hnL⟩⟩, ?_⟩
          simp [intOf]
          omega
        · obtain ⟨j, rfl⟩ : ∃ j, a = j + 1 := ⟨a - 1, by omega⟩
          rw [show ((j + 1 : Nat) : Int) = (j : Int) + 1 from by omega]
          have hz : ((j : Int) + 1 != 0) = true := by simp; omega
          obtain ⟨e, he, hby, hf, hji, _⟩ := prevIdx_some ha.out.symm
          have hj : j < es.length := (List.getElem?_eq_some_iff.1 he).1
          obtain ⟨bb, o, e', rfl, hbb, he', e0, e1, e2, e3⟩ := edge_at hE hbel hj
          have hee : e' = e := by
            have := he'.out
            rw [he] at this
            injection this with this
            exact this.symm
          subst hee
          obtain ⟨_, ht0, ht1⟩ := ok_iff.1 (Hes.out e' (List.mem_of_getElem? he))
          obtain ⟨tn, htn⟩ := Int.eq_ofNat_of_zero_le ht0
          rw [htn] at e1 ht1
          have Htn := Lib.hid htn
          have hts : tn < st := by omega
          have He := Lib.hid he
          have hlk : linkF by_ es es.length j = prevIdx by_ es (qn : Int) j := by
            unfold linkF
            rw [if_pos hj, he]
            simp [hby, hf]
          clear htn ht0 he hby hf e0 e2 e3
          have hIc := hrow.cell hts
          have hIf := hrow.frozen tn
          have hLc := hfix.gr.link.cell hj
          rw [hlk] at hLc
          obtain ⟨p', hp'⟩ : ∃ p' : Nat, p' = prevIdx by_ es (qn : Int) j := ⟨_, rfl⟩
          rw [← hp'] at hLc
          have Hlk := Lib.hid hlk
          have Hp' := Lib.hid hp'
          have hpj := prevIdx_le by_ es (qn : Int) j
          rw [← hp'] at hpj
          clear hlk hp'
          cases hm : hasB ys tn with
          | true =>
            rw [hm] at hIc
            go_wp2
            go_roundw
            case rel =>
              refine ⟨p', j, ys, rfl, Hp', ⟨_, _, rfl, hown3⟩, hcir.out.next ha.out.symm (fun e'' he'' => ?_), hrow, hfix, hbel, hnH, hnL⟩
              rw [He.out] at he''
              injection he'' with he''
              subst he''
              rw [Htn.out]
              exact hasB_iff.1 hm
            case measure => simp [intOf]; omega
          | false =>
            rw [hm] at hIc
            have HF : Hid (∀ wx, (wr.setCell ⟨I, tn, none⟩ (.bool true)).grownBy wx (Value.slice A3 ys.length c3).ownBlock → GFix w wx by_ es st H L (some ⟨bb, o, none⟩) c) := fun wx hg =>
              (hfix.set (p := ⟨I, tn, none⟩) (by simp; omega) (by simp; omega) (by simp; omega) _).grown hg hnH hnL (own_ne hown3 hfix.box (by decide))
            have HL : Hid (∀ wx, GFix w wx by_ es st H L (some ⟨bb, o, none⟩) c → wx.cell? ⟨L, j, none⟩ = some (.int .i64 p')) := fun wx hx => by
              have := hx.gr.link.cell hj
              rw [Hlk.out, ← Hp'.out] at this
              exact this
            go_wp2_with (at_builtin; refine wpList_append_new_at info3 Tryz.underlying168 rfl (by decide) (by decide) _ (ownsRow_setCell_below hown3 (a := ⟨I, tn, none⟩) (by simp) _) 1 rfl _ _ rfl rfl rfl (by simp) rfl rfl (by omega) ?_ ?_; (simp; omega); intro v' w' hown' hbel' hgt hgrow hat; have Hat := Lib.hid hat; clear hat; have f' := HF.out w' hgrow; have g0' := f'.c0; have g1' := f'.c1; have g2' := f'.c2; have hL' := HL.out w' f')
            go_roundw
            case rel =>
              refine ⟨p', j, ys ++ [(tn : Int)], rfl, Hp', ownI_of (by simpa using hown') (Nat.le_refl _), ?_, ?_, f', (hbel.setCell (p := ⟨I, tn, none⟩) (Nat.le_refl _) _).trans (hbel'.mono (by omega)), fun h => ?_, fun h => ?_⟩
              · have := hcir.out.push Hes.out ha.out.symm He.out (fun h => by rw [Htn.out, ← hasB_iff, hm] at h; cases h)
                rw [Htn.out] at this
                exact this
              · refine World.rowIs.congr (rowIs_grown (hrow.set tn _) hgrow (own_ne_lt hown3 (by omega))) ?_
                intro x hx
                by_cases hxt : x = tn
                · subst hxt
                  rw [if_pos rfl, hasB_yes (by simp)]
                · rw [if_neg hxt]
                  congr 1
                  rw [Bool.eq_iff_iff, hasB_iff, hasB_iff]
                  simp only [List.mem_append, List.mem_singleton]
                  constructor
                  · exact Or.inl
                  · rintro (h | h)
                    · exact h
                    · exact absurd (by omega) hxt
              · rcases Hat.out _ h with h | h
                · exact hnH h
                · simp at h; omega
              · rcases Hat.out _ h with h | h
                · exact hnL h
                · simp at h; omega
            case measure => simp [intOf]; omega
    · go_wp2
      simp only [Exit.jump]
      go_ret
      have hkk : k = xs.length := by omega
      subst hkk
      exact ⟨⟨_, xs, rfl, ⟨_, _, rfl, hown2⟩, hinv.inv, hinv.row⟩, hinv.bel⟩
end
section
open Go.RowKit
theorem S0_snoc {st : Int} {l : List Int} {q x : Int} : S0 st (l ++ [x]) q ↔ S0 st l q ∨ (q = x ∧ isSt st x = true) := by
  unfold S0
  rw [isSt_iff]
  simp only [List.mem_append, List.mem_singleton]
  constructor
  · rintro ⟨h | h, h1⟩
    · exact .inl ⟨h, h1⟩
    · subst h; exact .inr ⟨rfl, h1⟩
  · rintro (⟨h, h1⟩ | ⟨rfl, h1⟩)
    · exact ⟨.inl h, h1⟩
    · exact ⟨.inr rfl, h1⟩
structure RInv (st : Nat) (l xs : List Int) : Prop where
  nodup : xs.Nodup
  set : ∀ q, q ∈ xs ↔ S0 (st : Int) l q
theorem RInv.out {st : Nat} {l xs : List Int} {x : Int} (h : RInv st l xs) (hx : isSt (st : Int) x = false) : RInv st (l ++ [x]) xs :=
  ⟨h.nodup, fun q => by rw [h.set, S0_snoc, hx]; simp⟩
theorem RInv.had {st : Nat} {l xs : List Int} {x : Int} (h : RInv st l xs) (hx : x ∈ xs) : RInv st (l ++ [x]) xs :=
  ⟨h.nodup, fun q => by
    rw [h.set, S0_snoc]
    exact ⟨.inl, fun h' => h'.elim id (fun h' => by obtain ⟨rfl, _⟩ := h'; exact (h.set q).1 hx)⟩⟩
theorem RInv.push {st : Nat} {l xs : List Int} {x : Int} (h : RInv st l xs) (hx : isSt (st : Int) x = true) (hn : ¬ x ∈ xs) : RInv st (l ++ [x]) (xs ++ [x]) := by
  refine ⟨?_, fun q => ?_⟩
  · rw [List.nodup_append]
    refine ⟨h.nodup, by simp, ?_⟩
    intro a ha b hb
    simp only [List.mem_singleton] at hb
    subst hb
    rintro rfl
    exact hn ha
  · rw [S0_snoc, List.mem_append, h.set, List.mem_singleton]
    simp [hx]
theorem RInv.length {st : Nat} {l xs : List Int} (h : RInv st l xs) : xs.length ≤ st := nodup_range st h.nodup (fun q hq => ((h.set q).1 hq).2)
theorem row_push {w : World} {I st n : Nat} {xs : List Int} (h : w.rowIs I 4 st (fun j => if j = n then .bool true else .bool (hasB xs (j : Int)))) : w.rowIs I 4 st (fun q => .bool (hasB (xs ++ [(n : Int)]) (q : Int))) := by
  refine World.rowIs.congr h ?_
  intro x hx
  by_cases hxt : x = n
  · subst hxt
    rw [if_pos rfl, hasB_yes (by simp)]
  · rw [if_neg hxt]
    congr 1
    rw [Bool.eq_iff_iff, hasB_iff, hasB_iff]
    simp only [List.mem_append, List.mem_singleton]
    constructor
    · exact Or.inl
    · rintro (h | h)
      · exact h
      · exact absurd (by omega) hxt
set_option maxHeartbeats 3200000 in
theorem reached_43 (n : Net) (l : List Int) (A A' : Option Addr) (c c' : Nat) (w : World) (st : Nat) (hst : n.st = st) (hm : n.may = true) (hne : n.edges.length ≤ 1000000) (hn : l.length ≤ 1000000000)
    (hE : EdgesAt w w.heap.size A n.edges) (hl : IntsAt w w.heap.size A' l) :
    Calls Tryz.prog 141 #[.agg #[.int .i64 st, .int .i64 n.start, .int .i64 n.fin, .slice A n.edges.length c], .slice A' l.length c', .func (.func 142) #[] #[]] w fun e w' => (∃ I xs, e = .returned (.slice (some ⟨I, 0, none⟩) st st) ∧ w'.rowIs I 4 st (fun q => .bool (hasB xs (q : Int))) ∧
      ∀ q, q ∈ xs ↔ Eps Edge.none_ n.edges (S0 n.st l) q) ∧ Below w.heap.size w w' := by
  obtain ⟨hm1, hm2, _, _, hes⟩ := may_iff.1 hm
  rw [hst] at hm1 hm2
  have Hes := Lib.hid hes
  have Hst := Lib.hid hst
  have Hm := Lib.hid hm
  clear hes hst hm
  have hmk := run_make_row' (P := Tryz.prog) 51 4 (.bool false) 1 Tryz.underlying51 info4 rfl .i64 .i64 st (by omega) (by omega)
  go_enter Tryz.func141, Tryz.ntmps141
  go_wp2
  clear hmk
  go_loopw [8, 16] (fun v i wr => ∃ (k : Nat) (xs : List Int), k ≤ l.length ∧ i = .int .i64 k ∧ OwnI wr (w.heap.size + 2) xs v ∧ Hid (RInv st (l.take k) xs) ∧ wr.rowIs (w.heap.size + 1) 4 st (fun q => .bool (hasB xs (q : Int))) ∧
    Below (w.heap.size + 1) (w.alloc (.cells #[.int .i64 st, .int .i64 n.start, .int .i64 n.fin, .slice A n.edges.length c] 143)) wr) (fun _ i _ => l.length - (intOf i).toNat)
  case atStart =>
    refine ⟨0, [], Nat.zero_le _, rfl, ⟨none, 0, rfl, World.ownsRow_nil _ _ _ _⟩, ⟨by simp, fun q => by simp [S0]⟩, ?_, (Below.refl _ _).alloc (by simp) _⟩
    exact World.rowIs.congr (rowIs_made' (by simp)) (fun _ _ => by simp [hasB])
  case round =>
    obtain ⟨k, xs, hk, rfl, ⟨A2, c2, rfl, hown⟩, hinv, hrow, hb⟩ := hrel
    obtain ⟨b0, b1, b2, b3, hsz⟩ := boxed4 hb
    have hIl := hrow.lt
    have hxl := hinv.out.length
    by_cases hlt : k < l.length
    · obtain ⟨b4, o4, q, rfl, _, hq, hcell⟩ := int_at hl (unbox hb) hlt
      have hT := Lib.hid (take_snoc hq.out)
      cases hi : isSt (st : Int) q with
      | false =>
        go_wp2_with (go_at_call 135; refine (isState_any _ _ _ _ _ _).mono ?_; rintro e w' ⟨rfl, rfl⟩)
        go_roundw
        case rel => exact ⟨k + 1, xs, by omega, by go_num, ⟨_, _, rfl, hown.alloc _⟩, by rw [hT.out]; exact hinv.out.out hi, hrow.alloc _, hb.alloc (by omega) _⟩
        case measure => simp [intOf]; omega
      | true =>
        obtain ⟨hq0, hq1⟩ := isSt_iff.1 hi
        obtain ⟨qn, rfl⟩ := Int.eq_ofNat_of_zero_le hq0
        have hqs : qn < st := by omega
        have hIc := hrow.cell hqs
        have hIf := hrow.frozen qn
        cases hx : hasB xs qn with
        | true =>
          rw [hx] at hIc
          go_wp2_with (go_at_call 135; refine (isState_any _ _ _ _ _ _).mono ?_; rintro e w' ⟨rfl, rfl⟩)
          go_roundw
          case rel => exact ⟨k + 1, xs, by omega, by go_num, ⟨_, _, rfl, hown.alloc _⟩, by rw [hT.out]; exact hinv.out.had (hasB_iff.1 hx), hrow.alloc _, hb.alloc (by omega) _⟩
          case measure => simp [intOf]; omega
        | false =>
          rw [hx] at hIc
          go_wp2_with (first | (go_at_call 135; refine (isState_any _ _ _ _ _ _).mono ?_; rintro e w' ⟨rfl, rfl⟩) | (at_builtin; refine wpList_append_new info3 Tryz.underlying168 rfl (by decide) (by decide) _ ((ownsRow_setCell_below hown (a := ⟨w.heap.size + 1, qn, none⟩) (by simp) _).alloc _) 1 rfl _ _ rfl rfl rfl (by simp) rfl rfl (by omega) ?_ ?_; (simp; omega); intro v' w' hown' hbel' hgt hgrow))
          go_roundw
          case rel =>
            refine ⟨k + 1, xs ++ [(qn : Int)], by omega, by go_num, ownI_of (by simpa using hown') (Nat.le_refl _), by rw [hT.out]; exact hinv.out.push hi (fun h => by rw [hasB_yes h] at hx; cases hx), ?_, ((hb.setCell (p := ⟨w.heap.size + 1, qn, none⟩) (Nat.le_refl _) _).alloc (by simp; omega) _).trans (hbel'.mono (by omega))⟩
            exact row_push (rowIs_grown ((hrow.set qn _).alloc _) hgrow (own_ne_lt hown (by omega)))
          case measure => simp [intOf]; omega
    · have hEw := hE.below (unbox hb)
      go_wp2_with (first | (go_at_call 149; refine (graphOf_43 n A c _ st Hst.out Hm.out hne (hEw.more (by omega))).mono ?_; rintro e w1 ⟨⟨H, L, rfl, hgr, hH, hL⟩, hb1⟩) | fail)
      have hIH : H ≠ w.heap.size + 1 := by omega
      have hIL : L ≠ w.heap.size + 1 := by omega
      have hkl : k = l.length := by omega
      subst hkl
      have hinv' := hinv.out
      rw [List.take_length] at hinv'
      have hvb : ∀ g, (Value.slice A2 xs.length c2).ownBlock = some g → g < wr.heap.size := fun g hg => (hown.lt g hg).2
      have hown1 : w1.ownsRow (w.heap.size + 1 + 1) 3 1 (.slice A2 xs.length c2) xs.length (xs.map (Value.int .i64)) := hown.kept (row := none) ⟨hb1.os, hb1.tape, hb1.output, hb1.size, fun k hk _ => hb1.block k hk⟩ (by
        cases hv : (Value.slice A2 xs.length c2).ownBlock <;> simp)
      refine (grow_any (fun e => Edge.none_ e) n.edges st H L (w.heap.size + 1) A c xs (.slice A2 xs.length c2) w1 (by omega) hne (by rw [← Hst.out]; exact Hes.out) ((hEw.below (hb1.mono (by omega))).more (by omega)) hgr hIH hIL
        (fun h => by have := hvb _ h; omega) (fun h => by have := hvb _ h; omega) (hrow.of_block (hb1.block _ hIl)) hown1 hinv'.nodup (fun q hq => ((hinv'.set q).1 hq).2)).mono ?_
      rintro e w2 ⟨⟨v2, ys, rfl, _, hcl, hrow2⟩, hb2⟩
      go_wp2_with fail
      go_ret
      refine ⟨⟨_, ys, rfl, hrow2, fun q => ?_⟩, (unbox hb).trans ((hb1.mono (by omega)).trans (hb2.mono (by omega)))⟩
      rw [hcl.done (Nat.le_refl _) q]
      have e1 : (fun x => x ∈ xs) = S0 n.st l := by funext x; rw [Hst.out]; exact propext (hinv'.set x)
      rw [e1]
end
section
open Go.RowKit
theorem may_yes (n : Net) (A : Option Addr) (c : Nat) (w : World) (hm : n.may = true) (hn : n.edges.length ≤ 1000000) (hc : EdgesAt w w.heap.size A n.edges) :
    Calls Tryz.prog 120 #[.agg #[.int .i64 n.st, .int .i64 n.start, .int .i64 n.fin, .slice A n.edges.length c]] w fun e w' => e = .returned (.int .i64 0) ∧ Below w.heap.size w w' := by
  have := may_any n A c w (by omega) hc
  rwa [mayV_yes hm] at this
theorem rowIs_cells {w : World} {I n : Nat} {t : TypeId} {f : Nat → Value} (h : w.rowIs I t n f) : CellsAt w w.heap.size (some ⟨I, 0, none⟩) ((List.range n).map f) := by
  intro j hj
  rw [List.length_map, List.length_range] at hj
  refine ⟨I, 0, rfl, h.lt, ?_⟩
  rw [List.getElem_map, List.getElem_range]
  simpa using h.cell hj
theorem reached_none (n : Net) (l : List Int) (A A' : Option Addr) (c c' : Nat) (w : World) (hm : n.may = true) (hne : n.edges.length ≤ 1000000) (hn : l.length ≤ 1000000000)
    (hE : EdgesAt w w.heap.size A n.edges) (hl : IntsAt w w.heap.size A' l) :
    Calls Tryz.prog 141 #[.agg #[.int .i64 n.st, .int .i64 n.start, .int .i64 n.fin, .slice A n.edges.length c], .slice A' l.length c', .func (.func 142) #[] #[]] w fun e w' => (∃ I bs, e = .returned (.slice (some ⟨I, 0, none⟩) bs.length bs.length) ∧ bs.length = n.st.toNat ∧ BoolsAt w' w'.heap.size (some ⟨I, 0, none⟩) bs ∧
      Marks bs (Eps Edge.none_ n.edges (S0 n.st l))) ∧ Below w.heap.size w w' := by
  obtain ⟨hm1, hm2, _⟩ := may_iff.1 hm
  obtain ⟨st, hst⟩ := Int.eq_ofNat_of_zero_le (show 0 ≤ n.st by omega)
  have h := reached_43 n l A A' c c' w st hst hm hne hn hE hl
  rw [← hst] at h
  refine h.mono ?_
  rintro e w' ⟨⟨I, xs, rfl, hrow, hset⟩, hb⟩
  have hlen : ((List.range st).map fun q : Nat => hasB xs (q : Int)).length = st := by simp
  refine ⟨⟨I, (List.range st).map fun q : Nat => hasB xs (q : Int), by rw [hlen], by rw [hlen]; omega, ?_, ?_⟩, hb⟩
  · have := rowIs_cells hrow
    rwa [show ((List.range st).map fun q : Nat => Value.bool (hasB xs (q : Int))) = ((List.range st).map fun q : Nat => hasB xs (q : Int)).map Value.bool by simp [List.map_map, Function.comp_def]] at this
  · intro k hk
    rw [hlen] at hk
    rw [List.getElem?_map, List.getElem?_range hk]
    simp only [Option.map_some, Option.some.injEq]
    rw [hasB_iff]
    exact hset k
set_option maxHeartbeats 1600000 in
theorem closed_any (n : Net) (l : List Int) (A A' : Option Addr) (c c' : Nat) (w : World) (hm : n.may = true) (hne : n.edges.length ≤ 1000000) (hn : l.length ≤ 1000000000)
    (hE : EdgesAt w w.heap.size A n.edges) (hl : IntsAt w w.heap.size A' l) :
    Calls Tryz.prog 127 #[.agg #[.int .i64 n.st, .int .i64 n.start, .int .i64 n.fin, .slice A n.edges.length c], .slice A' l.length c'] w fun e w' => (∃ v, e = .returned v ∧ OwnInts w w' (rising n.st (Eps Edge.none_ n.edges (S0 n.st l))) v) ∧ Below w.heap.size w w' := by
  have Hm := Lib.hid hm
  obtain ⟨hm1, hm2, _⟩ := may_iff.1 hm
  clear hm
  have hE1 := hE.alloc (Nat.le_refl _) (.cells #[.int .i64 n.st, .int .i64 n.start, .int .i64 n.fin, .slice A n.edges.length c] 143)
  have hl1 := hl.alloc (Nat.le_refl _) (.cells #[.int .i64 n.st, .int .i64 n.start, .int .i64 n.fin, .slice A n.edges.length c] 143)
  go_enter Tryz.func127, Tryz.ntmps127
  go_wp2_with (go_at_call 120; refine (may_yes n A c _ Hm.out hne (hE1.more (by simp))).mono ?_; rintro e w1 ⟨rfl, hb1⟩; (obtain ⟨q0, q1, q2, q3, hsz⟩ := boxed4 (by simpa using hb1)))
  have hb1' : Below (w.heap.size + 1) (w.alloc (.cells #[.int .i64 n.st, .int .i64 n.start, .int .i64 n.fin, .slice A n.edges.length c] 143)) w1 := by simpa using hb1
  refine (reached_none n l A A' c c' w1 Hm.out hne hn ((hE.below (unbox hb1')).more (by omega)) ((hl.below (unbox hb1')).more (by omega))).mono ?_
  rintro e w2 ⟨⟨I, bs, rfl, hbl, hbs, hmk⟩, hb2⟩
  have Hbl := Lib.hid hbl
  have hbl2 : bs.length ≤ 1000000 := by omega
  clear hbl
  go_wp2_with fail
  refine (states_any bs _ (some ⟨I, 0, none⟩) bs.length w2 (by omega) hmk hbs).mono ?_
  rintro e w3 ⟨⟨v, rfl, hv⟩, hb3⟩
  go_wp2_with fail
  go_ret
  obtain ⟨A3, c3, rfl, hown⟩ := hv
  have hbl := Hbl.out
  have e1 : ((bs.length : Nat) : Int) = n.st := by omega
  rw [e1] at hown
  refine ⟨⟨_, by rw [e1], ?_⟩, (unbox hb1').trans ((hb2.mono (by omega)).trans (hb3.mono (by have := hb2.size; omega)))⟩
  exact ownInts_of hown (by have := hb2.size; omega)
end
end Go.Proofs.YtghlodpbbghcoaaGreatDoor.Rx
