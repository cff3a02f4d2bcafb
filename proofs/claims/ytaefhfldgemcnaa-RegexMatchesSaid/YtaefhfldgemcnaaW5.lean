/- Walks over nets, fifth part: the edges of a net by the state that they go from. -/
import Derived.Test.YtaefhfldgemcnaaW4
import Derived.RegionTactic
import Derived.BigRegion
import Derived.Deep.OwnRows
import Derived.Deep.DeepCutAuto
namespace Go.Proofs.Ytaefhfldgemcnaa
open Go.RowKit

theorem blk_cell {w : World} {g : Nat} {cs : Array Value} {t : TypeId} (h : w.heap[g]? = some (.cells cs t (0, 0))) (i : Nat) : w.cell? ⟨g, i, none⟩ = cs[i]? := by simp [World.cell?, h]
theorem blk_lt {w : World} {g : Nat} {o : Obj} (h : w.heap[g]? = some o) : g < w.heap.size := (Array.getElem?_eq_some_iff.1 h).1
theorem blk_alloc {w : World} {g : Nat} {o : Obj} (h : w.heap[g]? = some o) (o' : Obj) : (w.alloc o').heap[g]? = some o := (Below.heap_alloc w o' g (blk_lt h)).trans h
theorem blk_new (w : World) (o : Obj) : (w.alloc o).heap[w.heap.size]? = some o := heap_alloc_new w o
theorem blk_below {B : Nat} {w w' : World} {g : Nat} {o : Obj} (h : w.heap[g]? = some o) (hb : Below B w w') (hg : g < B) : w'.heap[g]? = some o := (hb.block g hg).trans h
theorem blk_set {w : World} {g : Nat} {o : Obj} (h : w.heap[g]? = some o) {p : Addr} (hp : g ≠ p.block) (u : Value) : (w.setCell p u).heap[g]? = some o := (Below.heap_setCell w p u g hp).trans h

theorem blk_new' {w : World} {o : Obj} {g : Nat} (h : g = w.heap.size) : (w.alloc o).heap[g]? = some o := by subst h; exact blk_new w o
theorem blk_drew {w : World} {g : Nat} {o : Obj} (h : w.heap[g]? = some o) : w.drew.heap[g]? = some o := h
theorem rowIs_made' {w : World} {z : Value} {n g : Nat} {t : TypeId} (h : g = w.heap.size) : (w.alloc (.cells (madeCells #[z] n) t)).rowIs g t n (fun _ => z) := by subst h; exact World.rowIs_made w z n t

/-- A net's edges by the state that they go from, as the code lays them: the blocks H and L. -/
structure GraphAt (w : World) (by_ : Edge → Bool) (es : List Edge) (st k H L : Nat) : Prop where
  head : w.rowIs H 3 st (fun q => .int .i64 (prevIdx by_ es (q : Int) k))
  link : w.rowIs L 3 es.length (fun j => .int .i64 (linkF by_ es k j))

set_option maxHeartbeats 3200000 in
theorem graphOf_43 (n : Net) (A : Option Addr) (c : Nat) (w : World) (st : Nat) (hst : n.st = st) (hm : n.may = true) (hne : n.edges.length ≤ 1000000)
    (hE : EdgesAt w w.heap.size A n.edges) :
    Calls Try.prog 42 #[.agg #[.int .i64 st, .int .i64 n.start, .int .i64 n.fin, .slice A n.edges.length c], .func (.func 43) #[] #[]] w fun e w' => (∃ H L, e = .returned (.agg #[.slice A n.edges.length c, .slice (some ⟨H, 0, none⟩) st st, .slice (some ⟨L, 0, none⟩) n.edges.length n.edges.length]) ∧
      GraphAt w' (fun e => Edge.none_ e) n.edges st n.edges.length H L ∧ w.heap.size ≤ H ∧ w.heap.size ≤ L) ∧ Below w.heap.size w w' := by
  obtain ⟨hm1, hm2, _, _, hes⟩ := may_iff.1 hm
  rw [hst] at hm1 hm2 hes
  have Hes := Lib.hid hes
  clear hes hm hst
  have hmk := run_make_row' (P := Try.prog) 36 3 (.int .i64 0) 8 Try.underlying36 info3 rfl .i64 .i64 st (by omega) (by omega)
  have hmk2 := run_make_row' (P := Try.prog) 36 3 (.int .i64 0) 8 Try.underlying36 info3 rfl .i64 .i64 n.edges.length (by omega) (by omega)
  go_enter Try.func42, Try.ntmps42
  go_upto_region 1 with fail
  go_cut [5] (fun s5 wx => ∃ G H L : Nat, s5 = .pointer (some ⟨G, 0, none⟩) ∧ wx.heap[G]? = some (.cells #[.slice A n.edges.length c, .slice (some ⟨H, 0, none⟩) st st, .slice (some ⟨L, 0, none⟩) n.edges.length n.edges.length] 61 (0, 0)) ∧ GraphAt wx (fun e => Edge.none_ e) n.edges st 0 H L ∧ w.heap.size + 2 ≤ G ∧ w.heap.size + 2 ≤ H ∧ w.heap.size + 2 ≤ L ∧ G ≠ H ∧ G ≠ L ∧ H ≠ L ∧
    Below (w.heap.size + 2) ((w.alloc (.cells #[.int .i64 st, .int .i64 n.start, .int .i64 n.fin, .slice A n.edges.length c] 24)).alloc (.cells #[.slice none 0 0, .slice none 0 0, .slice none 0 0] 61)) wx)
  case first =>
    go_region
    all_goals go_wp2_with fail
    all_goals go_meet
    all_goals
      apply Exists.intro
      apply Exists.intro
      apply Exists.intro
      refine ⟨rfl, ?qG, ?qR⟩
      case qG => first | exact blk_drew (blk_new' (by simp)) | exact blk_drew (blk_alloc (blk_new' (by simp)) _) | exact blk_drew (blk_alloc (blk_alloc (blk_new' (by simp)) _) _)
      case qR =>
        refine ⟨⟨?_, ?_⟩, by omega, by omega, by omega, by omega, by omega, by omega, ?_⟩
        · refine World.rowIs.congr (f := fun _ => .int .i64 0) ?_ (fun _ _ => rfl)
          first | exact (rowIs_made' (by simp)).drew | exact ((rowIs_made' (by simp)).alloc _).drew | exact (((rowIs_made' (by simp)).alloc _).alloc _).drew
        · refine World.rowIs.congr (f := fun _ => .int .i64 0) ?_ (fun _ _ => by rw [linkF_ge (Nat.zero_le _)]; rfl)
          first | exact (rowIs_made' (by simp)).drew | exact ((rowIs_made' (by simp)).alloc _).drew | exact (((rowIs_made' (by simp)).alloc _).alloc _).drew
        · exact (((Below.refl _ _).alloc (by simp) _).alloc (by simp) _).alloc (by simp) _ |>.drew
  case rest =>
    clear hmk hmk2
    obtain ⟨G, H, L, rfl, hG, hgr, hG2, hH2, hL2, hGH, hGL, hHL, hb⟩ := hcut
    obtain ⟨bb0, bb1, bb2, bb3, bsz⟩ := boxed4 (w := w) (((Below.refl _ _).alloc (by simp) _).trans (hb.mono (by omega)))
    go_wp2
    go_loopw [21] (fun i wr => ∃ k : Nat, k ≤ n.edges.length ∧ i = .int .i64 k ∧ wr.heap[G]? = some (.cells #[.slice A n.edges.length c, .slice (some ⟨H, 0, none⟩) st st, .slice (some ⟨L, 0, none⟩) n.edges.length n.edges.length] 61 (0, 0)) ∧ GraphAt wr (fun e => Edge.none_ e) n.edges st k H L ∧
      Below (w.heap.size + 2) ((w.alloc (.cells #[.int .i64 st, .int .i64 n.start, .int .i64 n.fin, .slice A n.edges.length c] 24)).alloc (.cells #[.slice none 0 0, .slice none 0 0, .slice none 0 0] 61)) wr) (fun i _ => n.edges.length - (intOf i).toNat)
    case atStart => exact ⟨0, Nat.zero_le _, rfl, hG, hgr, hb⟩
    case round =>
      clear hb bb0 bb1 bb2 bb3 bsz hG hgr
      obtain ⟨k, hk, rfl, hG, hgr, hb⟩ := hrel
      have hbw : Below w.heap.size w wr := unbox (((Below.refl _ _).alloc (by simp) _).trans (hb.mono (by omega)))
      have hsz := hb.size
      simp only [World.size_alloc] at hsz
      by_cases hlt : k < n.edges.length
      · obtain ⟨bb, o, e, rfl, hbb, he, e0, e1, e2, e3⟩ := edge_at hE hbw hlt
        obtain ⟨⟨hf0, hf1⟩, ht0, ht1⟩ := ok_iff.1 (Hes.out e (List.mem_of_getElem? he.out))
        obtain ⟨f, hf⟩ := Int.eq_ofNat_of_zero_le hf0
        rw [hf] at e0 hf1
        have Hf := Lib.hid hf
        clear hf hf0
        have hfs : f < st := by omega
        have g0 : wr.cell? ⟨G, 0, none⟩ = some (.slice (some ⟨bb, o, none⟩) n.edges.length c) := blk_cell hG 0
        have g1 : wr.cell? ⟨G, 1, none⟩ = some (.slice (some ⟨H, 0, none⟩) st st) := blk_cell hG 1
        have g2 : wr.cell? ⟨G, 2, none⟩ = some (.slice (some ⟨L, 0, none⟩) n.edges.length n.edges.length) := blk_cell hG 2
        have hGl := blk_lt hG
        have hHl := hgr.head.lt
        have hLl := hgr.link.lt
        have hHc := hgr.head.cell hfs
        have hLc := hgr.link.cell hlt
        have hHf := hgr.head.frozen f
        have hLf := hgr.link.frozen k
        obtain ⟨p, hp⟩ : ∃ p : Nat, p = prevIdx (fun e => Edge.none_ e) n.edges (f : Int) k := ⟨_, rfl⟩
        rw [← hp] at hHc
        have Hp := Lib.hid hp
        clear hp
        obtain ⟨q, hq⟩ : ∃ q : Nat, q = linkF (fun e => Edge.none_ e) n.edges k k := ⟨_, rfl⟩
        rw [← hq] at hLc
        clear hq
        have HG := Lib.hid hG
        clear hG
        cases hby : Edge.none_ ⟨(f : Int), e.to, e.low, e.high⟩ with
        | true =>
          go_upto_region 6 with (go_at_call 43; refine (none_any _ _ _ _ _).mono ?_; rintro e w' ⟨rfl, rfl⟩)
          go_region
          go_wp2
          go_roundw
          case rel =>
            refine ⟨k + 1, by omega, by go_num, ?_, ⟨?_, ?_⟩, ?_⟩
            · exact blk_drew (blk_alloc (blk_alloc (blk_set (p := ⟨H, f, none⟩) (blk_set (p := ⟨L, k, none⟩) HG.out hGL _) hGH _) _) _)
            · refine World.rowIs.congr (((((hgr.head.setOther (a := ⟨L, k, none⟩) hHL _).set f _).alloc _).alloc _).drew) ?_
              intro j hj
              by_cases hjf : j = f
              · subst hjf
                rw [if_pos rfl, prevIdx_yes he.out hby Hf.out]
                go_num
              · rw [if_neg hjf, prevIdx_no he.out (.inr (by rw [Hf.out]; omega))]
            · refine World.rowIs.congr (((((hgr.link.set k _).setOther (a := ⟨H, f, none⟩) (Ne.symm hHL) _).alloc _).alloc _).drew) ?_
              intro j hj
              by_cases hjk : j = k
              · subst hjk
                rw [if_pos rfl, linkF_at he.out hby, Hp.out, Hf.out]
              · rw [if_neg hjk, linkF_ne hjk]
            · exact ((((hb.setCell (p := ⟨L, k, none⟩) hL2 _).setCell (p := ⟨H, f, none⟩) hH2 _).alloc (by simp; omega) _).alloc (by simp; omega) _).drew
          case measure => simp [intOf]; omega
        | false =>
          go_wp2_with (go_at_call 43; refine (none_any _ _ _ _ _).mono ?_; rintro e w' ⟨rfl, rfl⟩)
          go_roundw
          case rel =>
            refine ⟨k + 1, by omega, by go_num, blk_alloc (blk_alloc HG.out _) _, ⟨?_, ?_⟩, (hb.alloc (by omega) _).alloc (by simp; omega) _⟩
            · refine World.rowIs.congr ((hgr.head.alloc _).alloc _) ?_
              intro j hj
              rw [prevIdx_no he.out (.inl hby)]
            · refine World.rowIs.congr ((hgr.link.alloc _).alloc _) ?_
              intro j hj
              by_cases hjk : j = k
              · subst hjk
                rw [linkF_not he.out hby, linkF_ge (Nat.le_refl _)]
              · rw [linkF_ne hjk]
          case measure => simp [intOf]; omega
      · obtain rfl : k = n.edges.length := by omega
        have g0 : wr.cell? ⟨G, 0, none⟩ = some (.slice A n.edges.length c) := blk_cell hG 0
        have g1 : wr.cell? ⟨G, 1, none⟩ = some (.slice (some ⟨H, 0, none⟩) st st) := blk_cell hG 1
        have g2 : wr.cell? ⟨G, 2, none⟩ = some (.slice (some ⟨L, 0, none⟩) n.edges.length n.edges.length) := blk_cell hG 2
        have q0 := hb.cell (p := ⟨w.heap.size + 1, 0, none⟩) (by simp)
        have q1 := hb.cell (p := ⟨w.heap.size + 1, 1, none⟩) (by simp)
        have q2 := hb.cell (p := ⟨w.heap.size + 1, 2, none⟩) (by simp)
        have r0 := hb.frozen (p := ⟨w.heap.size + 1, 0, none⟩) (by simp)
        have r1 := hb.frozen (p := ⟨w.heap.size + 1, 1, none⟩) (by simp)
        have r2 := hb.frozen (p := ⟨w.heap.size + 1, 2, none⟩) (by simp)
        simp at q0 q1 q2 r0 r1 r2
        go_wp2
        refine bodyPost_ret (v := .agg #[.slice A n.edges.length c, .slice (some ⟨H, 0, none⟩) st st, .slice (some ⟨L, 0, none⟩) n.edges.length n.edges.length]) (by simp [results, Try.results42, go_sem, q0, q1, q2]) rfl ⟨⟨H, L, rfl, ⟨?_, ?_⟩, by omega, by omega⟩, ?_⟩
        · exact ((hgr.head.setOther (a := ⟨w.heap.size + 1, 0, none⟩) (by simp; omega) _).setOther (a := ⟨w.heap.size + 1, 1, none⟩) (by simp; omega) _).setOther (a := ⟨w.heap.size + 1, 2, none⟩) (by simp; omega) _
        · exact ((hgr.link.setOther (a := ⟨w.heap.size + 1, 0, none⟩) (by simp; omega) _).setOther (a := ⟨w.heap.size + 1, 1, none⟩) (by simp; omega) _).setOther (a := ⟨w.heap.size + 1, 2, none⟩) (by simp; omega) _
        · exact ((hbw.setCell (p := ⟨w.heap.size + 1, 0, none⟩) (by simp) _).setCell (p := ⟨w.heap.size + 1, 1, none⟩) (by simp) _).setCell (p := ⟨w.heap.size + 1, 2, none⟩) (by simp) _
end Go.Proofs.Ytaefhfldgemcnaa
