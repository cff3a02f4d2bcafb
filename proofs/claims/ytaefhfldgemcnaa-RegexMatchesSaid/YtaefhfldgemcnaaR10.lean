/- Walks over expressions, tenth part: the nets of the four makes of parts. -/
import Derived.Test.YtaefhfldgemcnaaR9
namespace Go.Proofs.Ytaefhfldgemcnaa
open Go.RowKit

/-- Jobs in memory and jobs: the trees lie in blocks below N. -/
def JobsOk (w : World) (N : Nat) (jvs : List JV) (js : List Job) : Prop :=
  jvs.length = js.length ∧ ∀ (i : Nat) (x : JV) (j : Job), jvs[i]? = some x → js[i]? = some j → x.src = j.frm ∧ x.dst = j.to ∧ PartAt w (· < N) x.v j.t
theorem JobsOk.nil (w : World) (N : Nat) : JobsOk w N [] [] := ⟨rfl, fun i x j h => by simp at h⟩
theorem below_moves {N M : Nat} {w w' : World} (h : Below M w w') (hN : N ≤ M) : Moves (· < N) (· < N) w w' := fun g hg => ⟨hg, h.block g (Nat.lt_of_lt_of_le hg hN)⟩
theorem JobsOk.below {w w' : World} {N M : Nat} {jvs : List JV} {js : List Job} (h : JobsOk w N jvs js) (hb : Below M w w') (hN : N ≤ M) : JobsOk w' N jvs js :=
  ⟨h.1, fun i x j h1 h2 => by
    obtain ⟨a, b, c⟩ := h.2 i x j h1 h2
    exact ⟨a, b, c.move (below_moves hb hN)⟩⟩
theorem JobsOk.append {w : World} {N : Nat} {x1 x2 : List JV} {j1 j2 : List Job} (h : JobsOk w N x1 j1) (k : JobsOk w N x2 j2) : JobsOk w N (x1 ++ x2) (j1 ++ j2) := by
  refine ⟨by simp [h.1, k.1], ?_⟩
  intro i x j h1 h2
  by_cases hi : i < x1.length
  · rw [List.getElem?_append_left hi] at h1
    rw [List.getElem?_append_left (by rw [← h.1]; exact hi)] at h2
    exact h.2 i x j h1 h2
  · rw [List.getElem?_append_right (by omega)] at h1
    rw [List.getElem?_append_right (by rw [← h.1]; omega), ← h.1] at h2
    exact k.2 _ x j h1 h2
theorem JobsOk.one {w : World} {N : Nat} {v : Value} {t : T} (a b : Nat) (h : PartAt w (· < N) v t) : JobsOk w N [⟨v, a, b⟩] [⟨t, a, b⟩] := by
  refine ⟨rfl, ?_⟩
  intro i x j h1 h2
  cases i with
  | zero =>
    simp at h1 h2
    subst h1 h2
    exact ⟨rfl, rfl, h⟩
  | succ i => simp at h1
theorem JobsOk.take {w : World} {N : Nat} {jvs : List JV} {js : List Job} (h : JobsOk w N jvs js) (n : Nat) : JobsOk w N (jvs.take n) (js.take n) := by
  refine ⟨by simp [h.1], ?_⟩
  intro i x j h1 h2
  rw [List.getElem?_take] at h1 h2
  split at h1
  · rename_i hi
    rw [if_pos hi] at h2
    exact h.2 i x j h1 h2
  · cases h1

/-- What a part's net does to the maker. -/
def NetPost (N b : Nat) (r : Made) (es : List Edge) (jvs : List JV) (w : World) (e : Ending) (w' : World) : Prop :=
  e = .returned (.tuple #[]) ∧ (∃ jvs', MkAt w' b r.st (es ++ r.es) (jvs ++ jvs') ∧ JobsOk w N jvs' r.js) ∧ Below b w w'

theorem MkAt.edge {w w' : World} {b st : Nat} {es : List Edge} {js : List JV} {A A' A2 : Option Addr} {c c' c2 : Nat} (e : Edge)
    (h1 : w'.heap[b]? = some (.cells #[.int .i64 st, .slice A es.length c, .slice A' js.length c'] 105 (0, 0)))
    (h2 : w.ownsRow (b + 1) 35 4 (.slice A es.length c) es.length (flat edgeCells es))
    (hown2 : w'.ownsRow (b + 1) 35 4 (.slice A2 (es.length + 1) c2) (es.length + 1) (flat edgeCells es ++ edgeCells e))
    (h3 : w.ownsRow (b + 1) 108 3 (.slice A' js.length c') js.length (flat jobCells js)) (hgrow : w.grownBy w' (Value.slice A es.length c).ownBlock) :
    MkAt (w'.setCell ⟨b, 1, none⟩ (.slice A2 (es.length + 1) c2)) b st (es ++ [e]) js := by
  refine ⟨A2, c2, A', c', ?_, ?_, ?_⟩
  · rw [List.length_append]
    exact blk_set_self h1 1 _
  · rw [List.length_append, flat_append, flat_one]
    exact ownsRow_setCell_below hown2 (a := ⟨b, 1, none⟩) (by simp) _
  · exact ownsRow_setCell_below (own_grown h3 h2 hgrow (by decide)) (a := ⟨b, 1, none⟩) (by simp) _

set_option maxRecDepth 8192 in
set_option maxHeartbeats 3200000 in
theorem setNet_any (b st a c : Nat) (m : List Bool) (es : List Edge) (jvs : List JV) (w : World) (hm : m.length = 95) (h : MkAt w b st es jvs) (hn : es.length ≤ 900000) :
    Calls Try.prog 108 #[.agg (bcells m), .pointer (some ⟨b, 0, none⟩), .int .i64 a, .int .i64 c] w (MkPost0 b st (es ++ setEdges m a c 0) jvs w) := by
  have Hm := Lib.hid hm
  have hlb := h.lt
  have H := Lib.hid (h.alloc (.cells (bcells m) 96))
  have Hg : Hid ((w.alloc (.cells (bcells m) 96)).heap[w.heap.size]? = some (.cells (bcells m) 96 (0, 0))) := blk_new _ _
  have Hb : Hid (Below b w (w.alloc (.cells (bcells m) 96))) := (Below.refl _ _).alloc (by omega) _
  clear h hm
  go_enter Try.func108, Try.ntmps108
  go_wp2_with fail
  generalize w.alloc _ = W at H Hg Hb ⊢
  go_loopw [8] (fun x wr => ∃ (i : Nat) (dn : List Edge), x = .int .i64 i ∧ i ≤ 95 ∧ Hid (setEdges m a c 0 = dn ++ setEdges m a c i) ∧ dn.length ≤ i ∧ Hid (MkAt wr b st (es ++ dn) jvs) ∧ Hid (wr.heap[w.heap.size]? = some (.cells (bcells m) 96 (0, 0))) ∧ Hid (Below b w wr)) (fun x _ => 95 - (intOf x).toNat)
  case atStart => exact ⟨0, [], rfl, by omega, rfl, Nat.le_refl _, by rw [List.append_nil]; exact H, Hg, Hb⟩
  case round =>
    clear H Hg Hb
    obtain ⟨i, dn, rfl, hi, hdn, hdl, hmk, hg, hb⟩ := hrel
    by_cases hlt : i < 95
    · have hlti : (i : Int) < 95 := by omega
      have c1 : wr.cell? ⟨w.heap.size, i, none⟩ = some (.bool (m.getD i false)) := (blk_cell hg.out i).trans (bcells_get (by rw [Hm.out]; exact hlt))
      cases hmi : m.getD i false with
      | false =>
        rw [hmi] at c1
        have hdn2 : Hid (setEdges m a c 0 = dn ++ setEdges m a c (i + 1)) := by show _ = _; rw [hdn.out, setEdges_no hlt hmi]
        clear hdn
        go_wp2_with fail
        go_roundw
        case rel => exact ⟨i + 1, dn, by go_num, by omega, hdn2, by omega, hmk, hg, hb⟩
        case measure => simp [intOf]; omega
      | true =>
        rw [hmi] at c1
        have hr := runEnd_range m hlt
        have hdn2 : Hid (setEdges m a c 0 = (dn ++ [⟨a, c, 32 + (i : Int), 32 + (runEnd m i : Int)⟩]) ++ setEdges m a c (runEnd m i + 1)) := by show _ = _; rw [hdn.out, setEdges_yes hlt hmi, List.append_assoc]; rfl
        have HRun := Lib.hid (run_any w.heap.size i m wr Hm.out hg.out hlt)
        generalize runEnd m i = r at hr hdn2 HRun
        clear hdn
        go_wp2_with fail
        refine HRun.out.mono ?_
        rintro e w' ⟨rfl, rfl⟩
        obtain ⟨A, c0, A', c', h1, h2, h3⟩ := hmk.out
        have b1 : wr.cell? ⟨b, 1, none⟩ = some (.slice A (es ++ dn).length c0) := blk_cell h1 1
        have bf : wr.frozen? ⟨b, 1, none⟩ = false := blk_frozen h1 1
        obtain ⟨en, hen⟩ : ∃ en, (es ++ dn).length = en := ⟨_, rfl⟩
        have hen2 : en ≤ 900095 := by rw [← hen, List.length_append]; omega
        have Hen := Lib.hid hen
        rw [hen] at b1
        have h1' := h1
        rw [hen] at h1'
        have H1 := Lib.hid h1'
        have H2 := Lib.hid h2
        have H3 := Lib.hid h3
        have h4 : wr.ownsRow (b + 1) 35 4 (.slice A en c0) en (flat edgeCells (es ++ dn)) := by rw [← hen]; exact h2
        have hgb : w.heap.size ≠ b := by omega
        have hbz := hb.out.size
        clear h1 h1' h2 h3 hen
        go_wp2_with (at_builtin; refine wpList_append_new_at info35 Try.underlying22 rfl (by decide) (by decide) _ h4 1 rfl _ _ rfl rfl rfl (by simp) rfl rfl (by omega) (by omega) ?_; intro v' w' hown' hbel hgt hgrow hnew; have hbx := blk_grown H1.out hgrow (own_ne h4 H1.out (by decide)); have cf' := blk_frozen hbx 1; have c1' : w'.cell? ⟨b, 1, none⟩ = some (.slice A en c0) := blk_cell hbx 1; have Hbx := Lib.hid hbx; obtain ⟨A2, c2, rfl, hown2⟩ := own_form hown'; clear hbx)
        have hg2 := Lib.hid (blk_set (p := ⟨b, 1, none⟩) (blk_grown hg.out hgrow (own_ne h4 hg.out (by decide))) hgb (.slice A2 (en + 1) c2))
        have hb2 := Lib.hid ((hb.out.trans (hbel.mono (Nat.le_succ b))).setCell (p := ⟨b, 1, none⟩) (Nat.le_refl _) (.slice A2 (en + 1) c2))
        have hmk2 : Hid (MkAt (w'.setCell ⟨b, 1, none⟩ (.slice A2 (en + 1) c2)) b st (es ++ (dn ++ [⟨a, c, 32 + (i : Int), 32 + (r : Int)⟩])) jvs) := by
          show MkAt _ _ _ _ _
          rw [← List.append_assoc, ← Hen.out]
          exact MkAt.edge ⟨a, c, 32 + (i : Int), 32 + (r : Int)⟩ (by rw [Hen.out]; exact Hbx.out) H2.out (by rw [Hen.out]; exact hown2) H3.out (by rw [Hen.out]; exact hgrow)
        go_roundw
        case rel => exact ⟨r + 1, dn ++ [⟨a, c, 32 + (i : Int), 32 + (r : Int)⟩], by go_num, by omega, hdn2, by simp; omega, hmk2, hg2, hb2⟩
        case measure => simp [intOf]; omega
    · obtain rfl : i = 95 := by omega
      go_wp2_with fail
      refine bodyPost_end (results_none rfl _ _ _) rfl ?_
      refine ⟨rfl, ?_, hb.out⟩
      rw [hdn.out, setEdges_end (Nat.le_refl _), List.append_nil]
      exact hmk.out
end Go.Proofs.Ytaefhfldgemcnaa
