/- Walks over expressions: printing a part. -/
import Derived.Test.YtaefhfldgemcnaaR24
namespace Go.Proofs.Ytaefhfldgemcnaa
open Go.RowKit

theorem step_appendY {ops : Array Oper} {o : Oper} {a : Act} {w : World} {K : Act → World → Prop} {Q : Exit → Act → World → Prop} {E : Prop} (hgd : o.guard = none) (s x : Operand)
    (ho : o.op = .call { callee := .builtin .append, args := #[s, x], argTypes := #[32, 32] }) {B : Nat} {v : Value} {L : List UInt8} (hs : a.eval s = v) (hown : OwnY w B v L) {g : Nat} (hx : a.eval x = .slice (some ⟨g, 0, none⟩) 1 1) {c : UInt8}
    (hc : w.heap[g]? = some (.cells #[.int .u8 c.toNat] 5 (0, 0))) (hB : B ≤ w.heap.size) (hn : L.length ≤ 1000000)
    (h : ∀ v' w', OwnY w' B v' (L ++ [c]) → Below B w w' → KeepB v w v' w' → K (a.put o.dst v') w') :
    if Region.wanted o (yielded ops a.tmps) = true then Oper.wp Try.prog o a w K Q else E := by
  obtain ⟨A, n, rfl, h2⟩ := hown
  obtain ⟨i, hi, hz0, hz1, hz2⟩ := info_parts info5
  have h63 : L.length + 1 ≤ maxLen := by unfold maxLen; omega
  refine step_append_lies w hgd s x 32 ho B 5 i _ 1 1 Try.underlying32 hi hz0 hz1 hz2 rfl (by decide) _ L.length (bys L) hs h2 ⟨g, 0, none⟩ 1 1 [.int .u8 c.toNat] hx rfl (World.news_of_block (cs := #[.int .u8 c.toNat]) hc) (by simp [Value.oneCell']) (by decide) h63 (by omega) hB w.heap.size rfl ?_
  intro g' cap w' hown' hgrow hat _
  refine h _ w' (OwnY.mk (n := L.length + 1) ?_) ((Below.refl B w).grown hgrow hB fun k hk => (h2.lt k hk).1) (KeepB.grown hgrow ?_)
  · rw [bys_append]
    exact hown'
  · intro k hk
    have : g' = k := by simpa [Value.ownBlock] using hk
    subst this
    exact hat.imp id (fun h => by omega)

/-- What holds of a row that grows from w on. -/
structure St (B : Nat) (v0 : Value) (w : World) (v : Value) (w' : World) (L : List UInt8) : Prop where
  own : OwnY w' B v L
  below : Below B w w'
  keep : KeepB v0 w v w'
  le : B ≤ w'.heap.size
theorem St.refl {B : Nat} {v : Value} {w : World} {L : List UInt8} (h : OwnY w B v L) (hB : B ≤ w.heap.size) : St B v w v w L := ⟨h, Below.refl _ _, KeepB.refl _ _, hB⟩
theorem St.step {B : Nat} {v0 v v' : Value} {w0 w w' : World} {L L' : List UInt8} (h : St B v0 w0 v w L) (ho : OwnY w' B v' L') (hb : Below B w w') (hk : KeepB v w v' w') : St B v0 w0 v' w' L' :=
  ⟨ho, h.below.trans hb, h.keep.trans hk, Nat.le_trans h.le hk.size⟩
theorem St.later {B : Nat} {v0 v : Value} {w0 w w' : World} {L : List UInt8} (h : St B v0 w0 v w L) (hb : Below w.heap.size w w') : St B v0 w0 v w' L :=
  h.step (h.own.below hb) (hb.mono h.le) (KeepB.of_below v hb)
theorem St.alloc {B : Nat} {v0 v : Value} {w0 w : World} {L : List UInt8} (h : St B v0 w0 v w L) (o : Obj) : St B v0 w0 v (w.alloc o) L := h.later ((Below.refl _ _).alloc (Nat.le_refl _) o)
theorem St.drew {B : Nat} {v0 v : Value} {w0 w : World} {L : List UInt8} (h : St B v0 w0 v w L) : St B v0 w0 v w.drew L := h.later ((Below.refl _ _).drew)
theorem St.post {B : Nat} {v0 v : Value} {w0 w : World} {L : List UInt8} (h : St B v0 w0 v w L) : WrPost B v0 L w0 (.returned v) w := ⟨v, rfl, h.own, h.below, h.keep⟩
/-- A byte lies in block k, which is not v's own. -/
def Blt (w : World) (v : Value) (k : Nat) (c : UInt8) : Prop := w.heap[k]? = some (.cells #[.int .u8 c.toNat] 5 (0, 0)) ∧ v.ownBlock ≠ some k
theorem OwnY.lt {w : World} {B : Nat} {v : Value} {L : List UInt8} (h : OwnY w B v L) {k : Nat} (hk : v.ownBlock = some k) : B ≤ k ∧ k < w.heap.size := by
  obtain ⟨A, c, rfl, h2⟩ := h
  exact h2.lt k hk
theorem Blt.new {w : World} {B : Nat} {v : Value} {L : List UInt8} (h : OwnY w B v L) (c : UInt8) : Blt (w.alloc (.cells #[.int .u8 c.toNat] 5)) v w.heap.size c :=
  ⟨blk_new _ _, fun hk => by have := (h.lt hk).2; omega⟩
theorem Blt.new2 {w : World} {B : Nat} {v : Value} {L : List UInt8} {o : Obj} (h : OwnY w B v L) (c : UInt8) : Blt ((w.alloc o).alloc (.cells #[.int .u8 c.toNat] 5)) v (w.heap.size + 1) c :=
  ⟨blk_new' (by simp), fun hk => by have := (h.lt hk).2; omega⟩
theorem Blt.step {w w' : World} {v v' : Value} {k : Nat} {c : UInt8} (h : Blt w v k c) (hk : KeepB v w v' w') : Blt w' v' k c :=
  ⟨(hk.block k (blk_lt h.1) h.2).trans h.1, fun h2 => (hk.own k h2).elim h.2 fun h3 => by have := blk_lt h.1; omega⟩
theorem Blt.later {w w' : World} {v : Value} {k : Nat} {c : UInt8} (h : Blt w v k c) (hb : Below w.heap.size w w') : Blt w' v k c := h.step (KeepB.of_below v hb)
theorem Blt.alloc {w : World} {v : Value} {k : Nat} {c : UInt8} (h : Blt w v k c) (o : Obj) : Blt (w.alloc o) v k c := h.later ((Below.refl _ _).alloc (Nat.le_refl _) o)
theorem Blt.drew {w : World} {v : Value} {k : Nat} {c : UInt8} (h : Blt w v k c) : Blt w.drew v k c := h.later ((Below.refl _ _).drew)

/-- What printing a part does. -/
def WriteOk (B : Nat) (t : T) : Prop := ∀ (place : Nat) (pv v : Value) (L : List UInt8) (w : World), place ≤ 2 → PartAt w (· < B) pv t → OwnY w B v L → B ≤ w.heap.size → L.length + 500 * t.size ≤ 800000 →
  Calls Try.prog 63 #[v, pv, .int .i64 place] w (WrPost B v (L ++ wr t place) w)
/-- How long what is printed is. -/
theorem wRuns_len (m : List Bool) : ∀ (f i : Nat), (wRuns m f i).length ≤ 5 * f := by
  intro f
  induction f with
  | zero => intro i; simp [wRuns]
  | succ f ih =>
    intro i
    rw [wRuns]
    have h1 := wSign_len (UInt8.ofNat (32 + i)) spC
    have h2 := wSign_len (UInt8.ofNat (32 + runEnd m i)) spC
    have h3 := ih (runEnd m i + 1)
    have h4 := ih (i + 1)
    split
    · split
      · split <;> simp only [List.length_append, List.length_cons, List.length_nil] <;> omega
      · omega
    · simp
theorem wSet_len (m : List Bool) : (wSet m).length ≤ 480 := by
  unfold wSet
  have h1 := wSign_len (UInt8.ofNat (32 + firstOf m)) spA
  have h2 := wRuns_len m 95 0
  split
  · simp
  · split
    · simp
    · split
      · omega
      · simp only [List.length_append, List.length_cons, List.length_nil]; omega

theorem wr_len_all (n : Nat) : (∀ t, t.size ≤ n → ∀ place, (wr t place).length ≤ 500 * t.size - 2) ∧ (∀ l, sizes l ≤ n → (wrSeq l).length ≤ 500 * sizes l ∧ (wrAlt l).length ≤ 500 * sizes l) := by
  induction n with
  | zero =>
    refine ⟨fun t h => by have := size_pos t; omega, fun l h => ?_⟩
    cases l with
    | nil => simp [wrSeq, wrAlt]
    | cons t l => rw [sizes] at h; have := size_pos t; omega
  | succ n ih =>
    have hT : ∀ t, t.size ≤ n + 1 → ∀ place, (wr t place).length ≤ 500 * t.size - 2 := by
      intro t h place
      cases t with
      | set m => rw [wr, T.size]; have := wSet_len m; omega
      | rep p op =>
        rw [T.size] at h ⊢
        rw [wr, List.length_append]
        have := ih.1 p (by omega) 2
        have := size_pos p
        simp only [List.length_cons, List.length_nil]
        omega
      | seq l =>
        rw [T.size] at h ⊢
        have := (ih.2 l (by omega)).1
        rw [wr]
        split
        · unfold inBr; simp only [List.length_append, List.length_cons, List.length_nil]; omega
        · omega
      | alt l =>
        rw [T.size] at h ⊢
        have := (ih.2 l (by omega)).2
        rw [wr]
        split
        · omega
        · unfold inBr; simp only [List.length_append, List.length_cons, List.length_nil]; omega
    refine ⟨hT, fun l => ?_⟩
    induction l with
    | nil => intro _; simp [wrSeq, wrAlt]
    | cons t l ihl =>
      intro h
      rw [sizes] at h ⊢
      have h1 := hT t (by omega) 1
      have h2 := ihl (by omega)
      have h3 := size_pos t
      refine ⟨by rw [wrSeq, List.length_append]; omega, ?_⟩
      cases l with
      | nil => rw [wrAlt]; omega
      | cons t2 l =>
        rw [wrAlt]
        · simp only [List.length_append, List.length_cons]; omega
        · simp
theorem wr_len (t : T) (place : Nat) : (wr t place).length ≤ 500 * t.size := by
  have := (wr_len_all t.size).1 t (Nat.le_refl _) place
  omega
theorem as_yes96 (v : Value) (w : World) : (Instr.typeAssert (.iface 96 v) 76 96 true).run Try.prog w = .ok (.tuple #[v, .bool true]) w := by kernel_rfl
theorem as_yes92 (v : Value) (w : World) : (Instr.typeAssert (.iface 92 v) 76 92 true).run Try.prog w = .ok (.tuple #[v, .bool true]) w := by kernel_rfl
theorem as_yes118 (v : Value) (w : World) : (Instr.typeAssert (.iface 118 v) 76 118 true).run Try.prog w = .ok (.tuple #[v, .bool true]) w := by kernel_rfl
theorem as_yes119 (v : Value) (w : World) : (Instr.typeAssert (.iface 119 v) 76 119 true).run Try.prog w = .ok (.tuple #[v, .bool true]) w := by kernel_rfl
theorem as_no96_92 (v : Value) (w : World) : (Instr.typeAssert (.iface 92 v) 76 96 true).run Try.prog w = .ok (.tuple #[.agg Try.zeroCells96, .bool false]) w := by kernel_rfl
theorem as_no96_118 (v : Value) (w : World) : (Instr.typeAssert (.iface 118 v) 76 96 true).run Try.prog w = .ok (.tuple #[.agg Try.zeroCells96, .bool false]) w := by kernel_rfl
theorem as_no96_119 (v : Value) (w : World) : (Instr.typeAssert (.iface 119 v) 76 96 true).run Try.prog w = .ok (.tuple #[.agg Try.zeroCells96, .bool false]) w := by kernel_rfl
theorem as_no92_118 (v : Value) (w : World) : (Instr.typeAssert (.iface 118 v) 76 92 true).run Try.prog w = .ok (.tuple #[.agg #[.nilIface, .int .u8 0], .bool false]) w := by kernel_rfl
theorem as_no92_119 (v : Value) (w : World) : (Instr.typeAssert (.iface 119 v) 76 92 true).run Try.prog w = .ok (.tuple #[.agg #[.nilIface, .int .u8 0], .bool false]) w := by kernel_rfl
theorem as_no118_119 (v : Value) (w : World) : (Instr.typeAssert (.iface 119 v) 76 118 true).run Try.prog w = .ok (.tuple #[.agg #[.slice none 0 0], .bool false]) w := by kernel_rfl

set_option maxRecDepth 8192 in
set_option maxHeartbeats 3200000 in
theorem write_set (B : Nat) (m : List Bool) (hm : m.length = 95) : WriteOk B (.set m) := by
  intro place pv v L w hpl hp ho hB hlen
  rw [wr]
  cases hp
  have Hm := Lib.hid hm
  have Ho := Lib.hid ho
  rw [T.size] at hlen
  clear hm ho
  have a1 := as_yes96
  go_enter Try.func63, Try.ntmps63
  go_upto_region 3 with fail
  have g0 : (w.alloc (.cells Try.zeroCells96 96)).heap[w.heap.size]? = some (.cells (bcells noneM) 96 (0, 0)) := by rw [zero96]; exact blk_new _ _
  have Hth := Lib.hid (set_there Hm.out noneM_length g0)
  have Hst := Lib.hid (set_stored Hm.out noneM_length g0)
  have HS : Hid (St B v w v ((w.alloc (.cells Try.zeroCells96 96)).setCells w.heap.size 0 (bcells m).toList) L) :=
    (St.refl Ho.out hB).later (below_setCells (Nat.le_refl _) _ _ _ ((Below.refl _ _).alloc (Nat.le_refl _) _))
  clear g0
  go_wp2_with (first
    | ((with_reducible show wpList _ _ _ (⟨none, _, _, _, _, _⟩ :: _) _ _); refine wpList_store_mid rfl 96 _ _ rfl w.heap.size 0 _ rfl rfl Hth.out (info96m Hm.out) (bcells_one _) ?_)
    | ((with_reducible show wpList _ _ _ (⟨some 20, _, _, _, _, _⟩ :: _) _ _); refine wpList_load_row rfl 96 _ rfl w.heap.size rfl 96 _ (0, 0) _ Hst.out Try.underlying96 rfl (info96m Hm.out) ?_))
  refine (writeSet_any B v L m Hm.out _ HS.out.own HS.out.le (by omega)).mono ?_
  rintro e w3 ⟨v3, rfl, ho3, hb3, hk3⟩
  have HS3 := Lib.hid (HS.out.step ho3 hb3 hk3)
  clear ho3 hb3 hk3 HS Hst Hth
  go_wp2_with fail
  go_ret
  exact HS3.out.post

set_option maxRecDepth 8192 in
set_option maxHeartbeats 3200000 in
theorem write_rep (B : Nat) (p : T) (op : UInt8) (ih : WriteOk B p) : WriteOk B (.rep p op) := by
  intro place pv v L w hpl hp ho hB hlen
  rw [wr]
  cases hp with
  | @rep pv _ _ hp =>
  obtain ⟨ty, u, rfl⟩ : ∃ ty u, pv = .iface ty u := by cases hp <;> exact ⟨_, _, rfl⟩
  have Hp := Lib.hid hp
  have Ho := Lib.hid ho
  rw [T.size] at hlen
  have hwl : (wr p 2).length ≤ 500 * p.size := wr_len p 2
  clear hp ho
  have a1 := as_yes92
  have a2 := as_no96_92
  go_enter Try.func63, Try.ntmps63
  go_upto_region 7 with fail
  have hG : Hid ((w.alloc (.cells #[.iface ty u, .int .u8 op.toNat] 92)).heap[w.heap.size]? = some (.cells #[.iface ty u, .int .u8 op.toNat] 92 (0, 0))) := blk_new _ _
  have hS : Hid (St B v w v (w.alloc (.cells #[.iface ty u, .int .u8 op.toNat] 92)) L) := (St.refl Ho.out hB).alloc _
  generalize w.alloc _ = W at hG hS ⊢
  have hG := Lib.hid (blk_below hG.out ((Below.refl W.heap.size W).drew) (blk_lt hG.out))
  have hS := Lib.hid hS.out.drew
  have HI : Hid (∀ wx, St B v w v wx L → Calls Try.prog 63 #[v, .iface ty u, .int .i64 2] wx (WrPost B v (L ++ wr p 2) wx)) :=
    fun wx hs => ih 2 _ v L wx (by omega) (Hp.out.move (below_moves hs.below (Nat.le_refl _))) hs.own hs.le (by omega)
  clear a1 a2
  go_region_held3 (fun w' => w'.cell? ⟨w.heap.size, 0, none⟩ = some (.iface ty u) ∧ w'.cell? ⟨w.heap.size, 1, none⟩ = some (.int .u8 op.toNat)) (first | exact ⟨blk_cell hG.out 0, blk_cell hG.out 1⟩ | exact ⟨blk_cell (blk_alloc hG.out _) 0, blk_cell (blk_alloc hG.out _) 1⟩)
    (first
      | (go_at_call 63; refine (HI.out _ (by exact hS.out)).mono ?_; rintro e w' ⟨v1, rfl, ho1, hb1, hk1⟩; have hG := Lib.hid (hk1.blk hS.out.own hG.out (by decide)); have hS := Lib.hid (hS.out.step ho1 hb1 hk1); clear ho1 hb1 hk1)
      | (go_at_call 63; refine (HI.out _ (by exact hS.out.alloc _)).mono ?_; rintro e w' ⟨v1, rfl, ho1, hb1, hk1⟩; have hG := Lib.hid (hk1.blk (hS.out.alloc _).own (blk_alloc hG.out _) (by decide)); have hT := Lib.hid ((Blt.new hS.out.own op).step hk1); have hS := Lib.hid ((hS.out.alloc _).step ho1 hb1 hk1); clear ho1 hb1 hk1)
      | (refine step_appendY (by rfl) _ _ (by rfl) (by rfl) hS.out.own (by rfl) hT.out.1 hS.out.le (by rw [List.length_append]; omega) ?_; intro v6 w6 ho6 hb6 hk6; have hG := Lib.hid (hk6.blk hS.out.own hG.out (by decide)); have hS := Lib.hid (hS.out.step ho6 hb6 hk6); clear ho6 hb6 hk6)
      | (refine step_appendY (c := op) (by rfl) _ _ (by rfl) (by rfl) (hS.out.alloc _).own (by rfl) (blk_new _ _) (hS.out.alloc _).le (by rw [List.length_append]; omega) ?_; intro v6 w6 ho6 hb6 hk6; have hG := Lib.hid (hk6.blk (hS.out.alloc _).own (blk_alloc hG.out _) (by decide)); have hS := Lib.hid ((hS.out.alloc _).step ho6 hb6 hk6); clear ho6 hb6 hk6))
  all_goals
    go_wp2_with fail
    go_ret
    have := hS.out.post
    rwa [List.append_assoc] at this
/-! rows and choices -/
def WriteAt (M B : Nat) (t : T) (place : Nat) : Prop := ∀ (pv v : Value) (L : List UInt8) (w : World), PartAt w (· < B) pv t → OwnY w B v L → B ≤ w.heap.size → L.length + 500 * t.size ≤ M →
  Calls Try.prog 63 #[v, pv, .int .i64 place] w (WrPost B v (L ++ wr t place) w)
theorem wrSeq_snoc (l : List T) (t : T) : wrSeq (l ++ [t]) = wrSeq l ++ wr t 1 := by
  induction l with
  | nil => simp [wrSeq]
  | cons u l ih => rw [List.cons_append, wrSeq, ih, wrSeq, List.append_assoc]
theorem wrAlt_snoc (t : T) : ∀ (l : List T), wrAlt (l ++ [t]) = wrAlt l ++ (if l.length = 0 then [] else [124]) ++ wr t 1 := by
  intro l
  induction l with
  | nil => simp [wrAlt]
  | cons u l ih =>
    have e : wrAlt (u :: (l ++ [t])) = wr u 1 ++ 124 :: wrAlt (l ++ [t]) := by
      rw [wrAlt]
      simp
    rw [List.cons_append, e, ih]
    cases l with
    | nil => simp [wrAlt]
    | cons u2 l =>
      have e2 : wrAlt (u :: u2 :: l) = wr u 1 ++ 124 :: wrAlt (u2 :: l) := by
        rw [wrAlt]
        simp
      rw [e2]
      simp
theorem sizes_take {l : List T} {i : Nat} {t : T} (h : l[i]? = some t) : sizes (l.take i) + t.size ≤ sizes l := by
  have h1 : sizes (l.take (i + 1)) = sizes (l.take i) + t.size := by rw [take_snoc h, sizes_append, sizes_one]
  have h2 := sizes_append (l.take (i + 1)) (l.drop (i + 1))
  rw [List.take_append_drop] at h2
  omega
theorem length_sizes (l : List T) : l.length ≤ sizes l := by
  induction l with
  | nil => simp
  | cons t l ih => rw [sizes, List.length_cons]; have := size_pos t; omega
theorem wrSeq_len (l : List T) : (wrSeq l).length ≤ 500 * sizes l := ((wr_len_all (sizes l)).2 l (Nat.le_refl _)).1
theorem wrAlt_len (l : List T) : (wrAlt l).length ≤ 500 * sizes l := ((wr_len_all (sizes l)).2 l (Nat.le_refl _)).2

set_option maxRecDepth 8192 in
set_option maxHeartbeats 3200000 in
theorem write_seq_low (B : Nat) (l : List T) (place : Nat) (hpl : place ≤ 1) (ih : ∀ t ∈ l, WriteOk B t) : WriteAt 800001 B (.seq l) place := by
  intro pv v L w hp ho hB hlen
  rw [wr, if_neg (by omega)]
  cases hp with
  | @seq A n c vs _ hc hn hcap hl hps =>
  have Hc := Lib.hid hc
  have Hp : Hid (PartsAt w (· < B) vs l) := ⟨hl, hps⟩
  have Hn := Lib.hid hn
  have Ho := Lib.hid ho
  have Ih := Lib.hid ih
  rw [T.size] at hlen
  have a1 := as_yes118
  have a2 := as_no96_118
  have a3 := as_no92_118
  have hls := length_sizes l
  rw [← hl, hn] at hls
  have hd : ((place : Int) == 2) = false := beq_eq_false_iff_ne.2 (by omega)
  clear hc hn hl hps ho ih
  go_enter Try.func63, Try.ntmps63
  go_upto_region 12 with fail
  have hS : Hid (St B v w v (w.alloc (.cells #[.slice A n c] 118)) L) := (St.refl Ho.out hB).alloc _
  have hG : (w.alloc (.cells #[.slice A n c] 118)).cell? ⟨w.heap.size, 0, none⟩ = some (.slice A n c) := blk_cell (blk_new _ _) 0
  generalize w.alloc _ = W at hS hG ⊢
  clear a1 a2 a3
  go_wp2_with fail
  go_loopw [0, 49] (fun u x wr => ∃ i : Nat, x = .int .i64 i ∧ i ≤ n ∧ Hid (St B v w u wr (L ++ wrSeq (l.take i)))) (fun _ x _ => n - (intOf x).toNat)
  case atStart => exact ⟨0, rfl, Nat.zero_le _, by rw [List.take_zero, wrSeq, List.append_nil]; exact hS⟩
  case round =>
    clear hS hG
    obtain ⟨i, rfl, hi, hs⟩ := hrel
    by_cases hlt : i < n
    · have hlti : (i : Int) < (n : Int) := by omega
      obtain ⟨ty, u, t, hv, ht, hpt⟩ := Hp.out.get (i := i) (by rw [Hn.out]; exact hlt)
      obtain ⟨g, o, rfl, hg, hcell⟩ := (Hc.out.move (below_moves hs.out.below (Nat.le_refl _))).at_ hv.out
      have hlw := wrSeq_len (l.take i)
      have hst := sizes_take ht.out
      have HM := Lib.hid (Ih.out t (List.mem_of_getElem? ht.out) 1 (.iface ty u) _ _ wr (by omega) (hpt.out.move (below_moves hs.out.below (Nat.le_refl _))) hs.out.own hs.out.le (by rw [List.length_append]; omega))
      have Hts : Hid (wrSeq (l.take (i + 1)) = wrSeq (l.take i) ++ Ytaefhfldgemcnaa.wr t 1) := by show _ = _; rw [take_snoc ht.out, wrSeq_snoc]
      clear hv ht hpt hlw hst
      go_wp2_with fail
      refine HM.out.mono ?_
      rintro e w2 ⟨v2, rfl, ho2, hb2, hk2⟩
      have HS2 : Hid (St B v w v2 w2 (L ++ wrSeq (l.take (i + 1)))) := by
        show St _ _ _ _ _ _
        rw [Hts.out, ← List.append_assoc]
        exact hs.out.step ho2 hb2 hk2
      clear ho2 hb2 hk2 HM hs
      go_wp2_with fail
      go_roundw
      case rel => exact ⟨i + 1, by go_num, by omega, HS2⟩
      case measure => simp [intOf]; omega
    · have hlti : ¬ (i : Int) < (n : Int) := by omega
      go_wp2_with fail
      go_ret
      have h2 := hs.out
      rw [List.take_of_length_le (by rw [← Hp.out.1, Hn.out]; omega)] at h2
      exact h2.post

set_option maxRecDepth 8192 in
set_option maxHeartbeats 3200000 in
theorem write_seq_high (B : Nat) (l : List T) (ih : WriteAt 800001 B (.seq l) 0) : WriteAt 800000 B (.seq l) 2 := by
  intro pv v L w hp ho hB hlen
  have h0 : wr (.seq l) 0 = wrSeq l := by rw [wr, if_neg (by decide)]
  have h2 : wr (.seq l) 2 = 40 :: (wrSeq l ++ [41]) := by rw [wr, if_pos rfl]; rfl
  have hlw := wr_len (.seq l) 0
  have Hp := Lib.hid hp
  cases hp with
  | @seq A n c vs _ hc hn hcap hl hps =>
  have HI : Hid (∀ u wx, St B v w u wx (L ++ [40]) → Calls Try.prog 63 #[u, .iface 118 (.agg #[.slice A n c]), .int .i64 0] wx (WrPost B u (L ++ [40] ++ wr (.seq l) 0) wx)) :=
    fun u wx hs => ih _ u _ wx (Hp.out.move (below_moves hs.below (Nat.le_refl _))) hs.own hs.le (by rw [List.length_append, List.length_singleton]; omega)
  rw [h2]
  rw [h0] at HI hlw
  have Ho := Lib.hid ho
  have a1 := as_yes118
  have a2 := as_no96_118
  have a3 := as_no92_118
  clear hc hn hl hps ho ih Hp h0 h2
  go_enter Try.func63, Try.ntmps63
  go_upto_region 11 with fail
  have hG : Hid ((w.alloc (.cells #[.slice A n c] 118)).heap[w.heap.size]? = some (.cells #[.slice A n c] 118 (0, 0))) := blk_new _ _
  have hS : Hid (St B v w v (w.alloc (.cells #[.slice A n c] 118)) L) := (St.refl Ho.out hB).alloc _
  generalize w.alloc _ = W at hG hS ⊢
  have hG := Lib.hid (blk_below hG.out ((Below.refl W.heap.size W).drew) (blk_lt hG.out))
  have hS := Lib.hid hS.out.drew
  clear a1 a2 a3
  go_region_held3 (fun w' => w'.cell? ⟨w.heap.size, 0, none⟩ = some (.slice A n c)) (first | exact blk_cell hG.out 0 | exact blk_cell (blk_alloc hG.out _) 0 | exact blk_cell (blk_alloc (blk_alloc hG.out _) _) 0)
    (first
      | (go_at_call 63; refine (HI.out _ _ (by exact hS.out)).mono ?_; rintro e w' ⟨v1, rfl, ho1, hb1, hk1⟩; have hG := Lib.hid (hk1.blk hS.out.own hG.out (by decide)); (try have hT := Lib.hid (hT.out.step hk1)); have hS := Lib.hid (hS.out.step ho1 hb1 hk1); clear ho1 hb1 hk1)
      | (go_at_call 63; refine (HI.out _ _ (by exact hS.out.alloc _)).mono ?_; rintro e w' ⟨v1, rfl, ho1, hb1, hk1⟩; have hG := Lib.hid (hk1.blk (hS.out.alloc _).own (blk_alloc hG.out _) (by decide)); have hT := Lib.hid ((Blt.new hS.out.own 41).step hk1); have hS := Lib.hid ((hS.out.alloc _).step ho1 hb1 hk1); clear ho1 hb1 hk1)
      | (refine step_appendY (c := 40) (by rfl) _ _ (by rfl) (by rfl) (hS.out.alloc _).own (by rfl) (blk_new _ _) (hS.out.alloc _).le (by omega) ?_; intro v5 w5 ho5 hb5 hk5; have hG := Lib.hid (hk5.blk (hS.out.alloc _).own (blk_alloc hG.out _) (by decide)); have hS := Lib.hid ((hS.out.alloc _).step ho5 hb5 hk5); clear ho5 hb5 hk5)
      | (refine step_appendY (c := 40) (by rfl) _ _ (by rfl) (by rfl) ((hS.out.alloc _).alloc _).own (by rfl) (blk_alloc (blk_new _ _) _) ((hS.out.alloc _).alloc _).le (by omega) ?_; intro v5 w5 ho5 hb5 hk5; have hG := Lib.hid (hk5.blk ((hS.out.alloc _).alloc _).own (blk_alloc (blk_alloc hG.out _) _) (by decide)); have hT := Lib.hid ((Blt.new2 hS.out.own 41).step hk5); have hS := Lib.hid (((hS.out.alloc _).alloc _).step ho5 hb5 hk5); clear ho5 hb5 hk5)
      | (refine step_appendY (c := 40) (by rfl) _ _ (by rfl) (by rfl) ((hS.out.alloc _).alloc _).own (by rfl) (blk_new' (by simp)) ((hS.out.alloc _).alloc _).le (by omega) ?_; intro v5 w5 ho5 hb5 hk5; have hG := Lib.hid (hk5.blk ((hS.out.alloc _).alloc _).own (blk_alloc (blk_alloc hG.out _) _) (by decide)); have hT := Lib.hid (((Blt.new hS.out.own 41).alloc _).step hk5); have hS := Lib.hid (((hS.out.alloc _).alloc _).step ho5 hb5 hk5); clear ho5 hb5 hk5)
      | (refine step_appendY (c := 41) (by rfl) _ _ (by rfl) (by rfl) hS.out.own (by rfl) hT.out.1 hS.out.le (by rw [List.length_append, List.length_append, List.length_singleton]; omega) ?_; intro v6 w6 ho6 hb6 hk6; have hG := Lib.hid (hk6.blk hS.out.own hG.out (by decide)); have hS := Lib.hid (hS.out.step ho6 hb6 hk6); clear ho6 hb6 hk6)
      | (refine step_appendY (c := 41) (by rfl) _ _ (by rfl) (by rfl) (hS.out.alloc _).own (by rfl) (blk_new _ _) (hS.out.alloc _).le (by rw [List.length_append, List.length_append, List.length_singleton]; omega) ?_; intro v6 w6 ho6 hb6 hk6; have hG := Lib.hid (hk6.blk (hS.out.alloc _).own (blk_alloc hG.out _) (by decide)); have hS := Lib.hid ((hS.out.alloc _).step ho6 hb6 hk6); clear ho6 hb6 hk6))
  all_goals
    go_wp2_with fail
    go_ret
    have := hS.out.post
    simpa [List.append_assoc] using this
end Go.Proofs.Ytaefhfldgemcnaa
