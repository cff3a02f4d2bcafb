/- Bytes of the call's own: appended, made a text. -/
import Derived.Test.YtghlodpbbghcoaaGreatDoorProg
import Derived.Test.YtghlodpbbghcoaaGreatDoorMem
import Derived.WalkKit
import Derived.WalkSpells
import Derived.Lib.AppendStr
import Derived.Lib.ConvBytes
import Derived.Laws.BytesArg
import Derived.Lib.Strings
namespace Go.Proofs.YtghlodpbbghcoaaGreatDoor
open Go.RowKit
theorem info5 : (Tryz.prog.info? 5).map (fun i => (i.zero, i.size, i.bytes)) = some (some (.int .u8 0), 1, 1) := by kernel_rfl
def bys (l : List UInt8) : List Value := l.map fun c => .int .u8 c.toNat
theorem bys_append (a b : List UInt8) : bys (a ++ b) = bys a ++ bys b := by simp [bys]
theorem bys_length (a : List UInt8) : (bys a).length = a.length := by simp [bys]
/-- From w to w' but v's own row nothing has changed, and v' is v's row or new. -/
structure KeepB (v : Value) (w : World) (v' : Value) (w' : World) : Prop where
  block : ∀ k, k < w.heap.size → v.ownBlock ≠ some k → w'.heap[k]? = w.heap[k]?
  own : ∀ k, v'.ownBlock = some k → v.ownBlock = some k ∨ w.heap.size ≤ k
  size : w.heap.size ≤ w'.heap.size
theorem KeepB.refl (v : Value) (w : World) : KeepB v w v w := ⟨fun _ _ _ => rfl, fun _ h => .inl h, Nat.le_refl _⟩
theorem KeepB.trans {v1 v2 v3 : Value} {a w w' : World} (h : KeepB v1 a v2 w) (k : KeepB v2 w v3 w') : KeepB v1 a v3 w' :=
  ⟨fun g hg hn => (k.block g (Nat.lt_of_lt_of_le hg h.size) fun h2 => (h.own g h2).elim hn (fun h3 => by omega)).trans (h.block g hg hn),
   fun g hg => (k.own g hg).elim (fun h2 => h.own g h2) fun h2 => .inr (Nat.le_trans h.size h2), Nat.le_trans h.size k.size⟩
theorem KeepB.of_below (v : Value) {w w' : World} (h : Below w.heap.size w w') : KeepB v w v w' := ⟨fun g hg _ => h.block g hg, fun _ h => .inl h, h.size⟩
theorem KeepB.alloc (v : Value) (w : World) (o : Obj) : KeepB v w v (w.alloc o) := KeepB.of_below v ((Below.refl _ _).alloc (Nat.le_refl _) o)
theorem KeepB.grown {v v' : Value} {w w' : World} (hg : w.grownBy w' v.ownBlock) (hn : ∀ k, v'.ownBlock = some k → v.ownBlock = some k ∨ w.heap.size ≤ k) : KeepB v w v' w' :=
  ⟨fun g h1 h2 => hg.block g h1 (Ne.symm h2), hn, hg.size⟩
theorem near_le {v v' : Value} {n : Nat} (h : ∀ k, v'.ownBlock = some k → v.ownBlock = some k ∨ n < k) : ∀ k, v'.ownBlock = some k → v.ownBlock = some k ∨ n ≤ k := fun k hk => (h k hk).imp id Nat.le_of_lt
/-- The slice v owns the bytes L. -/
def OwnY (w : World) (B : Nat) (v : Value) (L : List UInt8) : Prop := ∃ A c, v = .slice A L.length c ∧ w.ownsRow B 5 1 (.slice A L.length c) L.length (bys L)
def WrPost (B : Nat) (v0 : Value) (L : List UInt8) (w : World) (e : Ending) (w' : World) : Prop := ∃ v, e = .returned v ∧ OwnY w' B v L ∧ Below B w w' ∧ KeepB v0 w v w'
theorem OwnY.mk {w : World} {B n : Nat} {v : Value} {L : List UInt8} (h : w.ownsRow B 5 1 v n (bys L)) : OwnY w B v L := by
  have hn : n = L.length := by
    have := h.1
    rw [bys_length] at this
    omega
  subst hn
  obtain ⟨A, c, rfl, h2⟩ := own_form h
  exact ⟨A, c, rfl, h2⟩
theorem KeepB.blk {v v' : Value} {w w' : World} {B g : Nat} {L : List UInt8} {cs : Array Value} {t : TypeId} (h : KeepB v w v' w') (ho : OwnY w B v L) (hg : w.heap[g]? = some (.cells cs t (0, 0))) (ht : t ≠ 5) : w'.heap[g]? = some (.cells cs t (0, 0)) := by
  obtain ⟨A, c, rfl, h2⟩ := ho
  exact (h.block g (blk_lt hg) (own_ne h2 hg (Ne.symm ht))).trans hg
theorem OwnY.nil (w : World) (B : Nat) : OwnY w B (.slice none 0 0) [] := ⟨none, 0, rfl, World.ownsRow_nil _ _ _ _⟩
theorem OwnY.alloc {w : World} {B : Nat} {v : Value} {L : List UInt8} (h : OwnY w B v L) (o : Obj) : OwnY (w.alloc o) B v L := by
  obtain ⟨A, c, rfl, h2⟩ := h
  exact ⟨A, c, rfl, h2.alloc o⟩
theorem OwnY.drewN {w : World} {B : Nat} {v : Value} {L : List UInt8} (h : OwnY w B v L) (n : Nat) : OwnY (w.drewN n) B v L := h

theorem str_cells (s : ByteArray) : Lib.strCells s = bys s.data.toList := by
  unfold Lib.strCells bys
  simp
open Go.Lib in
theorem append_str_run {B : Nat} {v : Value} {L : List UInt8} {w : World} (ty : TypeId) (hown : OwnY w B v L) (hB : B ≤ w.heap.size) (hn : L.length ≤ 2000000) (s : ByteArray) (h0 : 0 < s.size) (hsz : s.size ≤ 1000) :
    ∃ v' w', (Builtin.append_ #[74, 9] ty #[v, .string s]).run Tryz.prog w = .ok v' w' ∧ OwnY w' B v' (L ++ s.data.toList) ∧ Below B w w' ∧ KeepB v w v' w' := by
  obtain ⟨A, c, rfl, h2⟩ := hown
  obtain ⟨i, hi, hz0, hz1, hz2⟩ := info_parts info5
  have h63 : L.length + s.size ≤ maxLen := by unfold maxLen; omega
  have h64 : L.length + s.size ≤ 140737488355328 := by omega
  obtain ⟨v', w', hr, hown', hgrow, _⟩ := run_append_own_string (P := Tryz.prog) w B 74 9 ty 5 i Tryz.underlying74 Tryz.underlying9 hi hz0 hz1 hz2 _ L.length (bys L) h2 s h63 h64 hB
  have hat : ∀ k, v'.ownBlock = some k → (Value.slice A L.length c).ownBlock = some k ∨ w.heap.size ≤ k := by
    have key : ∀ (g n c2 : Nat) (wz : World), (Builtin.append_ #[74, 9] ty #[.slice A L.length c, .string s]).run Tryz.prog w = .ok (.slice (some ⟨g, 0, none⟩) n c2) wz → ((Value.slice A L.length c).ownBlock = some g ∨ w.heap.size ≤ g) → ∀ k, v'.ownBlock = some k → (Value.slice A L.length c).ownBlock = some k ∨ w.heap.size ≤ k := by
      intro g n c2 wz h1 h3 k hk
      rw [hr] at h1
      simp only [Result.ok.injEq] at h1
      rw [h1.1] at hk
      have : g = k := by simpa [Value.ownBlock] using hk
      rw [← this]
      exact h3
    rcases h2.2 with ⟨hv, hl⟩ | ⟨g, cap, cur, hv, hbg, hg, hnc, hcm, hcs, htake⟩
    · have hr0 := run_append_nil_string (P := Tryz.prog) (w := w) 74 9 ty 5 i _ Tryz.underlying74 Tryz.underlying9 hi hz0 s h0 (by omega) (by rw [hz2]; omega)
      rw [← hv] at hr0
      exact key w.heap.size s.size _ _ hr0 (.inr (Nat.le_refl _))
    · rw [hv] at key ⊢
      by_cases hroom : L.length + s.size ≤ cap
      · exact key g _ _ _ (run_append_room_string (P := Tryz.prog) w 74 9 ty 5 i Tryz.underlying74 Tryz.underlying9 hi hz1 g L.length cap cur hg s hroom (by omega)) (.inl rfl)
      · have hxl : (bys L).length = L.length * i.size := by rw [hz1, bys_length, Nat.mul_one]
        have holds : ∀ j u, (bys L)[j]? = some u → w.cell? ((⟨g, 0, none⟩ : Addr).add j) = some u := h2.cells (g := g) (by rw [hv]; rfl)
        refine key w.heap.size _ _ _ (run_append_grow_string (P := Tryz.prog) w 74 9 ty 5 i _ Tryz.underlying74 Tryz.underlying9 hi hz0 ⟨g, 0, none⟩ L.length cap (bys L) hxl holds s (by omega) (by omega) (by rw [hz2]; exact growslice_fits (by omega) (by omega))) (.inr (Nat.le_refl _))
  refine ⟨v', w', hr, OwnY.mk (n := L.length + s.size) ?_, (Below.refl B w).grown hgrow hB (fun k hk => (h2.lt k hk).1), KeepB.grown hgrow hat⟩
  rw [bys_append, ← str_cells]
  exact hown'
theorem appendStr_any {ops : Array Oper} {rest : List Oper} {o : Oper} {a : Act} {w : World} {Q : Exit → Act → World → Prop} (hgd : o.guard = none) (sl x : Operand)
    (ho : o.op = .call { callee := .builtin .append, args := #[sl, x], argTypes := #[74, 9] }) {B : Nat} {v : Value} {L : List UInt8} (hs : a.eval sl = v) (hown : OwnY w B v L) (hB : B ≤ w.heap.size) (hn : L.length ≤ 2000000) (s : ByteArray) (hx : a.eval x = .string s) (h0 : 0 < s.size) (hsz : s.size ≤ 1000)
    (h : ∀ v' w', OwnY w' B v' (L ++ s.data.toList) → Below B w w' → KeepB v w v' w' → wpList Tryz.prog ops Q rest (a.put o.dst v') w') : wpList Tryz.prog ops Q (o :: rest) a w := by
  refine wpList_plain hgd fun K hK => ?_
  obtain ⟨v', w', hr, h2, h3, h4⟩ := append_str_run o.type hown hB hn s h0 hsz
  unfold Oper.wp execOp
  simp only [ho, resolve, invoke, builtin, Sem.run_bind, Sem.run_pure, Result.andThen_ok, List.map_toArray, List.map_cons, List.map_nil, hs, hx, hr]
  exact hK _ _ (h v' w' h2 h3 h4)
theorem appendByte_any {ops : Array Oper} {rest : List Oper} {o : Oper} {a : Act} {Q : Exit → Act → World → Prop} {w0 : World} {B : Nat} {v : Value} {L : List UInt8} (hown : OwnY w0 B v L) (hB : B ≤ w0.heap.size) (hn : L.length ≤ 2000000) (c : UInt8)
    (hgd : o.guard = none) (s x : Operand) (ho : o.op = .call { callee := .builtin .append, args := #[s, x], argTypes := #[74, 74] }) (hs : a.eval s = v) {g : Nat} (hx : a.eval x = .slice (some ⟨g, 0, none⟩) 1 1) (hgs : g = w0.heap.size) {cs : Array Value} (hcs : cs = #[.int .u8 c.toNat])
    (h : ∀ v' w', OwnY w' B v' (L ++ [c]) → Below B w0 w' → KeepB v w0 v' w' → wpList Tryz.prog ops Q rest (a.put o.dst v') w') :
    wpList Tryz.prog ops Q (o :: rest) a (w0.alloc (.cells cs 5)) := by
  subst hcs
  obtain ⟨A, n, rfl, h2⟩ := hown
  refine wpList_append_new_at info5 Tryz.underlying74 rfl (by decide) (by decide) B h2 1 hgd s x ho hs hx hgs (by simp) rfl (by omega) hB ?_
  intro v' w' hown2 hbel _ hgrow hnew
  refine h v' w' (OwnY.mk (n := L.length + 1) ?_) hbel (KeepB.grown hgrow (near_le hnew))
  rw [bys_append]
  exact hown2
theorem OwnY.below {w w' : World} {B : Nat} {v : Value} {L : List UInt8} (h : OwnY w B v L) (hb : Below w.heap.size w w') : OwnY w' B v L := by
  obtain ⟨A, c, rfl, h2⟩ := h
  exact ⟨A, c, rfl, own_below h2 hb (Nat.le_refl _)⟩
theorem conv_own {w : World} {base : Nat} {xs : List Int} {A : Option Addr} {c : Nat} (h : w.ownsRow base 5 1 (.slice A xs.length c) xs.length (xs.map (Value.int .u8))) :
    ∀ wx, Below w.heap.size w wx → (convert 74 9 (.slice A xs.length c)).run Tryz.prog wx = .ok (.string (strOfNums xs)) wx := by
  intro wx hb
  have hc := (CellsAt.of_own h).below hb
  rcases Nat.eq_zero_or_pos xs.length with h0 | h0
  · have hx : xs = [] := List.eq_nil_of_length_eq_zero h0
    subst hx
    rcases h.2 with ⟨hv, _⟩ | ⟨g, cap, cur, hv, _, hh, _⟩
    · simp only [Value.slice.injEq] at hv
      obtain ⟨rfl, _, rfl⟩ := hv
      exact run_convert_bytes_nil wx 74 5 Tryz.underlying74 Tryz.underlying5 _ _ 9 Tryz.underlying9
    · simp only [Value.slice.injEq] at hv
      obtain ⟨rfl, _, rfl⟩ := hv
      exact run_convert_bytes_arg wx 74 5 Tryz.underlying74 Tryz.underlying5 g 0 0 c [] rfl (fun i hi => absurd hi (by omega)) 9 Tryz.underlying9
  · obtain ⟨b, o, rfl, _, _⟩ := hc 0 (by simpa using h0)
    refine run_convert_bytes_arg wx 74 5 Tryz.underlying74 Tryz.underlying5 b o xs.length c xs rfl (fun i hi => ?_) 9 Tryz.underlying9
    obtain ⟨b', o', he, _, hcell⟩ := hc i (by simpa using hi)
    simp only [Option.some.injEq, Addr.mk.injEq, and_true] at he
    obtain ⟨rfl, rfl⟩ := he
    rw [hcell]
    simp [List.getD, List.getElem?_eq_getElem hi]
theorem conv_Y {w : World} {B : Nat} {v : Value} {L : List UInt8} (h : OwnY w B v L) : ∃ s : ByteArray, s.data.toList = L ∧ ∀ wx, Below w.heap.size w wx → (convert 74 9 v).run Tryz.prog wx = .ok (.string s) wx := by
  obtain ⟨A, c, rfl, h2⟩ := h
  have e : bys L = (L.map fun c => (c.toNat : Int)).map (Value.int .u8) := by unfold bys; rw [List.map_map]; rfl
  have hl : (L.map fun c => (c.toNat : Int)).length = L.length := by simp
  rw [e, ← hl] at h2
  refine ⟨strOfNums (L.map fun c => (c.toNat : Int)), ?_, ?_⟩
  · rw [strOfNums_data, List.map_map]
    conv => rhs; rw [← List.map_id L]
    refine List.map_congr_left fun b _ => ?_
    simp
  · have := conv_own h2
    rw [hl] at this
    exact this
end Go.Proofs.YtghlodpbbghcoaaGreatDoor
