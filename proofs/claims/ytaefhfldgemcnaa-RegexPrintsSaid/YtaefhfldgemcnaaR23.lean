/- Walks over expressions: printing a sign. -/
import Derived.Test.YtaefhfldgemcnaaR17
import Derived.Test.YtaefhfldgemcnaaP10
import Derived.Lib.AppendStr
import Derived.Laws.StructEq
namespace Go.Proofs.Ytaefhfldgemcnaa
open Go.RowKit

def bys (l : List UInt8) : List Value := l.map fun c => .int .u8 c.toNat
theorem bys_append (a b : List UInt8) : bys (a ++ b) = bys a ++ bys b := by simp [bys]
theorem bys_length (a : List UInt8) : (bys a).length = a.length := by simp [bys]
/-- From w to w' but v's own row nothing has changed, and v' is v's row or new. -/
structure KeepB (v : Value) (w : World) (v' : Value) (w' : World) : Prop where
  block : ∀ k, k < w.heap.size → v.ownBlock ≠ some k → w'.heap[k]? = w.heap[k]?
  own : ∀ k, v'.ownBlock = some k → v.ownBlock = some k ∨ w.heap.size ≤ k
  size : w.heap.size ≤ w'.heap.size
theorem KeepB.refl (v : Value) (w : World) : KeepB v w v w := ⟨fun _ _ _ => rfl, fun _ h => .inl h, Nat.le_refl _⟩
theorem KeepB.trans {v1 v2 v3 : Value} {a w w' : World} (h : KeepB v1 a v2 w) (k : KeepB v2 w v3 w') : KeepB v1 a v3 w' :=
  ⟨fun g hg hn => (k.block g (Nat.lt_of_lt_of_le hg h.size) fun h2 => (h.own g h2).elim hn (fun h3 => by omega)).trans (h.block g hg hn),
   fun g hg => (k.own g hg).elim (fun h2 => h.own g h2) fun h2 => .inr (Nat.le_trans h.size h2), Nat.le_trans h.size k.size⟩
theorem KeepB.of_below (v : Value) {w w' : World} (h : Below w.heap.size w w') : KeepB v w v w' := ⟨fun g hg _ => h.block g hg, fun _ h => .inl h, h.size⟩
theorem KeepB.alloc (v : Value) (w : World) (o : Obj) : KeepB v w v (w.alloc o) := KeepB.of_below v ((Below.refl _ _).alloc (Nat.le_refl _) o)
theorem KeepB.grown {v v' : Value} {w w' : World} (hg : w.grownBy w' v.ownBlock) (hn : ∀ k, v'.ownBlock = some k → v.ownBlock = some k ∨ w.heap.size ≤ k) : KeepB v w v' w' :=
  ⟨fun g h1 h2 => hg.block g h1 (Ne.symm h2), hn, hg.size⟩
theorem near_le {v v' : Value} {n : Nat} (h : ∀ k, v'.ownBlock = some k → v.ownBlock = some k ∨ n < k) : ∀ k, v'.ownBlock = some k → v.ownBlock = some k ∨ n ≤ k := fun k hk => (h k hk).imp id Nat.le_of_lt
/-- The slice v owns the bytes L. -/
def OwnY (w : World) (B : Nat) (v : Value) (L : List UInt8) : Prop := ∃ A c, v = .slice A L.length c ∧ w.ownsRow B 5 1 (.slice A L.length c) L.length (bys L)
def WrPost (B : Nat) (v0 : Value) (L : List UInt8) (w : World) (e : Ending) (w' : World) : Prop := ∃ v, e = .returned v ∧ OwnY w' B v L ∧ Below B w w' ∧ KeepB v0 w v w'
theorem OwnY.mk {w : World} {B n : Nat} {v : Value} {L : List UInt8} (h : w.ownsRow B 5 1 v n (bys L)) : OwnY w B v L := by
  have hn : n = L.length := by
    have := h.1
    rw [bys_length] at this
    omega
  subst hn
  obtain ⟨A, c, rfl, h2⟩ := own_form h
  exact ⟨A, c, rfl, h2⟩
theorem KeepB.blk {v v' : Value} {w w' : World} {B g : Nat} {L : List UInt8} {cs : Array Value} {t : TypeId} (h : KeepB v w v' w') (ho : OwnY w B v L) (hg : w.heap[g]? = some (.cells cs t (0, 0))) (ht : t ≠ 5) : w'.heap[g]? = some (.cells cs t (0, 0)) := by
  obtain ⟨A, c, rfl, h2⟩ := ho
  exact (h.block g (blk_lt hg) (own_ne h2 hg (Ne.symm ht))).trans hg
theorem OwnY.nil (w : World) (B : Nat) : OwnY w B (.slice none 0 0) [] := ⟨none, 0, rfl, World.ownsRow_nil _ _ _ _⟩
theorem OwnY.alloc {w : World} {B : Nat} {v : Value} {L : List UInt8} (h : OwnY w B v L) (o : Obj) : OwnY (w.alloc o) B v L := by
  obtain ⟨A, c, rfl, h2⟩ := h
  exact ⟨A, c, rfl, h2.alloc o⟩
theorem OwnY.drewN {w : World} {B : Nat} {v : Value} {L : List UInt8} (h : OwnY w B v L) (n : Nat) : OwnY (w.drewN n) B v L := h

set_option maxHeartbeats 1600000 in
theorem writeSign_any (B : Nat) (v : Value) (L : List UInt8) (ch : UInt8) (esc : ByteArray) (el : List UInt8) (he : esc.data.toList = el) (w : World) (h : OwnY w B v L) (hB : B ≤ w.heap.size) (hn : L.length ≤ 1000000) :
    Calls Try.prog 79 #[v, .int .u8 ch.toNat, .string esc] w (WrPost B v (L ++ wSign ch el) w) := by
  obtain ⟨A, c, rfl, hown⟩ := h
  have HI : Hid (∀ wx, Calls Try.prog 76 #[.string esc, .int .u8 ch.toNat] wx fun e w' => e = .returned (.int .i64 (Lib.indexByte el ch)) ∧ wx = w') := by
    intro wx
    have := indexByte_any esc (ch.toNat : Int) wx
    rw [he] at this
    simpa using this
  have hv : Hid (wSign ch el = if decide (0 ≤ Lib.indexByte el ch) then [92, ch] else [ch]) := by
    show _ = _
    unfold wSign
    rw [Lib.contains_iff_indexByte]
  go_enter Try.func79, Try.ntmps79
  go_wp2_with fail
  refine (HI.out _).mono ?_
  rintro e w1 ⟨rfl, rfl⟩
  by_cases hi : 0 ≤ Lib.indexByte el ch
  · rw [decide_eq_true hi] at hv
    have hd : decide (0 ≤ Lib.indexByte el ch) = true := decide_eq_true hi
    go_upto_region 3 with (at_builtin; refine wpList_append_new_at info5 Try.underlying32 rfl (by decide) (by decide) B hown 1 rfl _ _ rfl rfl rfl (by simp) rfl rfl (by omega) hB ?_; intro v' w2 hown2 hbel hgt hgrow hnew)
    have hk2 := Lib.hid (KeepB.grown hgrow (near_le hnew))
    obtain ⟨A2, c2, rfl, hown3⟩ := own_form hown2
    have hB2 : B ≤ w2.heap.size := by omega
    have Hbel := Lib.hid hbel
    clear hown hown2 hgrow hnew hbel
    go_wp2_with (at_builtin; refine wpList_append_new_at info5 Try.underlying32 rfl (by decide) (by decide) B hown3 1 rfl _ _ rfl rfl rfl (by simp) rfl rfl (by omega) hB2 ?_; intro v' w3 hown4 hbel2 hgt2 hgrow2 hnew2)
    go_ret
    refine ⟨_, rfl, OwnY.mk (n := L.length + 1 + 1) ?_, Hbel.out.trans hbel2, hk2.out.trans (KeepB.grown hgrow2 (near_le hnew2))⟩
    rw [show wSign ch el = [92, ch] from by rw [hv.out]; simp, bys_append]
    simpa [bys] using hown4
  · rw [decide_eq_false hi] at hv
    have hd : decide (0 ≤ Lib.indexByte el ch) = false := decide_eq_false hi
    go_wp2_with (at_builtin; refine wpList_append_new_at info5 Try.underlying32 rfl (by decide) (by decide) B hown 1 rfl _ _ rfl rfl rfl (by simp) rfl rfl (by omega) hB ?_; intro v' w3 hown4 hbel2 hgt2 hgrow2 hnew2)
    go_ret
    refine ⟨_, rfl, OwnY.mk (n := L.length + 1) ?_, hbel2, KeepB.grown hgrow2 (near_le hnew2)⟩
    rw [show wSign ch el = [ch] from by rw [hv.out]; simp, bys_append]
    simpa [bys] using hown4
end Go.Proofs.Ytaefhfldgemcnaa
