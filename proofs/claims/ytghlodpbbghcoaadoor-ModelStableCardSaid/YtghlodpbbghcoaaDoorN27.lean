/- Whether a node fits, by the document: walked. -/
import Derived.Test.YtghlodpbbghcoaaDoorN25
import Derived.Test.YtghlodpbbghcoaaDoorN26
namespace Go.Proofs.YtghlodpbbghcoaaDoor
open Go.Lib Go.RowKit
open Classical in
set_option maxRecDepth 8192 in
set_option maxHeartbeats 3200000 in
theorem fits58_any (parent : ByteArray) (k : Int) (nm tx : ByteArray) (Aa Ak : Option Addr) (na nk ca ck : Nat) (w : World) (hp : parent.size ≤ 1000) (htx : tx.size ≤ 500000) :
    Calls Tryd.prog 58 #[.string parent, .agg #[.int .i64 k, .string nm, .slice Aa na ca, .string tx, .slice Ak nk ck]] w fun e w' => e = .returned (.bool (fitsB parent k nm tx)) ∧ Below w.heap.size w w' := by
  have hvd := void75_any parent
  have hrw := raw76_any parent
  obtain ⟨r, hr⟩ : ∃ r, fitsB parent k nm tx = r := ⟨_, rfl⟩
  have hr2 : Hid (fitsB parent k nm tx = r) := Lib.hid hr
  rw [hr]
  clear hr
  have hez := endText_size parent tx
  cases hv : voidB parent with
  | true =>
    have e : r = false := by rw [← hr2.out, fitsB, hv, if_pos rfl]
    clear hr2
    subst e
    rw [hv] at hvd
    go_enter Tryd.func58, Tryd.ntmps58
    go_wp2_with (first
      | (go_at_call 75; refine (hvd _).mono ?_; rintro e w2 ⟨rfl, rfl⟩)
      | (go_at_call 76; refine (hrw _).mono ?_; rintro e w2 ⟨rfl, rfl⟩))
    go_ret
    exact ⟨rfl, (Below.refl _ w).alloc (Nat.le_refl _) _⟩
  | false =>
    cases hw : rawB parent with
    | false =>
      have e : r = !(decide (k = 1) && Lib.containsS (closersOf parent.data.toList) nm) := by rw [← hr2.out, fitsB, hv, hw, if_neg (by decide), if_neg (by decide)]
      rw [hv] at hvd
      rw [hw] at hrw
      obtain ⟨cl, hcl⟩ : ∃ cl, Lib.containsS (closersOf parent.data.toList) nm = cl := ⟨_, rfl⟩
      have hcs := refCloses_any parent nm
      rw [hcl] at e hcs
      clear hr2 hcl
      by_cases hk : k = 1
      · subst hk
        have e2 : r = !cl := by rw [e]; simp
        clear e
        subst e2
        go_enter Tryd.func58, Tryd.ntmps58
        go_wp2_with (first
          | (go_at_call 75; refine (hvd _).mono ?_; rintro e w2 ⟨rfl, rfl⟩)
          | (go_at_call 76; refine (hrw _).mono ?_; rintro e w2 ⟨rfl, rfl⟩)
          | (go_at_call 21; refine (hcs _).mono ?_; rintro e w3 ⟨rfl, hB⟩; have x0 := (hB.cell (p := ⟨w.heap.size, 0, none⟩) (by simp)).trans (blk_cell (blk_new w _) 0)))
        go_ret
        exact ⟨rfl, ((Below.refl w.heap.size w).alloc (Nat.le_refl _) _).trans (hB.mono (by simp))⟩
      · have e2 : r = true := by rw [e]; simp [hk]
        clear e
        subst e2
        have hkb : (k == 1) = false := by simpa using hk
        have hkn : (k != 1) = true := by simp [bne, hkb]
        clear hk hkb
        go_enter Tryd.func58, Tryd.ntmps58
        go_wp2_with (first
          | (go_at_call 75; refine (hvd _).mono ?_; rintro e w2 ⟨rfl, rfl⟩)
          | (go_at_call 76; refine (hrw _).mono ?_; rintro e w2 ⟨rfl, rfl⟩)
          | (go_at_call 21; refine (hcs _).mono ?_; rintro e w3 ⟨rfl, hB⟩; have x0 := (hB.cell (p := ⟨w.heap.size, 0, none⟩) (by simp)).trans (blk_cell (blk_new w _) 0)))
        go_ret
        exact ⟨rfl, ((Below.refl w.heap.size w).alloc (Nat.le_refl _) _).trans (hB.mono (by simp))⟩
    | true =>
      have e : r = decide (k = 2 ∧ EndsIs (endText parent tx) parent tx.size) := by rw [← hr2.out, fitsB, hv, hw, if_neg (by decide), if_pos rfl]
      rw [hv] at hvd
      rw [hw] at hrw
      clear hr2
      by_cases hk : k = 2
      · subst hk
        have hends := ends77_any (endText parent tx) parent (by omega) hp
        go_enter Tryd.func58, Tryd.ntmps58
        go_upto_region 6 with (first
          | (go_at_call 75; refine (hvd _).mono ?_; rintro e w2 ⟨rfl, rfl⟩)
          | (go_at_call 76; refine (hrw _).mono ?_; rintro e w2 ⟨rfl, rfl⟩))
        obtain ⟨W1, hW1⟩ : ∃ W1, w.alloc (.cells #[.int .i64 2, .string nm, .slice Aa na ca, .string tx, .slice Ak nk ck] 28) = W1 := ⟨_, rfl⟩
        have hX1 : Hid (W1.heap[w.heap.size]? = some (.cells #[.int .i64 2, .string nm, .slice Aa na ca, .string tx, .slice Ak nk ck] 28)) := Lib.hid (by rw [← hW1]; exact blk_new _ _)
        have hB : Hid (Below W1.heap.size W1 W1.drew) := Lib.hid ((Below.refl _ _).drew)
        have hBw : Hid (Below w.heap.size w W1) := Lib.hid (by rw [← hW1]; exact (Below.refl _ _).alloc (Nat.le_refl _) _)
        rw [hW1]
        obtain ⟨X, hX⟩ : ∃ X, w.heap.size = X := ⟨_, rfl⟩
        rw [hX] at hX1 ⊢
        have hXw : Hid (X < W1.heap.size) := Lib.hid (blk_lt hX1.out)
        clear hW1
        have hs1 : tx.size + 2 ≤ maxLen := by unfold maxLen; omega
        have hs2 : tx.size + 2 + parent.size ≤ maxLen := by unfold maxLen; omega
        have hs3 : tx.size + 2 + parent.size + 1 ≤ maxLen := by unfold maxLen; omega
        replace hX := Lib.hid hX
        replace e := Lib.hid e
        have x0 : W1.cell? ⟨X, 0, none⟩ = some (.int .i64 2) := blk_cell hX1.out 0
        have x3 : W1.cell? ⟨X, 3, none⟩ = some (.string tx) := blk_cell hX1.out 3
        go_region_with (first
            | (go_at_call 77; refine (hends _).mono ?_; rintro e5 w5 ⟨v, rfl, hv5, hB5⟩; have hB := Lib.hid (hB.out.trans (hB5.mono hB.out.size)); have x3 : w5.cell? ⟨X, 3, none⟩ = some (.string tx) := blk_cell (blk_below hX1.out hB.out hXw.out) 3; clear hB5))
        all_goals
          have e2 : r = decide (v = (tx.size : Int)) := by
            rw [e.out]
            refine decide_eq_decide.2 ⟨fun h => hv5.one h.2, fun h => ⟨by trivial, by rw [← h]; exact hv5⟩⟩
          clear e
          subst e2
          go_wp2
          go_ret
          exact ⟨by first | trivial | rfl, (hBw.out.trans (hB.out.mono hBw.out.size))⟩
      · have e2 : r = false := by rw [e]; exact decide_eq_false (fun h => hk h.1)
        clear e
        subst e2
        have hkb : (k == 2) = false := by simpa using hk
        clear hk
        go_enter Tryd.func58, Tryd.ntmps58
        go_wp2_with (first
          | (go_at_call 75; refine (hvd _).mono ?_; rintro e w2 ⟨rfl, rfl⟩)
          | (go_at_call 76; refine (hrw _).mono ?_; rintro e w2 ⟨rfl, rfl⟩))
        go_quiet (fail)
        go_wp2
        go_ret
        exact ⟨rfl, below_drewN ((Below.refl _ w).alloc (Nat.le_refl _) _) _⟩
end Go.Proofs.YtghlodpbbghcoaaDoor
