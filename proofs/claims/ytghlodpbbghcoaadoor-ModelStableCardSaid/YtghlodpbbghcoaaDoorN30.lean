/- A node's own error, by the document: walked. -/
import Derived.Test.YtghlodpbbghcoaaDoorN29
namespace Go.Proofs.YtghlodpbbghcoaaDoor
open Go.Lib Go.RowKit

set_option maxRecDepth 8192 in
set_option maxHeartbeats 6400000 in
theorem one57_any (k : Int) (nm tx : ByteArray) (va : Value) (Ak : Option Addr) (nk ck : Nat) (al : List (ByteArray × ByteArray)) (bh : Bool) (B : Nat) (w : World) (hB : B ≤ w.heap.size) (hr : AttrsAt w B va al) (hnm : nm.size ≤ 1000000) (htx : tx.size ≤ 1000000) (hal : al.length ≤ 1000000) (hs : ∀ p ∈ al, p.1.size ≤ 1000000 ∧ p.2.size ≤ 1000000) :
    Calls Tryd.prog 57 #[.agg #[.int .i64 k, .string nm, va, .string tx, .slice Ak nk ck], .bool bh] w (ErrPost (checkB k nm al tx nk bh) w) := by
  have hrb : ∀ w', Below w.heap.size w w' → AttrsAt w' B va al := fun w' h => hr.below (h.mono hB)
  obtain ⟨A, cap, rfl, hcap, _⟩ := hr
  obtain ⟨r, hrr⟩ : ∃ r, checkB k nm al tx nk bh = r := ⟨_, rfl⟩
  rw [hrr]
  by_cases hk1 : k = 1
  · subst hk1
    have e : (tx.toList.isEmpty && elemB nm al) = r := by rw [← hrr, checkB, if_pos rfl]
    have hel := fun w' (h : Below w.heap.size w w') => element73_any 1 nm tx (.slice A al.length cap) Ak nk ck al B w' (Nat.le_trans hB h.size) (hrb w' h) hnm hal hs
    rw [e] at hel
    obtain ⟨n, hn⟩ : ∃ n, al.length = n := ⟨_, rfl⟩
    rw [hn] at hel ⊢
    clear hrr e hrb hn
    have hB1 : Hid (Below w.heap.size w (w.alloc (.cells #[.int .i64 1, .string nm, .slice A n cap, .string tx, .slice Ak nk ck] 28))) := Lib.hid ((Below.refl _ _).alloc (Nat.le_refl _) _)
    go_enter Tryd.func57, Tryd.ntmps57
    go_wp2_with (go_at_call 73; refine (hel _ hB1.out).mono ?_; rintro e w1 ⟨x, rfl, hx, hB2⟩)
    go_ret
    exact ⟨x, rfl, hx, hB1.out.trans (hB2.mono hB1.out.size)⟩
  · have hk1b : (k == 1) = false := by simpa using hk1
    have hB1 : Hid (Below w.heap.size w (w.alloc (.cells #[.int .i64 k, .string nm, .slice A al.length cap, .string tx, .slice Ak nk ck] 28))) := Lib.hid ((Below.refl _ _).alloc (Nat.le_refl _) _)
    by_cases hk23 : k = 2 ∨ k = 3
    · have e : r = ((nm.toList.isEmpty && decide (al.length = 0) && decide (nk = 0)) && (isL tx.data.toList && !(decide (k = 2) && (tx.toList.isEmpty || bh)))) := by rw [← hrr, checkB, if_neg hk1, if_pos hk23]
      obtain ⟨n, hn⟩ : ∃ n, al.length = n := ⟨_, rfl⟩
      rw [hn] at e hB1 ⊢
      have his := is3_any tx htx
      obtain ⟨q, hq⟩ : ∃ q, isL tx.data.toList = q := ⟨_, rfl⟩
      rw [hq] at his e
      obtain ⟨ne, hne⟩ : ∃ q, nm.toList.isEmpty = q := ⟨_, rfl⟩
      obtain ⟨te, hte⟩ : ∃ q, tx.toList.isEmpty = q := ⟨_, rfl⟩
      rw [hne, hte] at e
      replace e := Lib.hid e
      have x0 := blk_cell (blk_new w (.cells #[.int .i64 k, .string nm, .slice A n cap, .string tx, .slice Ak nk ck] 28)) 0
      have x3 := blk_cell (blk_new w (.cells #[.int .i64 k, .string nm, .slice A n cap, .string tx, .slice Ak nk ck] 28)) 3
      clear hrr hn hq hrb hk1
      rcases hk23 with rfl | rfl
      · clear hk1b
        cases ne with
        | false =>
          have e2 : r = false := by rw [e.out]; simp [*]
          clear e
          subst e2
          go_enter Tryd.func57, Tryd.ntmps57
          go_wp2
          go_ret
          exact ⟨7, rfl, rfl, hB1.out⟩
        | true =>
          by_cases hn0 : n = 0
          · by_cases hk0 : nk = 0
            · subst hn0 hk0
              cases q with
              | false =>
                have e2 : r = false := by rw [e.out]; simp [*]
                clear e
                subst e2
                go_enter Tryd.func57, Tryd.ntmps57
                go_wp2_with (go_at_call 74; refine (his _).mono ?_; rintro e5 w3 ⟨rfl, hB3⟩; have y0 := (hB3.cell (p := ⟨w.heap.size, 0, none⟩) (by simp)).trans x0; have y3 := (hB3.cell (p := ⟨w.heap.size, 3, none⟩) (by simp)).trans x3)
                go_ret
                exact ⟨2, rfl, rfl, hB1.out.trans (hB3.mono hB1.out.size)⟩
              | true =>
                cases te with
                | true =>
                  have e2 : r = false := by rw [e.out]; simp [*]
                  clear e
                  subst e2
                  go_enter Tryd.func57, Tryd.ntmps57
                  go_wp2_with (go_at_call 74; refine (his _).mono ?_; rintro e5 w3 ⟨rfl, hB3⟩; have y0 := (hB3.cell (p := ⟨w.heap.size, 0, none⟩) (by simp)).trans x0; have y3 := (hB3.cell (p := ⟨w.heap.size, 3, none⟩) (by simp)).trans x3)
                  go_ret
                  exact ⟨2, rfl, rfl, hB1.out.trans (hB3.mono hB1.out.size)⟩
                | false =>
                  cases bh with
                  | true =>
                    have e2 : r = false := by rw [e.out]; simp [*]
                    clear e
                    subst e2
                    go_enter Tryd.func57, Tryd.ntmps57
                    go_wp2_with (go_at_call 74; refine (his _).mono ?_; rintro e5 w3 ⟨rfl, hB3⟩; have y0 := (hB3.cell (p := ⟨w.heap.size, 0, none⟩) (by simp)).trans x0; have y3 := (hB3.cell (p := ⟨w.heap.size, 3, none⟩) (by simp)).trans x3)
                    go_ret
                    exact ⟨2, rfl, rfl, hB1.out.trans (hB3.mono hB1.out.size)⟩
                  | false =>
                    have e2 : r = true := by rw [e.out]; simp [*]
                    clear e
                    subst e2
                    go_enter Tryd.func57, Tryd.ntmps57
                    go_wp2_with (go_at_call 74; refine (his _).mono ?_; rintro e5 w3 ⟨rfl, hB3⟩; have y0 := (hB3.cell (p := ⟨w.heap.size, 0, none⟩) (by simp)).trans x0; have y3 := (hB3.cell (p := ⟨w.heap.size, 3, none⟩) (by simp)).trans x3)
                    go_ret
                    exact ⟨0, rfl, rfl, hB1.out.trans (hB3.mono hB1.out.size)⟩
            · have hkp : (0 : Int) < (nk : Int) := by omega
              subst hn0
              have e2 : r = false := by rw [e.out]; simp [*]
              clear e
              subst e2
              go_enter Tryd.func57, Tryd.ntmps57
              go_wp2
              go_ret
              exact ⟨7, rfl, rfl, hB1.out⟩
          · have hnp : (0 : Int) < (n : Int) := by omega
            have e2 : r = false := by rw [e.out]; simp [*]
            clear e
            subst e2
            go_enter Tryd.func57, Tryd.ntmps57
            go_wp2
            go_ret
            exact ⟨7, rfl, rfl, hB1.out⟩
      · clear hk1b
        cases ne with
        | false =>
          have e2 : r = false := by rw [e.out]; simp [*]
          clear e
          subst e2
          go_enter Tryd.func57, Tryd.ntmps57
          go_wp2
          go_ret
          exact ⟨7, rfl, rfl, hB1.out⟩
        | true =>
          by_cases hn0 : n = 0
          · by_cases hk0 : nk = 0
            · subst hn0 hk0
              cases q with
              | false =>
                have e2 : r = false := by rw [e.out]; simp [*]
                clear e
                subst e2
                go_enter Tryd.func57, Tryd.ntmps57
                go_wp2_with (go_at_call 74; refine (his _).mono ?_; rintro e5 w3 ⟨rfl, hB3⟩; have y0 := (hB3.cell (p := ⟨w.heap.size, 0, none⟩) (by simp)).trans x0; have y3 := (hB3.cell (p := ⟨w.heap.size, 3, none⟩) (by simp)).trans x3)
                go_ret
                exact ⟨2, rfl, rfl, hB1.out.trans (hB3.mono hB1.out.size)⟩
              | true =>
                have e2 : r = true := by rw [e.out]; simp [*]
                clear e
                subst e2
                go_enter Tryd.func57, Tryd.ntmps57
                go_wp2_with (go_at_call 74; refine (his _).mono ?_; rintro e5 w3 ⟨rfl, hB3⟩; have y0 := (hB3.cell (p := ⟨w.heap.size, 0, none⟩) (by simp)).trans x0; have y3 := (hB3.cell (p := ⟨w.heap.size, 3, none⟩) (by simp)).trans x3)
                go_ret
                exact ⟨0, rfl, rfl, hB1.out.trans (hB3.mono hB1.out.size)⟩
            · have hkp : (0 : Int) < (nk : Int) := by omega
              subst hn0
              have e2 : r = false := by rw [e.out]; simp [*]
              clear e
              subst e2
              go_enter Tryd.func57, Tryd.ntmps57
              go_wp2
              go_ret
              exact ⟨7, rfl, rfl, hB1.out⟩
          · have hnp : (0 : Int) < (n : Int) := by omega
            have e2 : r = false := by rw [e.out]; simp [*]
            clear e
            subst e2
            go_enter Tryd.func57, Tryd.ntmps57
            go_wp2
            go_ret
            exact ⟨7, rfl, rfl, hB1.out⟩
    · have e : r = false := by rw [← hrr, checkB, if_neg hk1, if_neg hk23]
      clear hrr
      subst e
      have h2 : (k != 2) = true := by simp [bne]; omega
      have h3 : (k != 3) = true := by simp [bne]; omega
      clear hk23 hk1 hrb
      go_enter Tryd.func57, Tryd.ntmps57
      go_wp2
      go_ret
      exact ⟨7, rfl, rfl, hB1.out⟩
end Go.Proofs.YtghlodpbbghcoaaDoor
