/- A node's own error, walked. -/
import Derived.Test.YtghlodpbbghcoaaDoorD3
namespace Go.Proofs.YtghlodpbbghcoaaDoor
open Go.Lib Go.RowKit

/-- May a node be (but for its kids)? -/
def checkB (k : Int) (nm : ByteArray) (al : List (ByteArray × ByteArray)) (tx : ByteArray) (kids : Nat) (behind : Bool) : Bool :=
  if k = 1 then tx.toList.isEmpty && elemB nm al
  else if k = 2 ∨ k = 3 then (nm.toList.isEmpty && decide (al.length = 0) && decide (kids = 0)) && (isL tx.data.toList && !(decide (k = 2) && (tx.toList.isEmpty || behind)))
  else false

/-- An error's number: none just if all is well. -/
def ErrPost (r : Bool) (w : World) (e : Ending) (w' : World) : Prop := ∃ x : Int, e = .returned (.int .i64 x) ∧ decide (x = 0) = r ∧ Below w.heap.size w w'

set_option maxRecDepth 8192 in
set_option maxHeartbeats 6400000 in
theorem check_any (b o : Nat) (k : Int) (nm : ByteArray) (va : Value) (al : List (ByteArray × ByteArray)) (tx : ByteArray) (A : Option Addr) (kn cap : Nat) (behind : Bool) (B : Nat) (w : World) (hT : ∀ w', Below w.heap.size w w' → Tabs w') (hnm : nm.size ≤ maxLen) (has : AttrsOk al) (hlen : al.length ≤ 1000000) (htx : tx.size ≤ maxLen) (hB : B ≤ w.heap.size) (hbB : b < B)
    (h0 : w.cell? ⟨b, o, none⟩ = some (.int .i64 k)) (h1 : w.cell? ⟨b, o + 1, none⟩ = some (.string nm)) (h2 : w.cell? ⟨b, o + 2, none⟩ = some va) (h2' : AttrsAt w B va al) (h3 : w.cell? ⟨b, o + 3, none⟩ = some (.string tx)) (h4 : w.cell? ⟨b, o + 4, none⟩ = some (.slice A kn cap)) :
    Calls Tryd.prog 25 #[.pointer (some ⟨b, o, none⟩), .bool behind] w (ErrPost (checkB k nm al tx kn behind) w) := by
  have helem := element_any b o nm va al B w hT hnm has hlen hB hbB h1 h2 h2'
  have his := is_any tx htx w (hT w (Below.refl _ _))
  obtain ⟨A2, cap2, rfl, _, _⟩ := h2'
  obtain ⟨el, hel⟩ : ∃ x, elemB nm al = x := ⟨_, rfl⟩
  obtain ⟨it, hit⟩ : ∃ x, isL tx.data.toList = x := ⟨_, rfl⟩
  obtain ⟨te, hte⟩ : ∃ x, tx.toList.isEmpty = x := ⟨_, rfl⟩
  obtain ⟨ne, hne⟩ : ∃ x, nm.toList.isEmpty = x := ⟨_, rfl⟩
  obtain ⟨an, han⟩ : ∃ n, al.length = n := ⟨_, rfl⟩
  obtain ⟨r, hr⟩ : ∃ x, checkB k nm al tx kn behind = x := ⟨_, rfl⟩
  rw [hr]
  rw [hel] at helem
  rw [hit] at his
  rw [han] at h2
  unfold checkB at hr
  rw [hel, hit, hte, hne, han] at hr
  replace hr := Lib.hid hr
  clear hel hit han has hT hlen
  by_cases hk1 : k = 1
  · subst hk1
    have hr := hr.out
    rw [if_pos rfl] at hr
    subst hr
    cases te with
    | true =>
      go_enter Tryd.func25, Tryd.ntmps25
      go_wp2_with (go_at_call 46; refine helem.mono ?_; rintro e w1 ⟨x, rfl, hx, hB1⟩)
      go_ret
      exact ⟨x, rfl, by rw [hx]; rfl, hB1⟩
    | false =>
      go_enter Tryd.func25, Tryd.ntmps25
      go_wp2
      go_ret
      exact ⟨7, rfl, rfl, Below.refl _ _⟩
  · have z1 : (k == 1) = false := beq_eq_false_iff_ne.2 hk1
    by_cases hk2 : k = 2 ∨ k = 3
    · have hr := hr.out
      rw [if_neg hk1, if_pos hk2] at hr
      cases ne with
      | false =>
        have e : r = false := by rw [← hr]; rfl
        subst e
        clear hr
        rcases hk2 with rfl | rfl
        · go_enter Tryd.func25, Tryd.ntmps25
          go_wp2
          go_ret
          exact ⟨7, rfl, rfl, Below.refl _ _⟩
        · go_enter Tryd.func25, Tryd.ntmps25
          go_wp2
          go_ret
          exact ⟨7, rfl, rfl, Below.refl _ _⟩
      | true =>
        by_cases ha0 : an = 0
        · by_cases hk0 : kn = 0
          · subst ha0 hk0
            have hr : r = (it && !(decide (k = 2) && (te || behind))) := by rw [← hr]; simp
            cases it with
            | false =>
              have e : r = false := by rw [hr]; rfl
              subst e
              clear hr
              rcases hk2 with rfl | rfl
              · go_enter Tryd.func25, Tryd.ntmps25
                go_wp2_with (go_at_call 47; refine his.mono ?_; rintro e w1 ⟨rfl, hB1⟩)
                go_ret
                exact ⟨2, rfl, rfl, hB1⟩
              · go_enter Tryd.func25, Tryd.ntmps25
                go_wp2_with (go_at_call 47; refine his.mono ?_; rintro e w1 ⟨rfl, hB1⟩)
                go_ret
                exact ⟨2, rfl, rfl, hB1⟩
            | true =>
              have hbw : b < w.heap.size := Nat.lt_of_lt_of_le hbB hB
              rcases hk2 with rfl | rfl
              · cases te with
                | true =>
                  have e : r = false := by rw [hr]; rfl
                  subst e
                  clear hr
                  go_enter Tryd.func25, Tryd.ntmps25
                  go_wp2_with (go_at_call 47; refine his.mono ?_; rintro e w1 ⟨rfl, hB1⟩; have g0 := (hB1.cell (p := ⟨b, o, none⟩) hbw).trans h0; have g3 := (hB1.cell (p := ⟨b, o + 3, none⟩) hbw).trans h3)
                  go_ret
                  exact ⟨2, rfl, rfl, hB1⟩
                | false =>
                  cases behind with
                  | true =>
                    have e : r = false := by rw [hr]; rfl
                    subst e
                    clear hr
                    go_enter Tryd.func25, Tryd.ntmps25
                    go_wp2_with (go_at_call 47; refine his.mono ?_; rintro e w1 ⟨rfl, hB1⟩; have g0 := (hB1.cell (p := ⟨b, o, none⟩) hbw).trans h0; have g3 := (hB1.cell (p := ⟨b, o + 3, none⟩) hbw).trans h3)
                    go_ret
                    exact ⟨2, rfl, rfl, hB1⟩
                  | false =>
                    have e : r = true := by rw [hr]; rfl
                    subst e
                    clear hr
                    go_enter Tryd.func25, Tryd.ntmps25
                    go_wp2_with (go_at_call 47; refine his.mono ?_; rintro e w1 ⟨rfl, hB1⟩; have g0 := (hB1.cell (p := ⟨b, o, none⟩) hbw).trans h0; have g3 := (hB1.cell (p := ⟨b, o + 3, none⟩) hbw).trans h3)
                    go_ret
                    exact ⟨0, rfl, rfl, hB1⟩
              · have e : r = true := by rw [hr]; rfl
                subst e
                clear hr
                go_enter Tryd.func25, Tryd.ntmps25
                go_wp2_with (go_at_call 47; refine his.mono ?_; rintro e w1 ⟨rfl, hB1⟩; have g0 := (hB1.cell (p := ⟨b, o, none⟩) hbw).trans h0; have g3 := (hB1.cell (p := ⟨b, o + 3, none⟩) hbw).trans h3)
                go_ret
                exact ⟨0, rfl, rfl, hB1⟩
          · have e : r = false := by rw [← hr, decide_eq_false hk0]; simp
            have hp : (0 : Int) < (kn : Int) := by omega
            subst e ha0
            clear hr
            rcases hk2 with rfl | rfl
            · go_enter Tryd.func25, Tryd.ntmps25
              go_wp2
              go_ret
              exact ⟨7, rfl, rfl, Below.refl _ _⟩
            · go_enter Tryd.func25, Tryd.ntmps25
              go_wp2
              go_ret
              exact ⟨7, rfl, rfl, Below.refl _ _⟩
        · have e : r = false := by rw [← hr, decide_eq_false ha0]; simp
          have hp : (0 : Int) < (an : Int) := by omega
          subst e
          clear hr
          rcases hk2 with rfl | rfl
          · go_enter Tryd.func25, Tryd.ntmps25
            go_wp2
            go_ret
            exact ⟨7, rfl, rfl, Below.refl _ _⟩
          · go_enter Tryd.func25, Tryd.ntmps25
            go_wp2
            go_ret
            exact ⟨7, rfl, rfl, Below.refl _ _⟩
    · have hr := hr.out
      rw [if_neg hk1, if_neg hk2] at hr
      subst hr
      have z2 : (k == 2) = false := beq_eq_false_iff_ne.2 (fun e => hk2 (Or.inl e))
      have z3 : (k == 3) = false := beq_eq_false_iff_ne.2 (fun e => hk2 (Or.inr e))
      go_enter Tryd.func25, Tryd.ntmps25
      go_wp2
      go_ret
      exact ⟨7, rfl, rfl, Below.refl _ _⟩
end Go.Proofs.YtghlodpbbghcoaaDoor
