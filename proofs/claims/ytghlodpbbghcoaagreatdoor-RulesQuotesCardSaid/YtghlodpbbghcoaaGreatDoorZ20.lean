/- Whether a constraint may be: walked (of an automaton what is given of it). -/
import Derived.Test.YtghlodpbbghcoaaGreatDoorZ19
namespace Go.Proofs.YtghlodpbbghcoaaGreatDoor
open Go.Lib Go.RowKit Go.Maps
/-- May a constraint be? (mt: may an expression's automaton be?) -/
def conP (mt : ByteArray → Bool) (k : Int) (ws : List ByteArray) (rx : ByteArray) : Bool :=
  if k = 1 then decide (ws.length = 0) && rx.toList.isEmpty
  else if k = 2 then (decide (0 < ws.length) && wordsP wordP ws) && rx.toList.isEmpty
  else if k = 3 then wordsP schemeP ws && rx.toList.isEmpty
  else if k = 4 then decide (ws.length = 0) && mt rx
  else false
def ErrPost (b : Bool) (w : World) (e : Ending) (w' : World) : Prop := ∃ x : Int, e = .returned (.int .i64 x) ∧ decide (x = 0) = b ∧ Below w.heap.size w w'

set_option maxRecDepth 8192 in
set_option maxHeartbeats 3200000 in
theorem langMay_any (mt : ByteArray → Bool) (k : Int) (vw : Value) (ws : List ByteArray) (rx : ByteArray) (P : Nat → Prop) (w : World) (hP : ∀ k, P k → k < w.heap.size) (h : StrsAt w P vw ws) (hl : ws.length ≤ 140737488355328) (hsz : ∀ s ∈ ws, s.size ≤ 140737488355328)
    (hmt : k = 4 → ∀ W', Below w.heap.size w W' → Calls Tryz.prog 109 #[.string rx] W' (IsB (mt rx) W')) :
    Calls Tryz.prog 93 #[.agg #[.int .i64 k, vw, .string rx]] w (ErrPost (conP mt k ws rx) w) := by
  have hw : Hid (∀ wr : World, Below w.heap.size w wr → (Calls Tryz.prog 106 #[vw, .func (.func 107) #[] #[]] wr fun e w' => e = .returned (.bool (wordsP wordP ws)) ∧ w' = wr) ∧ (Calls Tryz.prog 106 #[vw, .func (.func 108) #[] #[]] wr fun e w' => e = .returned (.bool (wordsP schemeP ws)) ∧ w' = wr)) := Lib.hid (fun wr hb =>
    have h' := h.move (Stays.below hb hP) (fun _ h => h)
    have hP' := fun k hk => Nat.lt_of_lt_of_le (hP k hk) hb.size
    ⟨words_wordP vw ws P wr hP' h' hl hsz, words_schemeP vw ws P wr hP' h' hl hsz⟩)
  obtain ⟨A, n, cap, rfl, hn, -, -⟩ := h.form
  have hn6 : n ≤ 140737488355328 := by omega
  obtain ⟨r, hr⟩ : ∃ r, conP mt k ws rx = r := ⟨_, rfl⟩
  rw [hr]
  replace hr := Lib.hid hr
  replace hmt := Lib.hid hmt
  replace hn := Lib.hid hn
  clear h hl hsz hP
  have hB1 : Hid (Below w.heap.size w (w.alloc (.cells #[.int .i64 k, .slice A n cap, .string rx] 32))) := Lib.hid ((Below.refl _ _).alloc (Nat.le_refl _) _)
  have hX := blk_new w (.cells #[.int .i64 k, .slice A n cap, .string rx] 32)
  have d0 := blk_cell hX 0
  have d1 := blk_cell hX 1
  have d2 := blk_cell hX 2
  simp only [List.getElem?_toArray, List.getElem?_cons_zero, List.getElem?_cons_succ] at d0 d1 d2
  obtain ⟨re, hre⟩ : ∃ re, rx.toList.isEmpty = re := ⟨_, rfl⟩
  clear hX
  by_cases h1 : k = 1
  · subst h1
    have e : Hid (r = (decide (n = 0) && re)) := Lib.hid (by rw [← hr.out, conP, if_pos rfl, hre, ← hn.out])
    by_cases h0 : n = 0
    · have e2 : r = re := by rw [e.out, decide_eq_true h0]; rfl
      subst e2 h0
      clear e
      cases r
      all_goals
        go_enter Tryz.func93, Tryz.ntmps93
        go_wp2
        go_ret
      · exact ⟨10, rfl, rfl, hB1.out⟩
      · exact ⟨0, rfl, rfl, hB1.out⟩
    · have e2 : r = false := by rw [e.out, decide_eq_false h0]; rfl
      subst e2
      have hb0 : ((n : Int) == 0) = false := by simp; omega
      clear e
      go_enter Tryz.func93, Tryz.ntmps93
      go_wp2
      go_ret
      exact ⟨10, rfl, rfl, hB1.out⟩
  · have e1 : (k == 1) = false := by simpa using h1
    by_cases h2 : k = 2
    · subst h2
      obtain ⟨wp, hwp⟩ : ∃ wp, wordsP wordP ws = wp := ⟨_, rfl⟩
      have e : Hid (r = ((decide (0 < n) && wp) && re)) := Lib.hid (by rw [← hr.out, conP, if_neg (by decide), if_pos rfl, hre, hwp, ← hn.out])
      have hwc := (hw.out _ hB1.out).1
      rw [hwp] at hwc
      clear h1 hwp e1
      by_cases h0 : 0 < n
      · have hpos : (0 : Int) < (n : Int) := by omega
        have e2 : Hid (r = (wp && re)) := Lib.hid (by rw [e.out, decide_eq_true h0]; rfl)
        clear e
        cases wp with
        | false =>
          have e3 : r = false := by rw [e2.out]; rfl
          subst e3
          go_enter Tryz.func93, Tryz.ntmps93
          go_wp2_with (go_at_call 106; refine hwc.mono ?_; rintro e5 w5 ⟨rfl, rfl⟩)
          go_ret
          exact ⟨10, rfl, rfl, hB1.out⟩
        | true =>
          have e3 : r = re := by rw [e2.out]; rfl
          subst e3
          clear e2
          cases r
          all_goals
            go_enter Tryz.func93, Tryz.ntmps93
            go_wp2_with (go_at_call 106; refine hwc.mono ?_; rintro e5 w5 ⟨rfl, rfl⟩)
            go_ret
          · exact ⟨10, rfl, rfl, hB1.out⟩
          · exact ⟨0, rfl, rfl, hB1.out⟩
      · have e3 : r = false := by rw [e.out, decide_eq_false h0]; rfl
        subst e3
        have hpos : ¬ (0 : Int) < (n : Int) := by omega
        clear e
        go_enter Tryz.func93, Tryz.ntmps93
        go_wp2
        go_ret
        exact ⟨10, rfl, rfl, hB1.out⟩
    · have e2' : (k == 2) = false := by simpa using h2
      by_cases h3 : k = 3
      · subst h3
        obtain ⟨wp, hwp⟩ : ∃ wp, wordsP schemeP ws = wp := ⟨_, rfl⟩
        have e : Hid (r = (wp && re)) := Lib.hid (by rw [← hr.out, conP, if_neg (by decide), if_neg (by decide), if_pos rfl, hre, hwp])
        have hwc := (hw.out _ hB1.out).2
        rw [hwp] at hwc
        clear h1 h2 hwp e1 e2'
        cases wp with
        | false =>
          have e3 : r = false := by rw [e.out]; rfl
          subst e3
          go_enter Tryz.func93, Tryz.ntmps93
          go_wp2_with (go_at_call 106; refine hwc.mono ?_; rintro e5 w5 ⟨rfl, rfl⟩)
          go_ret
          exact ⟨10, rfl, rfl, hB1.out⟩
        | true =>
          have e3 : r = re := by rw [e.out]; rfl
          subst e3
          clear e
          cases r
          all_goals
            go_enter Tryz.func93, Tryz.ntmps93
            go_wp2_with (go_at_call 106; refine hwc.mono ?_; rintro e5 w5 ⟨rfl, rfl⟩)
            go_ret
          · exact ⟨10, rfl, rfl, hB1.out⟩
          · exact ⟨0, rfl, rfl, hB1.out⟩
      · have e3' : (k == 3) = false := by simpa using h3
        by_cases h4 : k = 4
        · subst h4
          obtain ⟨mb, hmb⟩ : ∃ mb, mt rx = mb := ⟨_, rfl⟩
          have e : Hid (r = (decide (n = 0) && mb)) := Lib.hid (by rw [← hr.out, conP, if_neg (by decide), if_neg (by decide), if_neg (by decide), if_pos rfl, hmb, ← hn.out])
          have hmc := hmt.out rfl _ hB1.out
          rw [hmb] at hmc
          clear h1 h2 h3 hmb e1 e2' e3'
          by_cases h0 : n = 0
          · have e2 : r = mb := by rw [e.out, decide_eq_true h0]; rfl
            subst e2 h0
            clear e
            cases r
            all_goals
              go_enter Tryz.func93, Tryz.ntmps93
              go_wp2_with (go_at_call 109; refine hmc.mono ?_; rintro e5 w5 ⟨rfl, hB5⟩)
              go_ret
            · exact ⟨10, rfl, rfl, hB1.out.trans (hB5.mono hB1.out.size)⟩
            · exact ⟨0, rfl, rfl, hB1.out.trans (hB5.mono hB1.out.size)⟩
          · have e2 : r = false := by rw [e.out, decide_eq_false h0]; rfl
            subst e2
            have hb0 : ((n : Int) == 0) = false := by simp; omega
            clear e
            go_enter Tryz.func93, Tryz.ntmps93
            go_wp2
            go_ret
            exact ⟨10, rfl, rfl, hB1.out⟩
        · have e4' : (k == 4) = false := by simpa using h4
          have e : r = false := by rw [← hr.out, conP, if_neg h1, if_neg h2, if_neg h3, if_neg h4]
          subst e
          clear h1 h2 h3 h4
          go_enter Tryz.func93, Tryz.ntmps93
          go_wp2
          go_ret
          exact ⟨10, rfl, rfl, hB1.out⟩
end Go.Proofs.YtghlodpbbghcoaaGreatDoor
