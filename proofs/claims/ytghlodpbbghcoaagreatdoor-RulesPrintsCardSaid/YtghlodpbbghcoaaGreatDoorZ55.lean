/- The line of a rule that may not be: walked. -/
import Derived.Test.YtghlodpbbghcoaaGreatDoorZ54
namespace Go.Proofs.YtghlodpbbghcoaaGreatDoor
open Go.Lib Go.RowKit Go.Maps
def BadPost (X : Nat) (w : World) (e : Ending) (w' : World) : Prop := e = .returned (.bool false) ∧ KeepR X w w'
theorem valueOf_none {kind : ByteArray} {args : List ByteArray} (h : valueOf kind args = none) :
    (kind = wAny ∧ args ≠ []) ∨ (kind = wMatch ∧ args.length ≠ 1) ∨ (kind ≠ wAny ∧ kind ≠ wEnum ∧ kind ≠ wScheme ∧ kind ≠ wMatch) := by
  unfold valueOf at h
  split at h
  · split at h
    · cases h
    · exact .inl ⟨‹_›, ‹_›⟩
  · split at h
    · cases h
    · split at h
      · cases h
      · split at h
        · split at h
          · cases h
          · rename_i hn
            refine .inr (.inl ⟨‹_›, fun e => ?_⟩)
            obtain ⟨a, rfl⟩ := List.length_eq_one_iff.1 e
            exact hn a rfl
        · exact .inr (.inr ⟨‹_›, ‹_›, ‹_›, ‹_›⟩)
/-- What is asked of a rule's line ahead of its value. -/
def ruleBad (word : ByteArray) (rest : List ByteArray) (qs : List Bool) : Bool :=
  match rest, qs with
  | _ :: _ :: _, x :: y :: q2 => (!(decide (word = wAttr) || decide (word = wNeed))) || (x || (y || q2.any (· == false)))
  | _, _ => true
theorem ruleOf_none {word : ByteArray} {rest : List ByteArray} {qs : List Bool} (h : ruleOf word rest qs = none) :
    ruleBad word rest qs = true ∨ (∃ nm kind args q2, rest = nm :: kind :: args ∧ qs = false :: false :: q2 ∧ ruleBad word rest qs = false ∧ valueOf kind args = none) := by
  cases hb : ruleBad word rest qs with
  | true => exact .inl rfl
  | false =>
    right
    unfold ruleBad at hb
    split at hb
    · rename_i nm kind args x y q2
      simp only [Bool.or_eq_false_iff, Bool.not_eq_false', Bool.or_eq_true, decide_eq_true_eq] at hb
      obtain ⟨hw, rfl, rfl, hq⟩ := hb
      refine ⟨nm, kind, args, q2, rfl, rfl, rfl, ?_⟩
      have hq2 : q2.all id = true := by
        rw [List.all_eq_true]
        intro x hx
        have := List.any_eq_false.1 hq x hx
        cases x <;> simp at this ⊢
      unfold ruleOf at h
      rw [if_pos hw] at h
      simp only [hq2, if_true] at h
      cases hv : valueOf kind args with
      | none => rfl
      | some v => rw [hv] at h; cases h
    · cases hb
theorem word_ne {s t : ByteArray} (h : s ≠ t) {l : List UInt8} (hl : t.data.toList = l) : (s.toList == l) = false := beq_eq_false_iff_ne.2 (fun e => h ((lit_eq s hl).1 e))
set_option maxRecDepth 8192 in
set_option maxHeartbeats 6400000 in
theorem rule_badA (X : Nat) (word : ByteArray) (vr : Value) (rest : List ByteArray) (Q : Nat → Prop) (Aq : Option Addr) (cq : Nat) (qs : List Bool) (w : World)
    (hvr : StrsAt w Q vr rest) (_hQ : ∀ k, Q k → k < w.heap.size) (hl : rest.length ≤ 2000000) (hfl : FlagsAt w Aq qs) (hcq : qs.length ≤ cq) (hsame : qs.length = rest.length) (hql : qs.length ≤ 2000000) (hr : ruleBad word rest qs = true) :
    Calls Tryz.prog 80 #[.pointer (some ⟨X, 0, none⟩), .string word, vr, .slice Aq qs.length cq] w (BadPost X w) := by
  obtain ⟨A, nr, capr, rfl, hnr, hcr, hat⟩ := hvr.form
  by_cases hw : word = wAttr ∨ word = wNeed
  · rcases Nat.lt_or_ge nr 2 with h2 | h2
    · have i1 : (nr : Int) < 2 := by omega
      clear hvr hat hfl hr
      obtain ⟨nq, hnq⟩ : ∃ nq, qs.length = nq := ⟨_, rfl⟩
      rw [hnq] at hcq ⊢
      clear hnq hsame hnr
      rcases hw with hw | hw
      · have t1 : word.toList = [97, 116, 116, 114] := (lit_eq word (t := wAttr) rfl).2 hw
        replace hw := Lib.hid hw
        go_enter Tryz.func80, Tryz.ntmps80
        go_wp2
        all_goals go_ret
        all_goals exact ⟨rfl, KeepR.refl _ _⟩
      · have t1 : word.toList = [110, 101, 101, 100] := (lit_eq word (t := wNeed) rfl).2 hw
        replace hw := Lib.hid hw
        go_enter Tryz.func80, Tryz.ntmps80
        go_wp2
        all_goals go_ret
        all_goals exact ⟨rfl, KeepR.refl _ _⟩
    · obtain ⟨nm, kind, args, rfl⟩ : ∃ nm kind args, rest = nm :: kind :: args := by
        match rest, hnr with
        | [], h => simp at h; omega
        | [_], h => simp at h; omega
        | a :: b :: l, _ => exact ⟨a, b, l, rfl⟩
      obtain ⟨x, y, q2, rfl⟩ : ∃ x y q2, qs = x :: y :: q2 := by
        match qs, hsame with
        | [], h => simp at h
        | [_], h => simp at h
        | a :: b :: l, _ => exact ⟨a, b, l, rfl⟩
      have hb : (x || (y || q2.any (· == false))) = true := by
        unfold ruleBad at hr
        have : (decide (word = wAttr) || decide (word = wNeed)) = true := by simpa using hw
        rw [this] at hr
        simpa using hr
      clear hr
      obtain ⟨bq, oq, rfl, hbq, hqc⟩ := hfl (by simp)
      have q0 := hqc 0 (by simp)
      have q1 := hqc 1 (by simp)
      simp only [List.getElem_cons_zero, List.getElem_cons_succ, Nat.add_zero] at q0 q1
      have hflags := hfl.tail 2
      simp only [List.drop_succ_cons, List.drop_zero] at hflags
      have hql2 : (x :: y :: q2).length = q2.length + 2 := by simp
      rw [hql2] at hcq hql ⊢
      have hhas : ∀ o' c', (o' = oq + 2 ∧ c' = cq - 2) ∨ q2.length = 0 → Calls Tryz.prog 79 #[.slice (some ⟨bq, o', none⟩) q2.length c', .bool false] w (FlagPost (q2.any (· == false)) w) := fun o' c' ho => by
        rcases ho with ⟨rfl, rfl⟩ | h0
        · exact hasFlag_any _ (cq - 2) q2 false w hflags (by omega) (by omega)
        · exact hasFlag_any _ c' q2 false w (fun h => absurd h (by omega)) (by omega) (by omega)
      obtain ⟨nq, hnq⟩ : ∃ nq, q2.length = nq := ⟨_, rfl⟩
      obtain ⟨z, hz⟩ : ∃ z, q2.any (· == false) = z := ⟨_, rfl⟩
      rw [hnq] at hcq hql hhas ⊢
      rw [hz] at hb hhas
      have i1 : ¬ (nr : Int) < 2 := by omega
      have i2 : (0 : Int) < (nq : Int) + 2 := by omega
      have i3 : (1 : Int) < (nq : Int) + 2 := by omega
      have i4 : (2 : Int) ≤ (nq : Int) + 2 := by omega
      clear hflags hfl hqc hvr hat hz hnq hsame hnr hl
      replace hb := Lib.hid hb
      replace hhas := Lib.hid hhas
      have main : ∀ (isa : Bool), (isa = true → word.toList = [97, 116, 116, 114]) → (isa = false → word.toList = [110, 101, 101, 100]) → Calls Tryz.prog 80 #[.pointer (some ⟨X, 0, none⟩), .string word, .slice A nr capr, .slice (some ⟨bq, oq, none⟩) (nq + 2) cq] w (BadPost X w) := by
        intro isa h1 h2
        replace hw := Lib.hid hw
        cases isa with
        | true =>
          have t1 := h1 rfl
          clear h1 h2
          cases x with
          | true =>
            clear hb hhas
            go_enter Tryz.func80, Tryz.ntmps80
            go_wp2
            all_goals go_ret
            all_goals exact ⟨rfl, KeepR.refl _ _⟩
          | false =>
            cases y with
            | true =>
              clear hb hhas
              go_enter Tryz.func80, Tryz.ntmps80
              go_wp2
              all_goals go_ret
              all_goals exact ⟨rfl, KeepR.refl _ _⟩
            | false =>
              obtain rfl : z = true := by simpa using hb.out
              clear hb
              by_cases hcq2 : cq = 2
              · subst hcq2
                obtain rfl : nq = 0 := by omega
                have e3 := hhas.out oq 0 (.inr rfl)
                clear hhas
                go_enter Tryz.func80, Tryz.ntmps80
                go_wp2_with (go_at_call 79; refine e3.mono ?_; rintro e5 w5 ⟨rfl, e6⟩; obtain rfl := e6.symm)
                all_goals go_ret
                all_goals exact ⟨rfl, KeepR.refl _ _⟩
              · have e3 := hhas.out (oq + 2) (cq - 2) (.inl ⟨rfl, rfl⟩)
                clear hhas
                go_enter Tryz.func80, Tryz.ntmps80
                go_wp2_with (go_at_call 79; refine e3.mono ?_; rintro e5 w5 ⟨rfl, e6⟩; obtain rfl := e6.symm)
                all_goals go_ret
                all_goals exact ⟨rfl, KeepR.refl _ _⟩
        | false =>
          have t1 := h2 rfl
          clear h1 h2
          cases x with
          | true =>
            clear hb hhas
            go_enter Tryz.func80, Tryz.ntmps80
            go_wp2
            all_goals go_ret
            all_goals exact ⟨rfl, KeepR.refl _ _⟩
          | false =>
            cases y with
            | true =>
              clear hb hhas
              go_enter Tryz.func80, Tryz.ntmps80
              go_wp2
              all_goals go_ret
              all_goals exact ⟨rfl, KeepR.refl _ _⟩
            | false =>
              obtain rfl : z = true := by simpa using hb.out
              clear hb
              by_cases hcq2 : cq = 2
              · subst hcq2
                obtain rfl : nq = 0 := by omega
                have e3 := hhas.out oq 0 (.inr rfl)
                clear hhas
                go_enter Tryz.func80, Tryz.ntmps80
                go_wp2_with (go_at_call 79; refine e3.mono ?_; rintro e5 w5 ⟨rfl, e6⟩; obtain rfl := e6.symm)
                all_goals go_ret
                all_goals exact ⟨rfl, KeepR.refl _ _⟩
              · have e3 := hhas.out (oq + 2) (cq - 2) (.inl ⟨rfl, rfl⟩)
                clear hhas
                go_enter Tryz.func80, Tryz.ntmps80
                go_wp2_with (go_at_call 79; refine e3.mono ?_; rintro e5 w5 ⟨rfl, e6⟩; obtain rfl := e6.symm)
                all_goals go_ret
                all_goals exact ⟨rfl, KeepR.refl _ _⟩
      rcases hw with hw | hw
      · exact main true (fun _ => (lit_eq word (t := wAttr) rfl).2 hw) (fun h => by cases h)
      · exact main false (fun h => by cases h) (fun _ => (lit_eq word (t := wNeed) rfl).2 hw)
  · have h1 := word_ne (s := word) (t := wAttr) (fun e => hw (.inl e)) (l := [97, 116, 116, 114]) rfl
    have h2 := word_ne (s := word) (t := wNeed) (fun e => hw (.inr e)) (l := [110, 101, 101, 100]) rfl
    have h1' : ¬ word.toList = [97, 116, 116, 114] := by simpa using h1
    have h2' : ¬ word.toList = [110, 101, 101, 100] := by simpa using h2
    clear hvr hat hfl hr
    obtain ⟨nq, hnq⟩ : ∃ nq, qs.length = nq := ⟨_, rfl⟩
    rw [hnq] at hcq ⊢
    clear hnq hsame hnr hw
    go_enter Tryz.func80, Tryz.ntmps80
    go_wp2
    all_goals go_ret
    all_goals exact ⟨rfl, KeepR.refl _ _⟩
set_option maxRecDepth 8192 in
set_option maxHeartbeats 6400000 in
theorem rule_badB (X : Nat) (word : ByteArray) (vr : Value) (rest : List ByteArray) (Q : Nat → Prop) (Aq : Option Addr) (cq : Nat) (qs : List Bool) (w : World)
    (hvr : StrsAt w Q vr rest) (hQ : ∀ k, Q k → k < w.heap.size) (hl : rest.length ≤ 2000000) (hfl : FlagsAt w Aq qs) (hcq : qs.length ≤ cq) (hql : qs.length ≤ 2000000) (hw : word = wAttr ∨ word = wNeed) (nm kind : ByteArray) (args : List ByteArray) (q2 : List Bool) (hre : rest = nm :: kind :: args) (hqs : qs = false :: false :: q2) (hq2 : q2.all id = true) (hv : valueOf kind args = none) :
    Calls Tryz.prog 80 #[.pointer (some ⟨X, 0, none⟩), .string word, vr, .slice Aq qs.length cq] w (BadPost X w) := by
  subst hre hqs
  obtain ⟨A, nr, capr, rfl, hnr, hcr, hat⟩ := hvr.form
  obtain ⟨b, o, rfl, hQb, hcell⟩ := hat (by rw [hnr]; simp)
  obtain ⟨bq, oq, rfl, hbq, hqc⟩ := hfl (by simp)
  have c0 := hcell 0 (by simp)
  have c1 := hcell 1 (by simp)
  have q0 := hqc 0 (by simp)
  have q1 := hqc 1 (by simp)
  simp only [List.getElem_cons_zero, List.getElem_cons_succ, Nat.add_zero] at c0 c1 q0 q1
  have hbw : Hid (b < w.heap.size) := Lib.hid (hQ b hQb)
  have hargs := hvr.tail 2 (by rw [hnr]; simp)
  have hflags := hfl.tail 2
  simp only [List.drop_succ_cons, List.drop_zero] at hargs hflags
  have hnr2 : nr = args.length + 2 := by rw [hnr]; simp
  have hql2 : (false :: false :: q2).length = q2.length + 2 := by simp
  rw [hql2] at hcq hql ⊢
  subst hnr2
  simp only [Nat.add_sub_cancel] at hargs
  have hclone : ∀ wx, Below w.heap.size w wx → ∀ o' c', (o' = o + 2 ∧ c' = capr - 2) ∨ args.length = 0 → Calls Tryz.prog 78 #[.slice (some ⟨b, o', none⟩) args.length c'] wx (ClonePost args wx) := fun wx hb o' c' ho => by
    rcases ho with ⟨rfl, rfl⟩ | h0
    · exact clone_any _ _ Q wx (hargs.move (Stays.below hb hQ) (fun _ h => h)) (by simp at hl; omega)
    · have : args = [] := List.eq_nil_of_length_eq_zero h0
      subst this
      exact clone_any _ _ Q wx (CRow.some_nil wx Q 1 _ _) (by simp)
  have hhas : ∀ wx, Below w.heap.size w wx → ∀ o' c', (o' = oq + 2 ∧ c' = cq - 2) ∨ q2.length = 0 → Calls Tryz.prog 79 #[.slice (some ⟨bq, o', none⟩) q2.length c', .bool false] wx (FlagPost (q2.any (· == false)) wx) := fun wx hb o' c' ho => by
    rcases ho with ⟨rfl, rfl⟩ | h0
    · exact hasFlag_any _ (cq - 2) q2 false wx (hflags.below hb) (by omega) (by omega)
    · exact hasFlag_any _ c' q2 false wx (fun h => absurd h (by omega)) (by omega) (by omega)
  have hq3 : q2.any (· == false) = false := by
    rw [List.any_eq_false]
    intro x hx
    have := List.all_eq_true.1 hq2 x hx
    simpa using this
  rw [hq3] at hhas
  replace hclone := Lib.hid hclone
  replace hhas := Lib.hid hhas
  clear hcell hqc hat hfl hvr hq2 hq3 hargs hflags hnr hQb
  obtain ⟨na, hna⟩ : ∃ na, args.length = na := ⟨_, rfl⟩
  obtain ⟨nq, hnq⟩ : ∃ nq, q2.length = nq := ⟨_, rfl⟩
  have hl2 : na ≤ 2000000 := by rw [← hna]; simp at hl; omega
  clear hl
  rw [hna] at hclone hcr ⊢
  rw [hnq] at hhas hcq hql ⊢
  replace hna := Lib.hid hna
  replace hnq := Lib.hid hnq
  obtain ⟨isn, hisn⟩ : ∃ isn, decide (word = wNeed) = isn := ⟨_, rfl⟩
  have hneed : (word.toList == [110, 101, 101, 100]) = isn := by
    rw [← hisn, Bool.eq_iff_iff, beq_iff_eq, decide_eq_true_eq]
    exact lit_eq word rfl
  replace hw := Lib.hid hw
  replace hisn := Lib.hid hisn
  go_enter Tryz.func80, Tryz.ntmps80
  go_upto_region 1 with fail
  go_cut [37] (fun x wx => x = .bool false ∧ wx = w)
  case first =>
    replace hneed := Lib.hid hneed
    have e2 := hhas.out w (Below.refl _ _)
    have i1 : ¬ (na : Int) + 2 < 2 := by omega
    have i2 : (0 : Int) < (nq : Int) + 2 := by omega
    have i3 : (1 : Int) < (nq : Int) + 2 := by omega
    have i4 : (2 : Int) ≤ (nq : Int) + 2 := by omega
    clear hclone c0 c1
    rcases hw.out with hw1 | hw1
    · have t1 : word.toList = [97, 116, 116, 114] := (lit_eq word (t := wAttr) rfl).2 hw1
      replace hw1 := Lib.hid hw1
      by_cases hcq2 : cq = 2
      · subst hcq2
        obtain rfl : nq = 0 := by omega
        have e3 := e2 oq 0 (.inr (by omega))
        clear e2
        go_wp2_with (go_at_call 79; refine e3.mono ?_; rintro e5 w5 ⟨rfl, e6⟩; obtain rfl := e6.symm)
        go_meet
        exact ⟨rfl, rfl⟩
      · have e3 := e2 (oq + 2) (cq - 2) (.inl ⟨rfl, rfl⟩)
        clear e2
        go_wp2_with (go_at_call 79; refine e3.mono ?_; rintro e5 w5 ⟨rfl, e6⟩; obtain rfl := e6.symm)
        go_meet
        exact ⟨rfl, rfl⟩
    · have t1 : word.toList = [110, 101, 101, 100] := (lit_eq word (t := wNeed) rfl).2 hw1
      replace hw1 := Lib.hid hw1
      by_cases hcq2 : cq = 2
      · subst hcq2
        obtain rfl : nq = 0 := by omega
        have e3 := e2 oq 0 (.inr (by omega))
        clear e2
        go_wp2_with (go_at_call 79; refine e3.mono ?_; rintro e5 w5 ⟨rfl, e6⟩; obtain rfl := e6.symm)
        go_meet
        exact ⟨rfl, rfl⟩
      · have e3 := e2 (oq + 2) (cq - 2) (.inl ⟨rfl, rfl⟩)
        clear e2
        go_wp2_with (go_at_call 79; refine e3.mono ?_; rintro e5 w5 ⟨rfl, e6⟩; obtain rfl := e6.symm)
        go_meet
        exact ⟨rfl, rfl⟩
  case rest =>
  obtain ⟨rfl, e6⟩ := hcut
  obtain rfl := e6.symm
  clear e6 q0 q1 hhas
  go_upto_region 4 with fail
  obtain ⟨w1, hw1⟩ : ∃ w1, w.alloc (.cells #[.string nm, .int .i64 0, .slice none 0 0, .string ⟨#[]⟩, .bool isn] 34) = w1 := ⟨_, rfl⟩
  have hB1 : Hid (Below w.heap.size w w1) := Lib.hid (by rw [← hw1]; exact (Below.refl _ _).alloc (Nat.le_refl _) _)
  have hz1 : Hid (w1.heap.size = w.heap.size + 1) := Lib.hid (by rw [← hw1]; simp)
  have hbx1 : Hid (w1.heap[w.heap.size]? = some (.cells #[.string nm, .int .i64 0, .slice none 0 0, .string ⟨#[]⟩, .bool isn] 34)) := Lib.hid (by rw [← hw1]; exact blk_new _ _)
  rw [hw1]
  clear hw1 c0 hneed
  go_cut [10] (fun x wx => ∃ (Av : Option Addr) (nv cv : Nat), x = .slice Av nv cv ∧ Hid (OwnS wx w1.heap.size (.slice Av nv cv) args) ∧ Hid (Below w1.heap.size w1 wx))
  case first =>
    have e2 := hclone.out w1 hB1.out
    have i1 : (2 : Int) ≤ (na : Int) + 2 := by omega
    clear hclone c1
    by_cases hc2 : capr = 2
    · subst hc2
      obtain rfl : na = 0 := by omega
      have e3 := e2 o 0 (.inr rfl)
      clear e2
      go_wp2_with (go_at_call 78; refine e3.mono ?_; rintro e5 w5 ⟨v5, rfl, ho5, hB5⟩; obtain ⟨A5, c5, rfl, -⟩ := own_form ho5)
      go_meet
      exact ⟨_, _, _, rfl, Lib.hid ho5, Lib.hid hB5⟩
    · have e3 := e2 (o + 2) (capr - 2) (.inl ⟨rfl, rfl⟩)
      clear e2
      go_wp2_with (go_at_call 78; refine e3.mono ?_; rintro e5 w5 ⟨v5, rfl, ho5, hB5⟩; obtain ⟨A5, c5, rfl, -⟩ := own_form ho5)
      go_meet
      exact ⟨_, _, _, rfl, Lib.hid ho5, Lib.hid hB5⟩
  case rest =>
  obtain ⟨Av, nv, cv, rfl, hown, hB2⟩ := hcut
  have hBc : Hid (Below w.heap.size w wc) := Lib.hid (hB1.out.trans (hB2.out.mono hB1.out.size))
  have hbx2 : Hid (wc.heap[w.heap.size]? = some (.cells #[.string nm, .int .i64 0, .slice none 0 0, .string ⟨#[]⟩, .bool isn] 34)) := Lib.hid (blk_below hbx1.out hB2.out (by have := hz1.out; omega))
  have hnv : nv = args.length := by
    obtain ⟨A5, c5, e, -⟩ := own_form hown.out
    simp only [Value.slice.injEq] at e
    exact e.2.1
  replace c1 : wc.cell? ⟨b, o + 1, none⟩ = some (.string kind) := (hBc.out.cell (p := ⟨b, o + 1, none⟩) hbw.out).trans c1
  have hstr : Hid (StrsAt wc (fun k => w.heap.size ≤ k ∧ k < wc.heap.size ∧ k ≠ w.heap.size) (.slice Av nv cv) args) := Lib.hid (hown.out.fresh.move (Stays.refl _ _) (fun k hk => ⟨by have := hz1.out; omega, hk.2, by have := hz1.out; omega⟩))
  clear hclone hbx1
  have hKc : Hid (KeepR X w wc) := Lib.hid (KeepR.of_below hBc.out)
  have g1 := blk_cell hbx2.out 1
  have f1 := blk_frozen hbx2.out 1
  have hset : Hid (∀ u, KeepR X w (wc.setCell ⟨w.heap.size, 1, none⟩ u)) := Lib.hid (fun u => KeepR.of_below (hBc.out.setCell (p := ⟨w.heap.size, 1, none⟩) (Nat.le_refl _) u))
  rcases valueOf_none hv with ⟨hk, ha⟩ | ⟨hk, ha⟩ | ⟨ha1, ha2, ha3, ha4⟩
  · have k1 : kind.toList = [97, 110, 121] := (lit_eq kind (t := wAny) rfl).2 hk
    have hnv0 : ¬ (nv : Int) = 0 := fun e => ha (List.eq_nil_of_length_eq_zero (by omega))
    have hnv1 : ((nv : Int) == 0) = false := beq_eq_false_iff_ne.2 hnv0
    replace hk := Lib.hid hk
    replace ha := Lib.hid ha
    clear hv hnv
    go_wp2
    all_goals go_ret
    all_goals exact ⟨rfl, hset.out _⟩
  · have k1 : kind.toList = [109, 97, 116, 99, 104] := (lit_eq kind (t := wMatch) rfl).2 hk
    have hnv0 : ¬ (nv : Int) = 1 := fun e => ha (by omega)
    have hnv1 : ((nv : Int) == 1) = false := beq_eq_false_iff_ne.2 hnv0
    replace hk := Lib.hid hk
    replace ha := Lib.hid ha
    clear hv hnv
    go_wp2
    all_goals go_ret
    all_goals exact ⟨rfl, hKc.out⟩
  · have k1 := word_ne ha1 (l := [97, 110, 121]) rfl
    have k2 := word_ne ha2 (l := [101, 110, 117, 109]) rfl
    have k3 := word_ne ha3 (l := [115, 99, 104, 101, 109, 101]) rfl
    have k4 := word_ne ha4 (l := [109, 97, 116, 99, 104]) rfl
    clear ha1 ha2 ha3 ha4 hv
    go_wp2
    all_goals go_ret
    all_goals exact ⟨rfl, hKc.out⟩
theorem rule_bad (X : Nat) (word : ByteArray) (vr : Value) (rest : List ByteArray) (Q : Nat → Prop) (Aq : Option Addr) (cq : Nat) (qs : List Bool) (w : World)
    (hvr : StrsAt w Q vr rest) (hQ : ∀ k, Q k → k < w.heap.size) (hl : rest.length ≤ 2000000) (hfl : FlagsAt w Aq qs) (hcq : qs.length ≤ cq) (hsame : qs.length = rest.length) (hr : ruleOf word rest qs = none) :
    Calls Tryz.prog 80 #[.pointer (some ⟨X, 0, none⟩), .string word, vr, .slice Aq qs.length cq] w (BadPost X w) := by
  rcases ruleOf_none hr with h | ⟨nm, kind, args, q2, rfl, rfl, hb, hv⟩
  · exact rule_badA X word vr rest Q Aq cq qs w hvr hQ hl hfl hcq hsame (by omega) h
  · unfold ruleBad at hb
    simp only [Bool.or_eq_false_iff, Bool.not_eq_false', Bool.or_eq_true, decide_eq_true_eq] at hb
    refine rule_badB X word vr _ Q Aq cq _ w hvr hQ hl hfl hcq (by omega) hb.1 nm kind args q2 rfl rfl ?_ hv
    rw [List.all_eq_true]
    intro x hx
    have := List.any_eq_false.1 hb.2.2.2 x hx
    cases x <;> simp at this ⊢
end Go.Proofs.YtghlodpbbghcoaaGreatDoor
