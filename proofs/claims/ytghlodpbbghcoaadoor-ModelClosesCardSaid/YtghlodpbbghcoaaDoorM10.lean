/- The law ModelCloses, walked. -/
import Derived.Test.YtghlodpbbghcoaaDoorM9
import Derived.Test.YtghlodpbbghcoaaDoorM5
namespace Go.Proofs.YtghlodpbbghcoaaDoor
open Go.RowKit Go.Sort

/-- Is a name one of those that something closes? -/
def hadL (k : Nat) (o : List UInt8) : Bool := (closedL.take k).any (· == o)
theorem hadL_of_closes (o : List UInt8) (x : ByteArray) (h : Lib.containsS (closersOf o) x = true) : hadL 7 o = true := by
  have hne : closersOf o ≠ [] := by
    intro e
    rw [e] at h
    exact absurd ((Lib.containsS_iff _ _).1 h) (by simp)
  unfold closersOf at hne
  unfold hadL closedL
  repeat' split at hne
  all_goals (first | (rename_i e; rw [e]; decide) | exact absurd rfl hne | skip)

theorem below_then {a b c : World} (h : Below a.heap.size a b) (h' : Below b.heap.size b c) : Below a.heap.size a c := h.trans (h'.mono h.size)
theorem closed_less (m : Nat) (hm : m + 1 < 7) : Op.bytesLess (closedL.getD m []) (closedL.getD (m + 1) []) = true := by
  have : ∀ k : Fin 6, Op.bytesLess (closedL.getD k.1 []) (closedL.getD (k.1 + 1) []) = true := by decide
  exact this ⟨m, by omega⟩

set_option maxRecDepth 8192 in
set_option maxHeartbeats 3200000 in
theorem modelCloses_any (o x : ByteArray) (ho : o.size ≤ maxLen) (w : World) :
    Calls Tryd.prog 6 #[.string o, .string x] w fun e w' => e = .returned (.bool true) ∧ Below w.heap.size w w' := by
  go_enter Tryd.func6, Tryd.ntmps6
  go_wp2_with (go_at_call 18; refine (closed_any _).mono ?_; rintro e w1 ⟨g, cap, rfl, hrow, hB⟩)
  have hc : ∀ j, j < 7 → w1.cell? ⟨g, j, none⟩ = some (encStr (closedL.getD j [])) := by
    rcases hrow.2 with ⟨h, _⟩ | ⟨g', cap', cur, hv, hbase, hb, h1, h2, h3, h4⟩
    · cases h
    intro j hj
    cases hv
    have e : cur.toList[j]? = (closedL.map encStr)[j]? := by
      rw [← h4, List.getElem?_take, if_pos (by omega)]
    have e2 : w1.cell? ⟨g, j, none⟩ = cur[j]? := by simp [World.cell?, hb]
    rw [e2, ← Array.getElem?_toList, e, List.getElem?_map, List.getD_eq_getElem?_getD]
    have : j < closedL.length := hj
    rw [List.getElem?_eq_getElem this]
    rfl
  replace hc := Lib.hid hc
  clear hrow
  go_loopw [6, 7] (fun v i wr => ∃ k : Nat, k ≤ 7 ∧ i = .int .i64 k ∧ v = .bool (hadL k o.toList) ∧ Hid (∀ j, j < 7 → wr.cell? ⟨g, j, none⟩ = some (encStr (closedL.getD j []))) ∧ Hid (Below w.heap.size w wr)) (fun _ i _ => 7 - (Lib.intOf i).toNat)
  case atStart => exact ⟨0, by decide, rfl, rfl, hc, Lib.hid hB⟩
  case round =>
    clear hc hB
    obtain ⟨k, hk, rfl, rfl, hc, hB⟩ := hrel
    obtain ⟨hd, hhd⟩ : ∃ hd, hadL k o.toList = hd := ⟨_, rfl⟩
    rw [hhd]
    replace hhd := Lib.hid hhd
    by_cases hlt : k < 7
    · obtain ⟨a, ha, hck⟩ : ∃ a : ByteArray, Hid (a.toList = closedL.getD k []) ∧ wr.cell? ⟨g, k, none⟩ = some (.string a) := ⟨⟨(closedL.getD k []).toArray⟩, Lib.hid (by simp), hc.out k hlt⟩
      obtain ⟨eq, heq⟩ : ∃ eq, (a.toList == o.toList) = eq := ⟨_, rfl⟩
      have hnext : Hid (hadL (k + 1) o.toList = (hd || eq)) := Lib.hid (by
        rw [← heq, ← hhd.out, ha.out]
        unfold hadL
        rw [List.take_add_one, List.any_append, List.getD_eq_getElem?_getD]
        congr 1
        have : k < closedL.length := hlt
        rw [List.getElem?_eq_getElem this]
        simp)
      cases k with
      | zero =>
        go_upto_region 7 with fail
        all_goals go_quiet (fail)
        all_goals go_wp2
        all_goals refine ⟨⟨1, by decide, rfl, ?_, hc, Lib.hid (below_drewN hB.out _)⟩, by decide⟩
        all_goals (rw [hnext.out]; simp_all)
      | succ m =>
        obtain ⟨b, hb, hcm⟩ : ∃ b : ByteArray, Hid (b.toList = closedL.getD m []) ∧ wr.cell? ⟨g, m, none⟩ = some (.string b) := ⟨⟨(closedL.getD m []).toArray⟩, Lib.hid (by simp), hc.out m (by omega)⟩
        have hless : Op.bytesLess b.toList a.toList = true := by rw [ha.out, hb.out]; exact closed_less m hlt
        go_upto_region 7 with fail
        all_goals go_quiet (fail)
        all_goals go_wp2
        all_goals refine ⟨⟨m + 2, by omega, by simp; omega, ?_, hc, Lib.hid (below_drewN hB.out _)⟩, by simp [Lib.intOf]; omega⟩
        all_goals (rw [hnext.out]; simp_all)
    · have : k = 7 := by omega
      subst this
      obtain ⟨cl, hcl⟩ : ∃ cl, Lib.containsS (closersOf o.data.toList) x = cl := ⟨_, rfl⟩
      have hch : Hid (cl = true → hd = true) := Lib.hid (fun e => by
        rw [← hhd.out, ByteArray.toList_eq]
        exact hadL_of_closes _ x (hcl.trans e))
      go_wp2_with (first
        | (go_at_call 20; refine (few_any _ _).mono ?_; rintro e w' ⟨rfl, rfl⟩)
        | (go_at_call 21; refine (refCloses_any _ _ _).mono ?_; rintro e w2 ⟨rfl, hB2⟩)
        | (go_at_call_of 19 (Value.string (fewB o)); refine (closes_any _ _ (by have := fewB_size o; unfold maxLen at *; omega) _).mono ?_; rintro e w3 ⟨rfl, hB3⟩)
        | (go_at_call_of 19 (Value.string o); refine (closes_any _ _ ho _).mono ?_; rintro e w3' ⟨rfl, hB3'⟩; rw [hcl]; cases cl)
        | (go_at_call 16; refine (lives_any _).mono ?_; rintro e w4 ⟨rfl, hB4⟩))
      all_goals go_ret
      all_goals first
        | exact ⟨rfl, below_then (below_then (below_then (below_then hB.out hB3) hB2) hB3') hB4⟩
        | (exfalso; rename_i h; exact h (hch.out trivial))
end Go.Proofs.YtghlodpbbghcoaaDoor
