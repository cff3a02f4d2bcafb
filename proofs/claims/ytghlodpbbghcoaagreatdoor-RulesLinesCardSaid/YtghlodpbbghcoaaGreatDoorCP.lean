/- How many lines a policy's text has: plain. No program in sight. -/
import Derived.Test.YtghlodpbbghcoaaGreatDoorVC
namespace Go.Proofs.YtghlodpbbghcoaaGreatDoor
theorem count_no10 {l : List UInt8} (h : ∀ c ∈ l, c ≠ 10) : l.count 10 = 0 := List.count_eq_zero.2 (fun hm => h 10 hm rfl)
theorem count_join (D : List (List UInt8 × Bool)) (hx : ∀ x ∈ D, okI x) : (joinI D ++ [10]).count 10 = 1 := by
  rw [List.count_append, count_no10 (join_no10 D hx)]
  decide
theorem count_line (word : ByteArray) (l : List ByteArray) (hw : PlT word) (hl : ∀ s ∈ l, PlT s) : (lineB word l).count 10 = 1 := by
  have e := lineB_join word l []
  rw [List.append_nil] at e
  rw [e]
  refine count_join _ (fun x hx => ?_)
  rcases List.mem_cons.1 hx with rfl | hx
  · exact hw
  · obtain ⟨s, hs, rfl⟩ := List.mem_map.1 hx
    exact hl s hs
theorem count_rule (r : Rul) (hr : r.Rdb) : (ruleB r).count 10 = 1 := by
  have e := ruleB_join r []
  rw [List.append_nil] at e
  rw [e]
  refine count_join _ (fun x hx => ?_)
  simp only [List.mem_cons] at hx
  rcases hx with rfl | rfl | rfl | hx
  · exact reqW_plain _
  · exact hr.name
  · exact kindW_plain _
  · obtain ⟨s, hs, rfl⟩ := List.mem_map.1 hx
    exact args_sign hr s hs
theorem count_rules : ∀ rs : List Rul, (∀ r ∈ rs, r.Rdb) → (rs.flatMap ruleB).count 10 = rs.length
  | [], _ => rfl
  | r :: rs, h => by
    rw [List.flatMap_cons, List.count_append, count_rule r (h r List.mem_cons_self), count_rules rs (fun x hx => h x (List.mem_cons_of_mem _ hx)), List.length_cons]
    omega
/-- The lines of elements: two for each, and one for each rule. -/
def linesOf : List Elt → Nat
  | [] => 0
  | e :: es => (2 + e.rules.length) + linesOf es
theorem count_elts : ∀ es : List Elt, (∀ e ∈ es, e.Rdb) → (es.flatMap eltB).count 10 = linesOf es
  | [], _ => rfl
  | e :: es, h => by
    obtain ⟨h1, h2, h3⟩ := h e List.mem_cons_self
    rw [List.flatMap_cons, List.count_append, count_elts es (fun x hx => h x (List.mem_cons_of_mem _ hx)), eltB, List.count_append, List.count_append, count_rules _ h3,
      count_line _ [e.name] ⟨by decide, by decide⟩ (fun s hs => by rw [List.mem_singleton.1 hs]; exact h1), count_line _ e.kids ⟨by decide, by decide⟩ h2, linesOf]
    omega
theorem linesOf_append : ∀ a b : List Elt, linesOf (a ++ b) = linesOf a + linesOf b
  | [], b => by simp [linesOf]
  | e :: a, b => by
    rw [List.cons_append, linesOf, linesOf, linesOf_append a b]
    omega
theorem linesOf_take {l : List Elt} {k : Nat} (hk : k < l.length) : linesOf (l.take (k + 1)) = linesOf (l.take k) + (2 + l[k].rules.length) := by
  rw [List.take_add_one, List.getElem?_eq_getElem hk, linesOf_append]
  rfl
/-- A POLICY'S TEXT HAS THREE LINES, AND THOSE OF ITS ELEMENTS. -/
theorem count_print (q : Pol) (hq : q.Rdb) : (printB q).count 10 = 3 + linesOf q.elts := by
  obtain ⟨top, elts, un⟩ := q
  obtain ⟨h1, h2, h3⟩ := hq
  unfold printB
  simp only
  rw [List.count_append, List.count_append, List.count_append, count_elts elts h3, count_line _ top ⟨by decide, by decide⟩ h1, count_line _ un ⟨by decide, by decide⟩ h2]
  have : ([115, 116, 114, 97, 105, 110, 101, 114, 32, 49, 10] : List UInt8).count 10 = 1 := by decide
  omega
theorem count_take {l : List UInt8} {k : Nat} (hk : k < l.length) : (l.take (k + 1)).count 10 = (l.take k).count 10 + (if l[k] = 10 then 1 else 0) := by
  rw [List.take_add_one, List.getElem?_eq_getElem hk, List.count_append]
  simp [List.count_singleton]
end Go.Proofs.YtghlodpbbghcoaaGreatDoor
