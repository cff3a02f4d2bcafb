/- The policy that is made of any, by the document: plain. -/
import Derived.Test.YtghlodpbbghcoaaGreatDoorZ42
namespace Go.Proofs.YtghlodpbbghcoaaGreatDoor
open Go.Lib Go.RowKit Go.Maps
def pool5 (i : Nat) : ByteArray := if i = 0 then ⟨#[97]⟩ else if i = 1 then ⟨#[98]⟩ else if i = 2 then ⟨#[112]⟩ else if i = 3 then ⟨#[98, 114]⟩ else ⟨#[115, 116, 121, 108, 101]⟩
def gname (i : Nat) (s : ByteArray) : ByteArray := if plainP s then s else pool5 i
theorem gname_plain (i : Nat) (s : ByteArray) : plainP (gname i s) = true := by
  unfold gname
  split
  · assumption
  · unfold pool5
    split
    · kernel_rfl
    · split
      · kernel_rfl
      · split
        · kernel_rfl
        · split <;> kernel_rfl
/-- The names of the elements that are made of the first ones. -/
def gNm (l : List Elt) : Nat → List ByteArray
  | 0 => []
  | k + 1 => match l[k]? with
    | none => gNm l k
    | some e => if Lib.containsS (gNm l k) (gname k e.name) then gNm l k else gNm l k ++ [gname k e.name]
theorem gNm_step {l : List Elt} {k : Nat} (hk : k < l.length) : gNm l (k + 1) = if Lib.containsS (gNm l k) (gname k l[k].name) then gNm l k else gNm l k ++ [gname k l[k].name] := by
  rw [gNm, List.getElem?_eq_getElem hk]
theorem gNm_stop {l : List Elt} : ∀ {k m : Nat}, l.length ≤ k → k ≤ m → gNm l m = gNm l k := by
  intro k m h1 h2
  induction m with
  | zero => obtain rfl : k = 0 := by omega
            rfl
  | succ m ih =>
    rcases Nat.lt_or_ge m k with h | h
    · obtain rfl : k = m + 1 := by omega
      rfl
    · rw [gNm, List.getElem?_eq_none (by omega)]
      exact ih h
theorem gNm_len (l : List Elt) : ∀ k, (gNm l k).length ≤ k ∧ (gNm l k).length ≤ l.length := by
  intro k
  induction k with
  | zero => exact ⟨Nat.le_refl _, Nat.zero_le _⟩
  | succ k ih =>
    rcases Nat.lt_or_ge k l.length with h | h
    · rw [gNm_step h]
      split
      · omega
      · rw [List.length_append]
        simp
        constructor
        · omega
        · have := ih.1; omega
    · rw [gNm, List.getElem?_eq_none h]
      show (gNm l k).length ≤ k + 1 ∧ (gNm l k).length ≤ l.length
      omega
theorem gNm_nodup (l : List Elt) : ∀ k, (gNm l k).Nodup := by
  intro k
  induction k with
  | zero => simp [gNm]
  | succ k ih =>
    rcases Nat.lt_or_ge k l.length with h | h
    · rw [gNm_step h]
      split
      · exact ih
      · next hc =>
        exact List.nodup_append.2 ⟨ih, by simp, fun a ha b hb e => hc ((Lib.containsS_iff _ _).2 (by have e2 : a = gname k l[k].name := e.trans (List.mem_singleton.1 hb); rw [← e2]; exact ha))⟩
    · rw [gNm, List.getElem?_eq_none h]
      exact ih
theorem gNm_plain (l : List Elt) : ∀ k, ∀ s ∈ gNm l k, plainP s = true := by
  intro k
  induction k with
  | zero => simp [gNm]
  | succ k ih =>
    rcases Nat.lt_or_ge k l.length with h | h
    · rw [gNm_step h]
      split
      · exact ih
      · intro s hs
        rcases List.mem_append.1 hs with hs | hs
        · exact ih s hs
        · rw [List.mem_singleton.1 hs]
          exact gname_plain _ _
    · rw [gNm, List.getElem?_eq_none h]
      exact ih
/-- Elements of which the names alone matter. -/
def nEl (l : List ByteArray) : List Elt := l.map fun s => ⟨s, [], []⟩
theorem findP_isSome (el : List Elt) (s : ByteArray) : (findP el s).isSome = Lib.containsS (el.map Elt.name) s := by
  unfold findP
  rw [Bool.eq_iff_iff, List.find?_isSome, Lib.containsS_iff, List.mem_map]
  constructor
  · rintro ⟨x, hx, he⟩
    exact ⟨x, hx, by simpa using he⟩
  · rintro ⟨x, hx, he⟩
    exact ⟨x, hx, by simpa using he⟩
theorem names_nEl (l : List ByteArray) : (nEl l).map Elt.name = l := by
  unfold nEl
  rw [List.map_map]
  exact List.map_id' l
theorem fittingP_names (el : List Elt) (nm : ByteArray) (l : List ByteArray) : fittingP el nm l = fittingP (nEl (el.map Elt.name)) nm l := by
  have h1 : ∀ s, kid13Bad el nm s = kid13Bad (nEl (el.map Elt.name)) nm s := fun s => by
    unfold kid13Bad
    rw [findP_isSome, findP_isSome, names_nEl]
  have h2 : ∀ l, kids13P el nm l = kids13P (nEl (el.map Elt.name)) nm l := fun l => by
    unfold kids13P
    simp only [h1]
  have h3 : fitStep el nm = fitStep (nEl (el.map Elt.name)) nm := by
    funext o s
    unfold fitStep
    rw [h2]
  unfold fittingP
  rw [h3]
/-- What the rules of an element are that is made of any. -/
structure RulsOk (l : List Rul) : Prop where
  len : l.length ≤ 3
  ok : ∀ r ∈ l, RulOk r
  nodup : (l.map Rul.name).Nodup
/-- What the policy is that is made of another one. -/
structure GoodOk (p q : Pol) : Prop where
  names : q.elts.map Elt.name = gNm p.elts 5
  kids : ∀ i (hi : i < q.elts.length), ∃ hp : i < p.elts.length, q.elts[i].kids = fittingP (nEl (gNm p.elts 5)) q.elts[i].name p.elts[i].kids
  top : q.top = fittingP (nEl (gNm p.elts 5)) ⟨#[]⟩ p.top
  rules : ∀ e ∈ q.elts, RulsOk e.rules
  unlen : q.unwrap.length ≤ 4
  unplain : ∀ s ∈ q.unwrap, plainP s = true
  unnodup : q.unwrap.Nodup
def GoodPost (p : Pol) (w : World) (e : Ending) (w' : World) : Prop := ∃ (vt ve vu : Value) (q : Pol), e = .returned (.agg #[vt, ve, vu]) ∧ PolAt w' (fun k => w.heap.size ≤ k ∧ k < w'.heap.size) vt ve vu q ∧ GoodOk p q ∧ Below w.heap.size w w'
/-- A policy that is handed in. -/
structure Pol.In (p : Pol) : Prop where
  top : p.top.length ≤ 140737488355328 ∧ ∀ s ∈ p.top, s.size ≤ 140737488355328
  unwrap : p.unwrap.length ≤ 140737488355328 ∧ ∀ s ∈ p.unwrap, s.size ≤ 140737488355328
  elts : p.elts.length ≤ 140737488355328 ∧ ∀ e ∈ p.elts, e.name.size ≤ 140737488355328 ∧ e.kids.length ≤ 140737488355328 ∧ (∀ s ∈ e.kids, s.size ≤ 140737488355328) ∧ e.rules.length ≤ 140737488355328 ∧ ∀ r ∈ e.rules, r.In
end Go.Proofs.YtghlodpbbghcoaaGreatDoor
