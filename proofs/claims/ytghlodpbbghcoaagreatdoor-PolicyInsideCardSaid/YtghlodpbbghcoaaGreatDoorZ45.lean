/- What may stand in an element of a policy that is made of any: plain. -/
import Derived.Test.YtghlodpbbghcoaaGreatDoorZ44
import Derived.Test.YtghlodpbbghcoaaGreatDoorSB
import Derived.Test.YtghlodpbbghcoaaGreatDoorL3
namespace Go.Proofs.YtghlodpbbghcoaaGreatDoor
open Go.Lib Go.RowKit Go.Maps
/-- Not what a text or a comment is called in a list. -/
def NoTag (s : ByteArray) : Prop := s.toList ≠ textN ∧ s.toList ≠ commN
theorem plain_noTag {s : ByteArray} (h : plainP s = true) : NoTag s := by
  unfold plainP at h
  rw [Bool.and_eq_true] at h
  refine ⟨fun e => ?_, fun e => ?_⟩
  all_goals
    have h2 := h.2
    rw [ByteArray.toList_eq] at e
    rw [e] at h2
    exact absurd h2 (by decide)
theorem plain_ne {s : ByteArray} (h : plainP s = true) : s.toList ≠ [] := by
  unfold plainP at h
  rw [Bool.and_eq_true] at h
  intro e
  rw [ByteArray.toList_eq] at e
  have h2 := h.2
  rw [e] at h2
  exact absurd h2 (by decide)
theorem fold_fit (el : List Elt) (nm : ByteArray) : ∀ (l o : List ByteArray), (o = [] ∨ kids13P el nm o = true) → (l.foldl (fitStep el nm) o = [] ∨ kids13P el nm (l.foldl (fitStep el nm) o) = true)
  | [], o, h => h
  | s :: l, o, h => by
    rw [List.foldl_cons]
    refine fold_fit el nm l _ ?_
    unfold fitStep
    by_cases hk : kids13P el nm (o ++ [s]) = true
    · rw [if_pos hk]
      exact .inr hk
    · rw [if_neg hk]
      exact h
theorem fit_mem {el : List Elt} {nm : ByteArray} {l : List ByteArray} {s : ByteArray} (hs : s ∈ fittingP el nm l) : s.toList = textN ∨ s.toList = commN ∨ (findP el s).isSome = true := by
  have h := fold_fit el nm (l.take 8) [] (.inl rfl)
  unfold fittingP at hs
  rcases h with h | h
  · rw [h] at hs
    simp at hs
  · unfold kids13P at h
    rw [Bool.and_eq_true, List.all_eq_true] at h
    have hb := h.1 s hs
    unfold kid13Bad at hb
    by_cases ht : s.toList = textN
    · exact .inl ht
    · by_cases hc : s.toList = commN
      · exact .inr (.inl hc)
      · refine .inr (.inr ?_)
        have h1 : (s.toList == textN) = false := by simpa using ht
        have h2 : (s.toList == commN) = false := by simpa using hc
        rw [h1, h2] at hb
        revert hb
        cases (findP el s).isSome <;> simp
theorem GoodOk.found {p q : Pol} (h : GoodOk p q) (s : ByteArray) : (findP (nEl (gNm p.elts 5)) s).isSome = (findP q.elts s).isSome := by
  rw [findP_isSome, findP_isSome, names_nEl, h.names]
theorem GoodOk.mem {p q : Pol} (h : GoodOk p q) {par s : ByteArray} (hs : s ∈ listP q par) : s.toList = textN ∨ s.toList = commN ∨ (findP q.elts s).isSome = true := by
  unfold listP at hs
  split at hs
  · rw [h.top] at hs
    have := fit_mem hs
    rwa [h.found] at this
  · cases hf : findP q.elts par with
    | none =>
      rw [hf] at hs
      simp at hs
    | some x =>
      rw [hf] at hs
      have hm := List.mem_of_find?_eq_some hf
      obtain ⟨i, hi, rfl⟩ := List.getElem_of_mem hm
      obtain ⟨hp, hk⟩ := h.kids i hi
      have hs' : s ∈ q.elts[i].kids := hs
      rw [hk] at hs'
      have := fit_mem hs'
      rwa [h.found] at this
theorem GoodOk.inside {p q : Pol} (h : GoodOk p q) (par : ByteArray) {kd : Int} (hkd : kd = 1 ∨ kd = 2 ∨ kd = 3) {nm : ByteArray} (hn : NoTag nm) : insideP q par kd nm = Lib.containsS (listP q par) (kindN kd nm) := by
  cases hc : Lib.containsS (listP q par) (kindN kd nm) with
  | false => unfold insideP; rw [hc]; simp
  | true =>
    have hm := (Lib.containsS_iff _ _).1 hc
    have h1 : (decide (par.toList = []) || (findP q.elts par).isSome) = true := by
      by_cases hp : par.toList = []
      · simp [hp]
      · cases hf : findP q.elts par with
        | some x => simp
        | none =>
          unfold listP at hm
          rw [if_neg hp, hf] at hm
          simp at hm
    have h2 : elemP q kd nm = true := by
      unfold elemP
      rcases hkd with rfl | rfl | rfl
      · have hk : kindN 1 nm = nm := rfl
        rw [hk] at hm
        rcases h.mem hm with e | e | e
        · exact absurd e hn.1
        · exact absurd e hn.2
        · rw [e]; simp
      · rfl
      · rfl
    unfold insideP
    rw [h1, h2, hc]
    rfl
theorem inside_found {q : Pol} {par : ByteArray} {nm : ByteArray} (h : insideP q par 1 nm = true) : (findP q.elts nm).isSome = true := by
  unfold insideP elemP at h
  revert h
  cases (findP q.elts nm).isSome <;> simp
/-- What Find tells of names and kids hangs on names and kids alone. -/
theorem find_pair {l m : List Elt} (h : l.map (fun e => (e.name, e.kids)) = m.map (fun e => (e.name, e.kids))) (s : ByteArray) : (findP l s).map (fun e => (e.name, e.kids)) = (findP m s).map (fun e => (e.name, e.kids)) := by
  have key : ∀ l : List Elt, (findP l s).map (fun e => (e.name, e.kids)) = (l.map (fun e => (e.name, e.kids))).find? (fun x => decide (x.1 = s)) := fun l => by
    unfold findP
    rw [List.find?_map]
    rfl
  rw [key, key, h]
theorem GoodOk.pair {p q r : Pol} (h : GoodOk p q) (k : GoodOk p r) : q.elts.map (fun e => (e.name, e.kids)) = r.elts.map (fun e => (e.name, e.kids)) := by
  have hn : q.elts.map Elt.name = r.elts.map Elt.name := h.names.trans k.names.symm
  have hl : q.elts.length = r.elts.length := by simpa using congrArg List.length hn
  apply List.ext_getElem
  · simpa using hl
  · intro i h1 h2
    rw [List.length_map] at h1 h2
    rw [List.getElem_map, List.getElem_map]
    have e1 : q.elts[i].name = r.elts[i].name := by
      have := List.getElem_of_eq hn (i := i) (by simpa using h1)
      simpa using this
    obtain ⟨hp, e2⟩ := h.kids i h1
    obtain ⟨_, e3⟩ := k.kids i h2
    rw [e2, e3, e1]
theorem inside_same {p q r : Pol} (h : GoodOk p q) (k : GoodOk p r) {par : ByteArray} (hp : par.toList ≠ []) (kd : Int) (nm : ByteArray) : insideP ⟨[], r.elts, r.unwrap⟩ par kd nm = insideP q par kd nm := by
  have hf := find_pair (h.pair k)
  have hs : ∀ s, (findP r.elts s).isSome = (findP q.elts s).isSome := fun s => by
    have := congrArg Option.isSome (hf s)
    simpa using this.symm
  have hl : listP ⟨[], r.elts, r.unwrap⟩ par = listP q par := by
    unfold listP
    rw [if_neg hp, if_neg hp]
    have := hf par
    show (match findP r.elts par with | some x => x.kids | none => []) = _
    cases h1 : findP q.elts par with
    | none =>
      rw [h1] at this
      cases h2 : findP r.elts par with
      | none => rfl
      | some y => rw [h2] at this; cases this
    | some x =>
      rw [h1] at this
      cases h2 : findP r.elts par with
      | none => rw [h2] at this; cases this
      | some y =>
        rw [h2] at this
        simp only [Option.map_some, Option.some.injEq, Prod.mk.injEq] at this
        exact this.2.symm
  unfold insideP elemP
  rw [hl]
  show ((decide (par.toList = []) || (findP r.elts par).isSome) && ((!decide (kd = 1) || (findP r.elts nm).isSome) && Lib.containsS (listP q par) (kindN kd nm))) = _
  rw [hs, hs]
theorem inside_none (r : Pol) (hr : r.top = []) (kd : Int) (nm : ByteArray) : insideP r ⟨#[]⟩ kd nm = false := by
  unfold insideP
  have : listP r ⟨#[]⟩ = [] := by unfold listP; rw [if_pos (by rw [ByteArray.toList_eq]), hr]
  rw [this, show Lib.containsS [] (kindN kd nm) = false from rfl]
  simp
theorem toList_size {s : ByteArray} {l : List UInt8} (h : s.toList = l) : s.size = l.length := by
  rw [ByteArray.toList_eq] at h
  have := congrArg List.length h
  simpa using this
theorem GoodOk.elt_plain {p q : Pol} (h : GoodOk p q) {e : Elt} (he : e ∈ q.elts) : plainP e.name = true := by
  have : e.name ∈ q.elts.map Elt.name := List.mem_map.2 ⟨e, he, rfl⟩
  rw [h.names] at this
  exact gNm_plain _ _ _ this
theorem GoodOk.mem_size {p q : Pol} (h : GoodOk p q) {par s : ByteArray} (hs : s ∈ listP q par) : s.size ≤ 16 := by
  rcases h.mem hs with e | e | e
  · rw [toList_size e]; decide
  · rw [toList_size e]; decide
  · cases hf : findP q.elts s with
    | none => rw [hf] at e; cases e
    | some x =>
      have hx := h.elt_plain (List.mem_of_find?_eq_some hf)
      have h2 : x.name = s := by
        have := List.find?_some hf
        simpa using this
      rw [← h2]
      exact plainP_size hx
theorem fit_len (el : List Elt) (nm : ByteArray) (l : List ByteArray) : (fittingP el nm l).length ≤ 8 := by
  unfold fittingP
  have := fold_len el nm (l.take 8) []
  rw [List.length_take] at this
  simp at this
  omega
theorem words_size {p : ByteArray → Bool} {n : Nat} (hp : ∀ s, p s = true → s.size ≤ n) {l : List ByteArray} (h : wordsP p l = true) : ∀ s ∈ l, s.size ≤ n := by
  unfold wordsP at h
  rw [Bool.and_eq_true, Bool.and_eq_true, List.all_eq_true] at h
  exact fun s hs => hp s (h.2.1 s hs)
theorem pick_size (b : Bool) : ∀ s, pickP b s = true → s.size ≤ 40 := by
  intro s h
  unfold pickP at h
  split at h
  · unfold schemeP at h
    simp at h
    omega
  · unfold wordP at h
    simp at h
    omega
theorem ConOk.sizes {k : Int} {ws : List ByteArray} {rx : ByteArray} (h : ConOk k ws rx) : ∀ s ∈ ws, s.size ≤ 40 := by
  rcases h.kind with ⟨_, e, _⟩ | ⟨_, _, e, _⟩ | ⟨_, e, _⟩ | ⟨_, e, _⟩
  · rw [e]; simp
  · exact words_size (pick_size false) e
  · rcases e with e | e
    · rw [e]; simp
    · exact words_size (pick_size true) e
  · rw [e]; simp
theorem GoodOk.fit {p q : Pol} (h : GoodOk p q) : q.Fit := by
  refine ⟨⟨?_, ?_⟩, ⟨?_, ?_⟩, ⟨?_, ?_⟩⟩
  · rw [h.top]
    exact Nat.le_trans (fit_len _ _ _) (by decide)
  · intro s hs
    have : s ∈ listP q ⟨#[]⟩ := by unfold listP; rw [if_pos (by rw [ByteArray.toList_eq])]; exact hs
    exact Nat.le_trans (h.mem_size this) (by decide)
  · exact Nat.le_trans h.unlen (by decide)
  · intro s hs
    exact Nat.le_trans (plainP_size (h.unplain s hs)) (by decide)
  · have h1 := congrArg List.length h.names
    rw [List.length_map] at h1
    have := (gNm_len p.elts 5).1
    omega
  · intro e he
    have hn := plainP_size (h.elt_plain he)
    have hr := h.rules e he
    obtain ⟨i, hi, rfl⟩ := List.getElem_of_mem he
    obtain ⟨hp, hk⟩ := h.kids i hi
    refine ⟨by omega, ?_, ?_, by have := hr.len; omega, ?_⟩
    · rw [hk]
      exact Nat.le_trans (fit_len _ _ _) (by decide)
    · intro s hs
      rw [hk] at hs
      have h3 : s.size ≤ 16 := by
        rcases fit_mem hs with e | e | e
        · rw [toList_size e]; decide
        · rw [toList_size e]; decide
        · rw [h.found] at e
          cases hf : findP q.elts s with
          | none => rw [hf] at e; cases e
          | some x =>
            have hx := h.elt_plain (List.mem_of_find?_eq_some hf)
            have h2 : x.name = s := by
              have := List.find?_some hf
              simpa using this
            rw [← h2]
            exact plainP_size hx
      omega
    · intro r hrm
      have ho := hr.ok r hrm
      have := ho.size
      have := ho.2.len
      exact ⟨by omega, by omega, fun s hs => Nat.le_trans (ho.2.sizes s hs) (by decide)⟩
end Go.Proofs.YtghlodpbbghcoaaGreatDoor
