/- A policy's text is read as the policy: plain. No program in sight (but for the words of what is printed). -/
import Derived.Test.YtghlodpbbghcoaaGreatDoorVB
import Derived.Test.YtghlodpbbghcoaaGreatDoorRE
import Derived.Test.YtghlodpbbghcoaaGreatDoorZI
namespace Go.Proofs.YtghlodpbbghcoaaGreatDoor
/-- An item as it is written. -/
def encI (x : List UInt8 × Bool) : List UInt8 := if x.2 then quoteL x.1 else x.1
def okI (x : List UInt8 × Bool) : Prop := if x.2 then signL x.1 = true else x.1 ≠ [] ∧ x.1.all sgn = true
def joinI : List (List UInt8 × Bool) → List UInt8
  | [] => []
  | x :: D => encI x ++ D.flatMap fun y => 32 :: encI y
theorem joinI_cons (x : List UInt8 × Bool) (D : List (List UInt8 × Bool)) : joinI (x :: D) = encI x ++ D.flatMap fun y => 32 :: encI y := rfl
theorem bareL_all (t rest : List UInt8) (ht : t.all sgn = true) (hr : rest = [] ∨ ∃ r, rest = 32 :: r) : bareL (t ++ rest) = t.length := by
  unfold bareL
  induction t with
  | nil =>
    rcases hr with rfl | ⟨r, rfl⟩
    · rfl
    · rfl
  | cons c t ih =>
    rw [List.all_cons, Bool.and_eq_true] at ht
    rw [List.cons_append, List.takeWhile_cons, ht.1]
    simp only [if_true, List.length_cons]
    rw [ih ht.2]
theorem item_enc (x : List UInt8 × Bool) (hx : okI x) (rest : List UInt8) (hr : rest = [] ∨ ∃ r, rest = 32 :: r) : itemL (encI x ++ rest) = some (x.1, x.2, (encI x).length) := by
  obtain ⟨t, q⟩ := x
  cases q with
  | true =>
    have hs : signL t = true := hx
    show itemL (quoteL t ++ rest) = some (t, true, (quoteL t).length)
    unfold itemL quoteL unqR
    rw [List.cons_append]
    show (if some (34 : UInt8) = some 34 then _ else _) = _
    rw [if_pos rfl]
    show (Option.map _ (unqL ((escL t ++ [34]) ++ rest))).map _ = _
    rw [List.append_assoc]
    show (Option.map _ (unqL (escL t ++ 34 :: rest))).map _ = _
    rw [unq_esc t hs rest]
    simp
  | false =>
    obtain ⟨h1, h2⟩ : t ≠ [] ∧ t.all sgn = true := hx
    show itemL (t ++ rest) = some (t, false, t.length)
    have hb := bareL_all t rest h2 hr
    have h34 : ¬ (t ++ rest).head? = some 34 := by
      cases t with
      | nil => exact absurd rfl h1
      | cons c t =>
        intro e
        have e2 : c = 34 := by simpa using e
        subst e2
        rw [List.all_cons, Bool.and_eq_true] at h2
        exact absurd h2.1 (by decide)
    unfold itemL
    rw [if_neg h34, hb, if_neg (fun e => h1 (List.eq_nil_of_length_eq_zero e)), List.take_left]
theorem encI_pos {x : List UInt8 × Bool} (hx : okI x) : 0 < (encI x).length := by
  obtain ⟨t, q⟩ := x
  cases q with
  | true => show 0 < (quoteL t).length; simp [quoteL]
  | false =>
    show 0 < t.length
    exact List.length_pos_iff.2 hx.1
theorem items_join : ∀ D : List (List UInt8 × Bool), D ≠ [] → (∀ x ∈ D, okI x) → itemsG (joinI D) = some D
  | [], h, _ => absurd rfl h
  | [x], _, hx => by
    have h := item_enc x (hx x List.mem_cons_self) [] (.inl rfl)
    have e : joinI [x] = encI x ++ [] := by simp [joinI]
    rw [e, itemsG_end h (by simp)]
  | x :: y :: D, _, hx => by
    have hj : joinI (x :: y :: D) = encI x ++ (32 :: joinI (y :: D)) := by simp [joinI]
    have h := item_enc x (hx x List.mem_cons_self) (32 :: joinI (y :: D)) (.inr ⟨_, rfl⟩)
    have ih := items_join (y :: D) (by simp) (fun z hz => hx z (List.mem_cons_of_mem _ hz))
    rw [hj, itemsG_go h (by simp) (by rw [List.getElem?_append_right (Nat.le_refl _)]; simp)]
    have hd : (encI x ++ 32 :: joinI (y :: D)).drop ((encI x).length + 1) = joinI (y :: D) := by
      rw [List.drop_append]
      simp
    rw [hd, ih]
    rfl
theorem sgn_no10 {l : List UInt8} (h : l.all sgn = true) : ∀ c ∈ l, c ≠ 10 := fun c hc e => by
  subst e
  exact absurd (List.all_eq_true.1 h 10 hc) (by decide)
theorem quote_no10 {l : List UInt8} (h : signL l = true) : ∀ c ∈ quoteL l, c ≠ 10 := by
  intro c hc e
  subst e
  unfold quoteL escL at hc
  simp only [List.mem_cons, List.mem_append, List.mem_flatMap] at hc
  rcases hc with h1 | ⟨a, ha, h2⟩ | h3
  · exact absurd h1 (by decide)
  · have h3 := List.all_eq_true.1 h a ha
    split at h2
    · simp only [List.mem_cons, List.not_mem_nil, or_false] at h2
      rcases h2 with h2 | h2
      · exact absurd h2 (by decide)
      · subst h2; exact absurd h3 (by decide)
    · simp only [List.mem_cons, List.not_mem_nil, or_false] at h2
      subst h2
      exact absurd h3 (by decide)
  · simp at h3
theorem enc_no10 {x : List UInt8 × Bool} (hx : okI x) : ∀ c ∈ encI x, c ≠ 10 := by
  obtain ⟨t, q⟩ := x
  cases q with
  | true => exact quote_no10 hx
  | false => exact sgn_no10 hx.2
theorem join_no10 : ∀ D : List (List UInt8 × Bool), (∀ x ∈ D, okI x) → ∀ c ∈ joinI D, c ≠ 10
  | [], _, c, hc => by simp [joinI] at hc
  | x :: D, hx, c, hc => by
    unfold joinI at hc
    rcases List.mem_append.1 hc with h | h
    · exact enc_no10 (hx x List.mem_cons_self) c h
    · obtain ⟨y, hy, h2⟩ := List.mem_flatMap.1 h
      rcases List.mem_cons.1 h2 with rfl | h2
      · decide
      · exact enc_no10 (hx y (List.mem_cons_of_mem _ hy)) c h2
theorem linesL_line : ∀ (a rest : List UInt8), (∀ c ∈ a, c ≠ 10) → linesL (a ++ 10 :: rest) = (a ++ [10]) :: linesL rest
  | [], rest, _ => by simp [linesL]
  | c :: a, rest, h => by
    rw [List.cons_append, linesL, if_neg (h c List.mem_cons_self), linesL_line a rest (fun d hd => h d (List.mem_cons_of_mem _ hd))]
    rfl
/-- One line of items read. -/
theorem lines_join (st : Rd) (D : List (List UInt8 × Bool)) (hD : D ≠ []) (hx : ∀ x ∈ D, okI x) (rest : List UInt8) {st' : Rd} (h : lineP st (D.map fun p => tx p.1) (D.map Prod.snd) = (st', true)) :
    linesP st (linesL (joinI D ++ 10 :: rest)) = linesP st' (linesL rest) := by
  rw [linesL_line _ _ (join_no10 D hx), linesP, stepP, if_pos (List.getLast?_concat ..), List.dropLast_concat, items_join D hD hx]
  simp only [h]
theorem lineB_join (word : ByteArray) (l : List ByteArray) (rest : List UInt8) : lineB word l ++ rest = joinI ((word.data.toList, false) :: l.map fun s => (s.data.toList, false)) ++ 10 :: rest := by
  unfold lineB
  rw [joinI_cons, List.flatMap_map]
  simp [encI]
theorem ruleB_join (r : Rul) (rest : List UInt8) : ruleB r ++ rest = joinI (((reqW r.req).data.toList, false) :: (r.name.data.toList, false) :: ((kindW r.kind).data.toList, false) :: (argsOf r).map fun s => (s.data.toList, true)) ++ 10 :: rest := by
  unfold ruleB
  rw [joinI_cons, kindB_W, reqB_W, List.flatMap_cons, List.flatMap_cons, List.flatMap_map]
  simp [encI]
/-- A text that can stand bare. -/
def PlT (s : ByteArray) : Prop := s.data.toList ≠ [] ∧ s.data.toList.all sgn = true
/-- A rule whose line is read as it. -/
structure Rul.Rdb (r : Rul) : Prop where
  name : PlT r.name
  words : ∀ s ∈ r.words, signL s.data.toList = true
  regex : signL r.regex.data.toList = true
  form : (r.kind = 1 ∧ r.words = [] ∧ r.regex = ⟨#[]⟩) ∨ (r.kind = 2 ∧ r.regex = ⟨#[]⟩) ∨ (r.kind = 3 ∧ r.regex = ⟨#[]⟩) ∨ (r.kind = 4 ∧ r.words = [])
structure Elt.Rdb (e : Elt) : Prop where
  name : PlT e.name
  kids : ∀ s ∈ e.kids, PlT s
  rules : ∀ r ∈ e.rules, r.Rdb
structure Pol.Rdb (p : Pol) : Prop where
  top : ∀ s ∈ p.top, PlT s
  unwrap : ∀ s ∈ p.unwrap, PlT s
  elts : ∀ e ∈ p.elts, e.Rdb
theorem any_false (l : List ByteArray) : (l.map fun _ => false).any id = false := by
  rw [List.any_eq_false]
  intro x hx
  obtain ⟨_, _, rfl⟩ := List.mem_map.1 hx
  decide
theorem map_tx (l : List ByteArray) (q : Bool) : (l.map fun s => (s.data.toList, q)).map (fun p => tx p.1) = l := by
  rw [List.map_map]
  conv => rhs; rw [← List.map_id l]
  exact List.map_congr_left (fun s _ => tx_of s)
theorem map_sndq (l : List ByteArray) (q : Bool) : (l.map fun s => (s.data.toList, q)).map Prod.snd = l.map fun _ => q := by rw [List.map_map]; rfl
/-- A line of bare texts read. -/
theorem lines_bare (st : Rd) (word : ByteArray) (l : List ByteArray) (hw : PlT word) (hl : ∀ s ∈ l, PlT s) (rest : List UInt8) {st' : Rd} (h : lineP st (word :: l) (false :: l.map fun _ => false) = (st', true)) :
    linesP st (linesL (lineB word l ++ rest)) = linesP st' (linesL rest) := by
  rw [lineB_join]
  refine lines_join st _ (by simp) (fun x hx => ?_) rest ?_
  · rcases List.mem_cons.1 hx with rfl | hx
    · exact hw
    · obtain ⟨s, hs, rfl⟩ := List.mem_map.1 hx
      exact hl s hs
  · rw [List.map_cons, List.map_cons, map_tx, map_sndq, tx_of]
    exact h
theorem valueOf_args {r : Rul} (h : r.Rdb) : valueOf (kindW r.kind) (argsOf r) = some (r.kind, r.words, r.regex) := by
  obtain ⟨nm, k, ws, rx, q⟩ := r
  rcases h.form with ⟨h1, h2, h3⟩ | ⟨h1, h3⟩ | ⟨h1, h3⟩ | ⟨h1, h2⟩
  · simp only at h1 h2 h3
    subst h1 h2 h3
    kernel_rfl
  · simp only at h1 h3
    subst h1 h3
    rfl
  · simp only at h1 h3
    subst h1 h3
    rfl
  · simp only at h1 h2
    subst h1 h2
    rfl
theorem ruleOf_print {r : Rul} (h : r.Rdb) : ruleOf (reqW r.req) (r.name :: kindW r.kind :: argsOf r) (false :: false :: (argsOf r).map fun _ => true) = some r := by
  have hv := valueOf_args h
  have ha : ((argsOf r).map fun _ => true).all id = true := by
    rw [List.all_eq_true]
    intro x hx
    obtain ⟨_, _, rfl⟩ := List.mem_map.1 hx
    rfl
  have hw : reqW r.req = wAttr ∨ reqW r.req = wNeed := by
    cases r.req
    · exact .inl rfl
    · exact .inr rfl
  have hq : decide (reqW r.req = wNeed) = r.req := by cases r.req <;> rfl
  unfold ruleOf
  rw [if_pos hw]
  simp only [ha, if_true, hv, Option.map_some, hq]
theorem kindW_plain (k : Int) : PlT (kindW k) := by
  unfold kindW
  split
  · exact ⟨by decide, by decide⟩
  · split
    · exact ⟨by decide, by decide⟩
    · split
      · exact ⟨by decide, by decide⟩
      · exact ⟨by decide, by decide⟩
theorem reqW_plain (q : Bool) : PlT (reqW q) := by cases q <;> exact ⟨by decide, by decide⟩
theorem args_sign {r : Rul} (h : r.Rdb) : ∀ s ∈ argsOf r, signL s.data.toList = true := by
  unfold argsOf
  split
  · intro s hs
    rw [List.mem_singleton.1 hs]
    exact h.regex
  · exact h.words
/-- A rule's line read, behind an element's lines. -/
theorem lines_rule (top un : List ByteArray) (done : List Elt) (e : Elt) (r : Rul) (hr : r.Rdb) (rest : List UInt8) :
    linesP ⟨5, ⟨top, done ++ [e], un⟩⟩ (linesL (ruleB r ++ rest)) = linesP ⟨5, ⟨top, done ++ [⟨e.name, e.kids, e.rules ++ [r]⟩], un⟩⟩ (linesL rest) := by
  rw [ruleB_join]
  refine lines_join _ _ (by simp) (fun x hx => ?_) rest ?_
  · simp only [List.mem_cons] at hx
    rcases hx with rfl | rfl | rfl | hx
    · exact reqW_plain _
    · exact hr.name
    · exact kindW_plain _
    · obtain ⟨s, hs, rfl⟩ := List.mem_map.1 hx
      exact args_sign hr s hs
  · rw [List.map_cons, List.map_cons, List.map_cons, List.map_cons, List.map_cons, List.map_cons, map_tx, map_sndq, tx_of, tx_of, tx_of]
    have hne : reqW r.req ≠ wElement := by cases r.req <;> decide
    show (if reqW r.req = wElement then _ else if (5 : Nat) = 5 then (match ruleOf (reqW r.req) (r.name :: kindW r.kind :: argsOf r) (false :: false :: (argsOf r).map fun _ => true) with | some r => _ | none => _) else _) = _
    rw [if_neg hne, if_pos rfl, ruleOf_print hr]
    show ((⟨5, { top := top, elts := turnLast (done ++ [e]) _, unwrap := un }⟩ : Rd), true) = _
    rw [turnLast_snoc]
theorem lines_rules (top un : List ByteArray) (done : List Elt) (nm : ByteArray) (kids : List ByteArray) (rest : List UInt8) : ∀ (rs rs0 : List Rul), (∀ r ∈ rs, r.Rdb) →
    linesP ⟨5, ⟨top, done ++ [⟨nm, kids, rs0⟩], un⟩⟩ (linesL (rs.flatMap ruleB ++ rest)) = linesP ⟨5, ⟨top, done ++ [⟨nm, kids, rs0 ++ rs⟩], un⟩⟩ (linesL rest)
  | [], rs0, _ => by simp
  | r :: rs, rs0, h => by
    rw [List.flatMap_cons, List.append_assoc, lines_rule top un done ⟨nm, kids, rs0⟩ r (h r List.mem_cons_self), lines_rules top un done nm kids rest rs (rs0 ++ [r]) (fun s hs => h s (List.mem_cons_of_mem _ hs))]
    simp
theorem lines_elts (top un : List ByteArray) : ∀ (es done : List Elt) (stg : Nat), (stg = 3 ∨ stg = 5) → (∀ e ∈ es, e.Rdb) →
    linesP ⟨stg, ⟨top, done, un⟩⟩ (linesL (es.flatMap eltB)) = some ⟨if es = [] then stg else 5, ⟨top, done ++ es, un⟩⟩
  | [], done, stg, _, _ => by simp [linesL, linesP]
  | e :: es, done, stg, hs, h => by
    obtain ⟨h1, h2, h3⟩ := h e List.mem_cons_self
    rw [List.flatMap_cons, eltB, List.append_assoc, List.append_assoc]
    rw [lines_bare ⟨stg, ⟨top, done, un⟩⟩ ⟨#[101, 108, 101, 109, 101, 110, 116]⟩ [e.name] ⟨by decide, by decide⟩ (fun s hs => by rw [List.mem_singleton.1 hs]; exact h1) _ (st' := ⟨4, ⟨top, done ++ [(⟨e.name, [], []⟩ : Elt)], un⟩⟩) (by
      rcases hs with rfl | rfl
      · rfl
      · rfl)]
    rw [lines_bare ⟨4, ⟨top, done ++ [(⟨e.name, [], []⟩ : Elt)], un⟩⟩ ⟨#[107, 105, 100, 115]⟩ e.kids ⟨by decide, by decide⟩ h2 _ (st' := ⟨5, ⟨top, done ++ [(⟨e.name, e.kids, []⟩ : Elt)], un⟩⟩) (by
      show ((⟨5, { top := top, elts := turnLast (done ++ [(⟨e.name, [], []⟩ : Elt)]) _, unwrap := un }⟩ : Rd), (!((e.kids.map fun _ => false).any id)) && decide ((⟨#[107, 105, 100, 115]⟩ : ByteArray) = wKids)) = _
      rw [turnLast_snoc, any_false]
      rfl)]
    rw [lines_rules top un done e.name e.kids _ e.rules [] h3, List.nil_append, lines_elts top un es (done ++ [e]) 5 (.inr rfl) (fun x hx => h x (List.mem_cons_of_mem _ hx))]
    simp
/-- A POLICY'S TEXT IS READ AS THE POLICY. -/
theorem lines_print (q : Pol) (hq : q.Rdb) : linesP rd0 (linesL (printB q)) = some ⟨if q.elts = [] then 3 else 5, q⟩ := by
  obtain ⟨top, elts, un⟩ := q
  obtain ⟨h1, h2, h3⟩ := hq
  have h0 : printB ⟨top, elts, un⟩ = lineB wFirst [wOne] ++ (lineB ⟨#[116, 111, 112]⟩ top ++ (lineB ⟨#[117, 110, 119, 114, 97, 112]⟩ un ++ elts.flatMap eltB)) := by
    unfold printB
    rfl
  rw [h0, lines_bare rd0 wFirst [wOne] ⟨by decide, by decide⟩ (fun s hs => by rw [List.mem_singleton.1 hs]; exact ⟨by decide, by decide⟩) _ (st' := ⟨1, ⟨[], [], []⟩⟩) (by rfl)]
  rw [lines_bare ⟨1, ⟨[], [], []⟩⟩ ⟨#[116, 111, 112]⟩ top ⟨by decide, by decide⟩ h1 _ (st' := ⟨2, ⟨top, [], []⟩⟩) (by
    show ((⟨2, ⟨top, [], []⟩⟩ : Rd), (!((top.map fun _ => false).any id)) && decide ((⟨#[116, 111, 112]⟩ : ByteArray) = wTop)) = _
    rw [any_false]
    rfl)]
  rw [lines_bare ⟨2, ⟨top, [], []⟩⟩ ⟨#[117, 110, 119, 114, 97, 112]⟩ un ⟨by decide, by decide⟩ h2 _ (st' := ⟨3, ⟨top, [], un⟩⟩) (by
    show ((⟨3, ⟨top, [], un⟩⟩ : Rd), (!((un.map fun _ => false).any id)) && decide ((⟨#[117, 110, 119, 114, 97, 112]⟩ : ByteArray) = wUnwrap)) = _
    rw [any_false]
    rfl)]
  rw [lines_elts top un elts [] 3 (.inl rfl) h3]
  rfl
end Go.Proofs.YtghlodpbbghcoaaGreatDoor

/- A policy that is made of any may be, is small, and can be read back: plain. No program in sight. -/
namespace Go.Proofs.YtghlodpbbghcoaaGreatDoor
open Go.Lib
theorem nodup_sub_len {α : Type} [DecidableEq α] : ∀ (l m : List α), l.Nodup → (∀ x ∈ l, x ∈ m) → l.length ≤ m.length
  | [], m, _, _ => Nat.zero_le _
  | a :: l, m, h, hs => by
    rw [List.nodup_cons] at h
    have ha : a ∈ m := hs a List.mem_cons_self
    have h2 := nodup_sub_len l (m.erase a) h.2 (fun x hx => (List.mem_erase_of_ne (fun e : x = a => h.1 (e ▸ hx))).2 (hs x (List.mem_cons_of_mem _ hx)))
    rw [List.length_erase_of_mem ha] at h2
    have hp := List.length_pos_of_mem ha
    rw [List.length_cons]
    omega
def textB : ByteArray := ⟨#[35, 116, 101, 120, 116]⟩
def commB : ByteArray := ⟨#[35, 99, 111, 109, 109, 101, 110, 116]⟩
theorem eq_of_toList {s t : ByteArray} (h : s.toList = t.data.toList) : s = t := by
  rw [ByteArray.toList_eq] at h
  cases s; cases t
  simp only at h
  rw [Array.toList_inj] at h
  rw [h]
theorem not_closes (l : List UInt8) : ((closersOf l).all fun s => decide (s ≠ textB ∧ s ≠ commB)) = true := by
  unfold closersOf
  repeat' split
  all_goals decide
theorem fit_all {el : List Elt} {nm : ByteArray} {l : List ByteArray} : (∀ s ∈ fittingP el nm l, kid13Bad el nm s = false) ∧ (fittingP el nm l).Nodup := by
  have h := fold_fit el nm (l.take 8) [] (.inl rfl)
  unfold fittingP
  rcases h with h | h
  · rw [h]
    exact ⟨by simp, List.nodup_nil⟩
  · unfold kids13P at h
    rw [Bool.and_eq_true, List.all_eq_true] at h
    refine ⟨fun s hs => by simpa using h.1 s hs, ?_⟩
    have := h.2
    unfold twiceB at this
    simpa using this
theorem GoodOk.len {p q : Pol} (h : GoodOk p q) : q.elts.length ≤ 5 := by
  have h1 := congrArg List.length h.names
  rw [List.length_map] at h1
  have := (gNm_len p.elts 5).1
  omega
theorem GoodOk.name_of {p q : Pol} (h : GoodOk p q) {nm s : ByteArray} {l : List ByteArray} (hs : s ∈ fittingP (nEl (gNm p.elts 5)) nm l) : s = textB ∨ s = commB ∨ ∃ e ∈ q.elts, e.name = s := by
  rcases fit_mem hs with e | e | e
  · exact .inl (eq_of_toList e)
  · exact .inr (.inl (eq_of_toList e))
  · rw [h.found] at e
    cases hf : findP q.elts s with
    | none => rw [hf] at e; cases e
    | some x =>
      have h2 : x.name = s := by
        have := List.find?_some hf
        simpa using this
      exact .inr (.inr ⟨x, List.mem_of_find?_eq_some hf, h2⟩)
theorem GoodOk.listed {p q : Pol} (h : GoodOk p q) (nm : ByteArray) (l : List ByteArray) : listedP q.elts (fittingP (nEl (gNm p.elts 5)) nm l) = true := by
  have hn := (fit_all (el := nEl (gNm p.elts 5)) (nm := nm) (l := l)).2
  unfold listedP
  rw [Bool.and_eq_true, Bool.and_eq_true, List.all_eq_true]
  refine ⟨?_, fun s hs => ?_, ?_⟩
  · have := nodup_sub_len _ (textB :: commB :: q.elts.map Elt.name) hn (fun s hs => by
      rcases h.name_of hs with e | e | ⟨x, hx, e⟩
      · rw [e]; simp
      · rw [e]; simp
      · rw [← e]
        exact List.mem_cons_of_mem _ (List.mem_cons_of_mem _ (List.mem_map.2 ⟨x, hx, rfl⟩)))
    simp only [List.length_cons, List.length_map] at this
    simpa using this
  · unfold nameOk
    rcases fit_mem hs with e | e | e
    · rw [e]; simp
    · rw [e]; simp
    · rw [← h.found, e]; simp
  · unfold twiceB
    simpa using hn
theorem GoodOk.kidsOk {p q : Pol} (h : GoodOk p q) (nm : ByteArray) (l : List ByteArray) : kidsP q.elts nm (fittingP (nEl (gNm p.elts 5)) nm l) = true := by
  unfold kidsP
  rw [h.listed, Bool.true_and, List.all_eq_true]
  intro s hs
  have hb := fit_all.1 s hs
  unfold kid13Bad at hb
  unfold kidBad
  rw [Bool.or_eq_false_iff] at hb
  obtain ⟨h1, h2⟩ := hb
  rw [h1, Bool.false_or]
  have key : closesP nm s = false := by
    by_cases ht : s.toList = textN ∨ s.toList = commN
    · have hne := fun s hs => of_decide_eq_true (List.all_eq_true.1 (not_closes nm.data.toList) s hs)
      cases hc : closesP nm s with
      | false => rfl
      | true =>
        unfold closesP at hc
        have hm := (Lib.containsS_iff _ _).1 hc
        rcases ht with e | e
        · exact absurd (eq_of_toList e) (hne s hm).1
        · exact absurd (eq_of_toList e) (hne s hm).2
    · rw [not_or] at ht
      have e1 : (s.toList == textN) = false := by simpa using ht.1
      have e2 : (s.toList == commN) = false := by simpa using ht.2
      rw [e1, e2] at h2
      revert h2
      cases closesP nm s <;> simp
  rw [key]
  rfl
theorem ConOk.con {k : Int} {ws : List ByteArray} {rx : ByteArray} (h : ConOk k ws rx) : conP (fun _ => true) k ws rx = true := by
  unfold conP
  have he : (⟨#[]⟩ : ByteArray).toList.isEmpty = true := by rw [ByteArray.toList_eq]; rfl
  rcases h.kind with ⟨rfl, rfl, rfl⟩ | ⟨rfl, h0, h1, rfl⟩ | ⟨rfl, h1, rfl⟩ | ⟨rfl, rfl, h1⟩
  · rw [if_pos rfl, he]; rfl
  · rw [if_neg (by decide), if_pos rfl, he]
    have : wordsP wordP ws = true := h1
    rw [this]
    have : 0 < ws.length := List.length_pos_iff.2 h0
    simp [this]
  · rw [if_neg (by decide), if_neg (by decide), if_pos rfl, he]
    have : wordsP schemeP ws = true := by
      rcases h1 with rfl | h1
      · rfl
      · exact h1
    rw [this]
    rfl
  · rw [if_neg (by decide), if_neg (by decide), if_neg (by decide), if_pos rfl]
    rfl
theorem GoodOk.may {p q : Pol} (h : GoodOk p q) : mayP (fun _ => true) q = true := by
  have hl := h.len
  have hu := h.unlen
  unfold mayP mayA
  simp only [Bool.and_eq_true, decide_eq_true_eq, List.all_eq_true]
  refine ⟨⟨by omega, by omega⟩, ⟨?_, ?_, ?_⟩, h.unplain, fun e he => ?_, fun e he => ?_⟩
  · rw [h.names]
    unfold twiceB
    simpa using gNm_nodup p.elts 5
  · unfold twiceB
    simpa using h.unnodup
  · rw [h.top]
    exact h.listed _ _
  · unfold elt1
    rw [h.elt_plain he, Bool.true_and]
    obtain ⟨i, hi, rfl⟩ := List.getElem_of_mem he
    obtain ⟨hp, hk⟩ := h.kids i hi
    rw [hk]
    exact h.kidsOk _ _
  · have hr := h.rules e he
    unfold rulesP
    simp only [Bool.and_eq_true, decide_eq_true_eq, List.all_eq_true]
    refine ⟨⟨by have := hr.len; omega, ?_⟩, fun r hm => (hr.ok r hm).1, fun r hm => (hr.ok r hm).2.con⟩
    unfold twiceB
    simpa using hr.nodup
theorem plain_pos {s : ByteArray} (h : plainP s = true) : 0 < s.size := by
  rcases Nat.eq_zero_or_pos s.size with e | e
  · exfalso
    refine plain_ne h ?_
    rw [ByteArray.toList_eq]
    exact List.eq_nil_of_length_eq_zero (by simpa using e)
  · exact e
theorem fit_prt {p q : Pol} (h : GoodOk p q) (nm : ByteArray) (l : List ByteArray) : TxPrt (fittingP (nEl (gNm p.elts 5)) nm l) := by
  refine ⟨Nat.le_trans (fit_len _ _ _) (by decide), fun s hs => ?_⟩
  rcases h.name_of hs with rfl | rfl | ⟨x, hx, rfl⟩
  · decide
  · decide
  · have h1 := h.elt_plain hx
    have := plainP_size h1
    exact ⟨plain_pos h1, by omega⟩
theorem pool7_size : ∀ s ∈ pool7, s.size ≤ 50 := by
  intro s hs
  simp only [pool7, List.mem_cons, List.not_mem_nil, or_false] at hs
  rcases hs with rfl | rfl | rfl | rfl | rfl | rfl | rfl <;> decide
theorem pool7_sign : ∀ s ∈ pool7, signL s.data.toList = true := by
  intro s hs
  simp only [pool7, List.mem_cons, List.not_mem_nil, or_false] at hs
  rcases hs with rfl | rfl | rfl | rfl | rfl | rfl | rfl <;> decide
theorem RulOk.sml {r : Rul} (h : RulOk r) : r.Sml := by
  have hs := h.size
  have h1 := h.1
  unfold rul1 at h1
  rw [Bool.and_eq_true] at h1
  have hp := plain_pos h1.1
  have hp2 := stemP_size r.name
  refine ⟨?_, ⟨by omega, by omega⟩, ⟨by have := h.2.len; omega, fun s hm => Nat.le_trans (h.2.sizes s hm) (by decide)⟩, ?_⟩
  · rcases h.2.kind with ⟨e, _⟩ | ⟨e, _⟩ | ⟨e, _⟩ | ⟨e, _⟩ <;> omega
  · rcases h.2.kind with ⟨_, _, e⟩ | ⟨_, _, _, e⟩ | ⟨_, _, e⟩ | ⟨_, _, e⟩
    · rw [e]; decide
    · rw [e]; decide
    · rw [e]; decide
    · exact pool7_size _ e
theorem GoodOk.sml {p q : Pol} (h : GoodOk p q) : q.Sml := by
  refine ⟨?_, ⟨by have := h.unlen; omega, fun s hs => ?_⟩, by have := h.len; omega, fun e he => ?_⟩
  · rw [h.top]
    exact fit_prt h _ _
  · have h1 := h.unplain s hs
    have := plainP_size h1
    exact ⟨plain_pos h1, by omega⟩
  · have h1 := h.elt_plain he
    have := plainP_size h1
    have hr := h.rules e he
    refine ⟨⟨plain_pos h1, by omega⟩, ?_, by have := hr.len; omega, fun r hm => (hr.ok r hm).sml⟩
    obtain ⟨i, hi, rfl⟩ := List.getElem_of_mem he
    obtain ⟨hp, hk⟩ := h.kids i hi
    rw [hk]
    exact fit_prt h _ _
theorem name_sgn {c : UInt8} (h : nameB c = true) : sgn c = true := by
  unfold nameB letterB at h
  unfold sgn
  simp only [Bool.or_eq_true, decide_eq_true_eq] at h
  simp only [Bool.and_eq_true, decide_eq_true_eq, UInt8.lt_iff_toNat_lt, UInt8.le_iff_toNat_le, ne_eq]
  refine ⟨⟨?_, ?_⟩, fun e => ?_⟩
  · show 32 < c.toNat
    omega
  · show c.toNat ≤ 126
    omega
  · subst e
    exact absurd h (by decide)
theorem plain_sgn {s : ByteArray} (h : plainP s = true) : s.data.toList.all sgn = true := by
  unfold plainP at h
  rw [Bool.and_eq_true] at h
  have h2 := h.2
  revert h2
  cases s.data.toList with
  | nil => intro _; rfl
  | cons c t =>
    intro h2
    unfold namedL at h2
    rw [Bool.and_eq_true, List.all_eq_true] at h2
    rw [List.all_eq_true]
    intro x hx
    rcases List.mem_cons.1 hx with rfl | hx
    · exact name_sgn (by unfold nameB; rw [h2.1]; rfl)
    · exact name_sgn (h2.2 x hx)
theorem plain_plT {s : ByteArray} (h : plainP s = true) : PlT s := ⟨fun e => plain_ne h (by rw [ByteArray.toList_eq]; exact e), plain_sgn h⟩
theorem fit_plT {p q : Pol} (h : GoodOk p q) (nm : ByteArray) (l : List ByteArray) : ∀ s ∈ fittingP (nEl (gNm p.elts 5)) nm l, PlT s := by
  intro s hs
  rcases h.name_of hs with rfl | rfl | ⟨x, hx, rfl⟩
  · exact ⟨by decide, by decide⟩
  · exact ⟨by decide, by decide⟩
  · exact plain_plT (h.elt_plain hx)
theorem inB_sign {lo hi : Nat} (h1 : 32 ≤ lo) (h2 : hi ≤ 126) {l : List UInt8} (h : inB lo hi l = true) : signL l = true := by
  unfold inB at h
  unfold signL
  rw [List.all_eq_true] at h ⊢
  intro c hc
  have := h c hc
  simp only [Bool.and_eq_true, decide_eq_true_eq] at this
  simp only [Bool.and_eq_true, decide_eq_true_eq, UInt8.le_iff_toNat_le]
  refine ⟨?_, ?_⟩
  · show 32 ≤ c.toNat
    omega
  · show c.toNat ≤ 126
    omega
theorem words_sign {b : Bool} {l : List ByteArray} (h : wordsP (pickP b) l = true) : ∀ s ∈ l, signL s.data.toList = true := by
  unfold wordsP at h
  rw [Bool.and_eq_true, Bool.and_eq_true, List.all_eq_true] at h
  intro s hs
  have h1 := h.2.1 s hs
  cases b with
  | true =>
    have h2 : schemeP s = true := h1
    unfold schemeP at h2
    rw [Bool.and_eq_true] at h2
    exact inB_sign (by decide) (by decide) h2.1
  | false =>
    have h2 : wordP s = true := h1
    unfold wordP at h2
    rw [Bool.and_eq_true] at h2
    exact inB_sign (by decide) (by decide) h2.2
theorem ConOk.words_sign {k : Int} {ws : List ByteArray} {rx : ByteArray} (h : ConOk k ws rx) : ∀ s ∈ ws, signL s.data.toList = true := by
  rcases h.kind with ⟨_, e, _⟩ | ⟨_, _, e, _⟩ | ⟨_, e, _⟩ | ⟨_, e, _⟩
  · rw [e]; simp
  · exact YtghlodpbbghcoaaGreatDoor.words_sign e
  · rcases e with e | e
    · rw [e]; simp
    · exact YtghlodpbbghcoaaGreatDoor.words_sign e
  · rw [e]; simp
theorem ConOk.rx_sign {k : Int} {ws : List ByteArray} {rx : ByteArray} (h : ConOk k ws rx) : signL rx.data.toList = true := by
  rcases h.kind with ⟨_, _, e⟩ | ⟨_, _, _, e⟩ | ⟨_, _, e⟩ | ⟨_, _, e⟩
  · rw [e]; rfl
  · rw [e]; rfl
  · rw [e]; rfl
  · exact pool7_sign _ e
theorem tail_sgn {s : ByteArray} (h : plainP (stemP s) = true) : s.data.toList.all sgn = true := by
  have hp := plain_sgn h
  unfold stemP at hp
  have ht : ∀ l : List UInt8, (tx l).data.toList = l := fun l => rfl
  rw [ht] at hp
  unfold Lib.trimSuffix at hp
  split at hp
  · next hs =>
    unfold Lib.hasSuffix at hs
    rw [List.isSuffixOf_iff_suffix] at hs
    obtain ⟨t, e⟩ := hs
    rw [← e] at hp ⊢
    have e2 : (t ++ [42]).take ((t ++ [42]).length - ([42] : List UInt8).length) = t := by simp
    rw [e2] at hp
    rw [List.all_append, hp]
    decide
  · exact hp
theorem RulOk.rdb {r : Rul} (h : RulOk r) : r.Rdb := by
  have h1 := h.1
  unfold rul1 at h1
  rw [Bool.and_eq_true] at h1
  have hp := plain_pos h1.1
  have hp2 := stemP_size r.name
  refine ⟨⟨fun e => ?_, tail_sgn h1.1⟩, h.2.words_sign, h.2.rx_sign, ?_⟩
  · have h0 : r.name.size = 0 := by
      have h9 := congrArg List.length e
      rwa [Array.length_toList, List.length_nil] at h9
    omega
  · rcases h.2.kind with ⟨e1, e2, e3⟩ | ⟨e1, e2, e3, e4⟩ | ⟨e1, e2, e3⟩ | ⟨e1, e2, e3⟩
    · exact .inl ⟨e1, e2, e3⟩
    · exact .inr (.inl ⟨e1, e4⟩)
    · exact .inr (.inr (.inl ⟨e1, e3⟩))
    · exact .inr (.inr (.inr ⟨e1, e2⟩))
theorem GoodOk.rdb {p q : Pol} (h : GoodOk p q) : q.Rdb := by
  refine ⟨?_, fun s hs => plain_plT (h.unplain s hs), fun e he => ⟨plain_plT (h.elt_plain he), ?_, fun r hm => ((h.rules e he).ok r hm).rdb⟩⟩
  · rw [h.top]
    exact fit_plT h _ _
  · obtain ⟨i, hi, rfl⟩ := List.getElem_of_mem he
    obtain ⟨hp, hk⟩ := h.kids i hi
    rw [hk]
    exact fit_plT h _ _
theorem GoodOk.four {p q : Pol} (h : GoodOk p q) : ∀ e ∈ q.elts, ∀ r ∈ e.rules, r.kind = 4 → r.words = [] ∧ r.regex ∈ pool7 := by
  intro e he r hr hk
  rcases ((h.rules e he).ok r hr).2.kind with ⟨e1, _⟩ | ⟨e1, _⟩ | ⟨e1, _⟩ | ⟨_, e2, e3⟩
  · omega
  · omega
  · omega
  · exact ⟨e2, e3⟩
end Go.Proofs.YtghlodpbbghcoaaGreatDoor
