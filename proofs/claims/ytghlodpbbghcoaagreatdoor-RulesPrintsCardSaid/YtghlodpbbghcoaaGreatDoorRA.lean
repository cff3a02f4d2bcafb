/- The reader of a policy's text, line by line: plain. -/
import Derived.Test.YtghlodpbbghcoaaGreatDoorAM
import Derived.OneCell
import Derived.RangeFuncFrom
namespace Go.Proofs.YtghlodpbbghcoaaGreatDoor
/-- What the reader has read, and which line must come next. -/
structure Rd where
  stage : Nat
  pol : Pol
def wAttr : ByteArray := ⟨#[97, 116, 116, 114]⟩
def wNeed : ByteArray := ⟨#[110, 101, 101, 100]⟩
def wAny : ByteArray := ⟨#[97, 110, 121]⟩
def wEnum : ByteArray := ⟨#[101, 110, 117, 109]⟩
def wScheme : ByteArray := ⟨#[115, 99, 104, 101, 109, 101]⟩
def wMatch : ByteArray := ⟨#[109, 97, 116, 99, 104]⟩
def wFirst : ByteArray := ⟨#[115, 116, 114, 97, 105, 110, 101, 114]⟩
def wTop : ByteArray := ⟨#[116, 111, 112]⟩
def wUnwrap : ByteArray := ⟨#[117, 110, 119, 114, 97, 112]⟩
def wElement : ByteArray := ⟨#[101, 108, 101, 109, 101, 110, 116]⟩
def wKids : ByteArray := ⟨#[107, 105, 100, 115]⟩
def wOne : ByteArray := ⟨#[49]⟩
/-- The value of a rule's line: its Kind, its words, its expression. -/
def valueOf (kind : ByteArray) (args : List ByteArray) : Option (Int × List ByteArray × ByteArray) :=
  if kind = wAny then (if args = [] then some (1, [], ⟨#[]⟩) else none)
  else if kind = wEnum then some (2, args, ⟨#[]⟩)
  else if kind = wScheme then some (3, args, ⟨#[]⟩)
  else if kind = wMatch then (match args with | [a] => some (4, [], a) | _ => none)
  else none
/-- A rule's line: its word, what stands behind it, which of that is quoted. -/
def ruleOf (word : ByteArray) (rest : List ByteArray) (quoted : List Bool) : Option Rul :=
  if word = wAttr ∨ word = wNeed then
    match rest, quoted with
    | nm :: kind :: args, false :: false :: qs =>
      if qs.all id then (valueOf kind args).map fun v => ⟨nm, v.1, v.2.1, v.2.2, decide (word = wNeed)⟩ else none
    | _, _ => none
  else none
/-- The last element turned. -/
def turnLast (l : List Elt) (f : Elt → Elt) : List Elt := l.dropLast ++ (l.getLast?.toList.map f)
/-- A line's items read: what is read then, and whether they may be. -/
def lineP (st : Rd) (texts : List ByteArray) (quoted : List Bool) : Rd × Bool :=
  match texts, quoted with
  | word :: rest, false :: qs =>
    let bare := !(qs.any id)
    match st.stage with
    | 0 => (⟨1, st.pol⟩, bare && (decide (word = wFirst) && decide (rest = [wOne])))
    | 1 => (⟨2, { st.pol with top := rest }⟩, bare && decide (word = wTop))
    | 2 => (⟨3, { st.pol with unwrap := rest }⟩, bare && decide (word = wUnwrap))
    | 4 => (⟨5, { st.pol with elts := turnLast st.pol.elts fun e => { e with kids := rest } }⟩, bare && decide (word = wKids))
    | _ =>
      if word = wElement then
        (match bare, rest with
         | true, [nm] => (⟨4, { st.pol with elts := st.pol.elts ++ [⟨nm, [], []⟩] }⟩, true)
         | _, _ => (st, false))
      else if st.stage = 5 then
        (match ruleOf word rest qs with
         | some r => (⟨5, { st.pol with elts := turnLast st.pol.elts fun e => { e with rules := e.rules ++ [r] } }⟩, true)
         | none => (st, false))
      else (st, false)
  | _, _ => (st, false)
end Go.Proofs.YtghlodpbbghcoaaGreatDoor

/- What the reader of a policy's text has read, as it lies in memory. No program in sight. -/
namespace Go.Proofs.YtghlodpbbghcoaaGreatDoor
open Go.RowKit
/-- The blocks in which the last element's rules may lie: behind X, none of the lists of P, not the elements' own row. -/
def lastA (X : Nat) (P : Nat → Prop) (ve : Value) : Nat → Prop := fun k => X < k ∧ ¬ P k ∧ ve.ownBlock ≠ some k
/-- The reader's box X (its policy's three slices, its stage); the elements in a row that the call owns; lists in blocks of P; the last element's rules in a row of their own. -/
structure RdAt (w : World) (X : Nat) (st : Rd) (vt ve vu : Value) (cs : List EltC) (rc : List RulC) (P : Nat → Prop) : Prop where
  box : w.heap[X]? = some (.cells #[vt, ve, vu, .int .i64 st.stage] 78)
  own : w.ownsRow 0 30 3 ve cs.length (flat EltC.list cs)
  mine : ∀ k, ve.ownBlock = some k → X < k
  elts : cs.map EltC.elt = st.pol.elts
  top : StrsAt w P vt st.pol.top
  unwrap : StrsAt w P vu st.pol.unwrap
  init : ∀ c ∈ cs.dropLast, c.Fine w P
  last : ∀ c, cs.getLast? = some c → StrsAt w P c.vk c.kids ∧ RowI rulK 34 (lastA X P ve) w c.vr rc ∧ rc.map RulC.rul = c.rules
  lists : ∀ k, P k → X < k ∧ k < w.heap.size ∧ ve.ownBlock ≠ some k
namespace RdAt
variable {w : World} {X : Nat} {st : Rd} {vt ve vu : Value} {cs : List EltC} {rc : List RulC} {P : Nat → Prop}
theorem lt (h : RdAt w X st vt ve vu cs rc P) : X < w.heap.size := blk_lt h.box
theorem carry (h : RdAt w X st vt ve vu cs rc P) {w' : World} (hB : Below w.heap.size w w') : RdAt w' X st vt ve vu cs rc P where
  box := blk_below h.box hB h.lt
  own := own_below h.own hB (Nat.le_refl _)
  mine := h.mine
  elts := h.elts
  top := h.top.move (Stays.below hB (fun k hk => (h.lists k hk).2.1)) (fun _ h => h)
  unwrap := h.unwrap.move (Stays.below hB (fun k hk => (h.lists k hk).2.1)) (fun _ h => h)
  init := fun c hc => (h.init c hc).move (Stays.below hB (fun k hk => (h.lists k hk).2.1)) (fun _ h => h)
  last := fun c hc => by
    obtain ⟨h1, h2, h3⟩ := h.last c hc
    exact ⟨h1.move (Stays.below hB (fun k hk => (h.lists k hk).2.1)) (fun _ h => h), h2.carry hB, h3⟩
  lists := fun k hk => ⟨(h.lists k hk).1, Nat.lt_of_lt_of_le (h.lists k hk).2.1 hB.size, (h.lists k hk).2.2⟩
theorem X_notP (h : RdAt w X st vt ve vu cs rc P) : ¬ P X := fun hk => by have := (h.lists X hk).1; omega
/-- A store into the reader's box leaves all but the box. -/
theorem boxed (h : RdAt w X st vt ve vu cs rc P) (i : Nat) (u : Value) : Stays P w (w.setCell ⟨X, i, none⟩ u) := Stays.set (fun hk => h.X_notP hk) u
theorem own_box (h : RdAt w X st vt ve vu cs rc P) (i : Nat) (u : Value) : (w.setCell ⟨X, i, none⟩ u).ownsRow 0 30 3 ve cs.length (flat EltC.list cs) :=
  ownsRow_setCell_other h.own (a := ⟨X, i, none⟩) (fun e => by have := h.mine X e; omega) u
/-- The stage is turned. -/
theorem stage (h : RdAt w X st vt ve vu cs rc P) (n : Nat) : RdAt (w.setCell ⟨X, 3, none⟩ (.int .i64 n)) X ⟨n, st.pol⟩ vt ve vu cs rc P where
  box := blk_set_self h.box 3 _
  own := h.own_box 3 _
  mine := h.mine
  elts := h.elts
  top := h.top.move (h.boxed 3 _) (fun _ h => h)
  unwrap := h.unwrap.move (h.boxed 3 _) (fun _ h => h)
  init := fun c hc => (h.init c hc).move (h.boxed 3 _) (fun _ h => h)
  last := fun c hc => by
    obtain ⟨h1, h2, h3⟩ := h.last c hc
    exact ⟨h1.move (h.boxed 3 _) (fun _ h => h), h2.other (p := ⟨X, 3, none⟩) (fun hk => by have := hk.1; simp at this) _, h3⟩
  lists := fun k hk => by rw [szSet]; exact h.lists k hk
/-- Lists that have been made behind a world are lists of the reader, too. -/
theorem more (h : RdAt w X st vt ve vu cs rc P) {w' : World} (hB : Below w.heap.size w w') : RdAt w' X st vt ve vu cs rc (fun k => P k ∨ (w.heap.size ≤ k ∧ k < w'.heap.size)) where
  box := (h.carry hB).box
  own := (h.carry hB).own
  mine := h.mine
  elts := h.elts
  top := (h.carry hB).top.move (Stays.refl _ _) (fun _ h => .inl h)
  unwrap := (h.carry hB).unwrap.move (Stays.refl _ _) (fun _ h => .inl h)
  init := fun c hc => ((h.carry hB).init c hc).move (Stays.refl _ _) (fun _ h => .inl h)
  last := fun c hc => by
    obtain ⟨h1, h2, h3⟩ := h.last c hc
    refine ⟨(h1.move (Stays.below hB (fun k hk => (h.lists k hk).2.1)) (fun _ h => .inl h)), (h2.allow (fun k hk hlt => ⟨hk.1, fun e => ?_, hk.2.2⟩)).carry hB, h3⟩
    rcases e with e | e
    · exact hk.2.1 e
    · omega
  lists := fun k hk => by
    rcases hk with hk | hk
    · exact ⟨(h.lists k hk).1, Nat.lt_of_lt_of_le (h.lists k hk).2.1 hB.size, (h.lists k hk).2.2⟩
    · exact ⟨Nat.lt_of_lt_of_le h.lt hk.1, hk.2, fun e => by have := (h.own.lt k e).2; omega⟩
/-- Top is turned. -/
theorem setTop (h : RdAt w X st vt ve vu cs rc P) {v : Value} {l : List ByteArray} (hv : StrsAt w P v l) : RdAt (w.setCell ⟨X, 0, none⟩ v) X ⟨st.stage, { st.pol with top := l }⟩ v ve vu cs rc P where
  box := blk_set_self h.box 0 _
  own := h.own_box 0 _
  mine := h.mine
  elts := h.elts
  top := hv.move (h.boxed 0 _) (fun _ h => h)
  unwrap := h.unwrap.move (h.boxed 0 _) (fun _ h => h)
  init := fun c hc => (h.init c hc).move (h.boxed 0 _) (fun _ h => h)
  last := fun c hc => by
    obtain ⟨h1, h2, h3⟩ := h.last c hc
    exact ⟨h1.move (h.boxed 0 _) (fun _ h => h), h2.other (p := ⟨X, 0, none⟩) (fun hk => by have := hk.1; simp at this) _, h3⟩
  lists := fun k hk => by rw [szSet]; exact h.lists k hk
/-- Unwrap is turned. -/
theorem setUnwrap (h : RdAt w X st vt ve vu cs rc P) {v : Value} {l : List ByteArray} (hv : StrsAt w P v l) : RdAt (w.setCell ⟨X, 2, none⟩ v) X ⟨st.stage, { st.pol with unwrap := l }⟩ vt ve v cs rc P where
  box := blk_set_self h.box 2 _
  own := h.own_box 2 _
  mine := h.mine
  elts := h.elts
  top := h.top.move (h.boxed 2 _) (fun _ h => h)
  unwrap := hv.move (h.boxed 2 _) (fun _ h => h)
  init := fun c hc => (h.init c hc).move (h.boxed 2 _) (fun _ h => h)
  last := fun c hc => by
    obtain ⟨h1, h2, h3⟩ := h.last c hc
    exact ⟨h1.move (h.boxed 2 _) (fun _ h => h), h2.other (p := ⟨X, 2, none⟩) (fun hk => by have := hk.1; simp at this) _, h3⟩
  lists := fun k hk => by rw [szSet]; exact h.lists k hk
end RdAt
theorem turnLast_snoc (l : List Elt) (e : Elt) (f : Elt → Elt) : turnLast (l ++ [e]) f = l ++ [f e] := by
  unfold turnLast
  rw [List.dropLast_concat, List.getLast?_concat]
  rfl
theorem flat_last (ini : List EltC) (c : EltC) (j : Nat) (hj : j < 3) (u : Value) : (flat EltC.list (ini ++ [c])).set (ini.length * 3 + j) u = flat EltC.list ini ++ c.list.set j u := by
  have hl : (flat EltC.list ini).length = ini.length * 3 := flat_length (m := 3) (fun _ => rfl) ini
  rw [flat_append, flat_one, List.set_append_right _ _ (by rw [hl]; omega), hl, Nat.add_sub_cancel_left]
namespace RdAt
variable {w : World} {X : Nat} {st : Rd} {vt ve vu : Value} {ini : List EltC} {c : EltC} {rc : List RulC} {P : Nat → Prop}
theorem lastOf (h : RdAt w X st vt ve vu (ini ++ [c]) rc P) : StrsAt w P c.vk c.kids ∧ RowI rulK 34 (lastA X P ve) w c.vr rc ∧ rc.map RulC.rul = c.rules := h.last c (by rw [List.getLast?_concat])
theorem initOf (h : RdAt w X st vt ve vu (ini ++ [c]) rc P) : ∀ d ∈ ini, d.Fine w P := fun d hd => h.init d (by rw [List.dropLast_concat]; exact hd)
theorem eltsOf (h : RdAt w X st vt ve vu (ini ++ [c]) rc P) : st.pol.elts = ini.map EltC.elt ++ [c.elt] := by rw [← h.elts, List.map_append]; rfl
theorem veOf (h : RdAt w X st vt ve vu (ini ++ [c]) rc P) : ∃ g cap, ve = .slice (some ⟨g, 0, none⟩) (ini.length + 1) cap ∧ X < g ∧ g < w.heap.size := by
  have ho := h.own
  rw [List.length_append, List.length_singleton] at ho
  rcases id ho.2 with ⟨_, h0⟩ | ⟨g, cap, cur, rfl, _⟩
  · omega
  · exact ⟨g, cap, rfl, h.mine g rfl, (ho.lt g rfl).2⟩
/-- The last element's kids are turned. -/
theorem setKids (h : RdAt w X st vt ve vu (ini ++ [c]) rc P) {g cap : Nat} (hve : ve = .slice (some ⟨g, 0, none⟩) (ini.length + 1) cap) {v : Value} {l : List ByteArray} (hv : StrsAt w P v l) :
    RdAt (w.setCell ⟨g, ini.length * 3 + 1, none⟩ v) X ⟨st.stage, { st.pol with elts := turnLast st.pol.elts fun e => { e with kids := l } }⟩ vt ve vu (ini ++ [⟨c.name, v, l, c.vr, c.rules⟩]) rc P := by
  have hg : ve.ownBlock = some g := by rw [hve]; rfl
  have hXg : X < g := h.mine g hg
  have hst : Stays P w (w.setCell ⟨g, ini.length * 3 + 1, none⟩ v) := Stays.set (fun hk => (h.lists _ hk).2.2 hg) v
  have hs : w.ownsRow 0 30 3 (.slice (some ⟨g, 0, none⟩) (ini.length + 1) cap) (ini.length + 1) (flat EltC.list (ini ++ [c])) := by
    have ho := h.own
    rw [List.length_append, List.length_singleton] at ho
    rw [← hve]
    exact ho
  refine ⟨blk_set h.box (by simp; omega) _, ?_, h.mine, ?_, h.top.move hst (fun _ h => h), h.unwrap.move hst (fun _ h => h), ?_, ?_, fun k hk => by rw [szSet]; exact h.lists k hk⟩
  · have h2 := (hs.stored (ini.length * 3 + 1) v).1
    rw [flat_last ini c 1 (by decide)] at h2
    rw [flat_append, flat_one, List.length_append, List.length_singleton, hve]
    exact h2
  · show _ = turnLast st.pol.elts _
    rw [h.eltsOf, turnLast_snoc, List.map_append]
    rfl
  · intro d hd
    rw [List.dropLast_concat] at hd
    exact (h.initOf d hd).move hst (fun _ h => h)
  · intro d hd
    rw [List.getLast?_concat] at hd
    obtain rfl := Option.some.inj hd
    obtain ⟨h1, h2, h3⟩ := h.lastOf
    exact ⟨hv.move hst (fun _ h => h), h2.other (p := ⟨g, _, none⟩) (fun hk => hk.2.2 hg) _, h3⟩
/-- A rule more of the last element. -/
theorem pushRule (h : RdAt w X st vt ve vu (ini ++ [c]) rc P) {g cap : Nat} (hve : ve = .slice (some ⟨g, 0, none⟩) (ini.length + 1) cap) {w' : World} {v' : Value} {d : RulC} {R : Nat → Prop}
    (hd : StrsAt w R d.vw d.words) (hR : ∀ k, R k → lastA X P ve k ∧ k < w.heap.size ∧ c.vr.ownBlock ≠ some k)
    (hown : w'.ownsRow 0 34 5 v' (rc.length + 1) (flat RulC.list rc ++ d.list)) (hg : w.grownBy w' c.vr.ownBlock) (hat : ∀ k, v'.ownBlock = some k → c.vr.ownBlock = some k ∨ w.heap.size ≤ k) :
    RdAt (w'.setCell ⟨g, ini.length * 3 + 2, none⟩ v') X ⟨st.stage, { st.pol with elts := turnLast st.pol.elts fun e => { e with rules := e.rules ++ [d.rul] } }⟩ vt ve vu (ini ++ [⟨c.name, c.vk, c.kids, v', c.rules ++ [d.rul]⟩]) (rc ++ [d]) P := by
  obtain ⟨h1, h2, h3⟩ := h.lastOf
  have hgb : ve.ownBlock = some g := by rw [hve]; rfl
  have hXg : X < g := h.mine g hgb
  have hgw : g < w.heap.size := (h.own.lt g hgb).2
  have hvr : ∀ k, c.vr.ownBlock = some k → lastA X P ve k := h2.mine
  have hpush := h2.push (c := d) hd hR (fun k hk => ⟨Nat.lt_of_lt_of_le h.lt hk, fun e => by have := (h.lists k e).2.1; omega, fun e => by have := (h.own.lt k e).2; omega⟩) hown hg hat
  have hsP : Stays P w w' := Stays.grown hg (fun k hk => ⟨(h.lists k hk).2.1, fun e => (hvr k e).2.1 hk⟩)
  have hst : Stays P w (w'.setCell ⟨g, ini.length * 3 + 2, none⟩ v') := hsP.trans (Stays.set (fun hk => (h.lists _ hk).2.2 hgb) v')
  have hbox : w'.heap[X]? = _ := blk_grown h.box hg (fun e => by have := (hvr X e).1; omega)
  have hs : w'.ownsRow 0 30 3 (.slice (some ⟨g, 0, none⟩) (ini.length + 1) cap) (ini.length + 1) (flat EltC.list (ini ++ [c])) := by
    have ho := h.own
    rw [List.length_append, List.length_singleton] at ho
    rw [← hve]
    exact ho.kept hg (.inr (fun e => (hvr g (by rw [← e]; exact hgb)).2.2 hgb))
  refine ⟨blk_set hbox (by simp; omega) _, ?_, h.mine, ?_, h.top.move hst (fun _ h => h), h.unwrap.move hst (fun _ h => h), ?_, ?_, fun k hk => by rw [szSet]; exact ⟨(h.lists k hk).1, Nat.lt_of_lt_of_le (h.lists k hk).2.1 hg.size, (h.lists k hk).2.2⟩⟩
  · have h2 := (hs.stored (ini.length * 3 + 2) v').1
    rw [flat_last ini c 2 (by decide)] at h2
    rw [flat_append, flat_one, List.length_append, List.length_singleton, hve]
    exact h2
  · show _ = turnLast st.pol.elts _
    rw [h.eltsOf, turnLast_snoc, List.map_append]
    rfl
  · intro e he
    rw [List.dropLast_concat] at he
    exact (h.initOf e he).move hst (fun _ h => h)
  · intro e he
    rw [List.getLast?_concat] at he
    obtain rfl := Option.some.inj he
    exact ⟨h1.move hst (fun _ h => h), hpush.other (p := ⟨g, _, none⟩) (fun hk => hk.2.2 hgb) _, by rw [List.map_append, h3]; rfl⟩
/-- An element more, bare. -/
theorem pushElt {cs : List EltC} (h : RdAt w X st vt ve vu cs rc P) {w' : World} {v' : Value} (nm : ByteArray)
    (hown : w'.ownsRow 0 30 3 v' (cs.length + 1) (flat EltC.list cs ++ [.string nm, .slice none 0 0, .slice none 0 0])) (hg : w.grownBy w' ve.ownBlock) (hat : ∀ k, v'.ownBlock = some k → ve.ownBlock = some k ∨ w.heap.size ≤ k) :
    RdAt (w'.setCell ⟨X, 1, none⟩ v') X ⟨st.stage, { st.pol with elts := st.pol.elts ++ [⟨nm, [], []⟩] }⟩ vt v' vu (cs ++ [⟨nm, .slice none 0 0, [], .slice none 0 0, []⟩]) [] (fun k => X < k ∧ k < w.heap.size ∧ ve.ownBlock ≠ some k) := by
  have hXw := h.lt
  have hbox : w'.heap[X]? = _ := blk_grown h.box hg (fun e => by have := h.mine X e; omega)
  have hst : Stays (fun k => X < k ∧ k < w.heap.size ∧ ve.ownBlock ≠ some k) w (w'.setCell ⟨X, 1, none⟩ v') := (Stays.grown hg (fun k hk => hk.2)).trans (Stays.set (fun hk => by have := hk.1; simp at this) v')
  have hP : ∀ k, P k → X < k ∧ k < w.heap.size ∧ ve.ownBlock ≠ some k := h.lists
  have hm : ∀ k, v'.ownBlock = some k → X < k := fun k hk => (hat k hk).elim (h.mine k) (fun e => by omega)
  have hfine : ∀ d ∈ cs, d.Fine w (fun k => X < k ∧ k < w.heap.size ∧ ve.ownBlock ≠ some k) := by
    intro d hd
    by_cases hl : cs = []
    · subst hl; simp at hd
    · obtain ⟨ini, c, rfl⟩ : ∃ ini c, cs = ini ++ [c] := ⟨cs.dropLast, cs.getLast hl, (List.dropLast_concat_getLast hl).symm⟩
      rcases List.mem_append.1 hd with hd | hd
      · exact (h.initOf d hd).move (Stays.refl _ _) hP
      · rw [List.mem_singleton.1 hd]
        obtain ⟨h1, h2, h3⟩ := h.lastOf
        refine ⟨h1.move (Stays.refl _ _) hP, ?_⟩
        rw [← h3]
        exact h2.ruls.move (Stays.refl _ _) (fun k hk => ⟨hk.1.1, hk.2, hk.1.2.2⟩)
  refine ⟨blk_set_self hbox 1 _, ?_, hm, ?_, h.top.move (hst.mono hP) hP, h.unwrap.move (hst.mono hP) hP, ?_, ?_, fun k hk => ⟨hk.1, by rw [szSet]; exact Nat.lt_of_lt_of_le hk.2.1 hg.size, fun e => ?_⟩⟩
  · rw [List.length_append, List.length_singleton, flat_append, flat_one]
    exact ownsRow_setCell_other hown (a := ⟨X, 1, none⟩) (fun e => by have := hm X e; omega) v'
  · rw [List.map_append, h.elts]
    rfl
  · intro d hd
    rw [List.dropLast_concat] at hd
    exact (hfine d hd).move hst (fun _ h => h)
  · intro d hd
    rw [List.getLast?_concat] at hd
    obtain rfl := Option.some.inj hd
    exact ⟨show StrsAt _ _ (.slice none 0 0) [] from CRow.nil _ _ _, RowI.nil _, rfl⟩
  · rcases hat k e with h2 | h2
    · exact hk.2.2 h2
    · omega
/-- The reader at its beginning. -/
theorem start {w : World} {X : Nat} (hb : w.heap[X]? = some (.cells #[.slice none 0 0, .slice none 0 0, .slice none 0 0, .int .i64 0] 78)) : RdAt w X ⟨0, ⟨[], [], []⟩⟩ (.slice none 0 0) (.slice none 0 0) (.slice none 0 0) [] [] (fun _ => False) where
  box := hb
  own := World.ownsRow_nil _ _ _ _
  mine := fun k hk => by simp [Value.ownBlock] at hk
  elts := rfl
  top := CRow.nil _ _ _
  unwrap := CRow.nil _ _ _
  init := fun c hc => by simp at hc
  last := fun c hc => by simp at hc
  lists := fun k hk => hk.elim
/-- The policy that has been read. -/
theorem pol {cs : List EltC} (h : RdAt w X st vt ve vu cs rc P) : PolAt w (fun k => k < w.heap.size) vt ve vu st.pol := by
  have hP : ∀ k, P k → k < w.heap.size := fun k hk => (h.lists k hk).2.1
  refine ⟨h.top.move (Stays.refl _ _) hP, ⟨cs, h.elts, ?_, ?_⟩, h.unwrap.move (Stays.refl _ _) hP⟩
  · intro d hd
    by_cases hl : cs = []
    · subst hl; simp at hd
    · obtain ⟨ini, c, rfl⟩ : ∃ ini c, cs = ini ++ [c] := ⟨cs.dropLast, cs.getLast hl, (List.dropLast_concat_getLast hl).symm⟩
      rcases List.mem_append.1 hd with hd | hd
      · exact (h.initOf d hd).move (Stays.refl _ _) hP
      · rw [List.mem_singleton.1 hd]
        obtain ⟨h1, h2, h3⟩ := h.lastOf
        refine ⟨h1.move (Stays.refl _ _) hP, ?_⟩
        rw [← h3]
        exact h2.ruls.move (Stays.refl _ _) (fun k hk => hk.2)
  · have hr : RowI (⟨EltC.list, fun _ _ _ => True, 3, fun _ => rfl, fun _ _ _ => trivial⟩ : Kind EltC) 30 (fun _ => True) w ve cs := ⟨h.own, fun _ _ => trivial, fun _ => False, fun _ _ => trivial, fun k hk => hk.elim, fun k hk => hk.elim⟩
    exact hr.crow.move (Stays.refl _ _) (fun k hk => hk.2)
end RdAt
end Go.Proofs.YtghlodpbbghcoaaGreatDoor

/- What the reader has read stays where blocks that are no cells are turned: for the rounds of a range over a function. No program in sight. -/
namespace Go.Proofs.YtghlodpbbghcoaaGreatDoor
open Go.RowKit
/-- A block of cells. -/
def IsC (w : World) (k : Nat) : Prop := ∃ o : Obj, w.heap[k]? = some o ∧ o.isCells = true
theorem IsC.of_cell {w : World} {a : Addr} {v : Value} (h : w.cell? a = some v) : IsC w a.block := by
  unfold World.cell? at h
  cases ho : w.heap[a.block]? with
  | none => rw [ho] at h; simp at h
  | some o =>
    rw [ho] at h
    cases o with
    | cells cs t f => exact ⟨_, ho, rfl⟩
    | _ => simp at h
theorem CRow.only {w : World} {P : Nat → Prop} {size : Nat} {v : Value} {cs : List (List Value)} (h : CRow w P size v cs) (hs : 0 < size) (hl : ∀ c ∈ cs, c.length = size) : CRow w (fun k => P k ∧ IsC w k) size v cs := by
  obtain ⟨A, cap, e, hc, h⟩ := h
  refine ⟨A, cap, e, hc, fun j hj => ?_⟩
  obtain ⟨b, o, e, hb, h1⟩ := h j hj
  refine ⟨b, o, e, ⟨hb, ?_⟩, h1⟩
  have h2 := h1 0 hs
  have h3 := hl cs[j] (List.getElem_mem hj)
  rw [List.getElem?_eq_getElem (by omega)] at h2
  exact IsC.of_cell h2
theorem StrsAt.only {w : World} {P : Nat → Prop} {v : Value} {l : List ByteArray} (h : StrsAt w P v l) : StrsAt w (fun k => P k ∧ IsC w k) v l :=
  CRow.only h (by decide) (fun c hc => by
    obtain ⟨s, _, rfl⟩ := List.mem_map.1 hc
    rfl)
theorem RulsAt.only {w : World} {P : Nat → Prop} {v : Value} {l : List Rul} (h : RulsAt w P v l) : RulsAt w (fun k => P k ∧ IsC w k) v l := by
  obtain ⟨cs, e, h1, h2⟩ := h
  exact ⟨cs, e, fun c hc => (h1 c hc).only, h2.only (by decide) (fun c hc => by
    obtain ⟨s, _, rfl⟩ := List.mem_map.1 hc
    rfl)⟩
theorem EltC.Fine.only {w : World} {P : Nat → Prop} {c : EltC} (h : c.Fine w P) : c.Fine w (fun k => P k ∧ IsC w k) := ⟨h.1.only, h.2.only⟩
theorem own_isC {w : World} {base : Nat} {e : TypeId} {size : Nat} {v : Value} {n : Nat} {xs : List Value} (h : w.ownsRow base e size v n xs) {k : Nat} (hk : v.ownBlock = some k) : IsC w k := by
  rcases h.2 with ⟨rfl, _⟩ | ⟨g, cap, cur, rfl, _, hb, _⟩
  · simp [Value.ownBlock] at hk
  · have : g = k := by simpa [Value.ownBlock] using hk
    subst this
    exact ⟨_, hb, rfl⟩
theorem RowI.only {e : TypeId} {A : Nat → Prop} {w : World} {v : Value} {l : List RulC} (h : RowI rulK e A w v l) : RowI rulK e (fun k => A k ∧ IsC w k) w v l := by
  obtain ⟨h1, hm, P, h2, h3, h4⟩ := h
  exact ⟨h1, fun k hk => ⟨hm k hk, own_isC h1 hk⟩, fun k => P k ∧ IsC w k, fun c hc => StrsAt.only (h2 c hc), fun k hk => ⟨⟨(h3 k hk.1).1, hk.2⟩, (h3 k hk.1).2⟩, fun k hk => h4 k hk.1⟩
/-- A block that is no cells is turned, and blocks are laid: what is known of blocks of cells stays. -/
theorem Stays.others {P : Nat → Prop} {w w' : World} {row : Option Nat} (hg : w.grownBy w' row) (hr : ∀ r, row = some r → ∃ o : Obj, w.heap[r]? = some o ∧ o.isCells = false) : Stays (fun k => P k ∧ IsC w k) w w' := by
  rintro k ⟨_, o, ho, hc⟩
  refine hg.block k (Array.getElem?_eq_some_iff.1 ho).1 (fun e => ?_)
  obtain ⟨o', h1, h2⟩ := hr k e.symm
  rw [ho] at h1
  cases h1
  rw [hc] at h2
  cases h2
theorem own_others {w w' : World} {base : Nat} {e : TypeId} {size : Nat} {v : Value} {n : Nat} {xs : List Value} (h : w.ownsRow base e size v n xs) {row : Option Nat} (hg : w.grownBy w' row) (hr : ∀ r, row = some r → ∃ o : Obj, w.heap[r]? = some o ∧ o.isCells = false) : w'.ownsRow base e size v n xs := by
  refine ⟨h.1, h.2.imp id (fun ⟨g, cap, cur, a, b, c, d⟩ => ⟨g, cap, cur, a, b, ?_, d⟩)⟩
  exact (Stays.others (P := fun _ => True) hg hr g ⟨trivial, _, c, rfl⟩).trans c
theorem RowI.others {e : TypeId} {A : Nat → Prop} {w w' : World} {v : Value} {l : List RulC} (h : RowI rulK e A w v l) {row : Option Nat} (hg : w.grownBy w' row) (hr : ∀ r, row = some r → ∃ o : Obj, w.heap[r]? = some o ∧ o.isCells = false) : RowI rulK e A w' v l := by
  have h2 := h.only
  have h3 := h2.stays (w' := w') ((Stays.others (P := fun k => A k ∧ k < w.heap.size) hg hr).mono (fun k hk => ⟨⟨hk.1.1, hk.2⟩, hk.1.2⟩)) hg.size
  exact h3.allow (fun k hk _ => hk.1)
namespace RdAt
variable {w : World} {X : Nat} {st : Rd} {vt ve vu : Value} {cs : List EltC} {rc : List RulC} {P : Nat → Prop}
theorem only (h : RdAt w X st vt ve vu cs rc P) : RdAt w X st vt ve vu cs rc (fun k => P k ∧ IsC w k) where
  box := h.box
  own := h.own
  mine := h.mine
  elts := h.elts
  top := h.top.only
  unwrap := h.unwrap.only
  init := fun c hc => (h.init c hc).only
  last := fun c hc => by
    obtain ⟨h1, h2, h3⟩ := h.last c hc
    exact ⟨h1.only, h2.allow (fun k hk _ => ⟨hk.1, fun e => hk.2.1 e.1, hk.2.2⟩), h3⟩
  lists := fun k hk => h.lists k hk.1
theorem others (h : RdAt w X st vt ve vu cs rc P) {w' : World} {row : Option Nat} (hg : w.grownBy w' row) (hr : ∀ r, row = some r → ∃ o : Obj, w.heap[r]? = some o ∧ o.isCells = false) : RdAt w' X st vt ve vu cs rc (fun k => P k ∧ IsC w k) := by
  have h' := h.only
  have hs : Stays (fun k => P k ∧ IsC w k) w w' := Stays.others hg hr
  exact {
    box := (Stays.others (P := fun _ => True) hg hr X ⟨trivial, _, h.box, rfl⟩).trans h.box
    own := own_others h.own hg hr
    mine := h.mine
    elts := h.elts
    top := h'.top.move hs (fun _ h => h)
    unwrap := h'.unwrap.move hs (fun _ h => h)
    init := fun c hc => (h'.init c hc).move hs (fun _ h => h)
    last := fun c hc => by
      obtain ⟨h1, h2, h3⟩ := h'.last c hc
      exact ⟨h1.move hs (fun _ h => h), h2.others hg hr, h3⟩
    lists := fun k hk => ⟨(h.lists k hk.1).1, Nat.lt_of_lt_of_le (h.lists k hk.1).2.1 hg.size, (h.lists k hk.1).2.2⟩ }
end RdAt
/-- The reader, wherever its lists lie; no more elements than so many, no more rules of the last one. -/
def Reads (w : World) (X : Nat) (st : Rd) (n : Nat) : Prop := ∃ (vt ve vu : Value) (cs : List EltC) (rc : List RulC) (P : Nat → Prop), RdAt w X st vt ve vu cs rc P ∧ cs.length ≤ n ∧ rc.length ≤ n
theorem Reads.others {w w' : World} {X : Nat} {st : Rd} {n : Nat} (h : Reads w X st n) {row : Option Nat} (hg : w.grownBy w' row) (hr : ∀ r, row = some r → ∃ o : Obj, w.heap[r]? = some o ∧ o.isCells = false) : Reads w' X st n := by
  obtain ⟨vt, ve, vu, cs, rc, P, h1, h2, h3⟩ := h
  exact ⟨vt, ve, vu, cs, rc, _, h1.others hg hr, h2, h3⟩
theorem Reads.carry {w w' : World} {X : Nat} {st : Rd} {n : Nat} (h : Reads w X st n) (hB : Below w.heap.size w w') : Reads w' X st n := by
  obtain ⟨vt, ve, vu, cs, rc, P, h1, h2, h3⟩ := h
  exact ⟨vt, ve, vu, cs, rc, P, h1.carry hB, h2, h3⟩
end Go.Proofs.YtghlodpbbghcoaaGreatDoor
