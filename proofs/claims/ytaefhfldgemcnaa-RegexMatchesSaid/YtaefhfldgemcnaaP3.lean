/- The plain side of matching: the edges of a state; marks. No program in sight. -/
import Derived.Test.YtaefhfldgemcnaaP2
import Derived.Test.YtaefhfldgemcnaaPure3
import Derived.Test.YtaefhfldgemcnaaW2
namespace Go.Proofs.Ytaefhfldgemcnaa

/-- An edge of a net that was made of a tree. -/
def EdgeIn (st : Nat) (e : Edge) : Prop := e.ok st = true ∧ ((e.low = 1 ∧ e.high = 0) ∨ (32 ≤ e.low ∧ e.low ≤ e.high ∧ e.high ≤ 126))
theorem EdgeIn.more {st st' : Nat} {e : Edge} (h : EdgeIn st e) (hs : st ≤ st') : EdgeIn st' e := by
  obtain ⟨h1, h2⟩ := h
  rw [ok_iff] at h1
  exact ⟨ok_iff.2 (by omega), h2⟩
theorem eps_in {st a b : Nat} (ha : a < st) (hb : b < st) : EdgeIn st (eps a b) := ⟨ok_iff.2 (by simp only [eps]; omega), .inl ⟨rfl, rfl⟩⟩
theorem setE_in (m : List Bool) {a b st : Nat} (ha : a < st) (hb : b < st) : ∀ (f i : Nat), ∀ e ∈ setE m a b f i, EdgeIn st e := by
  intro f
  induction f with
  | zero => intro i e he; simp [setE] at he
  | succ f ih =>
    intro i e he
    rw [setE] at he
    split at he
    · rename_i hi
      split at he
      · rcases List.mem_cons.1 he with rfl | he
        · have := runEnd_range m hi
          exact ⟨ok_iff.2 (by (try dsimp only); omega), .inr (by (try dsimp only); omega)⟩
        · exact ih _ e he
      · exact ih _ e he
    · simp at he
def JobIn (st : Nat) (j : Job) : Prop := j.frm < st ∧ j.to < st
theorem chain_in : ∀ (l : List T) (a b st st' : Nat), a < st' → b < st' → st + (l.length - 1) ≤ st' → ∀ j ∈ chain l a b st, JobIn st' j := by
  intro l
  induction l with
  | nil => intro a b st st' _ _ _ j hj; simp [chain] at hj
  | cons t l ih =>
    intro a b st st' ha hb hs j hj
    cases l with
    | nil =>
      simp only [chain, List.mem_singleton] at hj
      subst hj
      exact ⟨ha, hb⟩
    | cons u l =>
      simp only [chain] at hj
      simp only [List.length_cons] at hs
      rcases List.mem_cons.1 hj with rfl | hj
      · exact ⟨ha, by (try dsimp only); omega⟩
      · exact ih st b (st + 1) st' (by omega) hb (by simp only [List.length_cons]; omega) j hj
theorem jobNet_in (st : Nat) (t : T) (a b : Nat) (ha : a < st) (hb : b < st) :
    (∀ e ∈ (jobNet st t a b).es, EdgeIn (jobNet st t a b).st e) ∧ ∀ j ∈ (jobNet st t a b).js, JobIn (jobNet st t a b).st j := by
  cases t with
  | set m => exact ⟨fun e he => setE_in m ha hb _ _ e he, fun j hj => by simp [jobNet] at hj⟩
  | seq l =>
    cases l with
    | nil =>
      refine ⟨fun e he => ?_, fun j hj => by simp [jobNet] at hj⟩
      simp only [jobNet, List.mem_singleton] at he
      subst he
      exact eps_in ha hb
    | cons t l =>
      refine ⟨fun e he => by simp [jobNet] at he, fun j hj => ?_⟩
      exact chain_in (t :: l) a b st _ (by simp [jobNet]; omega) (by simp [jobNet]; omega) (by simp [jobNet]) j hj
  | alt l =>
    refine ⟨fun e he => by simp [jobNet] at he, fun j hj => ?_⟩
    simp only [jobNet, List.mem_map] at hj
    obtain ⟨t, _, rfl⟩ := hj
    exact ⟨ha, hb⟩
  | rep p op =>
    simp only [jobNet]
    split
    · refine ⟨fun e he => ?_, fun j hj => ?_⟩
      · simp only [List.mem_singleton] at he; subst he; exact eps_in ha hb
      · simp only [List.mem_singleton] at hj; subst hj; exact ⟨ha, hb⟩
    · split
      · refine ⟨fun e he => ?_, fun j hj => ?_⟩
        · simp only [List.mem_cons, List.not_mem_nil, or_false] at he
          rcases he with rfl | rfl <;> exact eps_in (by (try dsimp only); omega) (by (try dsimp only); omega)
        · simp only [List.mem_singleton] at hj; subst hj; exact ⟨by (try dsimp only); omega, by (try dsimp only); omega⟩
      · refine ⟨fun e he => ?_, fun j hj => ?_⟩
        · simp only [List.mem_cons, List.not_mem_nil, or_false] at he
          rcases he with rfl | rfl | rfl <;> exact eps_in (by (try dsimp only); omega) (by (try dsimp only); omega)
        · simp only [List.mem_singleton] at hj; subst hj; exact ⟨by (try dsimp only); omega, by (try dsimp only); omega⟩
theorem pop_parts {α : Type} {l : List α} {x : α} (h : l[l.length - 1]? = some x) : l = popL l ++ [x] := by
  have hl : l.length - 1 < l.length := (List.getElem?_eq_some_iff.1 h).1
  have h1 : l.take (l.length - 1 + 1) = l.take (l.length - 1) ++ [x] := by rw [List.take_add_one, h]; rfl
  rw [List.take_of_length_le (by omega)] at h1
  exact h1
theorem jsizes_pop' {js : List Job} {j : Job} (hj : js[js.length - 1]? = some j) : jsizes js = jsizes (popL js) + j.t.size := by
  conv => lhs; rw [pop_parts hj]
  rw [jsizes_append]
  simp [jsizes]
theorem runNet_facts : ∀ (f st : Nat) (es : List Edge) (js : List Job), (∀ j ∈ js, JobIn st j) → (∀ e ∈ es, EdgeIn st e) →
    st ≤ (runNet f st es js).1 ∧ (runNet f st es js).1 + js.length ≤ st + 2 * jsizes js ∧ (∀ e ∈ (runNet f st es js).2, EdgeIn (runNet f st es js).1 e) ∧ (runNet f st es js).2.length ≤ es.length + 95 * jsizes js := by
  intro f
  induction f with
  | zero => intro st es js hj he; exact ⟨Nat.le_refl _, by have := jsizes_len js; simp [runNet]; omega, he, by simp [runNet]⟩
  | succ f ih =>
    intro st es js hj he
    rw [runNet]
    cases hl : js[js.length - 1]? with
    | none => exact ⟨Nat.le_refl _, by have := jsizes_len js; simp only []; omega, he, by simp⟩
    | some j =>
      have hjm : j ∈ js := List.mem_of_getElem? hl
      have hc := jobNet_cost st j.t j.frm j.to
      have hi := jobNet_in st j.t j.frm j.to (hj j hjm).1 (hj j hjm).2
      have hp := jsizes_pop' hl
      have := ih (jobNet st j.t j.frm j.to).st (es ++ (jobNet st j.t j.frm j.to).es) (popL js ++ (jobNet st j.t j.frm j.to).js) (by
        intro x hx
        rcases List.mem_append.1 hx with hx | hx
        · have h0 := hj x (List.mem_of_mem_take hx)
          exact ⟨Nat.lt_of_lt_of_le h0.1 hc.2.1, Nat.lt_of_lt_of_le h0.2 hc.2.1⟩
        · exact hi.2 x hx) (by
        intro x hx
        rcases List.mem_append.1 hx with hx | hx
        · exact (he x hx).more hc.2.1
        · exact hi.1 x hx)
      rw [jsizes_append, List.length_append, List.length_append, show (popL js).length = js.length - 1 from by simp [popL]] at this
      have hlt : js.length - 1 < js.length := (List.getElem?_eq_some_iff.1 hl).1
      simp only []
      refine ⟨by omega, by omega, this.2.2.1, by omega⟩
theorem netT_facts (t : T) : 2 ≤ (netT t).1 ∧ (netT t).1 ≤ 1 + 2 * t.size ∧ (∀ e ∈ (netT t).2, EdgeIn (netT t).1 e) ∧ (netT t).2.length ≤ 95 * t.size := by
  have := runNet_facts (t.size + 1) 2 [] [⟨t, 0, 1⟩] (by intro j hj; simp only [List.mem_singleton] at hj; subst hj; exact ⟨Nat.zero_lt_succ _, Nat.one_lt_two⟩) (by intro e he; simp at he)
  simp only [jsizes, List.length_cons, List.length_nil] at this
  unfold netT
  exact ⟨this.1, by omega, this.2.2.1, by omega⟩
theorem netN_may {t : T} (h : (netT t).1 ≤ 500) : (netN t).may = true := by
  have hf := netT_facts t
  rw [may_iff]
  simp only [netN]
  exact ⟨by omega, by omega, by omega, by omega, fun e he => (hf.2.2.1 e he).1⟩
theorem netN_not {t : T} (h : 500 < (netT t).1) : (netN t).may = false := by
  refine Bool.eq_false_iff.2 fun hm => ?_
  have := (may_iff.1 hm).2.1
  simp only [netN] at this
  omega
/-- An edge of such a net takes a byte that lies in it. -/
theorem EdgeIn.takes {st : Nat} {e : Edge} (h : EdgeIn st e) (c : Int) : e.takes c = (decide (e.low ≤ c) && decide (c ≤ e.high)) := by
  rw [Bool.eq_iff_iff]
  simp only [Edge.takes, Bool.and_eq_true, decide_eq_true_eq]
  have := h.2
  omega

/-! the edges that go out of a state -/
def rowQ (es : List Edge) (q : Int) : List Edge := es.filter (fun e => e.frm == q)
theorem rowQ_snoc_yes {es : List Edge} {e : Edge} {q : Int} (h : e.frm = q) : rowQ (es ++ [e]) q = rowQ es q ++ [e] := by simp [rowQ, h]
theorem rowQ_snoc_no {es : List Edge} {e : Edge} {q : Int} (h : e.frm ≠ q) : rowQ (es ++ [e]) q = rowQ es q := by simp [rowQ, h]
theorem mem_rowQ {es : List Edge} {q : Int} {e : Edge} : e ∈ rowQ es q ↔ e ∈ es ∧ e.frm = q := by simp [rowQ]
theorem rowQ_length (es : List Edge) (q : Int) : (rowQ es q).length ≤ es.length := List.length_filter_le _ _

structure CRow (es : List Edge) (st : Nat) (S0 : Int → Prop) (ys : List Int) (i : Nat) (q : Int) (k : Nat) : Prop where
  inv : CInv Edge.none_ es st S0 ys i
  at_ : ys[i]? = some q
  cl : ∀ e ∈ (rowQ es q).take k, e.none_ = true → e.to ∈ ys
theorem CRow.next {es : List Edge} {st : Nat} {S0 : Int → Prop} {ys : List Int} {i : Nat} {q : Int} {k : Nat} (h : CRow es st S0 ys i q k) {e : Edge} (he : (rowQ es q)[k]? = some e) (hc : e.none_ = true → e.to ∈ ys) : CRow es st S0 ys i q (k + 1) := by
  refine ⟨h.inv, h.at_, ?_⟩
  intro e' he' hb
  rw [List.take_add_one, he] at he'
  simp only [Option.toList_some, List.mem_append, List.mem_singleton] at he'
  rcases he' with he' | rfl
  · exact h.cl e' he' hb
  · exact hc hb
theorem CRow.push {es : List Edge} {st : Nat} {S0 : Int → Prop} {ys : List Int} {i : Nat} {q : Int} {k : Nat} (h : CRow es st S0 ys i q k) (hes : ∀ e ∈ es, e.ok st = true) {e : Edge} (he : (rowQ es q)[k]? = some e) (hb : e.none_ = true) (hn : ¬ e.to ∈ ys) : CRow es st S0 (ys ++ [e.to]) i q (k + 1) := by
  have hil := (List.getElem?_eq_some_iff.1 h.at_).1
  have hem := mem_rowQ.1 (List.mem_of_getElem? he)
  have h1 : CRow es st S0 (ys ++ [e.to]) i q k := by
    refine ⟨h.inv.push hes hem.1 hb (by rw [hem.2]; exact List.mem_of_getElem? h.at_) hn (by omega), ?_, ?_⟩
    · rw [List.getElem?_append_left hil]; exact h.at_
    · intro e' he' hb'; exact List.mem_append_left _ (h.cl e' he' hb')
  exact h1.next he (fun _ => by simp)
theorem CRow.end_ {es : List Edge} {st : Nat} {S0 : Int → Prop} {ys : List Int} {i : Nat} {q : Int} {k : Nat} (h : CRow es st S0 ys i q k) (hk : (rowQ es q).length ≤ k) : CInv Edge.none_ es st S0 ys (i + 1) := by
  refine ⟨h.inv.nodup, h.inv.rng, h.inv.sub, h.inv.base, ?_⟩
  intro j hj p hp e he hb hf
  by_cases hji : j = i
  · subst hji
    rw [h.at_] at hp
    injection hp with hp
    subst hp
    exact h.cl e (by rw [List.take_of_length_le hk]; exact mem_rowQ.2 ⟨he, hf⟩) hb
  · exact h.inv.cl j (by omega) p hp e he hb hf

structure MRow (es : List Edge) (st : Nat) (c : Int) (ps : List Int) (q : Int) (k : Nat) (ys : List Int) : Prop where
  nodup : ys.Nodup
  rng : ∀ x ∈ ys, 0 ≤ x ∧ x < (st : Int)
  set : ∀ x, x ∈ ys ↔ StepP es c (· ∈ ps) x ∨ ∃ e ∈ (rowQ es q).take k, e.takes c = true ∧ x = e.to
theorem MRow.start {es : List Edge} {st : Nat} {c : Int} {ps : List Int} {q : Int} {ys : List Int} (hn : ys.Nodup) (hr : ∀ x ∈ ys, 0 ≤ x ∧ x < (st : Int)) (hs : ∀ x, x ∈ ys ↔ StepP es c (· ∈ ps) x) : MRow es st c ps q 0 ys :=
  ⟨hn, hr, fun x => by rw [hs]; simp⟩
theorem MRow.skip {es : List Edge} {st : Nat} {c : Int} {ps : List Int} {q : Int} {k : Nat} {ys : List Int} (h : MRow es st c ps q k ys) {e : Edge} (he : (rowQ es q)[k]? = some e) (hs : e.takes c = true → e.to ∈ ys) : MRow es st c ps q (k + 1) ys := by
  refine ⟨h.nodup, h.rng, fun x => ?_⟩
  rw [List.take_add_one, he]
  constructor
  · intro hx
    rcases (h.set x).1 hx with h1 | ⟨e', h1, h2⟩
    · exact .inl h1
    · exact .inr ⟨e', List.mem_append_left _ h1, h2⟩
  · rintro (h1 | ⟨e', h1, h2, h3⟩)
    · exact (h.set x).2 (.inl h1)
    · simp only [Option.toList_some, List.mem_append, List.mem_singleton] at h1
      rcases h1 with h1 | rfl
      · exact (h.set x).2 (.inr ⟨e', h1, h2, h3⟩)
      · rw [h3]; exact hs h2
theorem MRow.push {es : List Edge} {st : Nat} {c : Int} {ps : List Int} {q : Int} {k : Nat} {ys : List Int} (h : MRow es st c ps q k ys) (hes : ∀ e ∈ es, e.ok st = true) {e : Edge} (he : (rowQ es q)[k]? = some e) (ht : e.takes c = true) (hn : ¬ e.to ∈ ys) : MRow es st c ps q (k + 1) (ys ++ [e.to]) := by
  have hem := mem_rowQ.1 (List.mem_of_getElem? he)
  refine ⟨?_, ?_, fun x => ?_⟩
  · rw [List.nodup_append]
    refine ⟨h.nodup, by simp, ?_⟩
    intro a ha b hb
    simp only [List.mem_singleton] at hb
    subst hb
    rintro rfl
    exact hn ha
  · intro x hx
    rcases List.mem_append.1 hx with hx | hx
    · exact h.rng x hx
    · simp only [List.mem_singleton] at hx; subst hx; exact (ok_iff.1 (hes e hem.1)).2
  · rw [List.take_add_one, he, List.mem_append, List.mem_singleton, h.set]
    simp only [Option.toList_some, List.mem_append, List.mem_singleton]
    constructor
    · rintro ((h1 | ⟨e', h1, h2⟩) | rfl)
      · exact .inl h1
      · exact .inr ⟨e', .inl h1, h2⟩
      · exact .inr ⟨e, .inr rfl, ht, rfl⟩
    · rintro (h1 | ⟨e', h1 | rfl, h2, h3⟩)
      · exact .inl (.inl h1)
      · exact .inl (.inr ⟨e', h1, h2, h3⟩)
      · exact .inr h3
theorem MRow.end_ {es : List Edge} {st : Nat} {c : Int} {ps : List Int} {q : Int} {k : Nat} {ys : List Int} (h : MRow es st c ps q k ys) (hk : (rowQ es q).length ≤ k) (x : Int) : x ∈ ys ↔ StepP es c (· ∈ ps ++ [q]) x := by
  rw [h.set, List.take_of_length_le hk]
  unfold StepP
  constructor
  · rintro (⟨e, h1, h2, h3, h4⟩ | ⟨e, h1, h2, h3⟩)
    · exact ⟨e, h1, h2, List.mem_append_left _ h3, h4⟩
    · have := mem_rowQ.1 h1
      exact ⟨e, this.1, h2, by simp [this.2], h3⟩
  · rintro ⟨e, h1, h2, h3, h4⟩
    rcases List.mem_append.1 h3 with h3 | h3
    · exact .inl ⟨e, h1, h2, h3, h4⟩
    · simp only [List.mem_singleton] at h3
      exact .inr ⟨e, mem_rowQ.2 ⟨h1, h3⟩, h2, h4⟩

/-- Marks: just those in the list bear the newest. -/
def SeenOk (st : Nat) (sv : Nat → Int) (mark : Int) (ys : List Int) : Prop := ∀ q, q < st → (sv q = mark ↔ (q : Int) ∈ ys) ∧ sv q ≤ mark
theorem SeenOk.push {st : Nat} {sv : Nat → Int} {mark : Int} {ys : List Int} (h : SeenOk st sv mark ys) (t : Nat) : SeenOk st (fun x => if x = t then mark else sv x) mark (ys ++ [(t : Int)]) := by
  intro q hq
  have := h q hq
  simp only [List.mem_append, List.mem_singleton]
  by_cases e : q = t
  · subst e; simp
  · rw [if_neg e]
    refine ⟨?_, this.2⟩
    rw [this.1]
    constructor
    · exact .inl
    · rintro (h1 | h1)
      · exact h1
      · omega
theorem SeenOk.fresh {st : Nat} {sv : Nat → Int} {mark mark' : Int} {ys : List Int} (h : SeenOk st sv mark ys) (hm : mark < mark') : SeenOk st sv mark' [] := by
  intro q hq
  have := (h q hq).2
  refine ⟨⟨fun e => by omega, fun e => by simp at e⟩, by omega⟩
end Go.Proofs.Ytaefhfldgemcnaa
