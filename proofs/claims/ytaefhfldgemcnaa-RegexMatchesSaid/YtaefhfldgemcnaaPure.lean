/- The plain mathematics of nets: ways, closures, rising lists of states. No program in sight. -/
namespace Go.Proofs.Ytaefhfldgemcnaa

structure Edge where
  frm : Int
  to : Int
  low : Int
  high : Int
  deriving DecidableEq

structure Net where
  st : Int
  start : Int
  fin : Int
  edges : List Edge

def Edge.none_ (e : Edge) : Bool := decide (e.high < e.low)
def Edge.takes (e : Edge) (c : Int) : Bool := decide (32 ≤ c) && decide (c ≤ 126) && decide (e.low ≤ c) && decide (c ≤ e.high)
def isSt (st q : Int) : Bool := decide (0 ≤ q) && decide (q < st)
def Edge.ok (st : Int) (e : Edge) : Bool := isSt st e.frm && isSt st e.to
def Net.may (n : Net) : Bool := decide (1 ≤ n.st) && decide (n.st ≤ 500) && isSt n.st n.start && isSt n.st n.fin && n.edges.all (Edge.ok n.st)
def Edge.swap (e : Edge) : Edge := ⟨e.to, e.frm, e.low, e.high⟩
def Net.back (n : Net) : Net := ⟨n.st, n.fin, n.start, n.edges.map Edge.swap⟩

def roundI (n most : Int) : Int := (if n < 0 then -(n + 1) else n) % most
theorem roundI_range {n most : Int} (h : 0 < most) : 0 ≤ roundI n most ∧ roundI n most < most := by
  unfold roundI
  exact ⟨Int.emod_nonneg _ (by omega), Int.emod_lt_of_pos _ h⟩
def goodEdge (st : Int) (e : Edge) : Edge := ⟨roundI e.frm st, roundI e.to st, e.low, e.high⟩
def goodSt (n : Net) : Int := 1 + roundI n.st 6
def good (n : Net) : Net := ⟨goodSt n, roundI n.start (goodSt n), roundI n.fin (goodSt n), (n.edges.take 10).map (goodEdge (goodSt n))⟩
theorem goodSt_range (n : Net) : 1 ≤ goodSt n ∧ goodSt n ≤ 6 := by
  have := @roundI_range n.st 6 (by omega)
  unfold goodSt; omega
theorem isSt_iff {st q : Int} : isSt st q = true ↔ 0 ≤ q ∧ q < st := by simp [isSt]
theorem ok_iff {st : Int} {e : Edge} : e.ok st = true ↔ (0 ≤ e.frm ∧ e.frm < st) ∧ 0 ≤ e.to ∧ e.to < st := by simp [Edge.ok, isSt_iff]
theorem may_iff {n : Net} : n.may = true ↔ 1 ≤ n.st ∧ n.st ≤ 500 ∧ (0 ≤ n.start ∧ n.start < n.st) ∧ (0 ≤ n.fin ∧ n.fin < n.st) ∧ ∀ e ∈ n.edges, e.ok n.st = true := by
  simp [Net.may, isSt_iff, and_assoc]
theorem good_may (n : Net) : (good n).may = true := by
  have h := goodSt_range n
  have h1 := @roundI_range n.start (goodSt n) (by omega)
  have h2 := @roundI_range n.fin (goodSt n) (by omega)
  rw [may_iff]
  refine ⟨h.1, by show goodSt n ≤ 500; omega, h1, h2, ?_⟩
  intro e he
  simp only [good, List.mem_map] at he
  obtain ⟨e', _, rfl⟩ := he
  have h3 := @roundI_range e'.frm (goodSt n) (by omega)
  have h4 := @roundI_range e'.to (goodSt n) (by omega)
  exact ok_iff.2 ⟨h3, h4⟩

/-! closures -/
inductive Eps (by_ : Edge → Bool) (es : List Edge) (S : Int → Prop) : Int → Prop
  | base {q : Int} : S q → Eps by_ es S q
  | step {e : Edge} : e ∈ es → by_ e = true → Eps by_ es S e.frm → Eps by_ es S e.to

def StepP (es : List Edge) (c : Int) (S : Int → Prop) (q : Int) : Prop := ∃ e ∈ es, e.takes c = true ∧ S e.frm ∧ q = e.to

def Run (n : Net) : List UInt8 → (Int → Prop) → (Int → Prop)
  | [], S => S
  | c :: s, S => Run n s (Eps Edge.none_ n.edges (StepP n.edges c.toNat S))
def start0 (n : Net) : Int → Prop := Eps Edge.none_ n.edges (fun q => q = n.start)
def AccP (n : Net) (s : List UInt8) : Prop := Run n s (start0 n) n.fin

theorem Run_snoc (n : Net) (s : List UInt8) (c : UInt8) (S : Int → Prop) : Run n (s ++ [c]) S = Eps Edge.none_ n.edges (StepP n.edges c.toNat (Run n s S)) := by
  induction s generalizing S with
  | nil => rfl
  | cons d s ih => simpa [Run] using ih _

/-- A rising list of states. -/
noncomputable def rising (st : Int) (P : Int → Prop) : List Int := ((List.range st.toNat).map Int.ofNat).filter (fun q => @decide (P q) (Classical.propDecidable _))
theorem mem_rising {st : Int} {P : Int → Prop} {q : Int} : q ∈ rising st P ↔ 0 ≤ q ∧ q < st ∧ P q := by
  unfold rising
  simp only [List.mem_filter, List.mem_map, List.mem_range, decide_eq_true_eq]
  constructor
  · rintro ⟨⟨a, ha, rfl⟩, hp⟩
    exact ⟨Int.natCast_nonneg a, by simp only [Int.ofNat_eq_natCast]; omega, hp⟩
  · rintro ⟨h0, h1, hp⟩
    exact ⟨⟨q.toNat, by omega, by simp; omega⟩, hp⟩
theorem rising_congr {st : Int} {P Q : Int → Prop} (h : ∀ q, 0 ≤ q → q < st → (P q ↔ Q q)) : rising st P = rising st Q := by
  unfold rising
  apply List.filter_congr
  intro q hq
  simp only [List.mem_map, List.mem_range] at hq
  obtain ⟨a, ha, rfl⟩ := hq
  have := h (Int.ofNat a) (Int.natCast_nonneg a) (by simp only [Int.ofNat_eq_natCast]; omega)
  rw [propext this]

theorem rising_zero (P : Int → Prop) : rising 0 P = [] := rfl
theorem rising_yes {k : Nat} {P : Int → Prop} (h : P k) : rising ((k : Int) + 1) P = rising k P ++ [(k : Int)] := by
  unfold rising
  rw [show ((k : Int) + 1).toNat = k + 1 from by omega, List.range_succ, List.map_append, List.filter_append]
  simp [h]
theorem rising_no {k : Nat} {P : Int → Prop} (h : ¬ P k) : rising ((k : Int) + 1) P = rising k P := by
  unfold rising
  rw [show ((k : Int) + 1).toNat = k + 1 from by omega, List.range_succ, List.map_append, List.filter_append]
  simp [h]
theorem rising_length (k : Nat) (P : Int → Prop) : (rising k P).length ≤ k := by
  unfold rising
  refine Nat.le_trans (List.length_filter_le _ _) ?_
  simp
theorem Eps_mono {by_ : Edge → Bool} {es : List Edge} {S T : Int → Prop} (h : ∀ q, S q → T q) {q : Int} (hq : Eps by_ es S q) : Eps by_ es T q := by
  induction hq with
  | base h1 => exact .base (h _ h1)
  | step h1 h2 _ ih => exact .step h1 h2 ih
theorem Eps_in {by_ : Edge → Bool} {es : List Edge} {S : Int → Prop} {st : Int} (hS : ∀ q, S q → 0 ≤ q ∧ q < st) (he : ∀ e ∈ es, e.ok st = true) {q : Int} (hq : Eps by_ es S q) : 0 ≤ q ∧ q < st := by
  induction hq with
  | base h1 => exact hS _ h1
  | step h1 _ _ _ =>
    exact (ok_iff.1 (he _ h1)).2
/-- A set that holds S and is closed under the edges holds the closure. -/
theorem Eps_least {by_ : Edge → Bool} {es : List Edge} {S T : Int → Prop} (hb : ∀ q, S q → T q) (hc : ∀ e ∈ es, by_ e = true → T e.frm → T e.to) {q : Int} (hq : Eps by_ es S q) : T q := by
  induction hq with
  | base h1 => exact hb _ h1
  | step h1 h2 _ ih => exact hc _ h1 h2 ih

/-! a list that grows to its closure -/
theorem nodup_range {l : List Int} (n : Nat) : l.Nodup → (∀ q ∈ l, 0 ≤ q ∧ q < n) → l.length ≤ n := by
  induction n generalizing l with
  | zero =>
    intro _ h
    cases l with
    | nil => simp
    | cons x l => have := h x (by simp); omega
  | succ n ih =>
    intro hn h
    by_cases hin : (n : Int) ∈ l
    · have h1 := ih (l := l.erase n) (hn.erase _) (by
        intro q hq
        have h2 := (hn.mem_erase_iff).1 hq
        have := h q h2.2
        have h3 := h2.1
        omega)
      rw [List.length_erase_of_mem hin] at h1
      omega
    · have h1 := ih hn (by
        intro q hq
        have := h q hq
        by_cases e : q = n
        · subst e; exact absurd hq hin
        · omega)
      omega

structure CInv (by_ : Edge → Bool) (es : List Edge) (st : Int) (S0 : Int → Prop) (out : List Int) (i : Nat) : Prop where
  nodup : out.Nodup
  rng : ∀ q ∈ out, 0 ≤ q ∧ q < st
  sub : ∀ q ∈ out, Eps by_ es S0 q
  base : ∀ q, S0 q → q ∈ out
  cl : ∀ j, j < i → ∀ q, out[j]? = some q → ∀ e ∈ es, by_ e = true → e.frm = q → e.to ∈ out
theorem CInv.length {by_ : Edge → Bool} {es : List Edge} {st : Int} {S0 : Int → Prop} {out : List Int} {i : Nat} (h : CInv by_ es st S0 out i) (hst : 0 ≤ st) : (out.length : Int) ≤ st := by
  obtain ⟨n, rfl⟩ := Int.eq_ofNat_of_zero_le hst
  have := nodup_range n h.nodup h.rng
  omega
theorem CInv.done {by_ : Edge → Bool} {es : List Edge} {st : Int} {S0 : Int → Prop} {out : List Int} {i : Nat} (h : CInv by_ es st S0 out i) (hi : out.length ≤ i) (q : Int) : q ∈ out ↔ Eps by_ es S0 q := by
  refine ⟨h.sub q, fun hq => Eps_least (T := (· ∈ out)) h.base ?_ hq⟩
  intro e he hb hf
  obtain ⟨j, hj⟩ := List.getElem?_of_mem hf
  have hlt := (List.getElem?_eq_some_iff.1 hj).1
  exact h.cl j (by omega) _ hj e he hb rfl
theorem CInv.push {by_ : Edge → Bool} {es : List Edge} {st : Int} {S0 : Int → Prop} {out : List Int} {i : Nat} (h : CInv by_ es st S0 out i) (hes : ∀ e ∈ es, e.ok st = true) {e : Edge} (he : e ∈ es) (hb : by_ e = true) (hf : e.frm ∈ out) (hn : ¬ e.to ∈ out) (hi : i ≤ out.length) : CInv by_ es st S0 (out ++ [e.to]) i := by
  refine ⟨?_, ?_, ?_, ?_, ?_⟩
  · rw [List.nodup_append]
    refine ⟨h.nodup, by simp, ?_⟩
    intro a ha b hb'
    simp only [List.mem_singleton] at hb'
    subst hb'
    rintro rfl
    exact hn ha
  · intro q hq
    rcases List.mem_append.1 hq with hq | hq
    · exact h.rng q hq
    · simp only [List.mem_singleton] at hq; subst hq; exact (ok_iff.1 (hes e he)).2
  · intro q hq
    rcases List.mem_append.1 hq with hq | hq
    · exact h.sub q hq
    · simp only [List.mem_singleton] at hq; subst hq; exact .step he hb (h.sub _ hf)
  · intro q hq; exact List.mem_append_left _ (h.base q hq)
  · intro j hj q hq e' he' hb' hf'
    rw [List.getElem?_append_left (by omega)] at hq
    exact List.mem_append_left _ (h.cl j hj q hq e' he' hb' hf')
/-- While the edges of one state are gone through. -/
structure CIn (by_ : Edge → Bool) (es : List Edge) (st : Int) (S0 : Int → Prop) (out : List Int) (i : Nat) (q : Int) (k : Nat) : Prop where
  inv : CInv by_ es st S0 out i
  at_ : out[i]? = some q
  cl : ∀ e ∈ es.take k, by_ e = true → e.frm = q → e.to ∈ out
theorem CIn.next {by_ : Edge → Bool} {es : List Edge} {st : Int} {S0 : Int → Prop} {out : List Int} {i : Nat} {q : Int} {k : Nat} (h : CIn by_ es st S0 out i q k) {e : Edge} (he : es[k]? = some e) (hc : by_ e = true → e.frm = q → e.to ∈ out) : CIn by_ es st S0 out i q (k + 1) := by
  refine ⟨h.inv, h.at_, ?_⟩
  intro e' he' hb hf
  rw [List.take_add_one, he] at he'
  simp only [Option.toList_some, List.mem_append, List.mem_singleton] at he'
  rcases he' with he' | rfl
  · exact h.cl e' he' hb hf
  · exact hc hb hf
theorem CIn.push {by_ : Edge → Bool} {es : List Edge} {st : Int} {S0 : Int → Prop} {out : List Int} {i : Nat} {q : Int} {k : Nat} (h : CIn by_ es st S0 out i q k) (hes : ∀ e ∈ es, e.ok st = true) {e : Edge} (he : es[k]? = some e) (hb : by_ e = true) (hf : e.frm = q) (hn : ¬ e.to ∈ out) : CIn by_ es st S0 (out ++ [e.to]) i q (k + 1) := by
  have hil := (List.getElem?_eq_some_iff.1 h.at_).1
  have h1 : CIn by_ es st S0 (out ++ [e.to]) i q k := by
    refine ⟨h.inv.push hes (List.mem_of_getElem? he) hb (by rw [hf]; exact List.mem_of_getElem? h.at_) hn (by omega), ?_, ?_⟩
    · rw [List.getElem?_append_left hil]; exact h.at_
    · intro e' he' hb' hf'; exact List.mem_append_left _ (h.cl e' he' hb' hf')
  exact h1.next he (fun _ _ => by simp)
theorem CIn.end_ {by_ : Edge → Bool} {es : List Edge} {st : Int} {S0 : Int → Prop} {out : List Int} {i : Nat} {q : Int} {k : Nat} (h : CIn by_ es st S0 out i q k) (hk : es.length ≤ k) : CInv by_ es st S0 out (i + 1) := by
  refine ⟨h.inv.nodup, h.inv.rng, h.inv.sub, h.inv.base, ?_⟩
  intro j hj p hp e he hb hf
  by_cases hji : j = i
  · subst hji
    rw [h.at_] at hp
    injection hp with hp
    subst hp
    exact h.cl e (by rw [List.take_of_length_le hk]; exact he) hb hf
  · exact h.inv.cl j (by omega) p hp e he hb hf
theorem CInv.start {by_ : Edge → Bool} {es : List Edge} {st : Int} {S0 : Int → Prop} {out : List Int} (hn : out.Nodup) (hr : ∀ q ∈ out, 0 ≤ q ∧ q < st) (hs : ∀ q, q ∈ out ↔ S0 q) : CInv by_ es st S0 out 0 :=
  ⟨hn, hr, fun q hq => .base ((hs q).1 hq), fun q hq => (hs q).2 hq, fun j hj => absurd hj (by omega)⟩
theorem rising_nodup (st : Int) (P : Int → Prop) : (rising st P).Nodup := by
  unfold rising
  refine List.Pairwise.filter _ ?_
  rw [List.pairwise_map]
  refine List.Pairwise.imp ?_ List.nodup_range
  intro a b h e
  exact h (Int.ofNat.inj e)

/-! the edges of a net by the state that they go from: of each state the last one, of each edge the one ahead of it, from 1 on -/
def prevIdx (by_ : Edge → Bool) (es : List Edge) (q : Int) : Nat → Nat
  | 0 => 0
  | k + 1 => match es[k]? with
    | some e => if by_ e && e.frm == q then k + 1 else prevIdx by_ es q k
    | none => prevIdx by_ es q k
def linkF (by_ : Edge → Bool) (es : List Edge) (k j : Nat) : Nat :=
  if j < k then (match es[j]? with
    | some e => if by_ e then prevIdx by_ es e.frm j else 0
    | none => 0) else 0
theorem prevIdx_le (by_ : Edge → Bool) (es : List Edge) (q : Int) (k : Nat) : prevIdx by_ es q k ≤ k := by
  induction k with
  | zero => simp [prevIdx]
  | succ k ih =>
    unfold prevIdx
    split
    · split <;> omega
    · omega
theorem prevIdx_yes {by_ : Edge → Bool} {es : List Edge} {q : Int} {k : Nat} {e : Edge} (he : es[k]? = some e) (hb : by_ e = true) (hf : e.frm = q) : prevIdx by_ es q (k + 1) = k + 1 := by
  simp [prevIdx, he, hb, hf]
theorem prevIdx_no {by_ : Edge → Bool} {es : List Edge} {q : Int} {k : Nat} {e : Edge} (he : es[k]? = some e) (h : by_ e = false ∨ e.frm ≠ q) : prevIdx by_ es q (k + 1) = prevIdx by_ es q k := by
  rw [prevIdx, he]
  rcases h with h | h <;> simp [h]
theorem linkF_at {by_ : Edge → Bool} {es : List Edge} {k : Nat} {e : Edge} (he : es[k]? = some e) (hb : by_ e = true) : linkF by_ es (k + 1) k = prevIdx by_ es e.frm k := by
  simp [linkF, he, hb]
theorem linkF_not {by_ : Edge → Bool} {es : List Edge} {k : Nat} {e : Edge} (he : es[k]? = some e) (hb : by_ e = false) : linkF by_ es (k + 1) k = 0 := by
  simp [linkF, he, hb]
theorem linkF_ge {by_ : Edge → Bool} {es : List Edge} {k j : Nat} (h : k ≤ j) : linkF by_ es k j = 0 := by
  simp [linkF]; omega
theorem linkF_ne {by_ : Edge → Bool} {es : List Edge} {k j : Nat} (h : j ≠ k) : linkF by_ es (k + 1) j = linkF by_ es k j := by
  unfold linkF
  by_cases h1 : j < k
  · rw [if_pos (by omega), if_pos h1]
  · rw [if_neg (by omega), if_neg h1]
theorem prevIdx_some {by_ : Edge → Bool} {es : List Edge} {q : Int} {k a : Nat} (h : prevIdx by_ es q k = a + 1) : ∃ e, es[a]? = some e ∧ by_ e = true ∧ e.frm = q ∧ a < k ∧ ∀ j, a < j → j < k → ∀ e', es[j]? = some e' → by_ e' = true → e'.frm ≠ q := by
  induction k with
  | zero => simp [prevIdx] at h
  | succ k ih =>
    unfold prevIdx at h
    split at h
    · rename_i e he
      split at h
      · rename_i hc
        simp only [Bool.and_eq_true, beq_iff_eq] at hc
        obtain rfl : k = a := by omega
        exact ⟨e, he, hc.1, hc.2, by omega, fun j h1 h2 => absurd h2 (by omega)⟩
      · rename_i hc
        obtain ⟨e', h1, h2, h3, h4, h5⟩ := ih h
        refine ⟨e', h1, h2, h3, by omega, fun j hj1 hj2 e'' he'' hb'' => ?_⟩
        by_cases hjk : j = k
        · subst hjk
          rw [he] at he''
          injection he'' with he''
          subst he''
          simpa [hb''] using hc
        · exact h5 j hj1 (by omega) e'' he'' hb''
    · rename_i he
      obtain ⟨e', h1, h2, h3, h4, h5⟩ := ih h
      refine ⟨e', h1, h2, h3, by omega, fun j hj1 hj2 e'' he'' hb'' => ?_⟩
      by_cases hjk : j = k
      · subst hjk; rw [he] at he''; cases he''
      · exact h5 j hj1 (by omega) e'' he'' hb''
theorem prevIdx_none {by_ : Edge → Bool} {es : List Edge} {q : Int} {k : Nat} (h : prevIdx by_ es q k = 0) : ∀ j, j < k → ∀ e', es[j]? = some e' → by_ e' = true → e'.frm ≠ q := by
  induction k with
  | zero => intro j hj; omega
  | succ k ih =>
    unfold prevIdx at h
    intro j hj e' he' hb'
    split at h
    · rename_i e he
      split at h
      · omega
      · rename_i hc
        by_cases hjk : j = k
        · subst hjk
          rw [he] at he'
          injection he' with he'
          subst he'
          simpa [hb'] using hc
        · exact ih h j (by omega) e' he' hb'
    · rename_i he
      by_cases hjk : j = k
      · subst hjk; rw [he] at he'; cases he'
      · exact ih h j (by omega) e' he' hb'

/-- While the edges of one state are gone through from the last one on. -/
structure CIr (by_ : Edge → Bool) (es : List Edge) (st : Int) (S0 : Int → Prop) (out : List Int) (i : Nat) (q : Int) (k : Nat) : Prop where
  inv : CInv by_ es st S0 out i
  at_ : out[i]? = some q
  cl : ∀ j, k ≤ j → ∀ e, es[j]? = some e → by_ e = true → e.frm = q → e.to ∈ out
theorem CIr.start {by_ : Edge → Bool} {es : List Edge} {st : Int} {S0 : Int → Prop} {out : List Int} {i : Nat} {q : Int} (h : CInv by_ es st S0 out i) (hq : out[i]? = some q) : CIr by_ es st S0 out i q es.length :=
  ⟨h, hq, fun j hj e he => by rw [List.getElem?_eq_none hj] at he; cases he⟩
theorem CIr.next {by_ : Edge → Bool} {es : List Edge} {st : Int} {S0 : Int → Prop} {out : List Int} {i : Nat} {q : Int} {k a : Nat} (h : CIr by_ es st S0 out i q k) (ha : prevIdx by_ es q k = a + 1) (hin : ∀ e, es[a]? = some e → e.to ∈ out) : CIr by_ es st S0 out i q a := by
  obtain ⟨e, he, hb, hf, hlt, hbt⟩ := prevIdx_some ha
  refine ⟨h.inv, h.at_, fun j hj e' he' hb' hf' => ?_⟩
  by_cases h1 : j = a
  · subst h1; exact hin e' he'
  · by_cases h2 : j < k
    · exact absurd hf' (hbt j (by omega) h2 e' he' hb')
    · exact h.cl j (by omega) e' he' hb' hf'
theorem CIr.push {by_ : Edge → Bool} {es : List Edge} {st : Int} {S0 : Int → Prop} {out : List Int} {i : Nat} {q : Int} {k a : Nat} (h : CIr by_ es st S0 out i q k) (hes : ∀ e ∈ es, e.ok st = true) (ha : prevIdx by_ es q k = a + 1) {e : Edge} (he : es[a]? = some e) (hn : ¬ e.to ∈ out) : CIr by_ es st S0 (out ++ [e.to]) i q a := by
  obtain ⟨e', he', hb, hf, hlt, hbt⟩ := prevIdx_some ha
  rw [he] at he'
  injection he' with he'
  subst he'
  have hil := (List.getElem?_eq_some_iff.1 h.at_).1
  have h1 : CIr by_ es st S0 (out ++ [e.to]) i q k := by
    refine ⟨h.inv.push hes (List.mem_of_getElem? he) hb (by rw [hf]; exact List.mem_of_getElem? h.at_) hn (by omega), ?_, ?_⟩
    · rw [List.getElem?_append_left hil]; exact h.at_
    · intro j hj e' he' hb' hf'; exact List.mem_append_left _ (h.cl j hj e' he' hb' hf')
  exact h1.next ha (fun e'' he'' => by rw [he] at he''; injection he'' with he''; subst he''; simp)
theorem CIr.end_ {by_ : Edge → Bool} {es : List Edge} {st : Int} {S0 : Int → Prop} {out : List Int} {i : Nat} {q : Int} {k : Nat} (h : CIr by_ es st S0 out i q k) (ha : prevIdx by_ es q k = 0) : CInv by_ es st S0 out (i + 1) := by
  refine ⟨h.inv.nodup, h.inv.rng, h.inv.sub, h.inv.base, ?_⟩
  intro j hj p hp e he hb hf
  by_cases hji : j = i
  · subst hji
    rw [h.at_] at hp
    injection hp with hp
    subst hp
    obtain ⟨x, hx⟩ := List.getElem?_of_mem he
    by_cases hxk : x < k
    · exact absurd hf (prevIdx_none ha x hxk e hx hb)
    · exact h.cl x (by omega) e hx hb hf
  · exact h.inv.cl j (by omega) p hp e he hb hf

/-! ways, and a net read from behind -/
inductive Way (es : List Edge) : Int → List UInt8 → Int → Prop
  | nil {q : Int} : Way es q [] q
  | eps {e : Edge} {s : List UInt8} {q : Int} : e ∈ es → e.none_ = true → Way es e.to s q → Way es e.frm s q
  | sign {e : Edge} {c : UInt8} {s : List UInt8} {q : Int} : e ∈ es → e.takes c.toNat = true → Way es e.to s q → Way es e.frm (c :: s) q

theorem Way.trans {es : List Edge} {p q r : Int} {s t : List UInt8} (h : Way es p s q) (k : Way es q t r) : Way es p (s ++ t) r := by
  induction h with
  | nil => exact k
  | eps h1 h2 _ ih => exact .eps h1 h2 (ih k)
  | sign h1 h2 _ ih => exact .sign h1 h2 (ih k)
theorem Way.rev {es : List Edge} {p q : Int} {s : List UInt8} (h : Way es p s q) : Way (es.map Edge.swap) q s.reverse p := by
  induction h with
  | nil => exact .nil
  | @eps e s q h1 h2 _ ih =>
    have := ih.trans (Way.eps (e := e.swap) (List.mem_map_of_mem h1) h2 .nil)
    simpa [Edge.swap] using this
  | @sign e c s q h1 h2 _ ih =>
    have := ih.trans (Way.sign (e := e.swap) (c := c) (List.mem_map_of_mem h1) h2 .nil)
    simpa [Edge.swap] using this
theorem swap_swap (es : List Edge) : (es.map Edge.swap).map Edge.swap = es := by
  simp [List.map_map, Function.comp_def, Edge.swap]

theorem Eps_iff_way {es : List Edge} {S : Int → Prop} {q : Int} : Eps Edge.none_ es S q ↔ ∃ p, S p ∧ Way es p [] q := by
  constructor
  · intro h
    induction h with
    | base h => exact ⟨_, h, .nil⟩
    | step h1 h2 _ ih =>
      obtain ⟨p, hp, hw⟩ := ih
      exact ⟨p, hp, by simpa using hw.trans (Way.eps h1 h2 .nil)⟩
  · rintro ⟨p, hp, hw⟩
    have gen : ∀ p s q, Way es p s q → s = [] → (∀ T : Int → Prop, T p → Eps Edge.none_ es T q) := by
      intro p s q h
      induction h with
      | nil => intro _ T hT; exact .base hT
      | @eps e s q h1 h2 _ ih =>
        intro hs T hT
        refine Eps_least (T := Eps Edge.none_ es T) ?_ (fun e he hn hT => .step he hn hT) (ih hs (fun x => x = e.to) rfl)
        rintro x rfl
        exact .step h1 h2 (.base hT)
      | sign => intro hs; cases hs
    exact gen p [] q hw rfl S hp

theorem Run_iff_way {n : Net} {s : List UInt8} {S : Int → Prop} {q : Int} (hS : ∀ q, Eps Edge.none_ n.edges S q → S q) : Run n s S q ↔ ∃ p, S p ∧ Way n.edges p s q := by
  induction s generalizing S with
  | nil =>
    constructor
    · intro h; exact ⟨q, h, .nil⟩
    · rintro ⟨p, hp, hw⟩; exact hS _ (Eps_iff_way.2 ⟨p, hp, hw⟩)
  | cons c s ih =>
    simp only [Run]
    rw [ih (by
      intro q hq
      exact Eps_least (fun _ h => h) (fun e he hn hT => .step he hn hT) hq)]
    constructor
    · rintro ⟨p, hp, hw⟩
      obtain ⟨p', ⟨e, he, ht, hs, rfl⟩, hw'⟩ := Eps_iff_way.1 hp
      exact ⟨e.frm, hs, .sign he ht (by simpa using hw'.trans hw)⟩
    · rintro ⟨p, hp, hw⟩
      have gen : ∀ cs p q, Way n.edges p cs q → cs = c :: s → S p → ∃ p', Eps Edge.none_ n.edges (StepP n.edges c.toNat S) p' ∧ Way n.edges p' s q := by
        intro cs p q h
        induction h with
        | nil => intro h; cases h
        | @eps e s' q h1 h2 _ ih =>
          intro hs hp
          exact ih hs (hS _ (.step h1 h2 (.base hp)))
        | @sign e c' s' q h1 h2 hw' ih =>
          intro hs hp
          injection hs with h3 h4
          subst h3; subst h4
          exact ⟨e.to, .base ⟨e, h1, h2, hp, rfl⟩, hw'⟩
      exact gen _ p q hw rfl hp

theorem AccP_iff_way {n : Net} {s : List UInt8} : AccP n s ↔ Way n.edges n.start s n.fin := by
  unfold AccP start0
  rw [Run_iff_way (by
    intro q hq
    exact Eps_least (fun _ h => h) (fun e he hn hT => .step he hn hT) hq)]
  constructor
  · rintro ⟨p, hp, hw⟩
    obtain ⟨p', rfl, hw'⟩ := Eps_iff_way.1 hp
    simpa using hw'.trans hw
  · intro h; exact ⟨n.start, .base rfl, h⟩

theorem AccP_back {n : Net} {s : List UInt8} : AccP n.back s.reverse ↔ AccP n s := by
  rw [AccP_iff_way, AccP_iff_way]
  constructor
  · intro h
    have := h.rev
    rw [List.reverse_reverse] at this
    simp only [Net.back, swap_swap] at this
    exact this
  · intro h; exact h.rev

theorem AccP_alone {n : Net} {s : List UInt8} (h : n.edges = []) : AccP n s ↔ s = [] ∧ n.start = n.fin := by
  rw [AccP_iff_way, h]
  constructor
  · generalize n.start = p
    generalize n.fin = q
    intro hw
    cases hw with
    | nil => exact ⟨rfl, rfl⟩
    | eps h1 => cases h1
    | sign h1 => cases h1
  · rintro ⟨rfl, h⟩; rw [h]; exact .nil
theorem swap_ok {st : Int} {e : Edge} : e.swap.ok st = e.ok st := by
  simp only [Edge.ok, Edge.swap, Bool.and_comm]
theorem back_may {n : Net} (h : n.may = true) : n.back.may = true := by
  obtain ⟨h1, h2, h3, h4, h5⟩ := may_iff.1 h
  refine may_iff.2 ⟨h1, h2, h4, h3, ?_⟩
  intro e he
  simp only [Net.back, List.mem_map] at he
  obtain ⟨e', h6, rfl⟩ := he
  exact swap_ok.trans (h5 _ h6)
end Go.Proofs.Ytaefhfldgemcnaa
