/- The plain mathematics of accepting: sets of states, sign by sign. -/
import Derived.Test.YtaefhfldgemcnaaPure
namespace Go.Proofs.Ytaefhfldgemcnaa

noncomputable def accB (n : Net) (s : List UInt8) : Bool := @decide (AccP n s) (Classical.propDecidable _)
theorem accB_yes {n : Net} {s : List UInt8} (h : AccP n s) : accB n s = true := by unfold accB; exact @decide_eq_true _ (Classical.propDecidable _) h
theorem accB_no {n : Net} {s : List UInt8} (h : ¬ AccP n s) : accB n s = false := by unfold accB; exact @decide_eq_false _ (Classical.propDecidable _) h
theorem accB_iff {n m : Net} {s t : List UInt8} (h : AccP n s ↔ AccP m t) : accB n s = accB m t := by
  by_cases hm : AccP m t
  · rw [accB_yes hm, accB_yes (h.2 hm)]
  · rw [accB_no hm, accB_no (fun h' => hm (h.1 h'))]
theorem Run_append (n : Net) (s t : List UInt8) (S : Int → Prop) : Run n (s ++ t) S = Run n t (Run n s S) := by
  induction s generalizing S with
  | nil => rfl
  | cons c s ih => exact ih _
theorem Run_empty {n : Net} {t : List UInt8} {S : Int → Prop} (h : ∀ q, ¬ S q) (q : Int) : ¬ Run n t S q := by
  induction t generalizing S with
  | nil => exact h q
  | cons c t ih =>
    refine ih (fun q hq => ?_)
    exact Eps_least (T := fun _ => False) (fun x hx => by obtain ⟨e, _, _, h1, _⟩ := hx; exact h _ h1) (fun _ _ _ h => h) hq
theorem Run_in {n : Net} (hm : n.may = true) {s : List UInt8} {q : Int} (h : Run n s (start0 n) q) : 0 ≤ q ∧ q < n.st := by
  obtain ⟨_, _, h3, _, h5⟩ := may_iff.1 hm
  have key : ∀ (s : List UInt8) (S : Int → Prop), (∀ q, S q → 0 ≤ q ∧ q < n.st) → ∀ q, Run n s S q → 0 ≤ q ∧ q < n.st := by
    intro s
    induction s with
    | nil => intro S hS q hq; exact hS q hq
    | cons c s ih =>
      intro S hS q hq
      refine ih _ (fun q hq => Eps_in ?_ h5 hq) q hq
      rintro x ⟨e, he, _, _, rfl⟩
      exact (ok_iff.1 (h5 e he)).2
  exact key s _ (fun q hq => Eps_in (fun x hx => by subst hx; exact h3) h5 hq) q h
/-- What one more sign reaches, out of lists. -/
theorem Run_next {n : Net} {s : List UInt8} {c : UInt8} {xs ys zs : List Int} (hx : ∀ q, q ∈ xs ↔ Run n s (start0 n) q) (hy : ∀ q, q ∈ ys ↔ StepP n.edges c.toNat (· ∈ xs) q) (hz : ∀ q, q ∈ zs ↔ Eps Edge.none_ n.edges (· ∈ ys) q) (q : Int) : q ∈ zs ↔ Run n (s ++ [c]) (start0 n) q := by
  rw [Run_snoc, hz]
  have e1 : (fun x => x ∈ xs) = Run n s (start0 n) := by funext x; exact propext (hx x)
  have e2 : (fun x => x ∈ ys) = StepP n.edges c.toNat (Run n s (start0 n)) := by funext x; rw [← e1]; exact propext (hy x)
  rw [e2]
theorem takes_some {e : Edge} {c : Int} (h : e.takes c = true) : (!e.none_) = true := by
  simp only [Edge.takes, Edge.none_, Bool.and_eq_true, decide_eq_true_eq, Bool.not_eq_true', decide_eq_false_iff_not] at h ⊢
  omega
/-- The states that a sign goes to from those of a list, and from one more by the edges from i on. -/
structure NInv (es : List Edge) (st : Nat) (c : Int) (ps : List Int) (q : Int) (i : Nat) (ys : List Int) : Prop where
  nodup : ys.Nodup
  rng : ∀ x ∈ ys, 0 ≤ x ∧ x < (st : Int)
  set : ∀ x, x ∈ ys ↔ StepP es c (· ∈ ps) x ∨ ∃ j e, i ≤ j ∧ es[j]? = some e ∧ e.takes c = true ∧ e.frm = q ∧ e.to = x
theorem NInv.skip {es : List Edge} {st : Nat} {c : Int} {ps : List Int} {q : Int} {i a : Nat} {ys : List Int} (h : NInv es st c ps q i ys) (ha : prevIdx (fun e => !e.none_) es q i = a + 1) (hs : ∀ e, es[a]? = some e → e.takes c = true → e.to ∈ ys) : NInv es st c ps q a ys := by
  obtain ⟨e, he, hb, hf, hlt, hbt⟩ := prevIdx_some ha
  refine ⟨h.nodup, h.rng, fun x => ?_⟩
  rw [h.set]
  constructor
  · rintro (h1 | ⟨j, e', h1, h2, h3, h4, h5⟩)
    · exact .inl h1
    · exact .inr ⟨j, e', by omega, h2, h3, h4, h5⟩
  · rintro (h1 | ⟨j, e', h1, h2, h3, h4, h5⟩)
    · exact .inl h1
    · by_cases hja : j = a
      · subst hja
        have := hs e' h2 h3
        rw [h5] at this
        exact (h.set x).1 this
      · by_cases hji : j < i
        · exact absurd h4 (hbt j (by omega) hji e' h2 (takes_some h3))
        · exact .inr ⟨j, e', by omega, h2, h3, h4, h5⟩
theorem NInv.push {es : List Edge} {st : Nat} {c : Int} {ps : List Int} {q : Int} {i a : Nat} {ys : List Int} (h : NInv es st c ps q i ys) (ha : prevIdx (fun e => !e.none_) es q i = a + 1) {e : Edge} (he : es[a]? = some e) (hok : e.ok (st : Int) = true) (ht : e.takes c = true) (hn : ¬ e.to ∈ ys) : NInv es st c ps q a (ys ++ [e.to]) := by
  obtain ⟨e', he', hb, hf, hlt, hbt⟩ := prevIdx_some ha
  rw [he] at he'
  injection he' with he'
  subst he'
  refine ⟨?_, ?_, fun x => ?_⟩
  · rw [List.nodup_append]
    refine ⟨h.nodup, by simp, ?_⟩
    intro y hy b hb'
    simp only [List.mem_singleton] at hb'
    subst hb'
    rintro rfl
    exact hn hy
  · intro x hx
    rcases List.mem_append.1 hx with hx | hx
    · exact h.rng x hx
    · simp only [List.mem_singleton] at hx; subst hx; exact (ok_iff.1 hok).2
  · rw [List.mem_append, h.set, List.mem_singleton]
    constructor
    · rintro ((h1 | ⟨j, e', h1, h2, h3, h4, h5⟩) | h1)
      · exact .inl h1
      · exact .inr ⟨j, e', by omega, h2, h3, h4, h5⟩
      · exact .inr ⟨a, e, Nat.le_refl _, he, ht, hf, h1.symm⟩
    · rintro (h1 | ⟨j, e', h1, h2, h3, h4, h5⟩)
      · exact .inl (.inl h1)
      · by_cases hja : j = a
        · subst hja
          rw [he] at h2
          injection h2 with h2
          subst h2
          exact .inr h5.symm
        · by_cases hji : j < i
          · exact absurd h4 (hbt j (by omega) hji e' h2 (takes_some h3))
          · exact .inl (.inr ⟨j, e', by omega, h2, h3, h4, h5⟩)
theorem NInv.start {es : List Edge} {st : Nat} {c : Int} {ps : List Int} {q : Int} {ys : List Int} (hn : ys.Nodup) (hr : ∀ x ∈ ys, 0 ≤ x ∧ x < (st : Int)) (hs : ∀ x, x ∈ ys ↔ StepP es c (· ∈ ps) x) : NInv es st c ps q es.length ys :=
  ⟨hn, hr, fun x => by
    rw [hs]
    exact ⟨.inl, fun h => h.elim id (fun ⟨j, e, h1, h2, _⟩ => by rw [List.getElem?_eq_none h1] at h2; cases h2)⟩⟩
theorem NInv.end_ {es : List Edge} {st : Nat} {c : Int} {ps : List Int} {q : Int} {i : Nat} {ys : List Int} (h : NInv es st c ps q i ys) (ha : prevIdx (fun e => !e.none_) es q i = 0) (x : Int) : x ∈ ys ↔ StepP es c (· ∈ ps ++ [q]) x := by
  rw [h.set]
  constructor
  · rintro (⟨e, h1, h2, h3, h4⟩ | ⟨j, e, h1, h2, h3, h4, h5⟩)
    · exact ⟨e, h1, h2, List.mem_append_left _ h3, h4⟩
    · exact ⟨e, List.mem_of_getElem? h2, h3, by rw [h4]; simp, h5.symm⟩
  · rintro ⟨e, h1, h2, h3, h4⟩
    rcases List.mem_append.1 h3 with h3 | h3
    · exact .inl ⟨e, h1, h2, h3, h4⟩
    · simp only [List.mem_singleton] at h3
      obtain ⟨j, hj⟩ := List.getElem?_of_mem h1
      by_cases hji : j < i
      · exact absurd h3 (prevIdx_none ha j hji e hj (takes_some h2))
      · exact .inr ⟨j, e, by omega, hj, h2, h3, h4.symm⟩
end Go.Proofs.Ytaefhfldgemcnaa
