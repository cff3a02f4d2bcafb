/- The plain parser of expressions: what a reader makes of a text. No program in sight. -/
import Derived.Test.YtaefhfldgemcnaaPure
namespace Go.Proofs.Ytaefhfldgemcnaa

inductive T where
  | set (m : List Bool)
  | seq (l : List T)
  | alt (l : List T)
  | rep (p : T) (op : UInt8)

mutual
def T.size : T → Nat
  | .set _ => 1
  | .seq l => 1 + sizes l
  | .alt l => 1 + sizes l
  | .rep p _ => 1 + p.size
def sizes : List T → Nat
  | [] => 0
  | t :: l => t.size + sizes l
end

theorem sizes_append (a b : List T) : sizes (a ++ b) = sizes a + sizes b := by
  induction a with
  | nil => simp [sizes]
  | cons t l ih => simp [sizes, ih]; omega
theorem sizes_one (t : T) : sizes [t] = t.size := by simp [sizes]
theorem size_pos (t : T) : 1 ≤ t.size := by cases t <;> simp [T.size]

def noneM : List Bool := List.replicate 95 false
def everyM : List Bool := noneM.map (!·)
def singleM (c : Nat) : List Bool := noneM.set (c - 32) true
def rangeM (m : List Bool) (c : Nat) : Nat → List Bool
  | 0 => m
  | n + 1 => (rangeM m c n).set (c - 32 + n) true
theorem noneM_length : noneM.length = 95 := by simp [noneM]
theorem everyM_length : everyM.length = 95 := by simp [everyM, noneM]
theorem singleM_length (c : Nat) : (singleM c).length = 95 := by simp [singleM, noneM]
theorem rangeM_length {m : List Bool} (h : m.length = 95) (c n : Nat) : (rangeM m c n).length = 95 := by
  induction n with
  | zero => exact h
  | succ n ih => simp [rangeM, ih]

def rowT : List T → T
  | [t] => t
  | l => .seq l
def eitherT : List T → T
  | [] => .set noneM
  | [t] => t
  | l => .alt l
theorem rowT_size (l : List T) : (rowT l).size ≤ 1 + sizes l := by
  unfold rowT
  split
  · simp [sizes]
  · simp [T.size]
theorem eitherT_size (l : List T) : (eitherT l).size ≤ 1 + sizes l := by
  unfold eitherT
  split <;> simp [sizes, T.size]

def byteAt (s : ByteArray) (k : Nat) : UInt8 := if h : k < s.size then s[k] else 0
def inL (set : List UInt8) (c : UInt8) : Bool := set.contains c
def atL (s : ByteArray) (k : Nat) (set : List UInt8) : Bool := decide (k < s.size) && inL set (byteAt s k)
theorem atL_lt {s : ByteArray} {k : Nat} {set : List UInt8} (h : atL s k set = true) : k < s.size := by
  unfold atL at h; simp at h; exact h.1
def isS (c : UInt8) : Bool := decide (32 ≤ c.toNat) && decide (c.toNat ≤ 126)

/-- A sign: the byte, and where reading goes on. -/
def signF (s : ByteArray) (k : Nat) (n : List UInt8) : Option (UInt8 × Nat) :=
  if atL s k [92] then
    (if decide (k + 1 < s.size) && isS (byteAt s (k + 1)) then some (byteAt s (k + 1), k + 2) else none)
  else (if decide (k < s.size) && isS (byteAt s k) && !inL n (byteAt s k) then some (byteAt s k, k + 1) else none)
theorem signF_some {s : ByteArray} {k : Nat} {n : List UInt8} {c : UInt8} {k' : Nat} (h : signF s k n = some (c, k')) : k < k' ∧ k' ≤ s.size ∧ isS c = true := by
  unfold signF at h
  split at h
  · split at h
    · rename_i h1
      simp only [Option.some.injEq, Prod.mk.injEq] at h
      simp only [Bool.and_eq_true, decide_eq_true_eq] at h1
      obtain ⟨rfl, rfl⟩ := h
      exact ⟨by omega, by omega, h1.2⟩
    · cases h
  · split at h
    · rename_i h1
      simp only [Option.some.injEq, Prod.mk.injEq] at h
      simp only [Bool.and_eq_true, decide_eq_true_eq] at h1
      obtain ⟨rfl, rfl⟩ := h
      exact ⟨by omega, by omega, h1.1.2⟩
    · cases h

def spC : List UInt8 := [92, 93, 45, 94]
def spA : List UInt8 := [92, 40, 41, 91, 93, 124, 42, 43, 63, 46]

def itemF (s : ByteArray) (k : Nat) (m : List Bool) : Option (List Bool × Nat) :=
  match signF s k spC with
  | none => none
  | some (c, k1) =>
    if atL s k1 [45] then
      match signF s (k1 + 1) spC with
      | none => none
      | some (d, k2) => if d.toNat < c.toNat then none else some (rangeM m c.toNat (d.toNat + 1 - c.toNat), k2)
    else some (rangeM m c.toNat 1, k1)
theorem itemF_some {s : ByteArray} {k : Nat} {m m' : List Bool} {k' : Nat} (h : itemF s k m = some (m', k')) (hm : m.length = 95) : k < k' ∧ k' ≤ s.size ∧ m'.length = 95 := by
  unfold itemF at h
  split at h
  · cases h
  · rename_i c k1 h1
    have g1 := signF_some h1
    split at h
    · split at h
      · cases h
      · rename_i d k2 h2
        have g2 := signF_some h2
        split at h
        · cases h
        · simp only [Option.some.injEq, Prod.mk.injEq] at h
          obtain ⟨rfl, rfl⟩ := h
          exact ⟨by omega, g2.2.1, rangeM_length hm _ _⟩
    · simp only [Option.some.injEq, Prod.mk.injEq] at h
      obtain ⟨rfl, rfl⟩ := h
      exact ⟨g1.1, g1.2.1, rangeM_length hm _ _⟩

def classL (s : ByteArray) : Nat → List Bool → Bool → Nat → Option (List Bool × Nat)
  | 0, _, _, _ => none
  | f + 1, m, first, k =>
    if first || !atL s k [93] then
      match itemF s k m with
      | none => none
      | some (m', k') => classL s f m' false k'
    else some (m, k)
theorem classL_some {s : ByteArray} : ∀ {f : Nat} {m : List Bool} {first : Bool} {k : Nat} {m' : List Bool} {k' : Nat}, classL s f m first k = some (m', k') → m.length = 95 → k ≤ k' ∧ k' < s.size ∧ m'.length = 95 := by
  intro f
  induction f with
  | zero => intro m first k m' k' h; cases h
  | succ f ih =>
    intro m first k m' k' h hm
    unfold classL at h
    split at h
    · split at h
      · cases h
      · rename_i m1 k1 h1
        have g1 := itemF_some h1 hm
        have g2 := ih h g1.2.2
        exact ⟨by omega, g2.2⟩
    · rename_i h1
      simp only [Option.some.injEq, Prod.mk.injEq] at h
      obtain ⟨rfl, rfl⟩ := h
      simp only [Bool.or_eq_true, Bool.not_eq_true', not_or, Bool.not_eq_false] at h1
      exact ⟨Nat.le_refl _, atL_lt h1.2, hm⟩

def class0 (s : ByteArray) (k : Nat) : Nat := if atL s k [94] then k + 1 else k
def classT (s : ByteArray) (k : Nat) (m : List Bool) : T := .set (if atL s k [94] then m.map (!·) else m)
def classF (s : ByteArray) (k : Nat) : Option (T × Nat) :=
  match classL s (s.size + 1) noneM true (class0 s k) with
  | none => none
  | some (m, k') => some (classT s k m, k' + 1)
theorem classF_some {s : ByteArray} {k : Nat} {t : T} {k' : Nat} (h : classF s k = some (t, k')) : k < k' ∧ k' ≤ s.size ∧ t.size = 1 := by
  unfold classF at h
  split at h
  · cases h
  · rename_i m k1 h1
    simp only [Option.some.injEq, Prod.mk.injEq] at h
    obtain ⟨rfl, rfl⟩ := h
    have g := classL_some h1 noneM_length
    have : k ≤ class0 s k := by unfold class0; split <;> omega
    exact ⟨by omega, by omega, by simp [classT, T.size]⟩

def repsF (s : ByteArray) : Nat → T → Nat → T × Nat
  | 0, p, k => (p, k)
  | f + 1, p, k => if atL s k [42, 43, 63] then repsF s f (.rep p (byteAt s k)) (k + 1) else (p, k)
def reps (s : ByteArray) (p : T) (k : Nat) : T × Nat := repsF s (s.size - k) p k
theorem reps_yes {s : ByteArray} {p : T} {k : Nat} (h : atL s k [42, 43, 63] = true) : reps s p k = reps s (.rep p (byteAt s k)) (k + 1) := by
  have := atL_lt h
  unfold reps
  rw [show s.size - k = (s.size - (k + 1)) + 1 from by omega]
  show (if _ then _ else _) = _
  rw [if_pos h]
theorem reps_no {s : ByteArray} {p : T} {k : Nat} (h : atL s k [42, 43, 63] = false) : reps s p k = (p, k) := by
  unfold reps
  cases hk : s.size - k with
  | zero => rfl
  | succ n =>
    show (if _ then _ else _) = _
    rw [if_neg (by rw [h]; decide)]
theorem repsF_le (s : ByteArray) : ∀ (f : Nat) (p : T) (k : Nat), k ≤ s.size → k ≤ (repsF s f p k).2 ∧ (repsF s f p k).2 ≤ s.size ∧ (repsF s f p k).1.size ≤ p.size + ((repsF s f p k).2 - k) := by
  intro f
  induction f with
  | zero => intro p k h; exact ⟨Nat.le_refl _, h, by simp [repsF]⟩
  | succ f ih =>
    intro p k h
    unfold repsF
    split
    · rename_i h1
      have := atL_lt h1
      have g := ih (.rep p (byteAt s k)) (k + 1) (by omega)
      simp only [T.size] at g
      exact ⟨by omega, g.2.1, by omega⟩
    · exact ⟨Nat.le_refl _, h, by simp⟩

mutual
def exprF (s : ByteArray) : Nat → List T → Nat → Option (T × Nat)
  | 0, _, _ => none
  | f + 1, acc, k =>
    match branchF s f [] k with
    | none => none
    | some (p, k') => if atL s k' [124] then exprF s f (acc ++ [p]) (k' + 1) else some (eitherT (acc ++ [p]), k')
def branchF (s : ByteArray) : Nat → List T → Nat → Option (T × Nat)
  | 0, _, _ => none
  | f + 1, acc, k =>
    if decide (k < s.size) && !atL s k [124, 41] then
      match atomF s f k with
      | none => none
      | some (p, k') => branchF s f (acc ++ [(reps s p k').1]) (reps s p k').2
    else some (rowT acc, k)
def atomF (s : ByteArray) : Nat → Nat → Option (T × Nat)
  | 0, _ => none
  | f + 1, k =>
    if atL s k [40] then
      match exprF s f [] (k + 1) with
      | none => none
      | some (p, k') => if atL s k' [41] then some (p, k' + 1) else none
    else if atL s k [46] then some (.set everyM, k + 1)
    else if atL s k [91] then classF s (k + 1)
    else match signF s k spA with
      | none => none
      | some (c, k') => some (.set (singleM c.toNat), k')
end

structure PFacts (s : ByteArray) (f : Nat) : Prop where
  e : ∀ (acc : List T) (k : Nat) (t : T) (k' : Nat), k ≤ s.size → exprF s f acc k = some (t, k') → k ≤ k' ∧ k' ≤ s.size ∧ t.size ≤ sizes acc + 3 * (k' - k) + 2
  b : ∀ (acc : List T) (k : Nat) (t : T) (k' : Nat), k ≤ s.size → branchF s f acc k = some (t, k') → k ≤ k' ∧ k' ≤ s.size ∧ t.size ≤ sizes acc + 3 * (k' - k) + 1
  a : ∀ (k : Nat) (t : T) (k' : Nat), k ≤ s.size → atomF s f k = some (t, k') → k < k' ∧ k' ≤ s.size ∧ t.size ≤ 3 * (k' - k)

theorem pfacts (s : ByteArray) (f : Nat) : PFacts s f := by
  induction f with
  | zero => exact ⟨fun _ _ _ _ _ h => by simp [exprF] at h, fun _ _ _ _ _ h => by simp [branchF] at h, fun _ _ _ _ h => by simp [atomF] at h⟩
  | succ f ih =>
    refine ⟨?_, ?_, ?_⟩
    · intro acc k t k' hk h
      rw [exprF] at h
      split at h
      · cases h
      · rename_i p k1 h1
        have g1 := ih.b _ _ _ _ hk h1
        simp only [sizes] at g1
        split at h
        · rename_i h2
          have l2 := atL_lt h2
          have g2 := ih.e _ _ _ _ (by omega) h
          rw [sizes_append, sizes_one] at g2
          exact ⟨by omega, g2.2.1, by omega⟩
        · simp only [Option.some.injEq, Prod.mk.injEq] at h
          obtain ⟨rfl, rfl⟩ := h
          have g3 := eitherT_size (acc ++ [p])
          rw [sizes_append, sizes_one] at g3
          exact ⟨g1.1, g1.2.1, by omega⟩
    · intro acc k t k' hk h
      rw [branchF] at h
      split at h
      · split at h
        · cases h
        · rename_i p k1 h1
          have g1 := ih.a _ _ _ hk h1
          have g2 := repsF_le s (s.size - k1) p k1 g1.2.1
          have g3 := ih.b _ _ _ _ g2.2.1 h
          rw [sizes_append, sizes_one] at g3
          unfold reps at g3
          exact ⟨by omega, g3.2.1, by omega⟩
      · simp only [Option.some.injEq, Prod.mk.injEq] at h
        obtain ⟨rfl, rfl⟩ := h
        have g3 := rowT_size acc
        exact ⟨Nat.le_refl _, hk, by omega⟩
    · intro k t k' hk h
      rw [atomF] at h
      split at h
      · rename_i h0
        have l0 := atL_lt h0
        split at h
        · cases h
        · rename_i p k1 h1
          have g1 := ih.e _ _ _ _ (by omega) h1
          simp only [sizes] at g1
          split at h
          · rename_i h2
            have l2 := atL_lt h2
            simp only [Option.some.injEq, Prod.mk.injEq] at h
            obtain ⟨rfl, rfl⟩ := h
            exact ⟨by omega, by omega, by omega⟩
          · cases h
      · split at h
        · rename_i h0
          have l0 := atL_lt h0
          simp only [Option.some.injEq, Prod.mk.injEq] at h
          obtain ⟨rfl, rfl⟩ := h
          exact ⟨by omega, by omega, by simp only [T.size]; omega⟩
        · split at h
          · rename_i h0
            have l0 := atL_lt h0
            have g := classF_some h
            exact ⟨by omega, g.2.1, by omega⟩
          · split at h
            · cases h
            · rename_i c k1 h1
              have g := signF_some h1
              simp only [Option.some.injEq, Prod.mk.injEq] at h
              obtain ⟨rfl, rfl⟩ := h
              exact ⟨g.1, g.2.1, by simp only [T.size]; omega⟩

/-- The whole: none if it is no expression. -/
def parseF (s : ByteArray) : Option T :=
  match exprF s (3 * s.size + 3) [] 0 with
  | none => none
  | some (t, k) => if k < s.size then none else some t
theorem parseF_size {s : ByteArray} {t : T} (h : parseF s = some t) : t.size ≤ 3 * s.size + 2 := by
  unfold parseF at h
  split at h
  · cases h
  · rename_i t' k h1
    have g := (pfacts s _).e _ _ _ _ (Nat.zero_le _) h1
    simp only [sizes] at g
    split at h
    · cases h
    · simp only [Option.some.injEq] at h
      subst h
      omega
end Go.Proofs.Ytaefhfldgemcnaa
