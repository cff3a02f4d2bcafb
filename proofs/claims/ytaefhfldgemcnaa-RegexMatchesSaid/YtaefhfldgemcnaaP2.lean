/- The plain nets of trees. No program in sight. -/
import Derived.Test.YtaefhfldgemcnaaP1
namespace Go.Proofs.Ytaefhfldgemcnaa

structure Job where
  t : T
  frm : Nat
  to : Nat

def eps (a b : Nat) : Edge := ⟨a, b, 1, 0⟩
/-- The last one of the signs that follow one another from i on. -/
def runE (m : List Bool) : Nat → Nat → Nat
  | 0, i => i
  | f + 1, i => if decide (i + 1 < 95) && m.getD (i + 1) false then runE m f (i + 1) else i
def runEnd (m : List Bool) (i : Nat) : Nat := runE m (95 - i) i
theorem runEnd_step {m : List Bool} {i : Nat} (h : i + 1 < 95) (hm : m.getD (i + 1) false = true) : runEnd m i = runEnd m (i + 1) := by
  unfold runEnd
  rw [show 95 - i = (95 - (i + 1)) + 1 from by omega, runE, hm, decide_eq_true h]
  rfl
theorem runEnd_stop {m : List Bool} {i : Nat} (h : ¬ (i + 1 < 95 ∧ m.getD (i + 1) false = true)) : runEnd m i = i := by
  unfold runEnd
  cases hq : 95 - i with
  | zero => rfl
  | succ n =>
    rw [runE, if_neg]
    simpa using h
theorem runE_range (m : List Bool) : ∀ (f i : Nat), i < 95 → i ≤ runE m f i ∧ runE m f i < 95 := by
  intro f
  induction f with
  | zero => intro i h; exact ⟨Nat.le_refl _, h⟩
  | succ f ih =>
    intro i h
    rw [runE]
    split
    · rename_i h1
      simp only [Bool.and_eq_true, decide_eq_true_eq] at h1
      have := ih (i + 1) h1.1
      omega
    · exact ⟨Nat.le_refl _, h⟩
theorem runEnd_range (m : List Bool) {i : Nat} (h : i < 95) : i ≤ runEnd m i ∧ runEnd m i < 95 := runE_range m _ i h

def setE (m : List Bool) (a b : Nat) : Nat → Nat → List Edge
  | 0, _ => []
  | f + 1, i => if i < 95 then (if m.getD i false then ⟨a, b, 32 + (i : Int), 32 + (runEnd m i : Int)⟩ :: setE m a b f (runEnd m i + 1) else setE m a b f (i + 1)) else []
def setEdges (m : List Bool) (a b i : Nat) : List Edge := setE m a b (95 - i) i
theorem setE_more (m : List Bool) (a b : Nat) : ∀ (f g i : Nat), 95 - i ≤ f → f ≤ g → setE m a b f i = setE m a b g i := by
  intro f
  induction f with
  | zero =>
    intro g i h1 _
    cases g with
    | zero => rfl
    | succ g => rw [setE, setE, if_neg (by omega)]
  | succ f ih =>
    intro g i h1 h2
    obtain ⟨g', rfl⟩ : ∃ g', g = g' + 1 := ⟨g - 1, by omega⟩
    rw [setE, setE]
    split
    · rename_i hi
      have := runEnd_range m hi
      rw [ih g' _ (by omega) (by omega), ih g' _ (by omega) (by omega)]
    · rfl
theorem setEdges_yes {m : List Bool} {a b i : Nat} (h : i < 95) (hm : m.getD i false = true) : setEdges m a b i = ⟨a, b, 32 + (i : Int), 32 + (runEnd m i : Int)⟩ :: setEdges m a b (runEnd m i + 1) := by
  have hr := runEnd_range m h
  unfold setEdges
  rw [show 95 - i = (95 - i - 1) + 1 from by omega, setE, if_pos h, if_pos hm, ← setE_more m a b (95 - (runEnd m i + 1)) _ _ (Nat.le_refl _) (by omega)]
theorem setEdges_no {m : List Bool} {a b i : Nat} (h : i < 95) (hm : m.getD i false = false) : setEdges m a b i = setEdges m a b (i + 1) := by
  unfold setEdges
  rw [show 95 - i = (95 - (i + 1)) + 1 from by omega, setE, if_pos h, if_neg (by rw [hm]; decide)]
theorem setEdges_end {m : List Bool} {a b i : Nat} (h : 95 ≤ i) : setEdges m a b i = [] := by
  unfold setEdges
  rw [show 95 - i = 0 from by omega, setE]

/-- Parts one behind the other, from a to b by new states. -/
def chain : List T → Nat → Nat → Nat → List Job
  | [], _, _, _ => []
  | [t], a, b, _ => [⟨t, a, b⟩]
  | t :: l, a, b, st => ⟨t, a, st⟩ :: chain l st b (st + 1)
structure Made where
  st : Nat
  es : List Edge
  js : List Job
def jobNet (st : Nat) : T → Nat → Nat → Made
  | .set m, a, b => ⟨st, setEdges m a b 0, []⟩
  | .seq [], a, b => ⟨st, [eps a b], []⟩
  | .seq l, a, b => ⟨st + (l.length - 1), [], chain l a b st⟩
  | .alt l, a, b => ⟨st, [], l.map (fun t => ⟨t, a, b⟩)⟩
  | .rep p op, a, b =>
    if op.toNat = 63 then ⟨st, [eps a b], [⟨p, a, b⟩]⟩
    else if op.toNat = 42 then ⟨st + 1, [eps a st, eps st b], [⟨p, st, st⟩]⟩
    else ⟨st + 2, [eps a st, eps (st + 1) st, eps (st + 1) b], [⟨p, st, st + 1⟩]⟩

def popL {α : Type} (l : List α) : List α := l.take (l.length - 1)
def runNet : Nat → Nat → List Edge → List Job → Nat × List Edge
  | 0, st, es, _ => (st, es)
  | f + 1, st, es, js =>
    match js[js.length - 1]? with
    | none => (st, es)
    | some j => runNet f (jobNet st j.t j.frm j.to).st (es ++ (jobNet st j.t j.frm j.to).es) (popL js ++ (jobNet st j.t j.frm j.to).js)
def netT (t : T) : Nat × List Edge := runNet (t.size + 1) 2 [] [⟨t, 0, 1⟩]
def netN (t : T) : Net := ⟨(netT t).1, 0, 1, (netT t).2⟩

def jsizes : List Job → Nat
  | [] => 0
  | j :: l => j.t.size + jsizes l
theorem jsizes_append (a b : List Job) : jsizes (a ++ b) = jsizes a + jsizes b := by
  induction a with
  | nil => simp [jsizes]
  | cons j l ih => simp [jsizes, ih]; omega
theorem jsizes_len (l : List Job) : l.length ≤ jsizes l := by
  induction l with
  | nil => simp
  | cons j l ih => have := size_pos j.t; simp [jsizes]; omega
theorem chain_sizes : ∀ (l : List T) (a b st : Nat), jsizes (chain l a b st) = sizes l ∧ (chain l a b st).length = l.length := by
  intro l
  induction l with
  | nil => intro a b st; simp [chain, jsizes, sizes]
  | cons t l ih =>
    intro a b st
    cases l with
    | nil => simp [chain, jsizes, sizes]
    | cons u l =>
      have := ih st b (st + 1)
      simp only [chain, jsizes, sizes, List.length_cons] at *
      omega
theorem map_sizes (l : List T) (a b : Nat) : jsizes (l.map (fun t => (⟨t, a, b⟩ : Job))) = sizes l := by
  induction l with
  | nil => rfl
  | cons t l ih => simp [jsizes, sizes, ih]
theorem sizes_len (l : List T) : l.length ≤ sizes l := by
  induction l with
  | nil => simp
  | cons t l ih => have := size_pos t; simp [sizes]; omega
theorem setE_len (m : List Bool) (a b : Nat) : ∀ (f i : Nat), (setE m a b f i).length ≤ f := by
  intro f
  induction f with
  | zero => intro i; simp [setE]
  | succ f ih =>
    intro i
    rw [setE]
    split
    · split
      · have := ih (runEnd m i + 1); simp; omega
      · have := ih (i + 1); omega
    · simp
theorem setEdges_len (m : List Bool) (a b : Nat) : (setEdges m a b 0).length ≤ 95 := setE_len m a b 95 0

/-- What a part costs: sizes, jobs, states, edges. -/
theorem jobNet_cost (st : Nat) (t : T) (a b : Nat) :
    jsizes (jobNet st t a b).js + 1 ≤ t.size ∧
    st ≤ (jobNet st t a b).st ∧ (jobNet st t a b).st + 2 * jsizes (jobNet st t a b).js + 1 ≤ st + 2 * t.size + (jobNet st t a b).js.length ∧
    (jobNet st t a b).es.length ≤ 95 ∧ (jobNet st t a b).js.length ≤ jsizes (jobNet st t a b).js := by
  cases t with
  | set m =>
    have := setEdges_len m a b
    simp only [jobNet, T.size, jsizes, List.length_nil]
    omega
  | seq l =>
    cases l with
    | nil => simp [jobNet, T.size, sizes, jsizes]
    | cons t l =>
      have h1 := chain_sizes (t :: l) a b st
      have h2 := sizes_len (t :: l)
      simp only [jobNet, T.size, List.length_nil, h1.1, h1.2]
      simp only [List.length_cons] at *
      omega
  | alt l =>
    have h2 := sizes_len l
    simp only [jobNet, T.size, List.length_nil, map_sizes, List.length_map]
    omega
  | rep p op =>
    have := size_pos p
    simp only [jobNet, T.size]
    split
    · simp [jsizes]; omega
    · split
      · simp [jsizes]; omega
      · simp [jsizes]; omega
end Go.Proofs.Ytaefhfldgemcnaa
