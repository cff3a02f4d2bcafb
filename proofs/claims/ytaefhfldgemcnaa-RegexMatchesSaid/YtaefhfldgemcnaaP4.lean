/- What a tree's net accepts is the tree's language. No program in sight. -/
import Derived.Test.YtaefhfldgemcnaaP3
namespace Go.Proofs.Ytaefhfldgemcnaa

def Cat (A B : List UInt8 → Prop) (s : List UInt8) : Prop := ∃ u v, s = u ++ v ∧ A u ∧ B v
inductive Star (A : List UInt8 → Prop) : List UInt8 → Prop
  | nil : Star A []
  | cons {u v : List UInt8} : A u → Star A v → Star A (u ++ v)
def SetL (m : List Bool) (s : List UInt8) : Prop := ∃ c : UInt8, s = [c] ∧ 32 ≤ c.toNat ∧ c.toNat ≤ 126 ∧ m.getD (c.toNat - 32) false = true
def RepL (op : Nat) (A : List UInt8 → Prop) (s : List UInt8) : Prop := if op = 63 then s = [] ∨ A s else if op = 42 then Star A s else Cat A (Star A) s

mutual
def Lang : T → List UInt8 → Prop
  | .set m => SetL m
  | .seq l => LangSeq l
  | .alt l => LangAlt l
  | .rep p op => RepL op.toNat (Lang p)
def LangSeq : List T → List UInt8 → Prop
  | [] => fun s => s = []
  | t :: l => Cat (Lang t) (LangSeq l)
def LangAlt : List T → List UInt8 → Prop
  | [] => fun _ => False
  | t :: l => fun s => Lang t s ∨ LangAlt l s
end
theorem langAlt_iff {l : List T} {s : List UInt8} : LangAlt l s ↔ ∃ t ∈ l, Lang t s := by
  induction l with
  | nil => simp [LangAlt]
  | cons t l ih => simp [LangAlt, ih]
theorem langSeq_drop {l : List T} {i : Nat} {t : T} (h : l[i]? = some t) : LangSeq (l.drop i) = Cat (Lang t) (LangSeq (l.drop (i + 1))) := by
  obtain ⟨h1, h2⟩ := List.getElem?_eq_some_iff.1 h
  rw [List.drop_eq_getElem_cons h1, h2, LangSeq]
theorem cat_nil {A : List UInt8 → Prop} {u : List UInt8} : Cat A (fun s => s = []) u ↔ A u := by
  constructor
  · rintro ⟨x, y, rfl, h, rfl⟩
    rwa [List.append_nil]
  · intro h
    exact ⟨u, [], by simp, h, rfl⟩

/-! ways in labelled graphs -/
abbrev Grph := Nat → List UInt8 → Nat → Prop
inductive Path (G : Grph) : Nat → List UInt8 → Nat → Prop
  | nil (x : Nat) : Path G x [] x
  | cons {x y z : Nat} {u v : List UInt8} : G x u y → Path G y v z → Path G x (u ++ v) z
theorem Path.trans {G : Grph} {x y z : Nat} {u v : List UInt8} (h : Path G x u y) (k : Path G y v z) : Path G x (u ++ v) z := by
  induction h with
  | nil => simpa using k
  | cons h1 _ ih => rw [List.append_assoc]; exact .cons h1 (ih k)
theorem Path.one {G : Grph} {x y : Nat} {u : List UInt8} (h : G x u y) : Path G x u y := by
  have := Path.cons h (Path.nil y)
  rwa [List.append_nil] at this
theorem Path.map {G G' : Grph} (hG : ∀ x u y, G x u y → Path G' x u y) {x y : Nat} {u : List UInt8} (h : Path G x u y) : Path G' x u y := by
  induction h with
  | nil => exact .nil _
  | cons h1 _ ih => exact (hG _ _ _ h1).trans ih
theorem Path.congr {G G' : Grph} (hG : ∀ x u y, G x u y ↔ G' x u y) {x y : Nat} {u : List UInt8} : Path G x u y ↔ Path G' x u y :=
  ⟨Path.map (fun _ _ _ h => .one ((hG _ _ _).1 h)), Path.map (fun _ _ _ h => .one ((hG _ _ _).2 h))⟩

/-- New ways from a to b by states from st on do what one edge with L does. -/
structure Folds (st a b : Nat) (L : List UInt8 → Prop) (N : Grph) (Rem : Nat → List UInt8 → Prop) : Prop where
  n1 : ∀ x u y, N x u y → x < st → y < st → x = a ∧ y = b ∧ L u
  n2 : ∀ x u y, N x u y → x < st → st ≤ y → x = a ∧ ∀ r, Rem y r → L (u ++ r)
  n3 : ∀ x u y, N x u y → st ≤ x → st ≤ y → ∀ r, Rem y r → Rem x (u ++ r)
  n4 : ∀ x u y, N x u y → st ≤ x → y < st → y = b ∧ Rem x u
theorem fold_path {st a b : Nat} {L : List UInt8 → Prop} {N H : Grph} {Rem : Nat → List UInt8 → Prop} (hH : ∀ x u y, H x u y → x < st ∧ y < st) (hf : Folds st a b L N Rem) {x q : Nat} {s : List UInt8}
    (h : Path (fun x u y => H x u y ∨ N x u y) x s q) (hq : q < st) :
    (x < st → Path (fun x u y => H x u y ∨ (x = a ∧ y = b ∧ L u)) x s q) ∧ (st ≤ x → ∃ u v, s = u ++ v ∧ Rem x u ∧ Path (fun x u y => H x u y ∨ (x = a ∧ y = b ∧ L u)) b v q) := by
  induction h with
  | nil x => exact ⟨fun _ => .nil _, fun h => absurd hq (by omega)⟩
  | @cons x y z u v h1 h2 ih =>
    have ih := ih hq
    rcases h1 with h1 | h1
    · have h3 := hH _ _ _ h1
      exact ⟨fun _ => .cons (.inl h1) (ih.1 h3.2), fun h => absurd h3.1 (by omega)⟩
    · refine ⟨fun hx => ?_, fun hx => ?_⟩
      · by_cases hy : y < st
        · exact .cons (.inr (hf.n1 _ _ _ h1 hx hy)) (ih.1 hy)
        · obtain ⟨u', v', rfl, hr, hp⟩ := ih.2 (by omega)
          obtain ⟨hxa, hn⟩ := hf.n2 _ _ _ h1 hx (by omega)
          rw [← List.append_assoc]
          exact .cons (.inr ⟨hxa, rfl, hn _ hr⟩) hp
      · by_cases hy : y < st
        · obtain ⟨hyb, hr⟩ := hf.n4 _ _ _ h1 hx hy
          subst hyb
          exact ⟨u, v, rfl, hr, ih.1 hy⟩
        · obtain ⟨u', v', rfl, hr, hp⟩ := ih.2 (by omega)
          exact ⟨u ++ u', v', by rw [List.append_assoc], hf.n3 _ _ _ h1 hx (by omega) _ hr, hp⟩
theorem fold_iff {st a b : Nat} {L : List UInt8 → Prop} {N H : Grph} {Rem : Nat → List UInt8 → Prop} (hH : ∀ x u y, H x u y → x < st ∧ y < st) (hf : Folds st a b L N Rem) (hc : ∀ u, L u → Path N a u b) {p q : Nat} {s : List UInt8} (hp : p < st) (hq : q < st) :
    Path (fun x u y => H x u y ∨ (x = a ∧ y = b ∧ L u)) p s q ↔ Path (fun x u y => H x u y ∨ N x u y) p s q := by
  constructor
  · refine Path.map ?_
    rintro x u y (h | ⟨rfl, rfl, h⟩)
    · exact .one (.inl h)
    · exact Path.map (fun _ _ _ h => .one (.inr h)) (hc u h)
  · intro h
    exact (fold_path hH hf h hq).1 hp

def EG (es : List Edge) : Grph := fun x u y => ∃ e ∈ es, e.frm = (x : Int) ∧ e.to = (y : Int) ∧ ((e.none_ = true ∧ u = []) ∨ ∃ c : UInt8, u = [c] ∧ e.takes c.toNat = true)
def JG (js : List Job) : Grph := fun x u y => ∃ j ∈ js, j.frm = x ∧ j.to = y ∧ Lang j.t u
def GG (es : List Edge) (js : List Job) : Grph := fun x u y => EG es x u y ∨ JG js x u y

theorem eps_none (a b : Nat) : (eps a b).none_ = true := by simp [eps, Edge.none_]
theorem eps_takes (a b : Nat) (c : Int) : (eps a b).takes c = false := by
  rw [Bool.eq_false_iff]
  intro h
  unfold Edge.takes eps at h
  simp only [Bool.and_eq_true, decide_eq_true_eq] at h
  omega
theorem eg_eps {es : List Edge} {a b : Nat} (h : eps a b ∈ es) : EG es a [] b := ⟨_, h, rfl, rfl, .inl ⟨eps_none a b, rfl⟩⟩
theorem eg_one {a b x y : Nat} {u : List UInt8} {e : Edge} (he : e = eps a b) (h1 : e.frm = (x : Int)) (h2 : e.to = (y : Int)) (h3 : (e.none_ = true ∧ u = []) ∨ ∃ c : UInt8, u = [c] ∧ e.takes c.toNat = true) : x = a ∧ y = b ∧ u = [] := by
  subst he
  simp only [eps] at h1 h2
  rcases h3 with ⟨_, h3⟩ | ⟨c, _, h3⟩
  · exact ⟨by omega, by omega, h3⟩
  · rw [eps_takes] at h3; cases h3

/-! sets -/
theorem runE_all {m : List Bool} : ∀ (f i : Nat), m.getD i false = true → ∀ k, i ≤ k → k ≤ runE m f i → m.getD k false = true := by
  intro f
  induction f with
  | zero =>
    intro i h k h1 h2
    simp only [runE] at h2
    rw [show k = i from by omega]
    exact h
  | succ f ih =>
    intro i h k h1 h2
    rw [runE] at h2
    split at h2
    · rename_i h3
      simp only [Bool.and_eq_true, decide_eq_true_eq] at h3
      by_cases hk : k = i
      · rw [hk]; exact h
      · exact ih (i + 1) h3.2 k (by omega) h2
    · rw [show k = i from by omega]
      exact h
theorem setE_iff {m : List Bool} {a b : Nat} : ∀ (f i : Nat), 95 - i ≤ f → ∀ k : Nat, (∃ e ∈ setE m a b f i, e.low ≤ 32 + (k : Int) ∧ 32 + (k : Int) ≤ e.high) ↔ i ≤ k ∧ k < 95 ∧ m.getD k false = true := by
  intro f
  induction f with
  | zero =>
    intro i hi k
    simp only [setE, List.not_mem_nil, false_and, exists_false, false_iff]
    omega
  | succ f ih =>
    intro i hi k
    rw [setE]
    by_cases hi2 : i < 95
    · rw [if_pos hi2]
      have hr := runEnd_range m hi2
      by_cases hm : m.getD i false = true
      · rw [if_pos hm]
        have hih := ih (runEnd m i + 1) (by omega) k
        have hall := runE_all (95 - i) i hm k
        constructor
        · rintro ⟨e, he, h1, h2⟩
          rcases List.mem_cons.1 he with rfl | he
          · simp only at h1 h2
            exact ⟨by omega, by omega, hall (by omega) (by unfold runEnd at h2; omega)⟩
          · have := hih.1 ⟨e, he, h1, h2⟩
            exact ⟨by omega, this.2⟩
        · rintro ⟨h1, h2, h3⟩
          by_cases hk : k ≤ runEnd m i
          · exact ⟨_, List.mem_cons_self, by simp only; omega, by simp only; omega⟩
          · obtain ⟨e, he, h4⟩ := hih.2 ⟨by omega, h2, h3⟩
            exact ⟨e, List.mem_cons_of_mem _ he, h4⟩
      · rw [if_neg hm, ih (i + 1) (by omega) k]
        constructor
        · rintro ⟨h1, h2⟩
          exact ⟨by omega, h2⟩
        · rintro ⟨h1, h2, h3⟩
          refine ⟨?_, h2, h3⟩
          rcases Nat.lt_or_ge i k with h4 | h4
          · exact h4
          · exact absurd h3 (by rw [show k = i from by omega]; exact hm)
    · rw [if_neg hi2]
      simp only [List.not_mem_nil, false_and, exists_false, false_iff]
      omega
theorem setE_ends {m : List Bool} {a b : Nat} : ∀ (f i : Nat), ∀ e ∈ setE m a b f i, e.frm = (a : Int) ∧ e.to = (b : Int) ∧ e.none_ = false ∧ 32 ≤ e.low ∧ e.high ≤ 126 := by
  intro f
  induction f with
  | zero => intro i e he; simp [setE] at he
  | succ f ih =>
    intro i e he
    rw [setE] at he
    split at he
    · rename_i hi
      split at he
      · rcases List.mem_cons.1 he with rfl | he
        · have := runEnd_range m hi
          refine ⟨rfl, rfl, ?_, by (try dsimp only); omega, by (try dsimp only); omega⟩
          simp only [Edge.none_, decide_eq_false_iff_not]
          omega
        · exact ih _ e he
      · exact ih _ e he
    · simp at he
theorem setL_iff {m : List Bool} {a b : Nat} {c : UInt8} : (∃ e ∈ setEdges m a b 0, e.takes c.toNat = true) ↔ 32 ≤ c.toNat ∧ c.toNat ≤ 126 ∧ m.getD (c.toNat - 32) false = true := by
  have key := fun k => setE_iff (m := m) (a := a) (b := b) 95 0 (by omega) k
  constructor
  · rintro ⟨e, he, ht⟩
    simp only [Edge.takes, Bool.and_eq_true, decide_eq_true_eq] at ht
    have := (key (c.toNat - 32)).1 ⟨e, he, by omega, by omega⟩
    exact ⟨by omega, by omega, this.2.2⟩
  · rintro ⟨h1, h2, h3⟩
    obtain ⟨e, he, h4, h5⟩ := (key (c.toNat - 32)).2 ⟨by omega, by omega, h3⟩
    refine ⟨e, he, ?_⟩
    simp only [Edge.takes, Bool.and_eq_true, decide_eq_true_eq]
    omega

/-! rows -/
theorem chain_mem : ∀ (l : List T) (a b st : Nat) (j : Job), j ∈ chain l a b st → ∃ i t, l[i]? = some t ∧ j.t = t ∧ j.frm = (if i = 0 then a else st + i - 1) ∧ j.to = (if i + 1 = l.length then b else st + i) := by
  intro l
  induction l with
  | nil => intro a b st j hj; simp [chain] at hj
  | cons t l ih =>
    intro a b st j hj
    cases l with
    | nil =>
      simp only [chain, List.mem_singleton] at hj
      subst hj
      exact ⟨0, t, rfl, rfl, rfl, rfl⟩
    | cons u l =>
      simp only [chain] at hj
      rcases List.mem_cons.1 hj with rfl | hj
      · exact ⟨0, t, rfl, rfl, rfl, by simp⟩
      · obtain ⟨i, t', h1, h2, h3, h4⟩ := ih st b (st + 1) j hj
        refine ⟨i + 1, t', by simpa using h1, h2, ?_, ?_⟩
        · rw [h3, if_neg (show ¬ (i + 1 = 0) by omega)]
          split <;> omega
        · rw [h4]
          simp only [List.length_cons]
          split
          · rw [if_pos (by omega)]
          · rw [if_neg (by omega)]; omega
theorem chain_path : ∀ (l : List T) (a b st : Nat) (u : List UInt8), l ≠ [] → LangSeq l u → Path (JG (chain l a b st)) a u b := by
  intro l
  induction l with
  | nil => intro a b st u h; exact absurd rfl h
  | cons t l ih =>
    intro a b st u _ h
    rw [LangSeq] at h
    obtain ⟨x, y, rfl, h1, h2⟩ := h
    cases l with
    | nil =>
      have h2' : y = [] := by rwa [LangSeq] at h2
      subst h2'
      rw [List.append_nil]
      exact .one ⟨⟨t, a, b⟩, by simp [chain], rfl, rfl, h1⟩
    | cons v l =>
      have h3 := ih st b (st + 1) y (by simp) h2
      refine .cons (y := st) ⟨⟨t, a, st⟩, by simp [chain], rfl, rfl, h1⟩ (Path.map ?_ h3)
      rintro p w q ⟨j, hj, h4⟩
      exact .one ⟨j, by simp only [chain]; exact List.mem_cons_of_mem _ hj, h4⟩

/-- A part's own net does what the part says. -/
theorem job_fold (st : Nat) (t : T) (a b : Nat) (ha : a < st) (hb : b < st) :
    ∃ Rem, Folds st a b (Lang t) (GG (jobNet st t a b).es (jobNet st t a b).js) Rem ∧ ∀ u, Lang t u → Path (GG (jobNet st t a b).es (jobNet st t a b).js) a u b := by
  cases t with
  | set m =>
    have hN : ∀ x u y, GG (jobNet st (.set m) a b).es (jobNet st (.set m) a b).js x u y → x = a ∧ y = b ∧ Lang (.set m) u := by
      rintro x u y (⟨e, he, h1, h2, h3⟩ | ⟨j, hj, _⟩)
      · have he' : e ∈ setEdges m a b 0 := he
        have hends := setE_ends 95 0 e he'
        rcases h3 with ⟨h3, _⟩ | ⟨c, rfl, h3⟩
        · rw [hends.2.2.1] at h3; cases h3
        · refine ⟨by omega, by omega, ?_⟩
          rw [Lang]
          have := setL_iff.1 ⟨e, he', h3⟩
          exact ⟨c, rfl, this⟩
      · simp [jobNet] at hj
    refine ⟨fun _ _ => False, ⟨fun x u y h _ _ => hN x u y h, fun x u y h _ hy => ?_, fun x u y h hx _ => ?_, fun x u y h hx _ => ?_⟩, ?_⟩
    · have := hN x u y h; omega
    · have := hN x u y h; omega
    · have := hN x u y h; omega
    · intro u hu
      rw [Lang] at hu
      obtain ⟨c, rfl, h⟩ := hu
      obtain ⟨e, he, ht⟩ := (setL_iff (a := a) (b := b)).2 h
      have hends := setE_ends 95 0 e he
      exact .one (.inl ⟨e, he, hends.1, hends.2.1, .inr ⟨c, rfl, ht⟩⟩)
  | seq l =>
    cases hl : l with
    | nil =>
      have hN : ∀ x u y, GG (jobNet st (.seq []) a b).es (jobNet st (.seq []) a b).js x u y → x = a ∧ y = b ∧ Lang (.seq []) u := by
        rintro x u y (⟨e, he, h1, h2, h3⟩ | ⟨j, hj, _⟩)
        · have he' : e = eps a b := by simpa [jobNet] using he
          have := eg_one he' h1 h2 h3
          refine ⟨this.1, this.2.1, ?_⟩
          rw [Lang, LangSeq]
          exact this.2.2
        · simp [jobNet] at hj
      refine ⟨fun _ _ => False, ⟨fun x u y h _ _ => hN x u y h, fun x u y h _ hy => ?_, fun x u y h hx _ => ?_, fun x u y h hx _ => ?_⟩, ?_⟩
      · have := hN x u y h; omega
      · have := hN x u y h; omega
      · have := hN x u y h; omega
      · intro u hu
        rw [Lang, LangSeq] at hu
        subst hu
        exact .one (.inl (eg_eps (by simp [jobNet])))
    | cons t l' =>
      have hne : l ≠ [] := by rw [hl]; simp
      have hD : jobNet st (.seq (t :: l')) a b = ⟨st + l'.length, [], chain l a b st⟩ := by rw [hl]; simp [jobNet]
      rw [hD]
      have hN : ∀ x u y, GG [] (chain l a b st) x u y → ∃ i t', l[i]? = some t' ∧ x = (if i = 0 then a else st + i - 1) ∧ y = (if i + 1 = l.length then b else st + i) ∧ Lang t' u := by
        rintro x u y (⟨e, he, _⟩ | ⟨j, hj, h1, h2, h3⟩)
        · simp at he
        · obtain ⟨i, t', h4, h5, h6, h7⟩ := chain_mem l a b st j hj
          exact ⟨i, t', h4, by rw [← h1, h6], by rw [← h2, h7], by rw [← h5]; exact h3⟩
      have hLl : Lang (.seq (t :: l')) = LangSeq (l.drop 0) := by rw [← hl, Lang]; rfl
      rw [hLl]
      refine ⟨fun x => LangSeq (l.drop (x - st + 1)), ⟨?_, ?_, ?_, ?_⟩, ?_⟩
      · intro x u y h hx hy
        obtain ⟨i, t', h1, rfl, rfl, h4⟩ := hN x u y h
        have hi : i = 0 := by
          by_cases hi : i = 0
          · exact hi
          · rw [if_neg hi] at hx; omega
        subst hi
        have hl1 : 0 + 1 = l.length := by
          by_cases h5 : 0 + 1 = l.length
          · exact h5
          · rw [if_neg h5] at hy; omega
        refine ⟨rfl, by rw [if_pos hl1], ?_⟩
        rw [langSeq_drop h1, List.drop_of_length_le (by omega), LangSeq]
        exact cat_nil.2 h4
      · intro x u y h hx hy
        obtain ⟨i, t', h1, rfl, rfl, h4⟩ := hN x u y h
        have hi : i = 0 := by
          by_cases hi : i = 0
          · exact hi
          · rw [if_neg hi] at hx; omega
        subst hi
        refine ⟨rfl, fun r hr => ?_⟩
        have h5 : ¬ 0 + 1 = l.length := fun h5 => by rw [if_pos h5] at hy; omega
        rw [if_neg h5] at hr
        rw [langSeq_drop h1]
        exact ⟨u, r, rfl, h4, by simpa using hr⟩
      · intro x u y h hx hy r hr
        obtain ⟨i, t', h1, rfl, rfl, h4⟩ := hN x u y h
        have hi : ¬ i = 0 := fun hi => by rw [if_pos hi] at hx; omega
        have h5 : ¬ i + 1 = l.length := fun h5 => by rw [if_pos h5] at hy; omega
        rw [if_neg h5] at hr
        rw [if_neg hi, show st + i - 1 - st + 1 = i from by omega, langSeq_drop h1]
        exact ⟨u, r, rfl, h4, by rwa [show st + i - st + 1 = i + 1 from by omega] at hr⟩
      · intro x u y h hx hy
        obtain ⟨i, t', h1, rfl, rfl, h4⟩ := hN x u y h
        have hi : ¬ i = 0 := fun hi => by rw [if_pos hi] at hx; omega
        have h5 : i + 1 = l.length := by
          by_cases h5 : i + 1 = l.length
          · exact h5
          · rw [if_neg h5] at hy; omega
        refine ⟨by rw [if_pos h5], ?_⟩
        rw [if_neg hi, show st + i - 1 - st + 1 = i from by omega, langSeq_drop h1, List.drop_of_length_le (by omega), LangSeq]
        exact cat_nil.2 h4
      · intro u hu
        exact Path.map (fun _ _ _ h => .one (.inr h)) (chain_path l a b st u hne (by simpa using hu))
  | alt l =>
    have hN : ∀ x u y, GG (jobNet st (.alt l) a b).es (jobNet st (.alt l) a b).js x u y → x = a ∧ y = b ∧ Lang (.alt l) u := by
      rintro x u y (⟨e, he, _⟩ | ⟨j, hj, h1, h2, h3⟩)
      · simp [jobNet] at he
      · simp only [jobNet, List.mem_map] at hj
        obtain ⟨t, ht, rfl⟩ := hj
        refine ⟨h1.symm, h2.symm, ?_⟩
        rw [Lang]
        exact langAlt_iff.2 ⟨t, ht, h3⟩
    refine ⟨fun _ _ => False, ⟨fun x u y h _ _ => hN x u y h, fun x u y h _ hy => ?_, fun x u y h hx _ => ?_, fun x u y h hx _ => ?_⟩, ?_⟩
    · have := hN x u y h; omega
    · have := hN x u y h; omega
    · have := hN x u y h; omega
    · intro u hu
      rw [Lang] at hu
      obtain ⟨t, ht, h⟩ := langAlt_iff.1 hu
      exact .one (.inr ⟨⟨t, a, b⟩, by simp only [jobNet, List.mem_map]; exact ⟨t, ht, rfl⟩, rfl, rfl, h⟩)
  | rep p op =>
    have hLr : Lang (.rep p op) = RepL op.toNat (Lang p) := by rw [Lang]
    rw [hLr]
    by_cases h1 : op.toNat = 63
    · have hD : jobNet st (.rep p op) a b = ⟨st, [eps a b], [⟨p, a, b⟩]⟩ := by simp only [jobNet]; rw [if_pos h1]
      rw [hD]
      have hR : ∀ u, RepL op.toNat (Lang p) u ↔ (u = [] ∨ Lang p u) := fun u => by unfold RepL; rw [if_pos h1]
      have hN : ∀ x u y, GG [eps a b] [⟨p, a, b⟩] x u y → x = a ∧ y = b ∧ RepL op.toNat (Lang p) u := by
        rintro x u y (⟨e, he, h2, h3, h4⟩ | ⟨j, hj, h2, h3, h4⟩)
        · have := eg_one (by simpa using he) h2 h3 h4
          exact ⟨this.1, this.2.1, (hR u).2 (.inl this.2.2)⟩
        · simp only [List.mem_singleton] at hj
          subst hj
          exact ⟨h2.symm, h3.symm, (hR u).2 (.inr h4)⟩
      refine ⟨fun _ _ => False, ⟨fun x u y h _ _ => hN x u y h, fun x u y h _ hy => ?_, fun x u y h hx _ => ?_, fun x u y h hx _ => ?_⟩, ?_⟩
      · have := hN x u y h; omega
      · have := hN x u y h; omega
      · have := hN x u y h; omega
      · intro u hu
        rcases (hR u).1 hu with rfl | hu
        · exact .one (.inl (eg_eps (by simp)))
        · exact .one (.inr ⟨⟨p, a, b⟩, by simp, rfl, rfl, hu⟩)
    · by_cases h2 : op.toNat = 42
      · have hD : jobNet st (.rep p op) a b = ⟨st + 1, [eps a st, eps st b], [⟨p, st, st⟩]⟩ := by simp only [jobNet]; rw [if_neg h1, if_pos h2]
        rw [hD]
        have hR : RepL op.toNat (Lang p) = Star (Lang p) := by funext u; unfold RepL; rw [if_neg h1, if_pos h2]
        rw [hR]
        have hN : ∀ x u y, GG [eps a st, eps st b] [⟨p, st, st⟩] x u y → (x = a ∧ y = st ∧ u = []) ∨ (x = st ∧ y = b ∧ u = []) ∨ (x = st ∧ y = st ∧ Lang p u) := by
          rintro x u y (⟨e, he, h3, h4, h5⟩ | ⟨j, hj, h3, h4, h5⟩)
          · simp only [List.mem_cons, List.not_mem_nil, or_false] at he
            rcases he with he | he
            · exact .inl (eg_one he h3 h4 h5)
            · exact .inr (.inl (eg_one he h3 h4 h5))
          · simp only [List.mem_singleton] at hj
            subst hj
            exact .inr (.inr ⟨h3.symm, h4.symm, h5⟩)
        refine ⟨fun _ r => Star (Lang p) r, ⟨?_, ?_, ?_, ?_⟩, ?_⟩
        · intro x u y h hx hy
          rcases hN x u y h with ⟨_, h3, _⟩ | ⟨h3, _⟩ | ⟨h3, _⟩ <;> omega
        · intro x u y h hx hy
          rcases hN x u y h with ⟨h3, _, rfl⟩ | ⟨h3, _⟩ | ⟨h3, _⟩
          · exact ⟨h3, fun r hr => hr⟩
          · omega
          · omega
        · intro x u y h hx hy r hr
          rcases hN x u y h with ⟨h3, _⟩ | ⟨_, h3, _⟩ | ⟨_, _, h3⟩
          · omega
          · omega
          · exact .cons h3 hr
        · intro x u y h hx hy
          rcases hN x u y h with ⟨h3, _⟩ | ⟨_, h3, rfl⟩ | ⟨_, h3, _⟩
          · omega
          · exact ⟨h3, .nil⟩
          · omega
        · intro u hu
          have hst : ∀ u, Star (Lang p) u → Path (GG [eps a st, eps st b] [⟨p, st, st⟩]) st u st := by
            intro u h
            induction h with
            | nil => exact .nil _
            | cons h3 _ ih => exact .cons (.inr ⟨⟨p, st, st⟩, by simp, rfl, rfl, h3⟩) ih
          have h4 : Path (GG [eps a st, eps st b] [⟨p, st, st⟩]) st (u ++ []) b := (hst u hu).trans (.one (.inl (eg_eps (by simp))))
          rw [List.append_nil] at h4
          exact .cons (u := []) (.inl (eg_eps (by simp))) h4
      · have hD : jobNet st (.rep p op) a b = ⟨st + 2, [eps a st, eps (st + 1) st, eps (st + 1) b], [⟨p, st, st + 1⟩]⟩ := by simp only [jobNet]; rw [if_neg h1, if_neg h2]
        rw [hD]
        have hR : RepL op.toNat (Lang p) = Cat (Lang p) (Star (Lang p)) := by funext u; unfold RepL; rw [if_neg h1, if_neg h2]
        rw [hR]
        have hN : ∀ x u y, GG [eps a st, eps (st + 1) st, eps (st + 1) b] [⟨p, st, st + 1⟩] x u y → (x = a ∧ y = st ∧ u = []) ∨ (x = st + 1 ∧ y = st ∧ u = []) ∨ (x = st + 1 ∧ y = b ∧ u = []) ∨ (x = st ∧ y = st + 1 ∧ Lang p u) := by
          rintro x u y (⟨e, he, h3, h4, h5⟩ | ⟨j, hj, h3, h4, h5⟩)
          · simp only [List.mem_cons, List.not_mem_nil, or_false] at he
            rcases he with he | he | he
            · exact .inl (eg_one he h3 h4 h5)
            · exact .inr (.inl (eg_one he h3 h4 h5))
            · exact .inr (.inr (.inl (eg_one he h3 h4 h5)))
          · simp only [List.mem_singleton] at hj
            subst hj
            exact .inr (.inr (.inr ⟨h3.symm, h4.symm, h5⟩))
        refine ⟨fun x r => if x = st then Cat (Lang p) (Star (Lang p)) r else Star (Lang p) r, ⟨?_, ?_, ?_, ?_⟩, ?_⟩
        · intro x u y h hx hy
          rcases hN x u y h with ⟨_, h3, _⟩ | ⟨h3, _⟩ | ⟨h3, _⟩ | ⟨h3, _⟩ <;> omega
        · intro x u y h hx hy
          rcases hN x u y h with ⟨h3, h4, rfl⟩ | ⟨h3, _⟩ | ⟨h3, _⟩ | ⟨h3, _⟩
          · refine ⟨h3, fun r hr => ?_⟩
            rw [if_pos h4] at hr
            exact hr
          · omega
          · omega
          · omega
        · intro x u y h hx hy r hr
          rcases hN x u y h with ⟨h3, _⟩ | ⟨h3, h4, rfl⟩ | ⟨_, h3, _⟩ | ⟨h3, h4, h5⟩
          · omega
          · rw [if_pos h4] at hr
            rw [if_neg (by omega)]
            obtain ⟨v, z, rfl, h6, h7⟩ := hr
            rw [List.nil_append]
            exact .cons h6 h7
          · omega
          · rw [if_neg (by omega)] at hr
            rw [if_pos h3]
            exact ⟨u, r, rfl, h5, hr⟩
        · intro x u y h hx hy
          rcases hN x u y h with ⟨h3, _⟩ | ⟨_, h4, _⟩ | ⟨h3, h4, rfl⟩ | ⟨h3, h4, h5⟩
          · omega
          · omega
          · refine ⟨h4, ?_⟩
            rw [if_neg (by omega)]
            exact .nil
          · omega
        · rintro u ⟨v, z, rfl, h3, h4⟩
          have hst : ∀ u, Star (Lang p) u → Path (GG [eps a st, eps (st + 1) st, eps (st + 1) b] [⟨p, st, st + 1⟩]) (st + 1) u b := by
            intro u h
            induction h with
            | nil => exact .one (.inl (eg_eps (by simp)))
            | cons h5 _ ih => exact .cons (u := []) (.inl (eg_eps (by simp))) (.cons (.inr ⟨⟨p, st, st + 1⟩, by simp, rfl, rfl, h5⟩) ih)
          exact .cons (u := []) (.inl (eg_eps (by simp))) (.cons (.inr ⟨⟨p, st, st + 1⟩, by simp, rfl, rfl, h3⟩) (hst z h4))

theorem eg_in {es : List Edge} {st : Nat} (h : ∀ e ∈ es, EdgeIn st e) : ∀ x u y, EG es x u y → x < st ∧ y < st := by
  rintro x u y ⟨e, he, h1, h2, _⟩
  have := ok_iff.1 (h e he).1
  omega
theorem run_path : ∀ (f st : Nat) (es : List Edge) (js : List Job), jsizes js + 1 ≤ f → (∀ j ∈ js, JobIn st j) → (∀ e ∈ es, EdgeIn st e) → ∀ (p q : Nat) (s : List UInt8), p < st → q < st →
    (Path (GG es js) p s q ↔ Path (EG (runNet f st es js).2) p s q) := by
  intro f
  induction f with
  | zero => intro st es js h; omega
  | succ f ih =>
    intro st es js hf hj he p q s hp hq
    rw [runNet]
    cases hl : js[js.length - 1]? with
    | none =>
      have hjs : js = [] := by
        rcases Nat.eq_zero_or_pos js.length with h | h
        · exact List.eq_nil_of_length_eq_zero h
        · rw [List.getElem?_eq_getElem (by omega)] at hl
          cases hl
      subst hjs
      refine Path.congr fun x u y => ?_
      constructor
      · rintro (h | ⟨j, hj, _⟩)
        · exact h
        · simp at hj
      · exact .inl
    | some j =>
      have hjm : j ∈ js := List.mem_of_getElem? hl
      have hc := jobNet_cost st j.t j.frm j.to
      have hi := jobNet_in st j.t j.frm j.to (hj j hjm).1 (hj j hjm).2
      have hps := jsizes_pop' hl
      obtain ⟨Rem, hfo, hco⟩ := job_fold st j.t j.frm j.to (hj j hjm).1 (hj j hjm).2
      have hH : ∀ x u y, GG es (popL js) x u y → x < st ∧ y < st := by
        rintro x u y (h | ⟨k, hk, h1, h2, _⟩)
        · exact eg_in he x u y h
        · have := hj k (List.mem_of_mem_take hk)
          exact ⟨by rw [← h1]; exact this.1, by rw [← h2]; exact this.2⟩
      have h1 := fold_iff hH hfo hco (s := s) hp hq
      have h2 := ih (jobNet st j.t j.frm j.to).st (es ++ (jobNet st j.t j.frm j.to).es) (popL js ++ (jobNet st j.t j.frm j.to).js) (by rw [jsizes_append]; omega) (by
        intro x hx
        rcases List.mem_append.1 hx with hx | hx
        · have h0 := hj x (List.mem_of_mem_take hx)
          exact ⟨Nat.lt_of_lt_of_le h0.1 hc.2.1, Nat.lt_of_lt_of_le h0.2 hc.2.1⟩
        · exact hi.2 x hx) (by
        intro x hx
        rcases List.mem_append.1 hx with hx | hx
        · exact (he x hx).more hc.2.1
        · exact hi.1 x hx) p q s (by omega) (by omega)
      refine Iff.trans (Path.congr fun x u y => ?_) (h1.trans (Iff.trans (Path.congr fun x u y => ?_) h2))
      · conv => lhs; rw [pop_parts hl]
        unfold GG JG
        constructor
        · rintro (h | ⟨k, hk, h3⟩)
          · exact .inl (.inl h)
          · rcases List.mem_append.1 hk with hk | hk
            · exact .inl (.inr ⟨k, hk, h3⟩)
            · simp only [List.mem_singleton] at hk
              subst hk
              exact .inr ⟨h3.1.symm, h3.2.1.symm, h3.2.2⟩
        · rintro ((h | ⟨k, hk, h3⟩) | ⟨h3, h4, h5⟩)
          · exact .inl h
          · exact .inr ⟨k, List.mem_append_left _ hk, h3⟩
          · exact .inr ⟨j, by simp, h3.symm, h4.symm, h5⟩
      · unfold GG EG JG
        constructor
        · rintro ((⟨e, h3, h4⟩ | ⟨k, h3, h4⟩) | (⟨e, h3, h4⟩ | ⟨k, h3, h4⟩))
          · exact .inl ⟨e, List.mem_append_left _ h3, h4⟩
          · exact .inr ⟨k, List.mem_append_left _ h3, h4⟩
          · exact .inl ⟨e, List.mem_append_right _ h3, h4⟩
          · exact .inr ⟨k, List.mem_append_right _ h3, h4⟩
        · rintro (⟨e, h3, h4⟩ | ⟨k, h3, h4⟩)
          · rcases List.mem_append.1 h3 with h3 | h3
            · exact .inl (.inl ⟨e, h3, h4⟩)
            · exact .inr (.inl ⟨e, h3, h4⟩)
          · rcases List.mem_append.1 h3 with h3 | h3
            · exact .inl (.inr ⟨k, h3, h4⟩)
            · exact .inr (.inr ⟨k, h3, h4⟩)

/-! ways by a net's edges, its states being numbers -/
inductive IPath (es : List Edge) : Int → List UInt8 → Int → Prop
  | nil (x : Int) : IPath es x [] x
  | none {e : Edge} {s : List UInt8} {q : Int} : e ∈ es → e.none_ = true → IPath es e.to s q → IPath es e.frm s q
  | sign {e : Edge} {c : UInt8} {s : List UInt8} {q : Int} : e ∈ es → e.takes c.toNat = true → IPath es e.to s q → IPath es e.frm (c :: s) q
theorem IPath.trans {es : List Edge} {x y z : Int} {u v : List UInt8} (h : IPath es x u y) (k : IPath es y v z) : IPath es x (u ++ v) z := by
  induction h with
  | nil => exact k
  | none h1 h2 _ ih => exact .none h1 h2 (ih k)
  | sign h1 h2 _ ih => exact .sign h1 h2 (ih k)
theorem eps_ip {es : List Edge} {S0 : Int → Prop} {q : Int} : Eps Edge.none_ es S0 q ↔ ∃ p, S0 p ∧ IPath es p [] q := by
  constructor
  · intro h
    induction h with
    | base h => exact ⟨_, h, .nil _⟩
    | step h1 h2 _ ih =>
      obtain ⟨p, h3, h4⟩ := ih
      have := h4.trans (.none h1 h2 (.nil _))
      exact ⟨p, h3, by simpa using this⟩
  · rintro ⟨p, h1, h2⟩
    have key : ∀ (x : Int) (u : List UInt8) (y : Int), IPath es x u y → u = [] → Eps Edge.none_ es S0 x → Eps Edge.none_ es S0 y := by
      intro x u y h
      induction h with
      | nil => intro _ h; exact h
      | none h3 h4 _ ih => intro hu h; exact ih hu (.step h3 h4 h)
      | sign _ _ _ _ => intro hu; cases hu
    exact key p [] q h2 rfl (.base h1)
theorem run_ip {n : Net} : ∀ (s : List UInt8) (S0 : Int → Prop) (q : Int), Run n s (Eps Edge.none_ n.edges S0) q ↔ ∃ p, S0 p ∧ IPath n.edges p s q := by
  intro s
  induction s with
  | nil => intro S0 q; exact eps_ip
  | cons c s ih =>
    intro S0 q
    rw [show Run n (c :: s) (Eps Edge.none_ n.edges S0) = Run n s (Eps Edge.none_ n.edges (StepP n.edges c.toNat (Eps Edge.none_ n.edges S0))) from rfl, ih]
    constructor
    · rintro ⟨p', ⟨e, h1, h2, h3, rfl⟩, h4⟩
      obtain ⟨p, h5, h6⟩ := eps_ip.1 h3
      exact ⟨p, h5, h6.trans (.sign h1 h2 h4)⟩
    · rintro ⟨p, h1, h2⟩
      have key : ∀ (x : Int) (u : List UInt8) (y : Int), IPath n.edges x u y → u = c :: s → Eps Edge.none_ n.edges S0 x → ∃ p', StepP n.edges c.toNat (Eps Edge.none_ n.edges S0) p' ∧ IPath n.edges p' s y := by
        intro x u y h
        induction h with
        | nil => intro hu; cases hu
        | none h3 h4 _ ih => intro hu h; exact ih hu (.step h3 h4 h)
        | sign h3 h4 h5 _ =>
          intro hu h
          simp only [List.cons.injEq] at hu
          obtain ⟨rfl, rfl⟩ := hu
          exact ⟨_, ⟨_, h3, h4, h, rfl⟩, h5⟩
      exact key p (c :: s) q h2 rfl (.base h1)
theorem ip_path {es : List Edge} {st : Nat} (hes : ∀ e ∈ es, EdgeIn st e) (x q : Nat) (s : List UInt8) : IPath es x s q ↔ Path (EG es) x s q := by
  constructor
  · intro h
    have key : ∀ (x : Int) (u : List UInt8) (y : Int), IPath es x u y → 0 ≤ x → Path (EG es) x.toNat u y.toNat := by
      intro x u y h
      induction h with
      | nil => intro _; exact .nil _
      | none h1 h2 _ ih =>
        intro h0
        have hok := ok_iff.1 (hes _ h1).1
        exact .cons (u := []) ⟨_, h1, by omega, (Int.toNat_of_nonneg hok.2.1).symm, .inl ⟨h2, rfl⟩⟩ (ih hok.2.1)
      | @sign e c s q h1 h2 _ ih =>
        intro h0
        have hok := ok_iff.1 (hes _ h1).1
        exact .cons (u := [c]) ⟨_, h1, by omega, (Int.toNat_of_nonneg hok.2.1).symm, .inr ⟨c, rfl, h2⟩⟩ (ih hok.2.1)
    have := key x s q h (by omega)
    simpa using this
  · intro h
    induction h with
    | nil => exact .nil _
    | cons h1 _ ih =>
      obtain ⟨e, h2, h3, h4, h5⟩ := h1
      rw [← h4] at ih
      rw [← h3]
      rcases h5 with ⟨h5, rfl⟩ | ⟨c, rfl, h5⟩
      · exact .none h2 h5 ih
      · exact .sign h2 h5 ih

/-- WHAT A TREE's NET ACCEPTS. -/
theorem acc_lang (t : T) (s : List UInt8) : AccP (netN t) s ↔ Lang t s := by
  have hf := netT_facts t
  unfold AccP start0
  rw [run_ip]
  have h1 : (∃ p : Int, p = (netN t).start ∧ IPath (netN t).edges p s (netN t).fin) ↔ IPath (netT t).2 ((0 : Nat) : Int) s ((1 : Nat) : Int) := ⟨fun ⟨p, hp, h⟩ => by subst hp; exact h, fun h => ⟨_, rfl, h⟩⟩
  rw [h1, ip_path hf.2.2.1 0 1 s]
  have h2 := run_path (t.size + 1) 2 [] [⟨t, 0, 1⟩] (by simp [jsizes]) (by intro j hj; simp only [List.mem_singleton] at hj; subst hj; exact ⟨Nat.zero_lt_succ _, Nat.one_lt_two⟩) (by intro e he; simp at he) 0 1 s (by omega) (by omega)
  have h3 : (netT t).2 = (runNet (t.size + 1) 2 [] [⟨t, 0, 1⟩]).2 := rfl
  rw [h3, ← h2]
  constructor
  · intro h
    have key : ∀ (x : Nat) (u : List UInt8) (y : Nat), Path (GG [] [⟨t, 0, 1⟩]) x u y → y = 1 → (x = 1 → u = []) ∧ (x = 0 → Lang t u) := by
      intro x u y h
      induction h with
      | nil x => intro hy; exact ⟨fun _ => rfl, fun h => by omega⟩
      | cons h4 _ ih =>
        intro hy
        have ih := ih hy
        rcases h4 with ⟨e, he, _⟩ | ⟨j, hj, h5, h6, h7⟩
        · simp at he
        · simp only [List.mem_singleton] at hj
          subst hj
          refine ⟨fun h => ?_, fun _ => ?_⟩
          · simp only at h5; omega
          · rw [ih.1 h6.symm, List.append_nil]
            exact h7
    exact (key 0 s 1 h rfl).2 rfl
  · intro h
    exact .one (.inr ⟨⟨t, 0, 1⟩, by simp, rfl, rfl, h⟩)
end Go.Proofs.Ytaefhfldgemcnaa
