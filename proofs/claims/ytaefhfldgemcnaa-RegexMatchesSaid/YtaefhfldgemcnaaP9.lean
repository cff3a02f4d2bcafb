/- What is printed is parsed: sets of signs. No program in sight. -/
import Derived.Test.YtaefhfldgemcnaaP8
namespace Go.Proofs.Ytaefhfldgemcnaa

/-- The bytes l stand in s from k on. -/
def Stands (s : ByteArray) (k : Nat) (l : List UInt8) : Prop := k + l.length ≤ s.size ∧ ∀ (i : Nat) (h : i < l.length), byteAt s (k + i) = l[i]
theorem Stands.left {s : ByteArray} {k : Nat} {a b : List UInt8} (h : Stands s k (a ++ b)) : Stands s k a := by
  obtain ⟨h1, h2⟩ := h
  rw [List.length_append] at h1
  refine ⟨by omega, fun i hi => ?_⟩
  rw [h2 i (by rw [List.length_append]; omega), List.getElem_append_left hi]
theorem Stands.right {s : ByteArray} {k : Nat} {a b : List UInt8} (h : Stands s k (a ++ b)) : Stands s (k + a.length) b := by
  obtain ⟨h1, h2⟩ := h
  rw [List.length_append] at h1
  refine ⟨by omega, fun i hi => ?_⟩
  have := h2 (a.length + i) (by rw [List.length_append]; omega)
  rw [Nat.add_assoc, this, List.getElem_append_right (by omega)]
  congr 1
  omega
theorem Stands.tail {s : ByteArray} {k : Nat} {c : UInt8} {l : List UInt8} (h : Stands s k (c :: l)) : Stands s (k + 1) l :=
  Stands.right (a := [c]) (by simpa using h)
theorem Stands.lt {s : ByteArray} {k : Nat} {c : UInt8} {l : List UInt8} (h : Stands s k (c :: l)) : k < s.size := by
  have := h.1
  rw [List.length_cons] at this
  omega
theorem Stands.head {s : ByteArray} {k : Nat} {c : UInt8} {l : List UInt8} (h : Stands s k (c :: l)) : byteAt s k = c := by
  have := h.2 0 (by simp)
  simpa using this
theorem Stands.at_ {s : ByteArray} {k : Nat} {c : UInt8} {l : List UInt8} (h : Stands s k (c :: l)) (set : List UInt8) : atL s k set = inL set c := by
  unfold atL
  rw [decide_eq_true h.lt, h.head, Bool.true_and]

theorem inL_one (x c : UInt8) : inL [x] c = (c == x) := by
  unfold inL
  simp
  rfl
theorem wSign_pos (c : UInt8) (esc : List UInt8) : 1 ≤ (wSign c esc).length := by unfold wSign; split <;> simp
theorem head_w {s : ByteArray} {k : Nat} {c x : UInt8} {esc l : List UInt8} (h : Stands s k (wSign c esc ++ l)) (hx : esc.contains x = true) (h92 : x ≠ 92) : atL s k [x] = false := by
  unfold wSign at h
  split at h
  · rw [Stands.at_ (c := 92) (l := c :: l) h, inL_one]
    exact beq_eq_false_iff_ne.2 (Ne.symm h92)
  · rename_i hc
    rw [Stands.at_ (c := c) (l := l) h, inL_one]
    refine beq_eq_false_iff_ne.2 ?_
    rintro rfl
    exact hc hx
theorem sign_w {s : ByteArray} {k : Nat} {c : UInt8} {esc l : List UInt8} (hS : isS c = true) (h92 : esc.contains 92 = true) (h : Stands s k (wSign c esc ++ l)) : signF s k esc = some (c, k + (wSign c esc).length) := by
  unfold wSign at h ⊢
  split at h
  · rename_i hc
    rw [if_pos hc]
    have h1 : Stands s k (92 :: c :: l) := h
    unfold signF
    rw [h1.at_, if_pos (by decide), h1.tail.head, decide_eq_true h1.tail.lt, hS]
    rfl
  · rename_i hc
    rw [if_neg hc]
    have h1 : Stands s k (c :: l) := h
    have hne : c ≠ 92 := by rintro rfl; exact hc h92
    unfold signF
    rw [h1.at_, inL_one, beq_eq_false_iff_ne.2 hne, if_neg (by decide), decide_eq_true h1.lt, h1.head, hS]
    have : inL esc c = false := by unfold inL; simpa using hc
    rw [this]
    rfl

theorem ofNat_facts {i : Nat} (h : i < 95) : (UInt8.ofNat (32 + i)).toNat = 32 + i ∧ isS (UInt8.ofNat (32 + i)) = true := by
  have h1 : (UInt8.ofNat (32 + i)).toNat = 32 + i := by
    rw [UInt8.toNat_ofNat']
    omega
  refine ⟨h1, ?_⟩
  unfold isS
  rw [h1]
  simp
  omega
theorem rangeM_getD {m : List Bool} (hm : m.length = 95) (i : Nat) : ∀ (n : Nat), i + n ≤ 95 → ∀ j, (rangeM m (32 + i) n).getD j false = (m.getD j false || (decide (i ≤ j) && decide (j < i + n))) := by
  intro n
  induction n with
  | zero =>
    intro _ j
    show m.getD j false = _
    by_cases h : i ≤ j
    · rw [decide_eq_true h, decide_eq_false (by omega : ¬ j < i + 0)]; simp
    · rw [decide_eq_false h]; simp
  | succ n ih =>
    intro hn j
    have ih := ih (by omega) j
    show (((rangeM m (32 + i) n).set (32 + i - 32 + n) true)).getD j false = _
    rw [Nat.add_sub_cancel_left]
    by_cases hj : j = i + n
    · subst hj
      rw [List.getD_eq_getElem?_getD, List.getElem?_set_self (by rw [rangeM_length hm]; omega)]
      simp
    · rw [List.getD_eq_getElem?_getD, List.getElem?_set_ne (Ne.symm hj), ← List.getD_eq_getElem?_getD, ih]
      congr 2
      rw [decide_eq_decide]
      omega
theorem mask_ext {a b : List Bool} (ha : a.length = 95) (hb : b.length = 95) (h : ∀ j, j < 95 → a.getD j false = b.getD j false) : a = b := by
  refine List.ext_getElem (by omega) fun i h1 h2 => ?_
  have := h i (by omega)
  rwa [List.getD_eq_getElem?_getD, List.getD_eq_getElem?_getD, List.getElem?_eq_getElem h1, List.getElem?_eq_getElem h2] at this
/-- So far as i, the mask mm is m; then it is empty. -/
def Upto (m mm : List Bool) (i : Nat) : Prop := mm.length = 95 ∧ ∀ j, j < 95 → mm.getD j false = (decide (j < i) && m.getD j false)
theorem upto_zero (m : List Bool) : Upto m noneM 0 := ⟨noneM_length, fun j _ => by rw [noneM_get]; simp⟩
theorem upto_end {m mm : List Bool} (hm : m.length = 95) (h : Upto m mm 95) : mm = m :=
  mask_ext h.1 hm fun j hj => by rw [h.2 j hj, decide_eq_true hj, Bool.true_and]
theorem upto_no {m mm : List Bool} {i : Nat} (h : Upto m mm i) (hi : m.getD i false = false) : Upto m mm (i + 1) := by
  refine ⟨h.1, fun j hj => ?_⟩
  rw [h.2 j hj]
  by_cases hji : j = i
  · subst hji; rw [hi]; simp
  · congr 1; rw [decide_eq_decide]; omega
theorem upto_run {m mm : List Bool} {i : Nat} (h : Upto m mm i) (hi : i < 95) (hb : m.getD i false = true) : Upto m (rangeM mm (32 + i) (runEnd m i + 1 - i)) (runEnd m i + 1) := by
  have hr := runEnd_range m hi
  refine ⟨rangeM_length h.1 _ _, fun j hj => ?_⟩
  rw [rangeM_getD h.1 i _ (by omega), h.2 j hj]
  by_cases h1 : j < i
  · rw [decide_eq_true h1, decide_eq_false (by omega : ¬ i ≤ j), decide_eq_true (by omega : j < runEnd m i + 1)]; simp
  · by_cases h2 : j < runEnd m i + 1
    · rw [decide_eq_true (by omega : i ≤ j), decide_eq_true (by omega : j < i + (runEnd m i + 1 - i)), decide_eq_true h2, runE_all (95 - i) i hb j (by omega) (by show j ≤ runEnd m i; omega)]; simp
    · rw [decide_eq_false h1, decide_eq_false h2, decide_eq_false (by omega : ¬ j < i + (runEnd m i + 1 - i))]; simp

theorem runs_head {s : ByteArray} {m : List Bool} {x : UInt8} (hx : spC.contains x = true) (h92 : x ≠ 92) (h93 : x ≠ 93) : ∀ (fu i k : Nat), Stands s k (wRuns m fu i ++ [93]) → atL s k [x] = false := by
  intro fu
  induction fu with
  | zero =>
    intro i k h
    rw [Stands.at_ (c := 93) (l := []) h, inL_one]
    exact beq_eq_false_iff_ne.2 (Ne.symm h93)
  | succ fu ih =>
    intro i k h
    rw [wRuns] at h
    split at h
    · split at h
      · rw [List.append_assoc, List.append_assoc] at h
        exact head_w h hx h92
      · exact ih _ _ h
    · rw [Stands.at_ (c := 93) (l := []) h, inL_one]
      exact beq_eq_false_iff_ne.2 (Ne.symm h93)
theorem runs_stop {s : ByteArray} {m mm : List Bool} {k f : Nat} {first : Bool} (hm : m.length = 95) (hu : Upto m mm 95) (h : Stands s k [93]) (hf : first = false) (hf1 : 1 ≤ f) : classL s f mm first k = some (m, k) := by
  obtain ⟨f', rfl⟩ : ∃ f', f = f' + 1 := ⟨f - 1, by omega⟩
  subst hf
  rw [classL, h.at_, if_neg (by decide), upto_end hm hu]
theorem runs_read {s : ByteArray} {m : List Bool} (hm : m.length = 95) : ∀ (fu i k f : Nat) (mm : List Bool) (first : Bool), 95 - i ≤ fu → i ≤ 95 → Upto m mm i → Stands s k (wRuns m fu i ++ [93]) → (first = true → wRuns m fu i ≠ []) → s.size - k + 1 ≤ f →
    classL s f mm first k = some (m, k + (wRuns m fu i).length) := by
  intro fu
  induction fu with
  | zero =>
    intro i k f mm first hfu hi hu h hne hf
    obtain rfl : i = 95 := by omega
    refine runs_stop hm hu h ?_ (by omega)
    cases first with
    | false => rfl
    | true => exact absurd rfl (hne rfl)
  | succ fu ih =>
    intro i k f mm first hfu hi hu h hne hf
    by_cases h95 : i < 95
    · rw [wRuns, if_pos h95] at h hne ⊢
      rcases Bool.eq_false_or_eq_true (m.getD i false) with hmi | hmi
      rotate_left
      · rw [if_neg (by rw [hmi]; decide)] at h hne ⊢
        exact ih (i + 1) k f mm first (by omega) (by omega) (upto_no hu hmi) h hne hf
      · rw [if_pos hmi] at h ⊢
        have hr := runEnd_range m h95
        have hup := upto_run hu h95 hmi
        obtain ⟨hc1, hc2⟩ := ofNat_facts h95
        obtain ⟨hd1, hd2⟩ := ofNat_facts hr.2
        generalize hcc : UInt8.ofNat (32 + i) = c at h hc1 hc2 ⊢
        generalize hdd : UInt8.ofNat (32 + runEnd m i) = d at h hd1 hd2 ⊢
        rw [List.append_assoc, List.append_assoc] at h
        have hsg := sign_w hc2 (esc := spC) (by decide) h
        have h93 : atL s k [93] = false := head_w h (by decide) (by decide)
        have hR := h.right
        have hlen := wSign_pos c spC
        obtain ⟨f', rfl⟩ : ∃ f', f = f' + 1 := ⟨f - 1, by omega⟩
        have hkz := h.1
        rw [List.length_append] at hkz
        by_cases hlt : i < runEnd m i
        · rw [if_pos hlt] at hR ⊢
          rw [List.cons_append] at hR
          have h45 := hR.at_ [45]
          have hsg2 := sign_w hd2 (esc := spC) (by decide) hR.tail
          have hR2 := hR.tail.right
          have hlen2 := wSign_pos d spC
          have hz := hR.tail.1
          rw [List.length_append] at hz
          have hit : itemF s k mm = some (rangeM mm (32 + i) (runEnd m i + 1 - i), k + (wSign c spC).length + 1 + (wSign d spC).length) := by
            unfold itemF
            rw [hsg]
            show (if atL s (k + (wSign c spC).length) [45] = true then _ else _) = _
            rw [h45, if_pos (by decide), hsg2]
            show (if d.toNat < c.toNat then none else _) = _
            rw [if_neg (by omega), hc1, hd1, show 32 + runEnd m i + 1 - (32 + i) = runEnd m i + 1 - i from by omega]
          rw [classL, h93, if_pos (by simp), hit]
          show classL s f' _ false _ = _
          rw [ih (runEnd m i + 1) _ f' _ false (by omega) (by omega) hup hR2 (by intro h; cases h) (by omega)]
          simp only [List.length_append, List.length_cons]
          congr 2
          omega
        · rw [if_neg hlt] at hR ⊢
          have he : runEnd m i = i := by omega
          have h45 : atL s (k + (wSign c spC).length) [45] = false := runs_head (by decide) (by decide) (by decide) _ _ _ hR
          rw [he] at hup hR ⊢
          rw [List.nil_append] at hR
          have hit : itemF s k mm = some (rangeM mm (32 + i) (i + 1 - i), k + (wSign c spC).length) := by
            unfold itemF
            rw [hsg]
            show (if atL s (k + (wSign c spC).length) [45] = true then _ else _) = _
            rw [h45, if_neg (by decide), hc1, show i + 1 - i = 1 from by omega]
          rw [classL, h93, if_pos (by simp), hit]
          show classL s f' _ false _ = _
          rw [ih (i + 1) _ f' _ false (by omega) (by omega) hup hR (by intro h; cases h) (by omega)]
          simp only [List.length_append, List.length_nil]
          congr 2
          omega
    · obtain rfl : i = 95 := by omega
      rw [wRuns, if_neg h95] at h hne ⊢
      refine runs_stop hm hu h ?_ (by omega)
      cases first with
      | false => rfl
      | true => exact absurd rfl (hne rfl)

/-! an atom, a branch, an expression, at a place -/
def RunA (s : ByteArray) (k : Nat) (t : T) (k' : Nat) : Prop := k < k' ∧ k' ≤ s.size ∧ ∀ f, 3 * (k' - k) ≤ f → atomF s f k = some (t, k')
def RunB (s : ByteArray) (acc : List T) (k : Nat) (t : T) (k' : Nat) : Prop := k ≤ k' ∧ k' ≤ s.size ∧ ∀ f, 3 * (k' - k) + 1 ≤ f → branchF s f acc k = some (t, k')
def RunE (s : ByteArray) (acc : List T) (k : Nat) (t : T) (k' : Nat) : Prop := k ≤ k' ∧ k' ≤ s.size ∧ ∀ f, 3 * (k' - k) + 2 ≤ f → exprF s f acc k = some (t, k')

theorem class_neg {s : ByteArray} {k : Nat} (h : Stands s k [94, 32, 45, 126, 93]) : classF s k = some (.set noneM, k + 5) := by
  have h1 := h.tail
  have h2 := h1.tail
  have h3 := h2.tail
  have h4 := h3.tail
  have hs1 : signF s (k + 1) spC = some (32, k + 1 + 1) := sign_w (c := 32) (esc := spC) (l := [45, 126, 93]) (by decide) (by decide) h1
  have hs2 : signF s (k + 1 + 1 + 1) spC = some (126, k + 1 + 1 + 1 + 1) := sign_w (c := 126) (esc := spC) (l := [93]) (by decide) (by decide) h3
  have hit : itemF s (k + 1) noneM = some (everyM, k + 4) := by
    unfold itemF
    rw [hs1]
    show (if atL s (k + 1 + 1) [45] = true then _ else _) = _
    rw [h2.at_, if_pos (by decide), hs2]
    show (if (126 : UInt8).toNat < (32 : UInt8).toNat then none else _) = _
    rw [if_neg (by decide)]
    have : rangeM noneM (32 : UInt8).toNat ((126 : UInt8).toNat + 1 - (32 : UInt8).toNat) = everyM := by decide
    rw [this]
  have hz := h.1
  simp at hz
  unfold classF classT class0
  rw [h.at_, if_pos (by decide)]
  obtain ⟨f, hf⟩ : ∃ f, s.size + 1 = (f + 1) + 1 := ⟨s.size - 1, by omega⟩
  rw [hf, classL, if_pos (by simp), hit]
  show (match classL s (f + 1) everyM false (k + 4) with | none => none | some (m, k') => some _) = _
  rw [classL, Stands.at_ (c := 93) (l := []) h4, if_neg (by decide)]
  show some (T.set (everyM.map (!·)), k + 4 + 1) = _
  have : everyM.map (!·) = noneM := by decide
  rw [this]
theorem first_lt {m : List Bool} (hm : m.length = 95) (hne : m ≠ noneM) : firstOf m < 95 ∧ m.getD (firstOf m) false = true ∧ ∀ j, j < firstOf m → m.getD j false = false := by
  have hlt : firstOf m < 95 := by
    refine Classical.byContradiction fun h => hne ?_
    refine mask_ext hm noneM_length fun j hj => ?_
    rw [noneM_get]
    have h2 : ¬ ∃ x ∈ m, id x = true := by
      intro hx
      have := List.findIdx_lt_length_of_exists hx
      unfold firstOf at h
      omega
    rw [List.getD_eq_getElem?_getD, List.getElem?_eq_getElem (by omega)]
    cases hb : m[j]'(by omega) with
    | false => rfl
    | true => exact absurd ⟨true, by rw [← hb]; exact List.getElem_mem _, rfl⟩ h2
  refine ⟨hlt, ?_, ?_⟩
  · have := List.findIdx_getElem (p := id) (xs := m) (w := by unfold firstOf at hlt; omega)
    rw [List.getD_eq_getElem?_getD, List.getElem?_eq_getElem (by omega)]
    exact this
  · intro j hj
    have := List.not_of_lt_findIdx (p := id) (xs := m) (i := j) hj
    rw [List.getD_eq_getElem?_getD, List.getElem?_eq_getElem (by omega)]
    simpa using this
theorem runs_some {m : List Bool} : ∀ (fu i : Nat), 95 - i ≤ fu → (∃ j, i ≤ j ∧ j < 95 ∧ m.getD j false = true) → wRuns m fu i ≠ [] := by
  intro fu
  induction fu with
  | zero => rintro i h ⟨j, h1, h2, _⟩; omega
  | succ fu ih =>
    rintro i h ⟨j, h1, h2, h3⟩
    rw [wRuns, if_pos (by omega)]
    cases hi : m.getD i false with
    | true =>
      rw [if_pos rfl]
      intro h0
      have := congrArg List.length h0
      rw [List.length_append, List.length_append] at this
      have hp := wSign_pos (UInt8.ofNat (32 + i)) spC
      simp only [List.length_nil] at this
      omega
    | false =>
      rw [if_neg (by decide)]
      refine ih (i + 1) (by omega) ⟨j, ?_, h2, h3⟩
      rcases Nat.lt_or_eq_of_le h1 with h4 | h4
      · omega
      · rw [h4, h3] at hi; cases hi

theorem atom_sign {s : ByteArray} {k : Nat} {c : UInt8} {l : List UInt8} (hS : isS c = true) (h : Stands s k (wSign c spA ++ l)) : RunA s k (.set (singleM c.toNat)) (k + (wSign c spA).length) := by
  have hp := wSign_pos c spA
  have hz := h.1
  rw [List.length_append] at hz
  refine ⟨by omega, by omega, fun f hf => ?_⟩
  obtain ⟨f', rfl⟩ : ∃ f', f = f' + 1 := ⟨f - 1, by omega⟩
  rw [atomF, head_w h (x := 40) (by decide) (by decide), if_neg (by decide), head_w h (x := 46) (by decide) (by decide), if_neg (by decide), head_w h (x := 91) (by decide) (by decide), if_neg (by decide), sign_w hS (by decide) h]
theorem set_read {s : ByteArray} {k : Nat} {m : List Bool} (hm : m.length = 95) (h : Stands s k (wSet m)) : RunA s k (.set m) (k + (wSet m).length) := by
  unfold wSet at h ⊢
  by_cases h1 : m = noneM
  · rw [if_pos h1] at h ⊢
    have hc := class_neg h.tail
    have hz := h.1
    simp at hz
    refine ⟨by simp, by simpa using hz, fun f hf => ?_⟩
    obtain ⟨f', rfl⟩ : ∃ f', f = f' + 1 := ⟨f - 1, by simp at hf; omega⟩
    rw [atomF, h.at_, if_neg (by decide), h.at_, if_neg (by decide), h.at_, if_pos (by decide), hc, h1]
    rfl
  · rw [if_neg h1] at h ⊢
    by_cases h2 : m = everyM
    · rw [if_pos h2] at h ⊢
      have hz := h.1
      simp at hz
      refine ⟨by simp, by simpa using hz, fun f hf => ?_⟩
      obtain ⟨f', rfl⟩ : ∃ f', f = f' + 1 := ⟨f - 1, by simp at hf; omega⟩
      rw [atomF, h.at_, if_neg (by decide), h.at_, if_pos (by decide), h2]
      rfl
    · rw [if_neg h2] at h ⊢
      obtain ⟨hf1, hf2, _⟩ := first_lt hm h1
      obtain ⟨hc1, hc2⟩ := ofNat_facts hf1
      by_cases h3 : m = singleM (32 + firstOf m)
      · rw [if_pos h3] at h ⊢
        have := atom_sign (l := []) hc2 (by rwa [List.append_nil])
        rw [hc1, ← h3] at this
        exact this
      · rw [if_neg h3] at h ⊢
        have hne := runs_some (m := m) 95 0 (by omega) ⟨firstOf m, by omega, hf1, hf2⟩
        have h94 : atL s (k + 1) [94] = false := runs_head (by decide) (by decide) (by decide) _ _ _ h.tail
        have hz := h.1
        simp only [List.length_cons, List.length_append, List.length_nil] at hz
        have hr := runs_read (s := s) hm 95 0 (k + 1) (s.size + 1) noneM true (by omega) (by omega) (upto_zero m) h.tail (fun _ => hne) (by omega)
        simp only [List.length_cons, List.length_append, List.length_nil]
        refine ⟨by omega, by omega, fun f hf => ?_⟩
        obtain ⟨f', rfl⟩ : ∃ f', f = f' + 1 := ⟨f - 1, by omega⟩
        have hc : classF s (k + 1) = some (.set m, k + 1 + (wRuns m 95 0).length + 1) := by
          unfold classF classT class0
          rw [h94, if_neg (by decide), hr]
          rfl
        rw [atomF, h.at_, if_neg (by decide), h.at_, if_neg (by decide), h.at_, if_pos (by decide), hc]
        congr 2
        omega
end Go.Proofs.Ytaefhfldgemcnaa
