/- The document's parts in a list, and their languages; matching by splits. No program in sight. -/
import Derived.Test.YtaefhfldgemcnaaP6
namespace Go.Proofs.Ytaefhfldgemcnaa

structure RN where
  op : UInt8
  set : List Bool
  l : List Nat
abbrev LL := List UInt8 → Prop
def noL : LL := fun _ => False
def CatL : List LL → LL
  | [] => fun s => s = []
  | A :: l => Cat A (CatL l)
def denNode (acc : List LL) (r : RN) : LL :=
  if r.op = 115 then SetL r.set
  else if r.op = 111 then fun s => ∃ j ∈ r.l, acc.getD j noL s
  else if r.op = 116 then CatL (r.l.map fun j => acc.getD j noL)
  else Star (acc.getD (r.l.headD 0) noL)
def denAll (ns : List RN) : List LL := ns.foldl (fun acc r => acc ++ [denNode acc r]) []
theorem denAll_snoc (ns : List RN) (r : RN) : denAll (ns ++ [r]) = denAll ns ++ [denNode (denAll ns) r] := by
  unfold denAll
  rw [List.foldl_append]
  rfl
theorem denAll_length (ns : List RN) : (denAll ns).length = ns.length := by
  have key : ∀ (ns : List RN) (acc : List LL), (ns.foldl (fun acc r => acc ++ [denNode acc r]) acc).length = acc.length + ns.length := by
    intro ns
    induction ns with
    | nil => intro acc; rfl
    | cons r ns ih => intro acc; rw [List.foldl_cons, ih]; simp only [List.length_append, List.length_cons, List.length_nil]; omega
  unfold denAll
  rw [key, List.length_nil, Nat.zero_add]
/-- Part k of the list has the language A. -/
def Den (ns : List RN) (k : Nat) (A : LL) : Prop := (denAll ns)[k]? = some A
theorem Den.lt {ns : List RN} {k : Nat} {A : LL} (h : Den ns k A) : k < ns.length := by
  have := (List.getElem?_eq_some_iff.1 h).1
  rwa [denAll_length] at this
theorem Den.snoc {ns : List RN} {k : Nat} {A : LL} (h : Den ns k A) (r : RN) : Den (ns ++ [r]) k A := by
  have hl := (List.getElem?_eq_some_iff.1 h).1
  unfold Den at h ⊢
  rw [denAll_snoc, List.getElem?_append_left hl]
  exact h
theorem Den.more {k : Nat} {A : LL} : ∀ (m : List RN) {ns : List RN}, Den ns k A → Den (ns ++ m) k A := by
  intro m
  induction m with
  | nil => intro ns h; rwa [List.append_nil]
  | cons r m ih =>
    intro ns h
    have := ih (h.snoc r)
    rwa [List.append_assoc] at this
theorem den_last (ns : List RN) (r : RN) : Den (ns ++ [r]) ns.length (denNode (denAll ns) r) := by
  unfold Den
  rw [denAll_snoc, List.getElem?_append_right (by rw [denAll_length]; omega), denAll_length, Nat.sub_self]
  rfl
theorem Den.getD {ns : List RN} {k : Nat} {A : LL} (h : Den ns k A) : (denAll ns).getD k noL = A := by
  unfold Den at h
  rw [List.getD_eq_getElem?_getD, h]
  rfl
/-- A part as it may stand at place i. -/
def RNOk (i : Nat) (r : RN) : Prop := (r.op = 115 ∧ r.set.length = 95 ∧ r.l = []) ∨ (r.op = 111 ∧ r.l.length ≤ 2000 ∧ ∀ j ∈ r.l, j < i) ∨ (r.op = 116 ∧ r.l.length ≤ 2000 ∧ ∀ j ∈ r.l, j < i) ∨ (r.op = 109 ∧ ∃ j, j < i ∧ r.l = [j])
def NsOk (ns : List RN) : Prop := ∀ (i : Nat) (r : RN), ns[i]? = some r → RNOk i r
theorem NsOk.snoc {ns : List RN} {r : RN} (h : NsOk ns) (hr : RNOk ns.length r) : NsOk (ns ++ [r]) := by
  intro i x hx
  by_cases hi : i < ns.length
  · rw [List.getElem?_append_left hi] at hx
    exact h i x hx
  · rw [List.getElem?_append_right (by omega)] at hx
    have : i - ns.length = 0 := by
      rcases Nat.eq_zero_or_pos (i - ns.length) with h0 | h0
      · exact h0
      · rw [List.getElem?_eq_none (by simp; omega)] at hx; cases hx
    rw [this] at hx
    simp at hx
    subst hx
    have : i = ns.length := by omega
    rw [this]
    exact hr

/-! languages of the parts that the document makes -/
def Dens (ns : List RN) (ks : List Nat) (ts : List T) : Prop := ks.length = ts.length ∧ ∀ (i k : Nat) (t : T), ks[i]? = some k → ts[i]? = some t → Den ns k (Lang t)
theorem Dens.nil (ns : List RN) : Dens ns [] [] := ⟨rfl, fun i k t h => by simp at h⟩
theorem Dens.more {ns : List RN} {ks : List Nat} {ts : List T} (h : Dens ns ks ts) (m : List RN) : Dens (ns ++ m) ks ts := ⟨h.1, fun i k t h1 h2 => Den.more m (h.2 i k t h1 h2)⟩
theorem Dens.snoc {ns : List RN} {ks : List Nat} {ts : List T} {k : Nat} {t : T} (h : Dens ns ks ts) (hk : Den ns k (Lang t)) : Dens ns (ks ++ [k]) (ts ++ [t]) := by
  refine ⟨by simp [h.1], ?_⟩
  intro i u x h1 h2
  by_cases hi : i < ks.length
  · rw [List.getElem?_append_left hi] at h1
    rw [List.getElem?_append_left (by rw [← h.1]; exact hi)] at h2
    exact h.2 i u x h1 h2
  · rw [List.getElem?_append_right (by omega)] at h1
    rw [List.getElem?_append_right (by rw [← h.1]; omega), ← h.1] at h2
    have hz : i - ks.length = 0 := by
      rcases Nat.eq_zero_or_pos (i - ks.length) with h0 | h0
      · exact h0
      · rw [List.getElem?_eq_none (by simp; omega)] at h1; cases h1
    rw [hz] at h1 h2
    simp at h1 h2
    subst h1 h2
    exact hk
theorem Dens.cons {ns : List RN} {k : Nat} {ks : List Nat} {t : T} {ts : List T} (h : Dens ns (k :: ks) (t :: ts)) : Den ns k (Lang t) ∧ Dens ns ks ts :=
  ⟨h.2 0 k t rfl rfl, by have := h.1; simpa using this, fun i u x h1 h2 => h.2 (i + 1) u x (by simpa using h1) (by simpa using h2)⟩
theorem Dens.lt {ns : List RN} : ∀ {ks : List Nat} {ts : List T}, Dens ns ks ts → ∀ j ∈ ks, j < ns.length := by
  intro ks
  induction ks with
  | nil => intro ts _ j hj; simp at hj
  | cons k ks ih =>
    intro ts h j hj
    cases ts with
    | nil => have := h.1; simp at this
    | cons t ts =>
      obtain ⟨h1, h2⟩ := h.cons
      rcases List.mem_cons.1 hj with rfl | hj
      · exact h1.lt
      · exact ih h2 j hj
theorem den_seq {ns : List RN} : ∀ {ks : List Nat} {ts : List T}, Dens ns ks ts → CatL (ks.map fun j => (denAll ns).getD j noL) = LangSeq ts := by
  intro ks
  induction ks with
  | nil =>
    intro ts h
    cases ts with
    | nil => rw [LangSeq]; rfl
    | cons t ts => have := h.1; simp at this
  | cons k ks ih =>
    intro ts h
    cases ts with
    | nil => have := h.1; simp at this
    | cons t ts =>
      obtain ⟨h1, h2⟩ := h.cons
      rw [List.map_cons, CatL, ih h2, LangSeq, h1.getD]
theorem den_alt {ns : List RN} : ∀ {ks : List Nat} {ts : List T}, Dens ns ks ts → (fun s => ∃ j ∈ ks, (denAll ns).getD j noL s) = LangAlt ts := by
  intro ks
  induction ks with
  | nil =>
    intro ts h
    cases ts with
    | nil => funext s; rw [LangAlt]; simp
    | cons t ts => have := h.1; simp at this
  | cons k ks ih =>
    intro ts h
    cases ts with
    | nil => have := h.1; simp at this
    | cons t ts =>
      obtain ⟨h1, h2⟩ := h.cons
      funext s
      rw [LangAlt, ← ih h2]
      have := h1.getD
      apply propext
      constructor
      · rintro ⟨j, hj, hs⟩
        rcases List.mem_cons.1 hj with rfl | hj
        · rw [this] at hs; exact .inl hs
        · exact .inr ⟨j, hj, hs⟩
      · rintro (hs | ⟨j, hj, hs⟩)
        · exact ⟨k, List.mem_cons_self, by rw [this]; exact hs⟩
        · exact ⟨j, List.mem_cons_of_mem _ hj, hs⟩
theorem lang_rowE (l : List T) : Lang (rowT l) = LangSeq l := funext fun _ => propext lang_rowT
theorem lang_eitherE (l : List T) : Lang (eitherT l) = LangAlt l := funext fun _ => propext lang_eitherT
/-- A part of branches, of parts in a row, of signs. -/
theorem den_branch {ns : List RN} {ks : List Nat} {ts : List T} (h : Dens ns ks ts) : Den (ns ++ [⟨116, [], ks⟩]) ns.length (Lang (rowT ts)) := by
  have := den_last ns ⟨116, [], ks⟩
  rw [lang_rowE, ← den_seq h]
  exact this
theorem den_expr {ns : List RN} {ks : List Nat} {ts : List T} (h : Dens ns ks ts) : Den (ns ++ [⟨111, [], ks⟩]) ns.length (Lang (eitherT ts)) := by
  have := den_last ns ⟨111, [], ks⟩
  rw [lang_eitherE, ← den_alt h]
  exact this
theorem den_set (ns : List RN) (m : List Bool) : Den (ns ++ [⟨115, m, []⟩]) ns.length (Lang (.set m)) := by
  have := den_last ns ⟨115, m, []⟩
  rw [Lang]
  exact this
theorem den_none (ns : List RN) : Den (ns ++ [⟨116, [], []⟩]) ns.length (fun s => s = []) := den_last ns ⟨116, [], []⟩
theorem den_maybe {ns : List RN} {k m : Nat} {t : T} (h : Den ns k (Lang t)) (hm : Den ns m (fun s => s = [])) : Den (ns ++ [⟨111, [], [k, m]⟩]) ns.length (Lang (.rep t 63)) := by
  have := den_last ns ⟨111, [], [k, m]⟩
  have e : denNode (denAll ns) ⟨111, [], [k, m]⟩ = Lang (.rep t 63) := by
    funext s
    rw [Lang]
    show (∃ j ∈ [k, m], (denAll ns).getD j noL s) = (if (63 : UInt8).toNat = 63 then s = [] ∨ Lang t s else _)
    rw [if_pos (by decide)]
    apply propext
    constructor
    · rintro ⟨j, hj, hs⟩
      rcases List.mem_cons.1 hj with rfl | hj
      · rw [h.getD] at hs; exact .inr hs
      · rcases List.mem_cons.1 hj with rfl | hj
        · rw [hm.getD] at hs; exact .inl hs
        · simp at hj
    · rintro (hs | hs)
      · exact ⟨m, by simp, by rw [hm.getD]; exact hs⟩
      · exact ⟨k, by simp, by rw [h.getD]; exact hs⟩
  rwa [e] at this
theorem den_star {ns : List RN} {k : Nat} {t : T} (h : Den ns k (Lang t)) : Den (ns ++ [⟨109, [], [k]⟩]) ns.length (Lang (.rep t 42)) := by
  have := den_last ns ⟨109, [], [k]⟩
  have e : denNode (denAll ns) ⟨109, [], [k]⟩ = Lang (.rep t 42) := by
    rw [Lang]
    funext s
    show Star ((denAll ns).getD k noL) s = (if (42 : UInt8).toNat = 63 then _ else if (42 : UInt8).toNat = 42 then Star (Lang t) s else _)
    rw [if_neg (by decide), if_pos (by decide), h.getD]
  rwa [e] at this
theorem den_plus {ns : List RN} {k m : Nat} {t : T} (h : Den ns k (Lang t)) (hm : Den ns m (Lang (.rep t 42))) : Den (ns ++ [⟨116, [], [k, m]⟩]) ns.length (Lang (.rep t 43)) := by
  have := den_last ns ⟨116, [], [k, m]⟩
  have e : denNode (denAll ns) ⟨116, [], [k, m]⟩ = Lang (.rep t 43) := by
    rw [Lang]
    funext s
    show Cat ((denAll ns).getD k noL) (Cat ((denAll ns).getD m noL) (fun s => s = [])) s = (if (43 : UInt8).toNat = 63 then _ else if (43 : UInt8).toNat = 42 then _ else Cat (Lang t) (Star (Lang t)) s)
    rw [if_neg (by decide), if_neg (by decide), h.getD, hm.getD, Lang]
    have e1 : Cat (RepL (42 : UInt8).toNat (Lang t)) (fun s => s = []) = Star (Lang t) := by
      funext u
      refine propext (cat_nil.trans ?_)
      show (if (42 : UInt8).toNat = 63 then _ else if (42 : UInt8).toNat = 42 then Star (Lang t) u else _) ↔ _
      rw [if_neg (by decide), if_pos (by decide)]
    rw [e1]
  rwa [e] at this

/-! matching by splits: which parts of a text -/
/-- The part of t from i to k. -/
def cut (t : List UInt8) (i k : Nat) : List UInt8 := (t.drop i).take (k - i)
/-- f tells which parts of t are in L. -/
def Tells (t : List UInt8) (f : Nat → Nat → Bool) (L : LL) : Prop := ∀ i k, i ≤ t.length → k ≤ t.length → (f i k = true ↔ i ≤ k ∧ L (cut t i k))
theorem cut_self (t : List UInt8) (i : Nat) : cut t i i = [] := by simp [cut]
theorem cut_join (t : List UInt8) {i m k : Nat} (h1 : i ≤ m) (h2 : m ≤ k) : cut t i k = cut t i m ++ cut t m k := by
  unfold cut
  have e : k - i = (m - i) + (k - m) := by omega
  rw [e, List.take_add, List.drop_drop, show i + (m - i) = m from by omega]
theorem cut_split {t u v : List UInt8} {i k : Nat} (hi : i ≤ k) (hk : k ≤ t.length) (h : cut t i k = u ++ v) : ∃ m, i ≤ m ∧ m ≤ k ∧ cut t i m = u ∧ cut t m k = v := by
  have hl : (cut t i k).length = k - i := by
    unfold cut
    rw [List.length_take, List.length_drop]
    omega
  rw [h, List.length_append] at hl
  refine ⟨i + u.length, by omega, by omega, ?_⟩
  have hj := cut_join t (i := i) (m := i + u.length) (k := k) (by omega) (by omega)
  rw [h] at hj
  have hu : (cut t i (i + u.length)).length = u.length := by
    unfold cut
    rw [List.length_take, List.length_drop]
    omega
  obtain ⟨h1, h2⟩ := List.append_inj hj hu.symm
  exact ⟨h1.symm, h2.symm⟩
theorem cut_len {t : List UInt8} {i k : Nat} (hi : i ≤ k) (hk : k ≤ t.length) : (cut t i k).length = k - i := by
  unfold cut
  rw [List.length_take, List.length_drop]
  omega
theorem cut_whole (t : List UInt8) : cut t 0 t.length = t := by simp [cut]
def bothF (a b : Nat → Nat → Bool) (i k : Nat) : Bool := a i k || b i k
def joinF (n : Nat) (a b : Nat → Nat → Bool) (i k : Nat) : Bool := (List.range n).any fun m => decide (m ≤ k) && a i m && b m k
def idF (i k : Nat) : Bool := decide (i = k)
def offF (_ _ : Nat) : Bool := false
theorem tells_both {t : List UInt8} {a b : Nat → Nat → Bool} {A B : LL} (ha : Tells t a A) (hb : Tells t b B) : Tells t (bothF a b) (fun s => A s ∨ B s) := by
  intro i k hi hk
  unfold bothF
  rw [Bool.or_eq_true, ha i k hi hk, hb i k hi hk]
  constructor
  · rintro (⟨h1, h2⟩ | ⟨h1, h2⟩)
    · exact ⟨h1, .inl h2⟩
    · exact ⟨h1, .inr h2⟩
  · rintro ⟨h1, h2 | h2⟩
    · exact .inl ⟨h1, h2⟩
    · exact .inr ⟨h1, h2⟩
theorem tells_join {t : List UInt8} {n : Nat} {a b : Nat → Nat → Bool} {A B : LL} (hn : n = t.length + 1) (ha : Tells t a A) (hb : Tells t b B) : Tells t (joinF n a b) (Cat A B) := by
  intro i k hi hk
  unfold joinF
  rw [List.any_eq_true]
  constructor
  · rintro ⟨m, hm, h⟩
    simp only [Bool.and_eq_true, decide_eq_true_eq] at h
    obtain ⟨⟨h1, h2⟩, h3⟩ := h
    have h2 := (ha i m hi (by omega)).1 h2
    have h3 := (hb m k (by omega) hk).1 h3
    exact ⟨by omega, cut t i m, cut t m k, cut_join t h2.1 h3.1, h2.2, h3.2⟩
  · rintro ⟨hik, u, v, he, h1, h2⟩
    obtain ⟨m, hm1, hm2, rfl, rfl⟩ := cut_split hik hk he
    refine ⟨m, List.mem_range.2 (by omega), ?_⟩
    simp only [Bool.and_eq_true, decide_eq_true_eq]
    exact ⟨⟨hm2, (ha i m hi (by omega)).2 ⟨hm1, h1⟩⟩, (hb m k (by omega) hk).2 ⟨hm2, h2⟩⟩
theorem tells_id (t : List UInt8) : Tells t idF (fun s => s = []) := by
  intro i k hi hk
  unfold idF
  rw [decide_eq_true_eq]
  constructor
  · rintro rfl
    exact ⟨Nat.le_refl _, cut_self t i⟩
  · rintro ⟨h1, h2⟩
    have := cut_len h1 hk
    rw [h2, List.length_nil] at this
    omega
theorem tells_off (t : List UInt8) : Tells t offF noL := by
  intro i k _ _
  unfold offF noL
  simp
def setF (t : List UInt8) (m : List Bool) (i k : Nat) : Bool := decide (k = i + 1) && decide (i < t.length) && isS (t.getD i 0) && m.getD ((t.getD i 0).toNat - 32) false
theorem tells_set (t : List UInt8) (m : List Bool) : Tells t (setF t m) (SetL m) := by
  intro i k hi hk
  unfold setF
  simp only [Bool.and_eq_true, decide_eq_true_eq]
  have hc : ∀ (h : i < t.length), cut t i (i + 1) = [t.getD i 0] := by
    intro h
    unfold cut
    rw [show i + 1 - i = 1 from by omega, List.drop_eq_getElem_cons h, List.getD_eq_getElem?_getD, List.getElem?_eq_getElem h]
    rfl
  constructor
  · rintro ⟨⟨⟨rfl, h1⟩, h2⟩, h3⟩
    refine ⟨by omega, t.getD i 0, hc h1, ?_⟩
    unfold isS at h2
    simp only [Bool.and_eq_true, decide_eq_true_eq] at h2
    exact ⟨h2.1, h2.2, h3⟩
  · rintro ⟨h1, c, h2, h3, h4, h5⟩
    have hl := cut_len h1 hk
    rw [h2] at hl
    simp at hl
    have hk1 : k = i + 1 := by omega
    have hi1 : i < t.length := by omega
    subst hk1
    rw [hc hi1] at h2
    have : t.getD i 0 = c := by simpa using h2
    rw [this]
    refine ⟨⟨⟨rfl, hi1⟩, ?_⟩, h5⟩
    unfold isS
    simp only [Bool.and_eq_true, decide_eq_true_eq]
    exact ⟨h3, h4⟩
/-- So often one more of a. -/
def starF (n : Nat) (a : Nat → Nat → Bool) : Nat → Nat → Nat → Bool
  | 0 => idF
  | j + 1 => bothF (starF n a j) (joinF n (starF n a j) a)
def PowL (A : LL) : Nat → LL
  | 0 => fun s => s = []
  | j + 1 => fun s => PowL A j s ∨ Cat (PowL A j) A s
theorem tells_star {t : List UInt8} {n : Nat} {a : Nat → Nat → Bool} {A : LL} (hn : n = t.length + 1) (ha : Tells t a A) : ∀ j, Tells t (starF n a j) (PowL A j) := by
  intro j
  induction j with
  | zero => exact tells_id t
  | succ j ih => exact tells_both ih (tells_join hn ih ha)
theorem pow_star {A : LL} : ∀ (j : Nat) (s : List UInt8), PowL A j s → Star A s := by
  intro j
  induction j with
  | zero => rintro s rfl; exact .nil
  | succ j ih =>
    rintro s (h | ⟨u, v, rfl, h1, h2⟩)
    · exact ih s h
    · exact (ih u h1).snoc h2
theorem star_pow {A : LL} : ∀ (j : Nat) (s : List UInt8), Star A s → s.length ≤ j → PowL A j s := by
  intro j
  induction j with
  | zero =>
    intro s _ hl
    exact List.eq_nil_of_length_eq_zero (by omega)
  | succ j ih =>
    intro s h hl
    by_cases hne : s = []
    · exact .inl (ih s h (by rw [hne]; simp))
    · obtain ⟨u, v, rfl, h1, h2, h3⟩ := h.last hne
      rw [List.length_append] at hl
      have : 1 ≤ v.length := by
        cases v with
        | nil => exact absurd rfl h3
        | cons x v => simp
      exact .inr ⟨u, v, rfl, ih u h1 (by omega), h2⟩
theorem tells_many {t : List UInt8} {n : Nat} {a : Nat → Nat → Bool} {A : LL} (hn : n = t.length + 1) (ha : Tells t a A) : Tells t (starF n a n) (Star A) := by
  intro i k hi hk
  rw [tells_star hn ha n i k hi hk]
  constructor
  · rintro ⟨h1, h2⟩
    exact ⟨h1, pow_star _ _ h2⟩
  · rintro ⟨h1, h2⟩
    refine ⟨h1, star_pow _ _ h2 ?_⟩
    rw [cut_len h1 hk]
    omega
end Go.Proofs.Ytaefhfldgemcnaa
