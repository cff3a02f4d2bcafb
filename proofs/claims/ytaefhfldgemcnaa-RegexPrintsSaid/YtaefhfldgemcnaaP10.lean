/- What is printed is parsed, and has the same language. No program in sight. -/
import Derived.Test.YtaefhfldgemcnaaP9
import Derived.Lib.IndexBytes
namespace Go.Proofs.Ytaefhfldgemcnaa

mutual
def WF : T → Prop
  | .set m => m.length = 95
  | .seq l => WFs l
  | .alt l => l ≠ [] ∧ WFs l
  | .rep p op => WF p ∧ (op = 42 ∨ op = 43 ∨ op = 63)
def WFs : List T → Prop
  | [] => True
  | t :: l => WF t ∧ WFs l
end
theorem wfs_snoc {t : T} (ht : WF t) : ∀ {l : List T}, WFs l → WFs (l ++ [t]) := by
  intro l
  induction l with
  | nil => intro _; exact ⟨ht, trivial⟩
  | cons u l ih => intro h; rw [List.cons_append, WFs]; rw [WFs] at h; exact ⟨h.1, ih h.2⟩
theorem wf_rowT {l : List T} (h : WFs l) : WF (rowT l) := by
  unfold rowT
  split
  · rw [WFs] at h; exact h.1
  · rw [WF]; exact h
theorem wf_eitherT {l : List T} (h : WFs l) : WF (eitherT l) := by
  unfold eitherT
  split
  · rw [WF]; exact noneM_length
  · rw [WFs] at h; exact h.1
  · rename_i h1 _
    rw [WF]; exact ⟨h1, h⟩
theorem in_ops {s : ByteArray} {k : Nat} (h : atL s k [42, 43, 63] = true) : byteAt s k = 42 ∨ byteAt s k = 43 ∨ byteAt s k = 63 := by
  unfold atL inL at h
  rw [Bool.and_eq_true] at h
  simpa using h.2
theorem wf_repsF (s : ByteArray) : ∀ (f : Nat) (p : T) (k : Nat), WF p → WF (repsF s f p k).1 := by
  intro f
  induction f with
  | zero => intro p k h; exact h
  | succ f ih =>
    intro p k h
    unfold repsF
    split
    · rename_i h1
      refine ih _ _ ?_
      rw [WF]
      exact ⟨h, in_ops (by simpa using h1)⟩
    · exact h
theorem classF_len {s : ByteArray} {k : Nat} {t : T} {k' : Nat} (h : classF s k = some (t, k')) : WF t := by
  unfold classF at h
  split at h
  · cases h
  · rename_i m k1 h1
    simp only [Option.some.injEq, Prod.mk.injEq] at h
    obtain ⟨rfl, rfl⟩ := h
    have g := classL_some h1 noneM_length
    unfold classT
    rw [WF]
    split
    · rw [List.length_map]; exact g.2.2
    · exact g.2.2
theorem wf_parse (s : ByteArray) (f : Nat) : (∀ acc k t k', WFs acc → exprF s f acc k = some (t, k') → WF t) ∧ (∀ acc k t k', WFs acc → branchF s f acc k = some (t, k') → WF t) ∧ (∀ k t k', atomF s f k = some (t, k') → WF t) := by
  induction f with
  | zero => exact ⟨fun _ _ _ _ _ h => by simp [exprF] at h, fun _ _ _ _ _ h => by simp [branchF] at h, fun _ _ _ h => by simp [atomF] at h⟩
  | succ f ih =>
    obtain ⟨ihe, ihb, iha⟩ := ih
    refine ⟨?_, ?_, ?_⟩
    · intro acc k t k' ha h
      rw [exprF] at h
      split at h
      · cases h
      · rename_i p k1 h1
        have g1 := ihb _ _ _ _ (by rw [WFs]; trivial) h1
        split at h
        · exact ihe _ _ _ _ (wfs_snoc g1 ha) h
        · simp only [Option.some.injEq, Prod.mk.injEq] at h
          obtain ⟨rfl, rfl⟩ := h
          exact wf_eitherT (wfs_snoc g1 ha)
    · intro acc k t k' ha h
      rw [branchF] at h
      split at h
      · split at h
        · cases h
        · rename_i p k1 h1
          have g1 := iha _ _ _ h1
          exact ihb _ _ _ _ (wfs_snoc (wf_repsF s _ p k1 g1) ha) h
      · simp only [Option.some.injEq, Prod.mk.injEq] at h
        obtain ⟨rfl, rfl⟩ := h
        exact wf_rowT ha
    · intro k t k' h
      rw [atomF] at h
      split at h
      · split at h
        · cases h
        · rename_i p k1 h1
          have g1 := ihe _ _ _ _ (by rw [WFs]; trivial) h1
          split at h
          · simp only [Option.some.injEq, Prod.mk.injEq] at h
            obtain ⟨rfl, rfl⟩ := h
            exact g1
          · cases h
      · split at h
        · simp only [Option.some.injEq, Prod.mk.injEq] at h
          obtain ⟨rfl, rfl⟩ := h
          rw [WF]; exact everyM_length
        · split at h
          · exact classF_len h
          · split at h
            · cases h
            · simp only [Option.some.injEq, Prod.mk.injEq] at h
              obtain ⟨rfl, rfl⟩ := h
              rw [WF]; exact singleM_length _
theorem parseF_wf {s : ByteArray} {t : T} (h : parseF s = some t) : WF t := by
  unfold parseF at h
  split at h
  · cases h
  · rename_i t' k h1
    split at h
    · cases h
    · simp only [Option.some.injEq] at h
      subst h
      exact (wf_parse s _).1 _ _ _ _ (by rw [WFs]; trivial) h1

/-! joining runs -/
theorem runB_stop {s : ByteArray} {acc : List T} {k : Nat} (hk : k ≤ s.size) (h : k < s.size → atL s k [124, 41] = true) : RunB s acc k (rowT acc) k := by
  refine ⟨Nat.le_refl _, hk, fun f hf => ?_⟩
  obtain ⟨f', rfl⟩ : ∃ f', f = f' + 1 := ⟨f - 1, by omega⟩
  rw [branchF, if_neg]
  by_cases hlt : k < s.size
  · rw [h hlt]; simp
  · rw [decide_eq_false hlt]; simp
theorem runB_step {s : ByteArray} {acc : List T} {k k1 k2 k' : Nat} {p p2 t : T} (ha : RunA s k p k1) (hn : atL s k [124, 41] = false) (hr : reps s p k1 = (p2, k2)) (h12 : k1 ≤ k2) (h : RunB s (acc ++ [p2]) k2 t k') : RunB s acc k t k' := by
  obtain ⟨a1, a2, a3⟩ := ha
  obtain ⟨b1, b2, b3⟩ := h
  refine ⟨by omega, b2, fun f hf => ?_⟩
  obtain ⟨f', rfl⟩ : ∃ f', f = f' + 1 := ⟨f - 1, by omega⟩
  rw [branchF, hn, decide_eq_true (by omega : k < s.size), if_pos (by decide), a3 f' (by omega)]
  show branchF s f' (acc ++ [(reps s p k1).1]) (reps s p k1).2 = _
  rw [hr]
  exact b3 f' (by omega)
theorem runE_last {s : ByteArray} {acc : List T} {k k' : Nat} {p : T} (h : RunB s [] k p k') (hn : atL s k' [124] = false) : RunE s acc k (eitherT (acc ++ [p])) k' := by
  obtain ⟨b1, b2, b3⟩ := h
  refine ⟨b1, b2, fun f hf => ?_⟩
  obtain ⟨f', rfl⟩ : ∃ f', f = f' + 1 := ⟨f - 1, by omega⟩
  rw [exprF, b3 f' (by omega)]
  show (if atL s k' [124] = true then _ else _) = _
  rw [hn, if_neg (by decide)]
theorem runE_more {s : ByteArray} {acc : List T} {k k1 k' : Nat} {p t : T} (h : RunB s [] k p k1) (hn : atL s k1 [124] = true) (he : RunE s (acc ++ [p]) (k1 + 1) t k') : RunE s acc k t k' := by
  obtain ⟨b1, b2, b3⟩ := h
  obtain ⟨e1, e2, e3⟩ := he
  refine ⟨by omega, e2, fun f hf => ?_⟩
  obtain ⟨f', rfl⟩ : ∃ f', f = f' + 1 := ⟨f - 1, by omega⟩
  rw [exprF, b3 f' (by omega)]
  show (if atL s k1 [124] = true then _ else _) = _
  rw [hn, if_pos rfl]
  exact e3 f' (by omega)
theorem runA_paren {s : ByteArray} {k k1 : Nat} {t : T} (h40 : atL s k [40] = true) (he : RunE s [] (k + 1) t k1) (h41 : atL s k1 [41] = true) : RunA s k t (k1 + 1) := by
  obtain ⟨e1, e2, e3⟩ := he
  have := atL_lt h41
  refine ⟨by omega, by omega, fun f hf => ?_⟩
  obtain ⟨f', rfl⟩ : ∃ f', f = f' + 1 := ⟨f - 1, by omega⟩
  rw [atomF, h40, if_pos rfl, e3 f' (by omega)]
  show (if atL s k1 [41] = true then _ else _) = _
  rw [h41, if_pos rfl]

/-! languages of joined rows -/
theorem cat_assoc {A B C : List UInt8 → Prop} : Cat (Cat A B) C = Cat A (Cat B C) := by
  funext s
  refine propext ⟨?_, ?_⟩
  · rintro ⟨u, v, rfl, ⟨x, y, rfl, h1, h2⟩, h3⟩
    exact ⟨x, y ++ v, List.append_assoc _ _ _, h1, y, v, rfl, h2, h3⟩
  · rintro ⟨u, v, rfl, h1, x, y, rfl, h2, h3⟩
    exact ⟨u ++ x, y, (List.append_assoc _ _ _).symm, ⟨u, x, rfl, h1, h2⟩, h3⟩
theorem langSeq_join (a b : List T) : LangSeq (a ++ b) = Cat (LangSeq a) (LangSeq b) := by
  induction a with
  | nil =>
    funext s
    refine propext ⟨?_, ?_⟩
    · intro h; exact ⟨[], s, rfl, by rw [LangSeq], h⟩
    · rintro ⟨u, v, rfl, h1, h2⟩
      rw [LangSeq] at h1
      subst h1
      exact h2
  | cons t a ih =>
    rw [List.cons_append, LangSeq, ih, LangSeq, cat_assoc]
theorem langSeq_single (t : T) : LangSeq [t] = Lang t := by
  funext s
  rw [LangSeq]
  rw [show LangSeq [] = fun s => s = [] from by rw [LangSeq]]
  exact propext cat_nil
theorem lang_row (l : List T) : Lang (rowT l) = LangSeq l := funext fun _ => propext lang_rowT
theorem lang_either (l : List T) : Lang (eitherT l) = LangAlt l := funext fun _ => propext lang_eitherT
theorem langAlt_join (a b : List T) (s : List UInt8) : LangAlt (a ++ b) s ↔ LangAlt a s ∨ LangAlt b s := by
  rw [langAlt_iff, langAlt_iff, langAlt_iff]
  constructor
  · rintro ⟨t, h1, h2⟩
    rcases List.mem_append.1 h1 with h | h
    · exact .inl ⟨t, h, h2⟩
    · exact .inr ⟨t, h, h2⟩
  · rintro (⟨t, h1, h2⟩ | ⟨t, h1, h2⟩)
    · exact ⟨t, List.mem_append_left _ h1, h2⟩
    · exact ⟨t, List.mem_append_right _ h1, h2⟩

/-! the heads of what is printed -/
theorem spA_no {c : UInt8} (h : spA.contains c = false) : inL [124, 41] c = false ∧ inL [42, 43, 63] c = false := by
  unfold spA at h
  unfold inL
  simp only [List.contains_cons, List.contains_nil, Bool.or_eq_false_iff] at h ⊢
  exact ⟨⟨h.2.2.2.2.2.1, h.2.2.1, trivial⟩, h.2.2.2.2.2.2.1, h.2.2.2.2.2.2.2.1, h.2.2.2.2.2.2.2.2.1, trivial⟩
/-- No repeat, no end of a branch stands there. -/
def Starts (s : ByteArray) (k : Nat) : Prop := atL s k [124, 41] = false ∧ atL s k [42, 43, 63] = false
theorem starts_sign {s : ByteArray} {k : Nat} {c : UInt8} {l : List UInt8} (h : Stands s k (wSign c spA ++ l)) : Starts s k := by
  unfold wSign at h
  split at h
  · have h1 : Stands s k (92 :: c :: l) := h
    exact ⟨by rw [h1.at_]; decide, by rw [h1.at_]; decide⟩
  · rename_i hc
    have h1 : Stands s k (c :: l) := h
    have := spA_no (by simpa using hc)
    exact ⟨by rw [h1.at_]; exact this.1, by rw [h1.at_]; exact this.2⟩
theorem starts_head {s : ByteArray} {k : Nat} {c : UInt8} {l : List UInt8} (h : Stands s k (c :: l)) (h1 : inL [124, 41] c = false) (h2 : inL [42, 43, 63] c = false) : Starts s k :=
  ⟨by rw [h.at_]; exact h1, by rw [h.at_]; exact h2⟩
theorem starts_set {s : ByteArray} {k : Nat} {m : List Bool} (h : Stands s k (wSet m)) : Starts s k := by
  unfold wSet at h
  split at h
  · exact starts_head h (by decide) (by decide)
  · split at h
    · exact starts_head h (by decide) (by decide)
    · split at h
      · exact starts_sign (l := []) (by rwa [List.append_nil])
      · exact starts_head h (by decide) (by decide)

/-! trees -/
def ReadA (s : ByteArray) (k : Nat) (t : T) (n : Nat) : Prop :=
  Starts s k ∧ ∃ t' q kA, RunA s k q kA ∧ kA ≤ k + n ∧ reps s q kA = reps s t' (k + n) ∧ Lang t' = Lang t
def ReadB (s : ByteArray) (k : Nat) (L : List UInt8 → Prop) (n : Nat) : Prop :=
  atL s k [42, 43, 63] = false ∧ ∃ l', LangSeq l' = L ∧ ∀ acc r k', RunB s (acc ++ l') (k + n) r k' → RunB s acc k r k'
/-- A branch may end here. -/
def Ends (s : ByteArray) (k : Nat) : Prop := k ≤ s.size ∧ atL s k [42, 43, 63] = false ∧ (k < s.size → atL s k [124, 41] = true)
def ReadE (s : ByteArray) (acc : List T) (k : Nat) (L : List UInt8 → Prop) (n : Nat) : Prop :=
  ∃ t', RunE s acc k t' (k + n) ∧ ∀ u, Lang t' u ↔ LangAlt acc u ∨ L u

structure Reads (n : Nat) : Prop where
  b : ∀ (l : List T) (s : ByteArray) (k : Nat), sizes l ≤ n → WFs l → Stands s k (wrSeq l) → atL s (k + (wrSeq l).length) [42, 43, 63] = false → ReadB s k (LangSeq l) (wrSeq l).length
  e : ∀ (l : List T) (s : ByteArray) (k : Nat) (acc : List T), sizes l ≤ n → WFs l → l ≠ [] → Stands s k (wrAlt l) → Ends s (k + (wrAlt l).length) → atL s (k + (wrAlt l).length) [124] = false → ReadE s acc k (LangAlt l) (wrAlt l).length

theorem readB_of_A {s : ByteArray} {k n : Nat} {t : T} (h : ReadA s k t n) (hn : atL s (k + n) [42, 43, 63] = false) : ReadB s k (Lang t) n := by
  obtain ⟨⟨h1, h2⟩, t', q, kA, hr, hk, hreps, hl⟩ := h
  refine ⟨h2, [t'], by rw [langSeq_single, hl], fun acc r k' hb => ?_⟩
  rw [reps_no hn] at hreps
  exact runB_step hr h1 hreps hk hb
theorem ends_no {s : ByteArray} {k : Nat} (h : atL s k [41] = true) : Ends s k ∧ atL s k [124] = false := by
  have hlt := atL_lt h
  have hb : byteAt s k = 41 := by
    unfold atL at h
    rw [inL_one] at h
    simpa using (Bool.and_eq_true_iff.1 h).2
  refine ⟨⟨by omega, ?_, fun _ => ?_⟩, ?_⟩ <;> unfold atL <;> rw [hb, decide_eq_true hlt] <;> decide
theorem readE_row {s : ByteArray} {acc : List T} {k n : Nat} {L : List UInt8 → Prop} (h : ReadB s k L n) (he : Ends s (k + n)) (hn : atL s (k + n) [124] = false) : ReadE s acc k L n := by
  obtain ⟨_, l', hl, hb⟩ := h
  have h1 := hb [] (rowT l') (k + n) (by rw [List.nil_append]; exact runB_stop he.1 he.2.2)
  refine ⟨_, runE_last h1 hn, fun u => ?_⟩
  rw [lang_either, langAlt_join, ← hl]
  have : LangAlt [rowT l'] u ↔ LangSeq l' u := by
    rw [← lang_row, langAlt_iff]
    simp
  rw [this]
/-- What stands in brackets is read as an atom. -/
theorem readA_of_E {s : ByteArray} {k : Nat} {t : T} {l : List UInt8} (h : Stands s k (inBr l)) (he : Stands s (k + 1) l → Ends s (k + 1 + l.length) → atL s (k + 1 + l.length) [124] = false → ReadE s [] (k + 1) (Lang t) l.length) : ReadA s k t (inBr l).length := by
  unfold inBr at h ⊢
  have h1 := h.tail
  have h41 := h1.right.at_ [41]
  obtain ⟨hE, hn⟩ := ends_no (s := s) (k := k + 1 + l.length) (by rw [h41]; decide)
  obtain ⟨t', hr, hl⟩ := he h1.left hE hn
  have hA := runA_paren (by rw [h.at_]; decide) hr (by rw [h41]; decide)
  have hlen : k + (40 :: (l ++ [41])).length = k + 1 + l.length + 1 := by simp; omega
  refine ⟨starts_head h (by decide) (by decide), t', t', _, hA, by omega, by rw [hlen], ?_⟩
  funext u
  refine propext ((hl u).trans ?_)
  rw [langAlt_iff]
  simp
theorem readA_succ {n : Nat} (ih : Reads n) : ∀ (t : T) (s : ByteArray) (k : Nat), t.size ≤ n + 1 → WF t → Stands s k (wr t 2) → ReadA s k t (wr t 2).length := by
  intro t
  induction t using T.rec (motive_2 := fun _ => True) with
  | set m =>
    intro s k _ hw h
    rw [WF] at hw
    rw [wr] at h ⊢
    have hr := set_read hw h
    exact ⟨starts_set h, .set m, .set m, _, hr, by omega, rfl, rfl⟩
  | seq l _ =>
    intro s k hsz hw h
    rw [WF] at hw
    rw [T.size] at hsz
    rw [wr, if_pos rfl] at h ⊢
    refine readA_of_E h fun h1 hE hn => ?_
    have := ih.b l s (k + 1) (by omega) hw h1 hE.2.1
    rw [Lang]
    exact readE_row this hE hn
  | alt l _ =>
    intro s k hsz hw h
    rw [WF] at hw
    rw [T.size] at hsz
    rw [wr, if_neg (by decide)] at h ⊢
    refine readA_of_E h fun h1 hE hn => ?_
    rw [Lang]
    exact ih.e l s (k + 1) [] (by omega) hw.2 hw.1 h1 hE hn
  | rep p op ihp =>
    intro s k hsz hw h
    rw [WF] at hw
    rw [T.size] at hsz
    rw [wr] at h ⊢
    obtain ⟨hst, t', q, kA, hr, hk, hreps, hl⟩ := ihp s k (by omega) hw.1 h.left
    have hop : Stands s (k + (wr p 2).length) [op] := h.right
    have hat : atL s (k + (wr p 2).length) [42, 43, 63] = true := by
      rw [hop.at_]
      rcases hw.2 with rfl | rfl | rfl <;> decide
    rw [reps_yes hat, hop.head] at hreps
    refine ⟨hst, .rep t' op, q, kA, hr, by rw [List.length_append]; omega, by rw [List.length_append]; exact hreps, ?_⟩
    rw [Lang, Lang, hl]
  | nil => trivial
  | cons _ _ _ _ => trivial
theorem reads (n : Nat) : Reads n := by
  induction n with
  | zero =>
    refine ⟨?_, ?_⟩
    · intro l s k hsz _ h hn
      cases l with
      | nil => rw [wrSeq] at h hn ⊢; exact ⟨hn, [], rfl, fun acc r k' hb => by simpa using hb⟩
      | cons t l => rw [sizes] at hsz; have := size_pos t; omega
    · intro l s k acc hsz _ hne
      cases l with
      | nil => exact absurd rfl hne
      | cons t l => rw [sizes] at hsz; have := size_pos t; omega
  | succ n ih =>
    have hA := readA_succ ih
    have hB : ∀ (t : T) (s : ByteArray) (k : Nat), t.size ≤ n + 1 → WF t → Stands s k (wr t 1) → atL s (k + (wr t 1).length) [42, 43, 63] = false → ReadB s k (Lang t) (wr t 1).length := by
      intro t s k hsz hw h hn
      cases t with
      | set m => exact readB_of_A (hA (.set m) s k hsz hw (by rw [wr] at h ⊢; exact h)) hn
      | rep p op =>
        have e : wr (.rep p op) 1 = wr (.rep p op) 2 := by rw [wr, wr]
        rw [e] at h hn ⊢
        exact readB_of_A (hA _ s k hsz hw h) hn
      | alt l =>
        have e : wr (.alt l) 1 = wr (.alt l) 2 := by rw [wr, wr, if_neg (by decide), if_neg (by decide)]
        rw [e] at h hn ⊢
        exact readB_of_A (hA _ s k hsz hw h) hn
      | seq l =>
        have e : wr (.seq l) 1 = wrSeq l := by rw [wr, if_neg (by decide)]
        rw [e] at h hn ⊢
        rw [WF] at hw
        rw [T.size] at hsz
        rw [Lang]
        exact ih.b l s k (by omega) hw h hn
    refine ⟨?_, ?_⟩
    · intro l
      induction l with
      | nil => intro s k _ _ h hn; rw [wrSeq] at h hn ⊢; exact ⟨hn, [], rfl, fun acc r k' hb => by simpa using hb⟩
      | cons t l ihl =>
        intro s k hsz hw h hn
        rw [sizes] at hsz
        rw [WFs] at hw
        rw [wrSeq] at h hn ⊢
        rw [List.length_append, ← Nat.add_assoc] at hn
        obtain ⟨h1, l2, hl2, hb2⟩ := ihl s _ (by omega) hw.2 h.right hn
        obtain ⟨h3, l1, hl1, hb1⟩ := hB t s k (by omega) hw.1 h.left h1
        refine ⟨h3, l1 ++ l2, by rw [langSeq_join, hl1, hl2, LangSeq], fun acc r k' hb => ?_⟩
        refine hb1 acc r k' (hb2 (acc ++ l1) r k' ?_)
        rw [List.length_append] at hb
        rw [List.append_assoc, Nat.add_assoc]
        exact hb
    · intro l
      induction l with
      | nil => intro s k acc _ _ hne; exact absurd rfl hne
      | cons t l ihl =>
        intro s k acc hsz hw _ h hE hn
        rw [sizes] at hsz
        rw [WFs] at hw
        cases l with
        | nil =>
          rw [wrAlt] at h hE hn ⊢
          have := readE_row (acc := acc) (hB t s k (by omega) hw.1 h hE.2.1) hE hn
          obtain ⟨t', h1, h2⟩ := this
          refine ⟨t', h1, fun u => (h2 u).trans ?_⟩
          rw [langAlt_iff (l := [t])]
          simp
        | cons t2 l =>
          have ew : wrAlt (t :: t2 :: l) = wr t 1 ++ 124 :: wrAlt (t2 :: l) := by
            rw [wrAlt]
            simp
          rw [ew] at h hE hn ⊢
          have hlen : (wr t 1 ++ 124 :: wrAlt (t2 :: l)).length = (wr t 1).length + 1 + (wrAlt (t2 :: l)).length := by simp; omega
          have h124 := h.right
          have hb0 := hB t s k (by omega) hw.1 h.left (by rw [h124.at_]; decide)
          obtain ⟨_, l', hl', hb⟩ := hb0
          have h1 := hb [] (rowT l') _ (by rw [List.nil_append]; exact runB_stop (Nat.le_of_lt h124.lt) (fun _ => by rw [h124.at_]; decide))
          rw [hlen] at hE hn ⊢
          have e2 : k + ((wr t 1).length + 1 + (wrAlt (t2 :: l)).length) = k + (wr t 1).length + 1 + (wrAlt (t2 :: l)).length := by omega
          rw [e2] at hE hn
          obtain ⟨t', hr, hl⟩ := ihl s (k + (wr t 1).length + 1) (acc ++ [rowT l']) (by omega) hw.2 (by simp) h124.tail hE hn
          refine ⟨t', by rw [e2]; exact runE_more h1 (by rw [h124.at_]; decide) hr, fun u => (hl u).trans ?_⟩
          have e3 : LangAlt (t :: t2 :: l) u ↔ Lang t u ∨ LangAlt (t2 :: l) u := by rw [LangAlt]
          rw [langAlt_join, or_assoc, e3]
          have : LangAlt [rowT l'] u ↔ Lang t u := by
            rw [← hl', ← lang_row, langAlt_iff]
            simp
          rw [this]

theorem atL_out {v : ByteArray} {i : Nat} {set : List UInt8} (hi : v.size ≤ i) : atL v i set = false := by
  unfold atL
  rw [decide_eq_false (by omega), Bool.false_and]
theorem byteAt_lst {v : ByteArray} {i : Nat} (h : i < v.data.toList.length) : byteAt v i = v.data.toList[i] := by
  have hs : i < v.size := by simpa using h
  unfold byteAt
  rw [dif_pos hs]
  have h1 := Lib.data_getElem? v i hs
  rw [List.getElem?_eq_getElem h] at h1
  exact (Option.some.inj h1).symm
/-- What is printed whole is parsed, and has the same language. -/
theorem print_parse {t : T} {s : ByteArray} (hw : WF t) (hs : s.data.toList = wr t 0) : ∃ t', parseF s = some t' ∧ ∀ u, Lang t' u ↔ Lang t u := by
  have hsz : s.size = (wr t 0).length := by rw [← hs]; simp
  have hst : Stands s 0 (wr t 0) := by
    refine ⟨by omega, fun i hi => ?_⟩
    rw [Nat.zero_add, byteAt_lst (by rw [hs]; exact hi)]
    congr 1
  have hE : Ends s (0 + (wr t 0).length) := ⟨by omega, atL_out (by omega), fun h => by omega⟩
  have hn : atL s (0 + (wr t 0).length) [124] = false := atL_out (by omega)
  have hR : ReadE s [] 0 (Lang t) (wr t 0).length := by
    cases t with
    | alt l =>
      rw [wr, if_pos rfl] at *
      rw [WF] at hw
      rw [Lang]
      exact (reads _).e l s 0 [] (Nat.le_refl _) hw.2 hw.1 hst hE hn
    | seq l =>
      rw [wr, if_neg (by decide)] at *
      rw [WF] at hw
      rw [Lang]
      exact readE_row ((reads _).b l s 0 (Nat.le_refl _) hw hst hE.2.1) hE hn
    | set m =>
      have := readA_succ (reads 1) (.set m) s 0 (by rw [T.size]; omega) hw (by rw [wr] at hst ⊢; exact hst)
      rw [wr] at *
      exact readE_row (readB_of_A this hE.2.1) hE hn
    | rep p op =>
      have e : wr (.rep p op) 0 = wr (.rep p op) 2 := by rw [wr, wr]
      rw [e] at *
      have := readA_succ (reads (T.rep p op).size) (.rep p op) s 0 (by omega) hw hst
      exact readE_row (readB_of_A this hE.2.1) hE hn
  obtain ⟨t', hr, hl⟩ := hR
  refine ⟨t', ?_, fun u => (hl u).trans ?_⟩
  · unfold parseF
    rw [hr.2.2 _ (by omega)]
    show (if 0 + (wr t 0).length < s.size then none else some t') = _
    rw [if_neg (by omega)]
  · rw [langAlt_iff]
    simp
end Go.Proofs.Ytaefhfldgemcnaa
