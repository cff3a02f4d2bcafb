/- Joined expressions: their languages. No program in sight. -/
import Derived.Test.YtaefhfldgemcnaaP5
namespace Go.Proofs.Ytaefhfldgemcnaa

theorem noneM_get (k : Nat) : noneM.getD k false = false := by
  rw [List.getD_eq_getElem?_getD]
  cases h : noneM[k]? with
  | none => rfl
  | some b =>
    have := List.mem_of_getElem? h
    unfold noneM at this
    rw [List.eq_of_mem_replicate this]
    rfl
theorem lang_rowT {l : List T} {s : List UInt8} : Lang (rowT l) s ↔ LangSeq l s := by
  unfold rowT
  split
  · rename_i t
    rw [LangSeq]
    rw [show LangSeq [] = fun s => s = [] from by rw [LangSeq]]
    exact cat_nil.symm
  · rw [Lang]
theorem lang_eitherT {l : List T} {s : List UInt8} : Lang (eitherT l) s ↔ LangAlt l s := by
  unfold eitherT
  split
  · rw [Lang, LangAlt]
    constructor
    · rintro ⟨c, _, _, _, h⟩
      rw [noneM_get] at h
      cases h
    · exact False.elim
  · rw [LangAlt, LangAlt]
    exact ⟨.inl, fun h => h.elim id False.elim⟩
  · rw [Lang]
theorem single_iff {c : UInt8} (h : isS c = true) {s : List UInt8} : Lang (.set (singleM c.toNat)) s ↔ s = [c] := by
  have hc : 32 ≤ c.toNat ∧ c.toNat ≤ 126 := by
    unfold isS at h
    simpa using h
  constructor
  · intro hl
    rw [Lang] at hl
    obtain ⟨d, rfl, h1, h2, h3⟩ := hl
    unfold singleM at h3
    by_cases hd : d.toNat - 32 = c.toNat - 32
    · have : d = c := UInt8.toNat_inj.1 (by omega)
      rw [this]
    · rw [List.getD_eq_getElem?_getD, List.getElem?_set_ne (Ne.symm hd), ← List.getD_eq_getElem?_getD, noneM_get] at h3
      cases h3
  · rintro rfl
    exact single_lang hc.1 hc.2
def litTs (l : List UInt8) : List T := l.map (fun c => T.set (singleM c.toNat))
theorem lit_seq {l : List UInt8} : (∀ c ∈ l, isS c = true) → ∀ s, LangSeq (litTs l) s ↔ s = l := by
  induction l with
  | nil => intro _ s; rw [litTs, List.map_nil, LangSeq]
  | cons c l ih =>
    intro h s
    have ih := ih (fun d hd => h d (List.mem_cons_of_mem _ hd))
    show LangSeq (T.set (singleM c.toNat) :: litTs l) s ↔ _
    rw [LangSeq]
    constructor
    · rintro ⟨u, v, rfl, h1, h2⟩
      rw [(single_iff (h c List.mem_cons_self)).1 h1, (ih v).1 h2]
      rfl
    · rintro rfl
      exact ⟨[c], l, rfl, (single_iff (h c List.mem_cons_self)).2 rfl, (ih l).2 rfl⟩
def litT (l : List UInt8) : T := if l.all isS then rowT (litTs l) else .set noneM
theorem lit_lang (l s : List UInt8) : Lang (litT l) s ↔ (l.all isS = true ∧ l = s) := by
  unfold litT
  by_cases h : l.all isS = true
  · rw [if_pos h, lang_rowT, lit_seq (fun c hc => List.all_eq_true.1 h c hc) s]
    exact ⟨fun e => ⟨h, e.symm⟩, fun e => e.2.symm⟩
  · rw [if_neg h, Lang]
    constructor
    · rintro ⟨c, _, _, _, h1⟩
      rw [noneM_get] at h1
      cases h1
    · intro e; exact absurd e.1 h
theorem or_lang (a b : T) (s : List UInt8) : Lang (eitherT [a, b]) s ↔ (Lang a s ∨ Lang b s) := by
  rw [lang_eitherT, LangAlt, LangAlt, LangAlt]
  simp
theorem then_lang (a b : T) (s : List UInt8) : Lang (rowT [a, b]) s ↔ ∃ i, i < s.length + 1 ∧ Lang a (s.take i) ∧ Lang b (s.drop i) := by
  rw [lang_rowT, LangSeq, LangSeq, show LangSeq [] = fun s => s = [] from by rw [LangSeq]]
  constructor
  · rintro ⟨u, v, rfl, h1, h2⟩
    refine ⟨u.length, by simp; omega, ?_, ?_⟩
    · rw [List.take_left']
      · exact h1
      · rfl
    · rw [List.drop_left']
      · exact cat_nil.1 h2
      · rfl
  · rintro ⟨i, _, h1, h2⟩
    exact ⟨s.take i, s.drop i, (List.take_append_drop i s).symm, h1, cat_nil.2 h2⟩
theorem or0_lang (s : List UInt8) : ¬ Lang (eitherT []) s := by
  rw [lang_eitherT, LangAlt]
  exact id
theorem then0_lang (s : List UInt8) : Lang (rowT []) s ↔ s = [] := by
  rw [lang_rowT, LangSeq]
theorem litTs_size (l : List UInt8) : sizes (litTs l) = l.length := by
  induction l with
  | nil => rfl
  | cons c l ih =>
    show (T.set (singleM c.toNat)).size + sizes (litTs l) = _
    rw [ih]
    simp [T.size]; omega
theorem litT_size (l : List UInt8) : (litT l).size ≤ 1 + l.length := by
  unfold litT
  split
  · have := rowT_size (litTs l)
    rw [litTs_size] at this
    exact this
  · simp [T.size]
end Go.Proofs.Ytaefhfldgemcnaa
