/- Characters and bytes, in plain Lean: what is made right is right; what is right is itself made right. -/
import Derived.Lib.MapLaws
import Derived.Lib.ValidLaws
namespace Go.Proofs.YtghlodpbbghcoaaDoor
open Go.Lib

/-- The characters of bytes. -/
def runesG : Nat → List UInt8 → List Int
  | 0, _ => []
  | n + 1, l => if l = [] then [] else ((decodeL l).1 : Int) :: runesG n (l.drop (decodeL l).2)
theorem runesG_fuel : ∀ (n m : Nat) (l : List UInt8), l.length ≤ n → l.length ≤ m → runesG n l = runesG m l
  | 0, 0, _, _, _ => rfl
  | 0, m + 1, l, h, _ => by
    have : l = [] := List.length_eq_zero_iff.1 (by omega)
    simp [runesG, this]
  | n + 1, 0, l, _, h => by
    have : l = [] := List.length_eq_zero_iff.1 (by omega)
    simp [runesG, this]
  | n + 1, m + 1, l, hn, hm => by
    unfold runesG
    by_cases hne : l = []
    · simp [hne]
    · have hw := decodeL_width l
      have hl : 0 < l.length := List.length_pos_iff.2 hne
      rw [if_neg hne, if_neg hne, runesG_fuel n m (l.drop (decodeL l).2) (by rw [List.length_drop]; omega) (by rw [List.length_drop]; omega)]
def runesL (l : List UInt8) : List Int := runesG l.length l
theorem runesL_nil : runesL [] = [] := rfl
theorem runesL_step (l : List UInt8) (hne : l ≠ []) : runesL l = ((decodeL l).1 : Int) :: runesL (l.drop (decodeL l).2) := by
  have hw := decodeL_width l
  have hl : 0 < l.length := List.length_pos_iff.2 hne
  unfold runesL
  obtain ⟨n, hn⟩ : ∃ n, l.length = n + 1 := ⟨l.length - 1, by omega⟩
  rw [hn]
  show (if l = [] then [] else _) = _
  rw [if_neg hne, runesG_fuel n (l.drop (decodeL l).2).length _ (by rw [List.length_drop]; omega) (Nat.le_refl _)]
/-- Characters made right (was the one ahead a return?). -/
def rightR : Bool → List Int → List Int
  | _, [] => []
  | p, r :: t => if r = 10 ∧ p = true then rightR (decide (r = 13)) t else (if r = 13 then 10 else if r = 0 then 65533 else r) :: rightR (decide (r = 13)) t
def textL (rs : List Int) : List UInt8 := rs.flatMap encodeRune
def rightL (l : List UInt8) : List UInt8 := textL (rightR false (runesL l))
def isL (l : List UInt8) : Bool := validD l && (runesL l).all fun r => decide (r ≠ 0 ∧ r ≠ 13)

theorem byteN (z : Int) (h0 : 0 ≤ z) (h1 : z < 256) : (z.toNat.toUInt8).toNat = z.toNat := by
  have : z.toNat < 256 := by omega
  simp [Nat.toUInt8, UInt8.toNat_ofNat', Nat.mod_eq_of_lt this]

theorem decode_encode (r : Int) (t : List UInt8) : ∃ v : Nat, decodeL (encodeRune r ++ t) = (v, (encodeRune r).length) ∧ ¬ (v = 65533 ∧ (encodeRune r).length = 1) ∧ (r ≠ 0 → v ≠ 0) ∧ (r ≠ 13 → v ≠ 13) := by
  by_cases h1 : 0 ≤ r ∧ r ≤ 127
  · have e : encodeRune r = [r.toNat.toUInt8] := by rw [encodeRune, encodeRuneZ_one h1.1 h1.2]; rfl
    refine ⟨r.toNat, ?_, by rw [e]; simp <;> omega, by omega, by omega⟩
    rw [e, decodeL_N]
    simp only [List.cons_append, List.nil_append, List.getD_cons_zero, List.length_cons, List.length_nil]
    rw [byteN r h1.1 (by omega)]
    unfold decodeN
    rw [if_pos (by omega)]
  · by_cases h2 : 128 ≤ r ∧ r ≤ 2047
    · have e : encodeRune r = [(192 + r / 64).toNat.toUInt8, (128 + r % 64).toNat.toUInt8] := by rw [encodeRune, encodeRuneZ_two h2.1 h2.2]; rfl
      refine ⟨r.toNat, ?_, by rw [e]; simp <;> omega, by omega, by omega⟩
      rw [e, decodeL_N]
      simp only [List.cons_append, List.nil_append, List.getD_cons_zero, List.getD_cons_succ, List.length_cons, List.length_nil]
      rw [byteN (192 + r / 64) (by omega) (by omega), byteN (128 + r % 64) (by omega) (by omega)]
      unfold decodeN
      rw [if_neg (by omega), if_pos (by omega), if_pos (by omega)]
      exact Prod.ext (by simp only; omega) rfl
    · by_cases h3 : (2048 ≤ r ∧ r < 55296) ∨ (57343 < r ∧ r ≤ 65535)
      · have e : encodeRune r = [(224 + r / 4096).toNat.toUInt8, (128 + r / 64 % 64).toNat.toUInt8, (128 + r % 64).toNat.toUInt8] := by rw [encodeRune, encodeRuneZ_three h3]; rfl
        refine ⟨r.toNat, ?_, by rw [e]; simp <;> omega, by omega, by omega⟩
        rw [e, decodeL_N]
        simp only [List.cons_append, List.nil_append, List.getD_cons_zero, List.getD_cons_succ, List.length_cons, List.length_nil]
        rw [byteN (224 + r / 4096) (by omega) (by omega), byteN (128 + r / 64 % 64) (by omega) (by omega), byteN (128 + r % 64) (by omega) (by omega)]
        unfold decodeN
        rw [if_neg (by omega), if_neg (by omega), if_pos (by omega), if_pos (by omega)]
        exact Prod.ext (by simp only; omega) rfl
      · by_cases h4 : 65536 ≤ r ∧ r ≤ 1114111
        · have e : encodeRune r = [(240 + r / 262144).toNat.toUInt8, (128 + r / 4096 % 64).toNat.toUInt8, (128 + r / 64 % 64).toNat.toUInt8, (128 + r % 64).toNat.toUInt8] := by rw [encodeRune, encodeRuneZ_four h4.1 h4.2]; rfl
          refine ⟨r.toNat, ?_, by rw [e]; simp <;> omega, by omega, by omega⟩
          rw [e, decodeL_N]
          simp only [List.cons_append, List.nil_append, List.getD_cons_zero, List.getD_cons_succ, List.length_cons, List.length_nil]
          rw [byteN (240 + r / 262144) (by omega) (by omega), byteN (128 + r / 4096 % 64) (by omega) (by omega), byteN (128 + r / 64 % 64) (by omega) (by omega), byteN (128 + r % 64) (by omega) (by omega)]
          unfold decodeN
          rw [if_neg (by omega), if_neg (by omega), if_neg (by omega), if_pos (by omega), if_pos (by omega)]
          exact Prod.ext (by simp only; omega) rfl
        · have e : encodeRune r = [239, 191, 189] := by rw [encodeRune, encodeRuneZ_bad (by omega)]; rfl
          refine ⟨65533, ?_, by rw [e]; simp, fun _ => by decide, fun _ => by decide⟩
          rw [e, decodeL_N]
          simp only [List.cons_append, List.nil_append, List.getD_cons_zero, List.getD_cons_succ, List.length_cons, List.length_nil]
          unfold decodeN
          rw [if_neg (by decide), if_neg (by simp), if_pos (by refine ⟨by decide, ⟨by omega, by decide⟩, by omega, by decide⟩), if_pos (by decide)]
          rfl

theorem encodeRune_ne (r : Int) : encodeRune r ≠ [] := fun e => by
  have := (encodeRuneZ_length r).1
  have h : (encodeRune r).length = 0 := by rw [e]; rfl
  simp [encodeRune] at h
  rw [h] at this
  simp at this
theorem isL_text : ∀ rs : List Int, (∀ r ∈ rs, r ≠ 0 ∧ r ≠ 13) → isL (textL rs) = true
  | [], _ => rfl
  | r :: t, h => by
    have ih := isL_text t (fun x hx => h x (List.mem_cons_of_mem _ hx))
    obtain ⟨v, hd, hv, h0, h13⟩ := decode_encode r (textL t)
    have e : textL (r :: t) = encodeRune r ++ textL t := rfl
    have hne : encodeRune r ++ textL t ≠ [] := fun e => encodeRune_ne r (List.append_eq_nil_iff.1 e).1
    obtain ⟨hr0, hr13⟩ := h r (by simp)
    unfold isL at ih ⊢
    rw [Bool.and_eq_true] at ih ⊢
    rw [e, validD_step _ hne, runesL_step _ hne, hd]
    simp only [List.drop_left, if_neg hv, List.all_cons, Bool.and_eq_true, decide_eq_true_eq]
    exact ⟨ih.1, ⟨by have := h0 hr0; omega, by have := h13 hr13; omega⟩, ih.2⟩
theorem rightR_fine : ∀ (p : Bool) (rs : List Int), ∀ r ∈ rightR p rs, r ≠ 0 ∧ r ≠ 13
  | _, [], r, h => by cases h
  | p, a :: t, r, h => by
    unfold rightR at h
    split at h
    · exact rightR_fine _ t r h
    · rcases List.mem_cons.1 h with rfl | h
      · split
        · decide
        · split
          · decide
          · constructor <;> assumption
      · exact rightR_fine _ t r h
/-- WHAT IS MADE RIGHT IS RIGHT. -/
theorem isL_right (l : List UInt8) : isL (rightL l) = true := isL_text _ (rightR_fine _ _)
theorem rightR_same : ∀ (rs : List Int), (∀ r ∈ rs, r ≠ 0 ∧ r ≠ 13) → rightR false rs = rs
  | [], _ => rfl
  | a :: t, h => by
    obtain ⟨h0, h13⟩ := h a (by simp)
    unfold rightR
    rw [if_neg (by simp), if_neg h13, if_neg h0, decide_eq_false h13, rightR_same t (fun r hr => h r (List.mem_cons_of_mem _ hr))]
theorem text_runes : ∀ (n : Nat) (l : List UInt8), l.length = n → validD l = true → textL (runesL l) = l := by
  intro n
  induction n using Nat.strongRecOn with
  | _ n ih =>
    intro l hl hv
    by_cases hne : l = []
    · rw [hne]; rfl
    · have hw := decodeL_width l
      have hpos : 0 < l.length := List.length_pos_iff.2 hne
      rw [validD_step l hne] at hv
      split at hv
      · cases hv
      · rename_i hd
        rw [runesL_step l hne]
        show encodeRune _ ++ textL _ = l
        rw [encode_decode l hne hd, ih (l.drop (decodeL l).2).length (by rw [List.length_drop]; omega) _ rfl hv, List.take_append_drop]
theorem right_same (l : List UInt8) (h : isL l = true) : rightL l = l := by
  unfold isL at h
  rw [Bool.and_eq_true] at h
  unfold rightL
  rw [rightR_same _ (fun r hr => by simpa using List.all_eq_true.1 h.2 r hr), text_runes _ l rfl h.1]
/-- RIGHT IS WHAT IS MADE RIGHT AS ITSELF. -/
theorem isL_iff (l : List UInt8) : (rightL l == l) = isL l := by
  cases h : isL l with
  | true => rw [right_same l h]; simp
  | false =>
    refine beq_eq_false_iff_ne.2 (fun e => ?_)
    have := isL_right l
    rw [e, h] at this
    cases this
theorem rightR_length : ∀ (p : Bool) (rs : List Int), (rightR p rs).length ≤ rs.length
  | _, [] => Nat.le_refl _
  | p, a :: t => by
    unfold rightR
    split
    · exact Nat.le_succ_of_le (rightR_length _ t)
    · exact Nat.succ_le_succ (rightR_length _ t)
theorem runesG_length : ∀ (n : Nat) (l : List UInt8), (runesG n l).length ≤ n
  | 0, _ => Nat.le_refl _
  | n + 1, l => by
    unfold runesG
    split
    · exact Nat.zero_le _
    · exact Nat.succ_le_succ (runesG_length n _)
theorem runesL_length (l : List UInt8) : (runesL l).length ≤ l.length := runesG_length _ l
theorem textL_length : ∀ rs : List Int, (textL rs).length ≤ 4 * rs.length
  | [] => Nat.le_refl _
  | r :: t => by
    have h1 := textL_length t
    have h2 := (encodeRuneZ_length r).2
    show (encodeRune r ++ textL t).length ≤ _
    rw [List.length_append, List.length_cons]
    have h3 : (encodeRune r).length = (encodeRuneZ r).length := by simp [encodeRune]
    omega
theorem rightL_length (l : List UInt8) : (rightL l).length ≤ 4 * l.length :=
  Nat.le_trans (textL_length _) (Nat.mul_le_mul_left 4 (Nat.le_trans (rightR_length _ _) (runesL_length l)))
end Go.Proofs.YtghlodpbbghcoaaDoor
