/- The parser on letters. No program in sight. -/
import Derived.Test.YtaefhfldgemcnaaP6
import Derived.Lib.IndexBytes
namespace Go.Proofs.Ytaefhfldgemcnaa

def isLet (c : UInt8) : Bool := decide (97 ≤ c.toNat) && decide (c.toNat ≤ 101)
theorem let_facts : ∀ c : UInt8, isLet c = true → isS c = true ∧ inL [124, 41] c = false ∧ inL [40] c = false ∧ inL [46] c = false ∧ inL [91] c = false ∧ inL [92] c = false ∧ inL spA c = false ∧ inL [42, 43, 63] c = false ∧ inL [124] c = false := by
  intro c h
  have h2 : 97 ≤ c.toNat ∧ c.toNat ≤ 101 := by unfold isLet at h; simpa using h
  have hc : c = 97 ∨ c = 98 ∨ c = 99 ∨ c = 100 ∨ c = 101 := by
    have key : ∀ d : UInt8, c.toNat = d.toNat → c = d := fun d hd => UInt8.toNat_inj.1 hd
    rcases (by omega : c.toNat = 97 ∨ c.toNat = 98 ∨ c.toNat = 99 ∨ c.toNat = 100 ∨ c.toNat = 101) with h | h | h | h | h
    · exact .inl (key 97 h)
    · exact .inr (.inl (key 98 h))
    · exact .inr (.inr (.inl (key 99 h)))
    · exact .inr (.inr (.inr (.inl (key 100 h))))
    · exact .inr (.inr (.inr (.inr (key 101 h))))
  rcases hc with rfl | rfl | rfl | rfl | rfl <;> decide
/-- Letters stand in v up to n. -/
def Lets (v : ByteArray) (n : Nat) : Prop := n ≤ v.size ∧ ∀ i, i < n → isLet (byteAt v i) = true
theorem atL_let {v : ByteArray} {n i : Nat} {set : List UInt8} (_h : Lets v n) (_hi : i < n) (hs : inL set (byteAt v i) = false) : atL v i set = false := by
  unfold atL
  rw [hs, Bool.and_false]
theorem atL_end {v : ByteArray} {i : Nat} {set : List UInt8} (hi : v.size ≤ i) : atL v i set = false := by
  unfold atL
  rw [decide_eq_false (by omega), Bool.false_and]
theorem atom_let {v : ByteArray} {n i f : Nat} (h : Lets v n) (hi : i < n) (hf : 1 ≤ f) : atomF v f i = some (.set (singleM (byteAt v i).toNat), i + 1) := by
  obtain ⟨f', rfl⟩ : ∃ f', f = f' + 1 := ⟨f - 1, by omega⟩
  obtain ⟨h1, _, h3, h4, h5, h6, h7, _, _⟩ := let_facts _ (h.2 i hi)
  have hsg : signF v i spA = some (byteAt v i, i + 1) := by
    unfold signF
    rw [atL_let h hi h6, if_neg (by decide), h1, h7, decide_eq_true (Nat.lt_of_lt_of_le hi h.1)]
    rfl
  rw [atomF, atL_let h hi h3, if_neg (by decide), atL_let h hi h4, if_neg (by decide), atL_let h hi h5, if_neg (by decide), hsg]
def byteTs (v : ByteArray) : Nat → Nat → List T
  | _, 0 => []
  | k, m + 1 => .set (singleM (byteAt v k).toNat) :: byteTs v (k + 1) m
theorem byteTs_cons (v : ByteArray) (k m : Nat) : byteTs v k (m + 1) = .set (singleM (byteAt v k).toNat) :: byteTs v (k + 1) m := rfl
theorem byteTs_lit (v : ByteArray) : ∀ (m k : Nat), k + m ≤ v.size → byteTs v k m = litTs ((v.data.toList.drop k).take m) := by
  intro m
  induction m with
  | zero => intro k _; simp [byteTs, litTs]
  | succ m ih =>
    intro k hk
    have hkz : k < v.data.toList.length := by simp; omega
    rw [byteTs_cons, ih (k + 1) (by omega), List.drop_eq_getElem_cons hkz, List.take_succ_cons]
    have hb : byteAt v k = v.data.toList[k] := by
      unfold byteAt
      rw [dif_pos (by omega)]
      have h1 := Lib.data_getElem? v k (by omega)
      rw [List.getElem?_eq_getElem hkz] at h1
      exact (Option.some.inj h1).symm
    rw [hb]
    rfl
/-- The branch runs over letters that no repeat follows. -/
theorem branch_run {v : ByteArray} {n : Nat} (h : Lets v n) : ∀ (m k f : Nat) (acc : List T), k + m < n → m + 1 ≤ f → branchF v f acc k = branchF v (f - m) (acc ++ byteTs v k m) (k + m) := by
  intro m
  induction m with
  | zero => intro k f acc _ _; simp [byteTs]
  | succ m ih =>
    intro k f acc hk hf
    obtain ⟨f', rfl⟩ : ∃ f', f = f' + 1 := ⟨f - 1, by omega⟩
    have hkn : k < n := by omega
    obtain ⟨_, h2, _⟩ := let_facts _ (h.2 k hkn)
    obtain ⟨_, _, _, _, _, _, _, h8, _⟩ := let_facts _ (h.2 (k + 1) (by omega))
    rw [branchF, atL_let h hkn h2, decide_eq_true (Nat.lt_of_lt_of_le hkn h.1)]
    rw [if_pos (by decide), atom_let h hkn (by omega)]
    simp only []
    rw [reps_no (atL_let h (by omega) h8)]
    simp only []
    rw [ih (k + 1) f' _ (by omega) (by omega), byteTs_cons, show k + 1 + m = k + (m + 1) from by omega, show f' + 1 - (m + 1) = f' - m from by omega]
    simp
/-- An expression of letters alone. -/
theorem parse_let {v : ByteArray} (h : Lets v v.size) (hs : v.size ≤ 60) : parseF v = some (rowT (litTs v.data.toList)) := by
  have hall : byteTs v 0 v.size = litTs v.data.toList := by
    rw [byteTs_lit v v.size 0 (by omega), List.drop_zero, List.take_of_length_le (by simp)]
  have hbr : ∀ f, v.size + 2 ≤ f → branchF v f [] 0 = some (rowT (litTs v.data.toList), v.size) := by
    intro f hf
    rcases Nat.eq_zero_or_pos v.size with h0 | h0
    · obtain ⟨f', rfl⟩ : ∃ f', f = f' + 1 := ⟨f - 1, by omega⟩
      rw [branchF, decide_eq_false (by omega), Bool.false_and, if_neg (by decide), ← hall, h0]
      rfl
    · obtain ⟨m, hm⟩ : ∃ m, v.size = m + 1 := ⟨v.size - 1, by omega⟩
      rw [branch_run h m 0 f [] (by omega) (by omega), Nat.zero_add]
      obtain ⟨f', hf'⟩ : ∃ f', f - m = f' + 1 := ⟨f - m - 1, by omega⟩
      obtain ⟨_, h2, _⟩ := let_facts _ (h.2 m (by omega))
      rw [hf', branchF, atL_let h (by omega) h2, decide_eq_true (by omega), if_pos (by decide), atom_let h (by omega) (by omega)]
      simp only []
      rw [reps_no (atL_end (by omega))]
      simp only []
      obtain ⟨f'', hf''⟩ : ∃ f'', f' = f'' + 1 := ⟨f' - 1, by omega⟩
      rw [hf'', branchF, decide_eq_false (by omega), Bool.false_and, if_neg (by decide)]
      have hsn : byteTs v 0 m ++ [T.set (singleM (byteAt v m).toNat)] = byteTs v 0 (m + 1) := by
        have key : ∀ (a k : Nat), byteTs v k a ++ [T.set (singleM (byteAt v (k + a)).toNat)] = byteTs v k (a + 1) := by
          intro a
          induction a with
          | zero => intro k; rfl
          | succ a ih =>
            intro k
            rw [byteTs_cons, byteTs_cons, List.cons_append, show k + (a + 1) = k + 1 + a from by omega, ih (k + 1)]
        have := key m 0
        rwa [Nat.zero_add] at this
      rw [List.nil_append, hsn, ← hm, hall]
  unfold parseF
  rw [show 3 * v.size + 3 = (3 * v.size + 2) + 1 from rfl, exprF, hbr _ (by omega)]
  simp only []
  rw [atL_end (Nat.le_refl _), if_neg (by decide)]
  simp only []
  rw [if_neg (by omega)]
  rfl
theorem byteTs_snoc (v : ByteArray) : ∀ (a k : Nat), byteTs v k a ++ [T.set (singleM (byteAt v (k + a)).toNat)] = byteTs v k (a + 1) := by
  intro a
  induction a with
  | zero => intro k; rfl
  | succ a ih =>
    intro k
    rw [byteTs_cons, byteTs_cons, List.cons_append, show k + (a + 1) = k + 1 + a from by omega, ih (k + 1)]
/-- Letters, and a star behind them. -/
theorem parse_star {v : ByteArray} {m : Nat} (h : Lets v (m + 1)) (hv : v.size = m + 2) (hst : byteAt v (m + 1) = 42) (hs : v.size ≤ 60) :
    parseF v = some (rowT (litTs (v.data.toList.take m) ++ [.rep (.set (singleM (byteAt v m).toNat)) 42])) := by
  have hall : byteTs v 0 m = litTs (v.data.toList.take m) := by
    rw [byteTs_lit v m 0 (by omega), List.drop_zero]
  have hat : atL v (m + 1) [42, 43, 63] = true := by
    unfold atL
    rw [hst, decide_eq_true (by omega)]
    decide
  have hbr : ∀ f, v.size + 2 ≤ f → branchF v f [] 0 = some (rowT (litTs (v.data.toList.take m) ++ [.rep (.set (singleM (byteAt v m).toNat)) 42]), v.size) := by
    intro f hf
    rw [branch_run h m 0 f [] (by omega) (by omega), Nat.zero_add]
    obtain ⟨f', hf'⟩ : ∃ f', f - m = f' + 1 := ⟨f - m - 1, by omega⟩
    obtain ⟨_, h2, _⟩ := let_facts _ (h.2 m (by omega))
    rw [hf', branchF, atL_let h (by omega) h2, decide_eq_true (by omega), if_pos (by decide), atom_let h (by omega) (by omega)]
    simp only []
    rw [reps_yes hat, hst, reps_no (atL_end (by omega))]
    simp only []
    obtain ⟨f'', hf''⟩ : ∃ f'', f' = f'' + 1 := ⟨f' - 1, by omega⟩
    rw [hf'', branchF, decide_eq_false (by omega), Bool.false_and, if_neg (by decide), List.nil_append, hall, hv]
  unfold parseF
  rw [show 3 * v.size + 3 = (3 * v.size + 2) + 1 from rfl, exprF, hbr _ (by omega)]
  simp only []
  rw [atL_end (Nat.le_refl _), if_neg (by decide)]
  simp only []
  rw [if_neg (by omega)]
  rfl
theorem lit_star {c : UInt8} {r : List UInt8} (hr : Star (Lang (.set (singleM c.toNat))) r) : ∀ a : List UInt8, (∀ d ∈ a, isS d = true) → LangSeq (litTs a ++ [.rep (.set (singleM c.toNat)) 42]) (a ++ r) := by
  intro a
  induction a with
  | nil =>
    intro _
    show LangSeq [.rep (.set (singleM c.toNat)) 42] r
    rw [LangSeq]
    refine ⟨r, [], by simp, ?_, by rw [LangSeq]⟩
    rw [Lang]
    exact hr
  | cons d a ih =>
    intro h
    show LangSeq (T.set (singleM d.toNat) :: (litTs a ++ _)) (d :: (a ++ r))
    rw [LangSeq]
    exact ⟨[d], a ++ r, rfl, (single_iff (h d List.mem_cons_self)).2 rfl, ih (fun x hx => h x (List.mem_cons_of_mem _ hx))⟩
theorem star_rep {c : UInt8} (hc : isS c = true) : ∀ j : Nat, Star (Lang (.set (singleM c.toNat))) (List.replicate j c) := by
  intro j
  induction j with
  | zero => exact .nil
  | succ j ih =>
    have := Star.cons ((single_iff hc).2 rfl) ih
    simpa [List.replicate_succ] using this
end Go.Proofs.Ytaefhfldgemcnaa
