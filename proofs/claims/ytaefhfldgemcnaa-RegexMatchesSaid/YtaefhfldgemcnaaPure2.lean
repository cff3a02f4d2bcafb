/- The plain mathematics of the classes of signs. -/
import Derived.Test.YtaefhfldgemcnaaPure
namespace Go.Proofs.Ytaefhfldgemcnaa

structure SplitSt where
  num : List Int
  cnt : Int
  cl : List Int
def splitK (e : Edge) (c : Int) (i : Nat) : Int := 2 * c + if e.takes (32 + (i : Int)) then 1 else 0
def splitStep (e : Edge) (cls : List Int) (i : Nat) (s : SplitSt) : SplitSt :=
  let k := (splitK e (cls.getD i 0) i).toNat
  if s.num.getD k 0 = 0 then ⟨s.num.set k (s.cnt + 1), s.cnt + 1, s.cl.set i s.cnt⟩
  else ⟨s.num, s.cnt, s.cl.set i (s.num.getD k 0 - 1)⟩
def splitTo (e : Edge) (cls : List Int) : Nat → SplitSt
  | 0 => ⟨List.replicate 190 0, 0, cls⟩
  | k + 1 => splitStep e cls k (splitTo e cls k)
structure ClsOk (cls : List Int) : Prop where
  len : cls.length = 95
  rng : ∀ c ∈ cls, 0 ≤ c ∧ c ≤ 94
structure SplitOk (s : SplitSt) (k : Nat) : Prop where
  nlen : s.num.length = 190
  clen : s.cl.length = 95
  c0 : 0 ≤ s.cnt
  c1 : s.cnt ≤ k
  n : ∀ x ∈ s.num, 0 ≤ x ∧ x ≤ s.cnt
  c : ∀ x ∈ s.cl, 0 ≤ x ∧ x ≤ 94
theorem getD_mem {l : List Int} {i : Nat} (h : i < l.length) : l.getD i 0 ∈ l := by
  rw [List.getD_eq_getElem?_getD, List.getElem?_eq_getElem h]
  exact List.getElem_mem h
theorem splitK_range {e : Edge} {cls : List Int} (h : ClsOk cls) {i : Nat} (hi : i < 95) : 0 ≤ splitK e (cls.getD i 0) i ∧ splitK e (cls.getD i 0) i < 190 := by
  have := h.rng _ (getD_mem (by rw [h.len]; exact hi))
  unfold splitK
  split <;> omega
theorem splitStep_ok {e : Edge} {cls : List Int} (h : ClsOk cls) {i : Nat} (hi : i < 95) {s : SplitSt} (hs : SplitOk s i) : SplitOk (splitStep e cls i s) (i + 1) := by
  have hk := splitK_range (e := e) h hi
  unfold splitStep
  have hkl : (splitK e (cls.getD i 0) i).toNat < s.num.length := by rw [hs.nlen]; omega
  have hg := hs.n _ (getD_mem hkl)
  have h0 := hs.c0
  have h1 := hs.c1
  by_cases hz : s.num.getD (splitK e (cls.getD i 0) i).toNat 0 = 0
  · simp only [hz, if_true]
    refine ⟨by simp [hs.nlen], by simp [hs.clen], by simp only; omega, by simp only; omega, ?_, ?_⟩
    · intro x hx
      simp only at hx ⊢
      rcases List.mem_or_eq_of_mem_set hx with hx | rfl
      · have := hs.n x hx; omega
      · omega
    · intro x hx
      simp only at hx
      rcases List.mem_or_eq_of_mem_set hx with hx | rfl
      · exact hs.c x hx
      · omega
  · simp only [if_neg hz]
    refine ⟨hs.nlen, by simp [hs.clen], h0, by simp only; omega, hs.n, ?_⟩
    intro x hx
    simp only at hx
    rcases List.mem_or_eq_of_mem_set hx with hx | rfl
    · exact hs.c x hx
    · omega
theorem splitTo_ok {e : Edge} {cls : List Int} (h : ClsOk cls) {k : Nat} (hk : k ≤ 95) : SplitOk (splitTo e cls k) k := by
  induction k with
  | zero =>
    refine ⟨List.length_replicate, h.len, Int.le_refl 0, Int.le_refl 0, ?_, h.rng⟩
    intro x hx
    have : x = 0 := List.eq_of_mem_replicate hx
    subst this
    exact ⟨Int.le_refl 0, Int.le_refl 0⟩
  | succ k ih => exact splitStep_ok h (by omega) (ih (by omega))
def split (e : Edge) (cls : List Int) : List Int × Int := ((splitTo e cls 95).cl, (splitTo e cls 95).cnt)

theorem split_ok {e : Edge} {cls : List Int} (h : ClsOk cls) : ClsOk (split e cls).1 ∧ 0 ≤ (split e cls).2 ∧ (split e cls).2 ≤ 95 := by
  have := splitTo_ok (e := e) h (Nat.le_refl 95)
  unfold split
  generalize splitTo e cls 95 = s at *
  exact ⟨⟨this.clen, this.c⟩, this.c0, this.c1⟩
/-- The classes behind the first k edges, and how many there are. -/
def classes : List Edge → List Int × Int → List Int × Int
  | [], p => p
  | e :: es, p => classes es (if !e.none_ && decide (p.2 < 95) then split e p.1 else p)
def classes0 : List Int × Int := (List.replicate 95 0, 1)
theorem classes_snoc (es : List Edge) (e : Edge) (p : List Int × Int) : classes (es ++ [e]) p = if !e.none_ && decide ((classes es p).2 < 95) then split e (classes es p).1 else classes es p := by
  induction es generalizing p with
  | nil => rfl
  | cons x es ih => exact ih _
theorem classes_ok (es : List Edge) (p : List Int × Int) (h : ClsOk p.1) (h0 : 0 ≤ p.2 ∧ p.2 ≤ 95) : ClsOk (classes es p).1 ∧ 0 ≤ (classes es p).2 ∧ (classes es p).2 ≤ 95 := by
  induction es generalizing p with
  | nil => exact ⟨h, h0⟩
  | cons e es ih =>
    refine ih _ ?_ ?_
    · split
      · exact (split_ok h).1
      · exact h
    · split
      · exact (split_ok h).2
      · exact h0
theorem classes0_ok : ClsOk classes0.1 := ⟨List.length_replicate, fun c hc => by
  have : c = 0 := List.eq_of_mem_replicate hc
  omega⟩
/-- The least sign of each class, met as a loop over the classes meets them. -/
def leastTo (cls : List Int) : Nat → List Int
  | 0 => []
  | k + 1 => if cls.getD k 0 = (leastTo cls k).length then leastTo cls k ++ [32 + (k : Int)] else leastTo cls k
def signsL (es : List Edge) : List Int := leastTo (classes es classes0).1 95
theorem leastTo_length (cls : List Int) (k : Nat) : (leastTo cls k).length ≤ k := by
  induction k with
  | zero => simp [leastTo]
  | succ k ih =>
    unfold leastTo
    split
    · rw [List.length_append, List.length_singleton]; omega
    · omega
theorem signsL_nil : signsL [] = [32] := by decide +kernel
theorem signsL_ac : signsL [⟨0, 1, 97, 99⟩] = [32, 97] := by decide +kernel
end Go.Proofs.Ytaefhfldgemcnaa
