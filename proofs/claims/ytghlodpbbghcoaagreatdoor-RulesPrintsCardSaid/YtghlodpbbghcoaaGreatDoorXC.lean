/- Expressions plain; tests and rows of signs walked. -/
import Derived.Test.YtghlodpbbghcoaaGreatDoorXB
import Derived.Test.YtghlodpbbghcoaaGreatDoorProg
import Derived.Test.YtghlodpbbghcoaaGreatDoorShelf
import Derived.Lib.Bytealg
import Derived.Lib.IndexAny
import Derived.Deep.QuietTactic
import Derived.BigQuiet
import Derived.Deep.RegionWith
import Derived.Deep.RegionHeld3
import Derived.Deep.MidRow
import Derived.Handy
import Derived.WalkKit
import Derived.Lib.Hide
namespace Go.Proofs.YtghlodpbbghcoaaGreatDoor.Rx
section
open Go.RowKit
theorem isSign_any (c : Int) (w : World) :
    Calls Tryz.prog 160 #[.int .u8 c] w fun e w' => e = .returned (.bool (decide (32 ≤ c) && decide (c ≤ 126))) ∧ w = w' := by
  by_cases h : 32 ≤ c
  · have d1 : decide (32 ≤ c) = true := decide_eq_true h
    go_enter Tryz.func160, Tryz.ntmps160
    go_wp2
    go_ret
    simp [h]
  · have d1 : decide (32 ≤ c) = false := decide_eq_false h
    go_enter Tryz.func160, Tryz.ntmps160
    go_wp2
    go_ret
    simp
theorem indexByte_any (s : ByteArray) (c : Int) (w : World) :
    Calls Tryz.prog 76 #[.string s, .int .u8 c] w fun e w' => e = .returned (.int .i64 (Lib.indexByte s.data.toList c.toNat.toUInt8)) ∧ w = w' := by
  refine (Any.strings_IndexByte Tryz.lays137 s c w).mono ?_
  rintro e w' ⟨rfl, rfl⟩
  exact ⟨rfl, rfl⟩
end
section
inductive T where
  | set (m : List Bool)
  | seq (l : List T)
  | alt (l : List T)
  | rep (p : T) (op : UInt8)

mutual
def T.size : T → Nat
  | .set _ => 1
  | .seq l => 1 + sizes l
  | .alt l => 1 + sizes l
  | .rep p _ => 1 + p.size
def sizes : List T → Nat
  | [] => 0
  | t :: l => t.size + sizes l
end
theorem sizes_append (a b : List T) : sizes (a ++ b) = sizes a + sizes b := by
  induction a with
  | nil => simp [sizes]
  | cons t l ih => simp [sizes, ih]; omega
theorem sizes_one (t : T) : sizes [t] = t.size := by simp [sizes]
theorem size_pos (t : T) : 1 ≤ t.size := by cases t <;> simp [T.size]
def noneM : List Bool := List.replicate 95 false
def everyM : List Bool := noneM.map (!·)
def singleM (c : Nat) : List Bool := noneM.set (c - 32) true
def rangeM (m : List Bool) (c : Nat) : Nat → List Bool
  | 0 => m
  | n + 1 => (rangeM m c n).set (c - 32 + n) true
theorem noneM_length : noneM.length = 95 := by simp [noneM]
theorem everyM_length : everyM.length = 95 := by simp [everyM, noneM]
theorem singleM_length (c : Nat) : (singleM c).length = 95 := by simp [singleM, noneM]
theorem rangeM_length {m : List Bool} (h : m.length = 95) (c n : Nat) : (rangeM m c n).length = 95 := by
  induction n with
  | zero => exact h
  | succ n ih => simp [rangeM, ih]
def rowT : List T → T
  | [t] => t
  | l => .seq l
def eitherT : List T → T
  | [] => .set noneM
  | [t] => t
  | l => .alt l
theorem rowT_size (l : List T) : (rowT l).size ≤ 1 + sizes l := by
  unfold rowT
  split
  · simp [sizes]
  · simp [T.size]
theorem eitherT_size (l : List T) : (eitherT l).size ≤ 1 + sizes l := by
  unfold eitherT
  split <;> simp [sizes, T.size]
def byteAt (s : ByteArray) (k : Nat) : UInt8 := if h : k < s.size then s[k] else 0
def inL (set : List UInt8) (c : UInt8) : Bool := set.contains c
def atL (s : ByteArray) (k : Nat) (set : List UInt8) : Bool := decide (k < s.size) && inL set (byteAt s k)
theorem atL_lt {s : ByteArray} {k : Nat} {set : List UInt8} (h : atL s k set = true) : k < s.size := by
  unfold atL at h; simp at h; exact h.1
def isS (c : UInt8) : Bool := decide (32 ≤ c.toNat) && decide (c.toNat ≤ 126)
/-- A sign: the byte, and where reading goes on. -/
def signF (s : ByteArray) (k : Nat) (n : List UInt8) : Option (UInt8 × Nat) :=
  if atL s k [92] then
    (if decide (k + 1 < s.size) && isS (byteAt s (k + 1)) then some (byteAt s (k + 1), k + 2) else none)
  else (if decide (k < s.size) && isS (byteAt s k) && !inL n (byteAt s k) then some (byteAt s k, k + 1) else none)
theorem signF_some {s : ByteArray} {k : Nat} {n : List UInt8} {c : UInt8} {k' : Nat} (h : signF s k n = some (c, k')) : k < k' ∧ k' ≤ s.size ∧ isS c = true := by
  unfold signF at h
  split at h
  · split at h
    · rename_i h1
      simp only [Option.some.injEq, Prod.mk.injEq] at h
      simp only [Bool.and_eq_true, decide_eq_true_eq] at h1
      obtain ⟨rfl, rfl⟩ := h
      exact ⟨by omega, by omega, h1.2⟩
    · cases h
  · split at h
    · rename_i h1
      simp only [Option.some.injEq, Prod.mk.injEq] at h
      simp only [Bool.and_eq_true, decide_eq_true_eq] at h1
      obtain ⟨rfl, rfl⟩ := h
      exact ⟨by omega, by omega, h1.1.2⟩
    · cases h
def spC : List UInt8 := [92, 93, 45, 94]
def spA : List UInt8 := [92, 40, 41, 91, 93, 124, 42, 43, 63, 46]
def itemF (s : ByteArray) (k : Nat) (m : List Bool) : Option (List Bool × Nat) :=
  match signF s k spC with
  | none => none
  | some (c, k1) =>
    if atL s k1 [45] then
      match signF s (k1 + 1) spC with
      | none => none
      | some (d, k2) => if d.toNat < c.toNat then none else some (rangeM m c.toNat (d.toNat + 1 - c.toNat), k2)
    else some (rangeM m c.toNat 1, k1)
theorem itemF_some {s : ByteArray} {k : Nat} {m m' : List Bool} {k' : Nat} (h : itemF s k m = some (m', k')) (hm : m.length = 95) : k < k' ∧ k' ≤ s.size ∧ m'.length = 95 := by
  unfold itemF at h
  split at h
  · cases h
  · rename_i c k1 h1
    have g1 := signF_some h1
    split at h
    · split at h
      · cases h
      · rename_i d k2 h2
        have g2 := signF_some h2
        split at h
        · cases h
        · simp only [Option.some.injEq, Prod.mk.injEq] at h
          obtain ⟨rfl, rfl⟩ := h
          exact ⟨by omega, g2.2.1, rangeM_length hm _ _⟩
    · simp only [Option.some.injEq, Prod.mk.injEq] at h
      obtain ⟨rfl, rfl⟩ := h
      exact ⟨g1.1, g1.2.1, rangeM_length hm _ _⟩
def classL (s : ByteArray) : Nat → List Bool → Bool → Nat → Option (List Bool × Nat)
  | 0, _, _, _ => none
  | f + 1, m, first, k =>
    if first || !atL s k [93] then
      match itemF s k m with
      | none => none
      | some (m', k') => classL s f m' false k'
    else some (m, k)
theorem classL_some {s : ByteArray} : ∀ {f : Nat} {m : List Bool} {first : Bool} {k : Nat} {m' : List Bool} {k' : Nat}, classL s f m first k = some (m', k') → m.length = 95 → k ≤ k' ∧ k' < s.size ∧ m'.length = 95 := by
  intro f
  induction f with
  | zero => intro m first k m' k' h; cases h
  | succ f ih =>
    intro m first k m' k' h hm
    unfold classL at h
    split at h
    · split at h
      · cases h
      · rename_i m1 k1 h1
        have g1 := itemF_some h1 hm
        have g2 := ih h g1.2.2
        exact ⟨by omega, g2.2⟩
    · rename_i h1
      simp only [Option.some.injEq, Prod.mk.injEq] at h
      obtain ⟨rfl, rfl⟩ := h
      simp only [Bool.or_eq_true, Bool.not_eq_true', not_or, Bool.not_eq_false] at h1
      exact ⟨Nat.le_refl _, atL_lt h1.2, hm⟩
def class0 (s : ByteArray) (k : Nat) : Nat := if atL s k [94] then k + 1 else k
def classT (s : ByteArray) (k : Nat) (m : List Bool) : T := .set (if atL s k [94] then m.map (!·) else m)
def classF (s : ByteArray) (k : Nat) : Option (T × Nat) :=
  match classL s (s.size + 1) noneM true (class0 s k) with
  | none => none
  | some (m, k') => some (classT s k m, k' + 1)
theorem classF_some {s : ByteArray} {k : Nat} {t : T} {k' : Nat} (h : classF s k = some (t, k')) : k < k' ∧ k' ≤ s.size ∧ t.size = 1 := by
  unfold classF at h
  split at h
  · cases h
  · rename_i m k1 h1
    simp only [Option.some.injEq, Prod.mk.injEq] at h
    obtain ⟨rfl, rfl⟩ := h
    have g := classL_some h1 noneM_length
    have : k ≤ class0 s k := by unfold class0; split <;> omega
    exact ⟨by omega, by omega, by simp [classT, T.size]⟩
def repsF (s : ByteArray) : Nat → T → Nat → T × Nat
  | 0, p, k => (p, k)
  | f + 1, p, k => if atL s k [42, 43, 63] then repsF s f (.rep p (byteAt s k)) (k + 1) else (p, k)
def reps (s : ByteArray) (p : T) (k : Nat) : T × Nat := repsF s (s.size - k) p k
theorem reps_yes {s : ByteArray} {p : T} {k : Nat} (h : atL s k [42, 43, 63] = true) : reps s p k = reps s (.rep p (byteAt s k)) (k + 1) := by
  have := atL_lt h
  unfold reps
  rw [show s.size - k = (s.size - (k + 1)) + 1 from by omega]
  show (if _ then _ else _) = _
  rw [if_pos h]
theorem reps_no {s : ByteArray} {p : T} {k : Nat} (h : atL s k [42, 43, 63] = false) : reps s p k = (p, k) := by
  unfold reps
  cases hk : s.size - k with
  | zero => rfl
  | succ n =>
    show (if _ then _ else _) = _
    rw [if_neg (by rw [h]; decide)]
theorem repsF_le (s : ByteArray) : ∀ (f : Nat) (p : T) (k : Nat), k ≤ s.size → k ≤ (repsF s f p k).2 ∧ (repsF s f p k).2 ≤ s.size ∧ (repsF s f p k).1.size ≤ p.size + ((repsF s f p k).2 - k) := by
  intro f
  induction f with
  | zero => intro p k h; exact ⟨Nat.le_refl _, h, by simp [repsF]⟩
  | succ f ih =>
    intro p k h
    unfold repsF
    split
    · rename_i h1
      have := atL_lt h1
      have g := ih (.rep p (byteAt s k)) (k + 1) (by omega)
      simp only [T.size] at g
      exact ⟨by omega, g.2.1, by omega⟩
    · exact ⟨Nat.le_refl _, h, by simp⟩

mutual
def exprF (s : ByteArray) : Nat → List T → Nat → Option (T × Nat)
  | 0, _, _ => none
  | f + 1, acc, k =>
    match branchF s f [] k with
    | none => none
    | some (p, k') => if atL s k' [124] then exprF s f (acc ++ [p]) (k' + 1) else some (eitherT (acc ++ [p]), k')
def branchF (s : ByteArray) : Nat → List T → Nat → Option (T × Nat)
  | 0, _, _ => none
  | f + 1, acc, k =>
    if decide (k < s.size) && !atL s k [124, 41] then
      match atomF s f k with
      | none => none
      | some (p, k') => branchF s f (acc ++ [(reps s p k').1]) (reps s p k').2
    else some (rowT acc, k)
def atomF (s : ByteArray) : Nat → Nat → Option (T × Nat)
  | 0, _ => none
  | f + 1, k =>
    if atL s k [40] then
      match exprF s f [] (k + 1) with
      | none => none
      | some (p, k') => if atL s k' [41] then some (p, k' + 1) else none
    else if atL s k [46] then some (.set everyM, k + 1)
    else if atL s k [91] then classF s (k + 1)
    else match signF s k spA with
      | none => none
      | some (c, k') => some (.set (singleM c.toNat), k')
end
structure PFacts (s : ByteArray) (f : Nat) : Prop where
  e : ∀ (acc : List T) (k : Nat) (t : T) (k' : Nat), k ≤ s.size → exprF s f acc k = some (t, k') → k ≤ k' ∧ k' ≤ s.size ∧ t.size ≤ sizes acc + 3 * (k' - k) + 2
  b : ∀ (acc : List T) (k : Nat) (t : T) (k' : Nat), k ≤ s.size → branchF s f acc k = some (t, k') → k ≤ k' ∧ k' ≤ s.size ∧ t.size ≤ sizes acc + 3 * (k' - k) + 1
  a : ∀ (k : Nat) (t : T) (k' : Nat), k ≤ s.size → atomF s f k = some (t, k') → k < k' ∧ k' ≤ s.size ∧ t.size ≤ 3 * (k' - k)
theorem pfacts (s : ByteArray) (f : Nat) : PFacts s f := by
  induction f with
  | zero => exact ⟨fun _ _ _ _ _ h => by simp [exprF] at h, fun _ _ _ _ _ h => by simp [branchF] at h, fun _ _ _ _ h => by simp [atomF] at h⟩
  | succ f ih =>
    refine ⟨?_, ?_, ?_⟩
    · intro acc k t k' hk h
      rw [exprF] at h
      split at h
      · cases h
      · rename_i p k1 h1
        have g1 := ih.b _ _ _ _ hk h1
        simp only [sizes] at g1
        split at h
        · rename_i h2
          have l2 := atL_lt h2
          have g2 := ih.e _ _ _ _ (by omega) h
          rw [sizes_append, sizes_one] at g2
          exact ⟨by omega, g2.2.1, by omega⟩
        · simp only [Option.some.injEq, Prod.mk.injEq] at h
          obtain ⟨rfl, rfl⟩ := h
          have g3 := eitherT_size (acc ++ [p])
          rw [sizes_append, sizes_one] at g3
          exact ⟨g1.1, g1.2.1, by omega⟩
    · intro acc k t k' hk h
      rw [branchF] at h
      split at h
      · split at h
        · cases h
        · rename_i p k1 h1
          have g1 := ih.a _ _ _ hk h1
          have g2 := repsF_le s (s.size - k1) p k1 g1.2.1
          have g3 := ih.b _ _ _ _ g2.2.1 h
          rw [sizes_append, sizes_one] at g3
          unfold reps at g3
          exact ⟨by omega, g3.2.1, by omega⟩
      · simp only [Option.some.injEq, Prod.mk.injEq] at h
        obtain ⟨rfl, rfl⟩ := h
        have g3 := rowT_size acc
        exact ⟨Nat.le_refl _, hk, by omega⟩
    · intro k t k' hk h
      rw [atomF] at h
      split at h
      · rename_i h0
        have l0 := atL_lt h0
        split at h
        · cases h
        · rename_i p k1 h1
          have g1 := ih.e _ _ _ _ (by omega) h1
          simp only [sizes] at g1
          split at h
          · rename_i h2
            have l2 := atL_lt h2
            simp only [Option.some.injEq, Prod.mk.injEq] at h
            obtain ⟨rfl, rfl⟩ := h
            exact ⟨by omega, by omega, by omega⟩
          · cases h
      · split at h
        · rename_i h0
          have l0 := atL_lt h0
          simp only [Option.some.injEq, Prod.mk.injEq] at h
          obtain ⟨rfl, rfl⟩ := h
          exact ⟨by omega, by omega, by simp only [T.size]; omega⟩
        · split at h
          · rename_i h0
            have l0 := atL_lt h0
            have g := classF_some h
            exact ⟨by omega, g.2.1, by omega⟩
          · split at h
            · cases h
            · rename_i c k1 h1
              have g := signF_some h1
              simp only [Option.some.injEq, Prod.mk.injEq] at h
              obtain ⟨rfl, rfl⟩ := h
              exact ⟨g.1, g.2.1, by simp only [T.size]; omega⟩
/-- The whole: none if it is no expression. -/
def parseF (s : ByteArray) : Option T :=
  match exprF s (3 * s.size + 3) [] 0 with
  | none => none
  | some (t, k) => if k < s.size then none else some t
end
section
open Go.RowKit
/-- A reader lies in block b. -/
structure RdAt (w : World) (b : Nat) (s : ByteArray) (k : Nat) : Prop where
  blk : w.heap[b]? = some (.cells #[.string s, .int .i64 k] 147 (0, 0))
def AtPost (v : Bool) (w : World) (e : Ending) (w' : World) : Prop := e = .returned (.bool v) ∧ ∃ m, w' = w.drewN m
set_option maxHeartbeats 1600000 in
theorem at_any (b : Nat) (s set : ByteArray) (k : Nat) (w : World) (hr : RdAt w b s k) :
    Calls Tryz.prog 133 #[.pointer (some ⟨b, 0, none⟩), .string set] w (AtPost (atL s k set.data.toList) w) := by
  have c0 : w.cell? ⟨b, 0, none⟩ = some (.string s) := by simp [World.cell?, hr.blk]
  have c1 : w.cell? ⟨b, 1, none⟩ = some (.int .i64 k) := by simp [World.cell?, hr.blk]
  clear hr
  by_cases hlt : k < s.size
  · obtain ⟨cb, hcb⟩ : ∃ cb : UInt8, s[k] = cb := ⟨_, rfl⟩
    have hv : Hid (atL s k set.data.toList = decide (0 ≤ Lib.indexByte set.data.toList cb)) := by show _ = _; unfold atL inL byteAt; rw [dif_pos hlt, hcb, Lib.contains_iff_indexByte, decide_eq_true hlt, Bool.true_and]
    have hi0 : (0 : Int) ≤ (k : Int) := by omega
    have hi1 : (k : Int) < (s.size : Int) := by omega
    have hd : decide ((k : Int) < (s.size : Int)) = true := decide_eq_true hi1
    have HI : Hid (∀ wx, Calls Tryz.prog 76 #[.string set, .int .u8 cb.toNat] wx fun e w' => e = .returned (.int .i64 (Lib.indexByte set.data.toList cb)) ∧ wx = w') := by
      intro wx
      have := indexByte_any set (cb.toNat : Int) wx
      simpa using this
    go_enter Tryz.func133, Tryz.ntmps133
    go_wp2_with fail
    go_quiet ((go_at_call 76; exact quiet_left (HI.out _)))
    go_wp2_with fail
    go_ret
    rw [hv.out]
    exact ⟨rfl, ⟨_, rfl⟩⟩
  · have hv : Hid (atL s k set.data.toList = false) := by show _ = _; unfold atL; rw [decide_eq_false hlt, Bool.false_and]
    have hd : decide ((k : Int) < (s.size : Int)) = false := decide_eq_false (by omega)
    have hd' : ¬ ((k : Int) < (s.size : Int)) := by omega
    go_enter Tryz.func133, Tryz.ntmps133
    go_wp2_with fail
    go_quiet (fail)
    go_wp2_with fail
    go_ret
    rw [hv.out]
    exact ⟨rfl, ⟨_, rfl⟩⟩
theorem quiet_at {b : Nat} {s set : ByteArray} {k : Nat} {w : World} {l : List UInt8} (hl : set.data.toList = l) (hr : RdAt w b s k) (n : Nat) :
    Calls Tryz.prog 133 #[.pointer (some ⟨b, 0, none⟩), .string set] (w.drewN n) fun e w'' => e = .returned (.bool (atL s k l)) ∧ ∃ m, w'' = w.drewN m := by
  subst hl
  refine (at_any b s set k (w.drewN n) ⟨hr.blk⟩).mono ?_
  rintro e w' ⟨rfl, m, rfl⟩
  exact ⟨rfl, n + m, by simp⟩
theorem byteAt_eq {s : ByteArray} {k : Nat} (h : k < s.size) : s[k] = byteAt s k := by unfold byteAt; rw [dif_pos h]
end
section
open Go.RowKit
theorem blk_set_self {w : World} {g : Nat} {cs : Array Value} {t : TypeId} (h : w.heap[g]? = some (.cells cs t (0, 0))) (i : Nat) (u : Value) : (w.setCell ⟨g, i, none⟩ u).heap[g]? = some (.cells (cs.setIfInBounds i u) t (0, 0)) := by
  simp [World.setCell, Array.getElem?_modify, h]
theorem blk_frozen {w : World} {g : Nat} {cs : Array Value} {t : TypeId} (h : w.heap[g]? = some (.cells cs t (0, 0))) (i : Nat) : w.frozen? ⟨g, i, none⟩ = false := by simp [World.frozen?, h]
theorem own_form {w : World} {base : Nat} {e : TypeId} {size n : Nat} {v : Value} {xs : List Value} (h : w.ownsRow base e size v n xs) : ∃ A c, v = .slice A n c ∧ w.ownsRow base e size (.slice A n c) n xs := by
  obtain ⟨h1, h2⟩ := h
  rcases h2 with ⟨rfl, hn⟩ | ⟨g, cap, cur, rfl, r⟩
  · exact ⟨none, 0, by rw [hn], h1, .inl ⟨by rw [hn], hn⟩⟩
  · exact ⟨some ⟨g, 0, none⟩, cap, rfl, h1, .inr ⟨g, cap, cur, rfl, r⟩⟩
end
section
open Go.RowKit
/-- Every block but b is as it was. -/
structure Keep (b : Nat) (w w' : World) : Prop where
  os : w'.os = w.os
  tape : w'.tape = w.tape
  output : w'.output = w.output
  size : w.heap.size ≤ w'.heap.size
  block : ∀ g, g < w.heap.size → g ≠ b → w'.heap[g]? = w.heap[g]?
theorem Keep.refl (b : Nat) (w : World) : Keep b w w := ⟨rfl, rfl, rfl, Nat.le_refl _, fun _ _ _ => rfl⟩
theorem Keep.trans {b : Nat} {a w w' : World} (h : Keep b a w) (k : Keep b w w') : Keep b a w' :=
  ⟨k.os.trans h.os, k.tape.trans h.tape, k.output.trans h.output, Nat.le_trans h.size k.size, fun g hg hb => (k.block g (Nat.lt_of_lt_of_le hg h.size) hb).trans (h.block g hg hb)⟩
theorem Keep.drewN {b : Nat} {a w : World} (h : Keep b a w) (n : Nat) : Keep b a (w.drewN n) := ⟨h.os, h.tape, h.output, h.size, h.block⟩
theorem Keep.of_below {b : Nat} {w w' : World} (h : Below w.heap.size w w') : Keep b w w' := ⟨h.os, h.tape, h.output, h.size, fun g hg _ => h.block g hg⟩
theorem Keep.alloc {b : Nat} {a w : World} (h : Keep b a w) (o : Obj) : Keep b a (w.alloc o) := h.trans (Keep.of_below ((Below.refl _ _).alloc (Nat.le_refl _) o))
theorem Keep.set {b : Nat} {a w : World} (h : Keep b a w) (i : Nat) (v : Value) : Keep b a (w.setCell ⟨b, i, none⟩ v) :=
  h.trans ⟨rfl, rfl, rfl, by simp, fun g hg hb => Below.heap_setCell w ⟨b, i, none⟩ v g hb⟩
theorem Keep.below {b : Nat} {w w' : World} (h : Keep b w w') (hb : b ≤ w.heap.size) : Below b w w' := ⟨h.os, h.tape, h.output, h.size, fun g hg => h.block g (by omega) (by omega)⟩
/-- What a reader's function of a sign hands back. -/
def SignPost (b : Nat) (s : ByteArray) (r : Option (UInt8 × Nat)) (w : World) (e : Ending) (w' : World) : Prop :=
  (match r with
  | some (c, k') => e = .returned (.tuple #[.int .u8 c.toNat, .bool true]) ∧ RdAt w' b s k'
  | none => e = .returned (.tuple #[.int .u8 0, .bool false]) ∧ ∃ k', k' ≤ s.size ∧ RdAt w' b s k') ∧ Keep b w w'
theorem isSign_b (c : UInt8) (w : World) : Calls Tryz.prog 160 #[.int .u8 c.toNat] w fun e w' => e = .returned (.bool (isS c)) ∧ w = w' := by
  refine (isSign_any (c.toNat : Int) w).mono ?_
  rintro e w' ⟨rfl, h⟩
  refine ⟨?_, h⟩
  unfold isS
  rw [Bool.eq_iff_iff.2 (by simp only [Bool.and_eq_true, decide_eq_true_eq]; omega : (decide (32 ≤ (c.toNat : Int)) && decide ((c.toNat : Int) ≤ 126)) = true ↔ (decide (32 ≤ c.toNat) && decide (c.toNat ≤ 126)) = true)]
set_option maxHeartbeats 3200000 in
theorem sign_any (b : Nat) (s n : ByteArray) (nl : List UInt8) (hn : n.data.toList = nl) (k : Nat) (w : World) (hr : RdAt w b s k) (hk : k ≤ s.size) (hs : s.size ≤ 1000) :
    Calls Tryz.prog 157 #[.pointer (some ⟨b, 0, none⟩), .string n] w (SignPost b s (signF s k nl) w) := by
  have c0 : w.cell? ⟨b, 0, none⟩ = some (.string s) := by simp [World.cell?, hr.blk]
  have c1 : w.cell? ⟨b, 1, none⟩ = some (.int .i64 k) := by simp [World.cell?, hr.blk]
  have cf : w.frozen? ⟨b, 1, none⟩ = false := by simp [World.frozen?, hr.blk]
  have hlb : b < w.heap.size := (Array.getElem?_eq_some_iff.1 hr.blk).1
  have Hr := Lib.hid hr
  obtain ⟨res, hres⟩ : ∃ res, res = signF s k nl := ⟨_, rfl⟩
  rw [← hres]
  have Hres := Lib.hid hres
  clear hres hr
  go_enter Tryz.func157, Tryz.ntmps157
  go_wp2_with fail
  refine (at_any b s _ k w Hr.out).mono ?_
  rintro e w1 ⟨rfl, m, rfl⟩
  rw [show (ByteArray.mk #[92]).data.toList = [92] from rfl]
  cases hb : atL s k [92] with
  | true =>
    have hkl := atL_lt hb
    have hres := Hres.out
    unfold signF at hres
    rw [hb, if_pos rfl] at hres
    have Hres2 := Lib.hid hres
    clear hres
    go_upto_region 4 with fail
    have hR : RdAt ((w.drewN m).setCell ⟨b, 1, none⟩ (.int .i64 ((k : Int) + 1))) b s (k + 1) := by
      refine ⟨?_⟩
      have := blk_set_self (w := w.drewN m) Hr.out.blk 1 (.int .i64 ((k : Int) + 1))
      simpa using this
    have hK : Keep b w ((w.drewN m).setCell ⟨b, 1, none⟩ (.int .i64 ((k : Int) + 1))) := ((Keep.refl b w).drewN m).set 1 _
    have hlbw : b < ((w.drewN m).setCell ⟨b, 1, none⟩ (.int .i64 ((k : Int) + 1))).heap.size := by simpa using hlb
    generalize World.setCell (w.drewN m) _ _ = W at hR hK hlbw ⊢
    clear c0 c1 cf
    obtain ⟨K, hKK⟩ : ∃ K, K = k + 1 := ⟨_, rfl⟩
    rw [← hKK] at hR
    have HR := Lib.hid hR
    have HK := Lib.hid hK
    have HKK := Lib.hid hKK
    have hKs : K ≤ s.size := by omega
    clear hR hK hKK
    have c0 : W.cell? ⟨b, 0, none⟩ = some (.string s) := blk_cell HR.out.blk 0
    have c1 : W.cell? ⟨b, 1, none⟩ = some (.int .i64 K) := blk_cell HR.out.blk 1
    have cf : W.frozen? ⟨b, 1, none⟩ = false := blk_frozen HR.out.blk 1
    by_cases hlt : K < s.size
    · have hne : ((K : Int) == (s.size : Int)) = false := beq_eq_false_iff_ne.2 (by omega)
      have hi0 : (0 : Int) ≤ (K : Int) := by omega
      have hi1 : (K : Int) < (s.size : Int) := by omega
      obtain ⟨cb, hcb⟩ : ∃ cb : UInt8, s[K] = cb := ⟨_, rfl⟩
      have hcb2 : byteAt s (k + 1) = cb := by rw [← HKK.out, ← byteAt_eq hlt]; exact hcb
      have HS : Hid (∀ wx, Calls Tryz.prog 160 #[.int .u8 cb.toNat] wx fun e w' => e = .returned (.bool (isS cb)) ∧ wx = w') := isSign_b cb
      have Hcb2 := Lib.hid hcb2
      clear hcb2
      cases hsb : isS cb with
      | false =>
        rw [hsb] at HS
        go_quiet ((go_at_call 160; exact quiet_left (HS.out _)))
        go_wp2_with fail
        go_ret2
        have := Hres2.out
        rw [Hcb2.out, hsb, Bool.and_false] at this
        rw [this]
        exact ⟨⟨rfl, K, hKs, ⟨HR.out.blk⟩⟩, HK.out.drewN _⟩
      | true =>
        rw [hsb] at HS
        have HA : Hid (∀ x, Calls Tryz.prog 133 #[.pointer (some ⟨b, 0, none⟩), .string (ByteArray.mk #[])] (W.drewN x) fun e w'' => e = .returned (.bool false) ∧ ∃ m, w'' = W.drewN m) := fun x => by
          have := quiet_at (set := ByteArray.mk #[]) rfl HR.out x
          rwa [show atL s K (ByteArray.mk #[]).data.toList = false from by unfold atL inL; simp] at this
        go_quiet (first | (go_at_call 160; exact quiet_left (HS.out _)) | (go_at_call 133; exact HA.out _))
        go_wp2_with fail
        go_quiet (fail)
        go_wp2_with fail
        go_ret2
        have := Hres2.out
        rw [Hcb2.out, hsb, decide_eq_true (by rw [← HKK.out]; exact hlt), Bool.and_true, if_pos rfl] at this
        rw [this]
        refine ⟨⟨?_, ?_⟩, ((HK.out.drewN _).set 1 _).drewN _⟩
        · exact rfl
        · refine ⟨?_⟩
          rw [show k + 2 = K + 1 from by rw [HKK.out]]
          exact (blk_set_self (w := W.drewN _) HR.out.blk 1 _).trans (by simp)
    · have hne : ((K : Int) == (s.size : Int)) = true := beq_iff_eq.2 (by omega)
      go_quiet (fail)
      go_wp2_with fail
      go_ret2
      have := Hres2.out
      rw [decide_eq_false (by rw [← HKK.out]; exact hlt), Bool.false_and] at this
      rw [this]
      exact ⟨⟨rfl, K, hKs, ⟨HR.out.blk⟩⟩, HK.out.drewN _⟩
  | false =>
    have hres := Hres.out
    unfold signF at hres
    rw [hb, if_neg (by decide)] at hres
    have Hres2 := Lib.hid hres
    clear hres
    go_upto_region 4 with fail
    have hR : RdAt (w.drewN m) b s k := ⟨Hr.out.blk⟩
    have hK : Keep b w (w.drewN m) := (Keep.refl b w).drewN m
    have hlbw : b < (w.drewN m).heap.size := hlb
    generalize World.drewN w m = W at hR hK hlbw ⊢
    clear c0 c1 cf
    have HR := Lib.hid hR
    have HK := Lib.hid hK
    clear hR hK
    have c0 : W.cell? ⟨b, 0, none⟩ = some (.string s) := blk_cell HR.out.blk 0
    have c1 : W.cell? ⟨b, 1, none⟩ = some (.int .i64 k) := blk_cell HR.out.blk 1
    have cf : W.frozen? ⟨b, 1, none⟩ = false := blk_frozen HR.out.blk 1
    by_cases hlt : k < s.size
    · have hne : ((k : Int) == (s.size : Int)) = false := beq_eq_false_iff_ne.2 (by omega)
      have hi0 : (0 : Int) ≤ (k : Int) := by omega
      have hi1 : (k : Int) < (s.size : Int) := by omega
      obtain ⟨cb, hcb⟩ : ∃ cb : UInt8, s[k] = cb := ⟨_, rfl⟩
      have hcb2 : byteAt s k = cb := by rw [← byteAt_eq hlt]; exact hcb
      have HS : Hid (∀ wx, Calls Tryz.prog 160 #[.int .u8 cb.toNat] wx fun e w' => e = .returned (.bool (isS cb)) ∧ wx = w') := isSign_b cb
      have Hcb2 := Lib.hid hcb2
      clear hcb2
      cases hsb : isS cb with
      | false =>
        rw [hsb] at HS
        go_quiet ((go_at_call 160; exact quiet_left (HS.out _)))
        go_wp2_with fail
        go_ret2
        have := Hres2.out
        rw [Hcb2.out, hsb, Bool.and_false, Bool.false_and] at this
        rw [this]
        exact ⟨⟨rfl, k, hk, ⟨HR.out.blk⟩⟩, HK.out.drewN _⟩
      | true =>
        rw [hsb] at HS
        cases hin : inL nl cb with
        | true =>
          have HA : Hid (∀ x, Calls Tryz.prog 133 #[.pointer (some ⟨b, 0, none⟩), .string n] (W.drewN x) fun e w'' => e = .returned (.bool true) ∧ ∃ m, w'' = W.drewN m) := fun x => by
            have := quiet_at hn HR.out x
            rwa [show atL s k nl = true from by unfold atL; rw [Hcb2.out, hin, decide_eq_true hlt]; rfl] at this
          go_quiet (first | (go_at_call 160; exact quiet_left (HS.out _)) | (go_at_call 133; exact HA.out _))
          go_wp2_with fail
          go_ret2
          have := Hres2.out
          rw [Hcb2.out, hsb, hin, Bool.not_true, Bool.and_false] at this
          rw [this]
          exact ⟨⟨rfl, k, hk, ⟨HR.out.blk⟩⟩, HK.out.drewN _⟩
        | false =>
          have HA : Hid (∀ x, Calls Tryz.prog 133 #[.pointer (some ⟨b, 0, none⟩), .string n] (W.drewN x) fun e w'' => e = .returned (.bool false) ∧ ∃ m, w'' = W.drewN m) := fun x => by
            have := quiet_at hn HR.out x
            rwa [show atL s k nl = false from by unfold atL; rw [Hcb2.out, hin, Bool.and_false]] at this
          go_quiet (first | (go_at_call 160; exact quiet_left (HS.out _)) | (go_at_call 133; exact HA.out _))
          go_wp2_with fail
          go_quiet (fail)
          go_wp2_with fail
          go_ret2
          have := Hres2.out
          rw [Hcb2.out, hsb, hin, decide_eq_true hlt, Bool.not_false, Bool.and_true, Bool.and_true, if_pos rfl] at this
          rw [this]
          refine ⟨⟨?_, ?_⟩, ((HK.out.drewN _).set 1 _).drewN _⟩
          · exact rfl
          · refine ⟨?_⟩
            exact (blk_set_self (w := W.drewN _) HR.out.blk 1 _).trans (by simp)
    · have hne : ((k : Int) == (s.size : Int)) = true := beq_iff_eq.2 (by omega)
      go_quiet (fail)
      go_wp2_with fail
      go_ret2
      have := Hres2.out
      rw [decide_eq_false hlt, Bool.false_and, Bool.false_and] at this
      rw [this]
      exact ⟨⟨rfl, k, hk, ⟨HR.out.blk⟩⟩, HK.out.drewN _⟩
end
section
open Go.RowKit
theorem below_setCells {B : Nat} {a : World} {b : Nat} (hb : B ≤ b) (vs : List Value) : ∀ (w : World) (o : Nat), Below B a w → Below B a (w.setCells b o vs) := by
  induction vs with
  | nil => intro w o h; exact h
  | cons v vs ih => intro w o h; exact ih _ _ (h.setCell (p := ⟨b, o, none⟩) hb v)
end
section
open Go.RowKit
def bcells (m : List Bool) : Array Value := (m.map Value.bool).toArray
theorem bcells_size (m : List Bool) : (bcells m).size = m.length := by simp [bcells]
theorem bcells_get {m : List Bool} {k : Nat} (h : k < m.length) : (bcells m)[k]? = some (.bool (m.getD k false)) := by
  unfold bcells
  rw [List.getElem?_toArray, List.getElem?_map, List.getElem?_eq_getElem h, List.getD_eq_getElem?_getD, List.getElem?_eq_getElem h]; rfl
theorem bcells_set (m : List Bool) (k : Nat) (x : Bool) : (bcells m).setIfInBounds k (.bool x) = bcells (m.set k x) := by
  unfold bcells
  rw [List.setIfInBounds_toArray, List.map_set]
theorem bcells_one (m : List Bool) : (bcells m).all (·.oneCell') = true := by
  refine all_oneCell_toArray ?_
  intro v hv
  simp only [List.mem_map] at hv
  obtain ⟨x, _, rfl⟩ := hv
  rfl
theorem zero96 : Tryz.zeroCells203 = bcells noneM := by kernel_rfl
theorem info96 : (Tryz.prog.info? 203).map (·.size) = some 95 := by kernel_rfl
theorem info96m {m : List Bool} (h : m.length = 95) : (Tryz.prog.info? 203).map (·.size) = some (bcells m).size := by rw [info96, bcells_size, h]
/-- The cells vs lie at A, in a block of P. -/
def CellsIn (w : World) (P : Nat → Prop) (A : Option Addr) (vs : List Value) : Prop := ∀ j (h : j < vs.length), ∃ b o, A = some ⟨b, o, none⟩ ∧ P b ∧ w.cell? ⟨b, o + j, none⟩ = some vs[j]
theorem CellsIn.at_ {w : World} {P : Nat → Prop} {A : Option Addr} {vs : List Value} (h : CellsIn w P A vs) {j : Nat} {v : Value} (hj : vs[j]? = some v) : ∃ b o, A = some ⟨b, o, none⟩ ∧ P b ∧ w.cell? ⟨b, o + j, none⟩ = some v := by
  obtain ⟨hl, he⟩ := List.getElem?_eq_some_iff.1 hj
  obtain ⟨b, o, h1, h2, h3⟩ := h j hl
  exact ⟨b, o, h1, h2, by rw [h3, he]⟩
/-- A tree, in memory, in blocks of P. -/
inductive PartAt (w : World) (P : Nat → Prop) : Value → T → Prop
  | set {m : List Bool} (h : m.length = 95) : PartAt w P (.iface 203 (.agg (bcells m))) (.set m)
  | seq {A : Option Addr} {n c : Nat} {vs : List Value} {l : List T} (hc : CellsIn w P A vs) (hn : vs.length = n) (hcap : n ≤ c) (hl : vs.length = l.length) (h : ∀ (i : Nat) (v : Value) (t : T), vs[i]? = some v → l[i]? = some t → PartAt w P v t) :
      PartAt w P (.iface 235 (.agg #[.slice A n c])) (.seq l)
  | alt {A : Option Addr} {n c : Nat} {vs : List Value} {l : List T} (hc : CellsIn w P A vs) (hn : vs.length = n) (hcap : n ≤ c) (hl : vs.length = l.length) (h : ∀ (i : Nat) (v : Value) (t : T), vs[i]? = some v → l[i]? = some t → PartAt w P v t) :
      PartAt w P (.iface 207 (.agg #[.slice A n c])) (.alt l)
  | rep {pv : Value} {p : T} {op : UInt8} (h : PartAt w P pv p) : PartAt w P (.iface 205 (.agg #[pv, .int .u8 op.toNat])) (.rep p op)
/-- Trees side by side. -/
def PartsAt (w : World) (P : Nat → Prop) (vs : List Value) (l : List T) : Prop := vs.length = l.length ∧ ∀ (i : Nat) (v : Value) (t : T), vs[i]? = some v → l[i]? = some t → PartAt w P v t
theorem cell_congr {w w' : World} {b i : Nat} (h : w'.heap[b]? = w.heap[b]?) : w'.cell? ⟨b, i, none⟩ = w.cell? ⟨b, i, none⟩ := by simp [World.cell?, h]
/-- The blocks of P are as they were, and blocks of Q. -/
def Moves (P Q : Nat → Prop) (w w' : World) : Prop := ∀ g, P g → Q g ∧ w'.heap[g]? = w.heap[g]?
theorem CellsIn.move {w w' : World} {P Q : Nat → Prop} {A : Option Addr} {vs : List Value} (h : CellsIn w P A vs) (hb : Moves P Q w w') : CellsIn w' Q A vs :=
  fun j hj => by
    obtain ⟨b, o, h1, h2, h3⟩ := h j hj
    exact ⟨b, o, h1, (hb b h2).1, (cell_congr (hb b h2).2).trans h3⟩
theorem PartAt.move {w w' : World} {P Q : Nat → Prop} {v : Value} {t : T} (h : PartAt w P v t) (hb : Moves P Q w w') : PartAt w' Q v t := by
  induction h with
  | set h => exact .set h
  | seq hc hn hcap hl _ ih => exact .seq (hc.move hb) hn hcap hl ih
  | alt hc hn hcap hl _ ih => exact .alt (hc.move hb) hn hcap hl ih
  | rep _ ih => exact .rep ih
theorem PartsAt.move {w w' : World} {P Q : Nat → Prop} {vs : List Value} {l : List T} (h : PartsAt w P vs l) (hb : Moves P Q w w') : PartsAt w' Q vs l := ⟨h.1, fun i v t h1 h2 => (h.2 i v t h1 h2).move hb⟩
theorem PartsAt.nil (w : World) (P : Nat → Prop) : PartsAt w P [] [] := ⟨rfl, fun i v t h => by simp at h⟩
theorem PartsAt.snoc {w : World} {P : Nat → Prop} {vs : List Value} {l : List T} {v : Value} {t : T} (h : PartsAt w P vs l) (hv : PartAt w P v t) : PartsAt w P (vs ++ [v]) (l ++ [t]) := by
  refine ⟨by simp [h.1], ?_⟩
  intro i u x h1 h2
  by_cases hi : i < vs.length
  · rw [List.getElem?_append_left hi] at h1
    rw [List.getElem?_append_left (by rw [← h.1]; exact hi)] at h2
    exact h.2 i u x h1 h2
  · rw [List.getElem?_append_right (by omega)] at h1
    rw [List.getElem?_append_right (by rw [← h.1]; omega)] at h2
    rw [← h.1] at h2
    have hz : i - vs.length = 0 := by
      rcases Nat.eq_zero_or_pos (i - vs.length) with h0 | h0
      · exact h0
      · rw [List.getElem?_eq_none (by simp; omega)] at h1
        cases h1
    rw [hz] at h1 h2
    simp at h1 h2
    subst h1 h2
    exact hv
/-- What has been made between a and w. -/
def Fresh (a w : World) (g : Nat) : Prop := a.heap.size ≤ g ∧ g < w.heap.size
def RowPost (P : Nat → Prop) (t : T) (w : World) (e : Ending) (w' : World) : Prop := (∃ v, e = .returned v ∧ PartAt w P v t) ∧ w = w'
set_option maxHeartbeats 800000 in
theorem row_any (P : Nat → Prop) (vs : List Value) (l : List T) (A : Option Addr) (n c : Nat) (w : World) (hn : vs.length = n) (hcap : n ≤ c) (hc : CellsIn w P A vs) (hp : PartsAt w P vs l) :
    Calls Tryz.prog 148 #[.slice A n c] w (RowPost P (rowT l) w) := by
  by_cases h1 : n = 1
  · subst h1
    obtain ⟨v, rfl⟩ : ∃ v, vs = [v] := by
      match vs, hn with
      | [v], _ => exact ⟨v, rfl⟩
    obtain ⟨t, rfl⟩ : ∃ t, l = [t] := by
      match l, hp.1 with
      | [t], _ => exact ⟨t, rfl⟩
    obtain ⟨b, o, rfl, hbl, hcell⟩ := hc.at_ (j := 0) (v := v) rfl
    rw [Nat.add_zero] at hcell
    have Hp := Lib.hid (hp.2 0 v t rfl rfl)
    clear hp hc
    go_enter Tryz.func148, Tryz.ntmps148
    go_wp2_with fail
    go_ret
    exact ⟨⟨_, rfl, Hp.out⟩, rfl⟩
  · have hd : ((n : Int) == 1) = false := beq_eq_false_iff_ne.2 (by omega)
    have Hp : Hid (PartAt w P (.iface 235 (.agg #[.slice A n c])) (rowT l)) := by
      have hl : rowT l = .seq l := by
        unfold rowT
        split
        · exact absurd hp.1 (by rw [hn]; exact h1)
        · rfl
      show PartAt _ _ _ _
      rw [hl]
      exact .seq hc hn hcap hp.1 hp.2
    clear hp hc
    go_enter Tryz.func148, Tryz.ntmps148
    go_wp2_with fail
    go_ret
    exact ⟨⟨_, rfl, Hp.out⟩, rfl⟩
set_option maxHeartbeats 800000 in
theorem either_any (P : Nat → Prop) (vs : List Value) (l : List T) (A : Option Addr) (n c : Nat) (w : World) (hn : vs.length = n) (hcap : n ≤ c) (hc : CellsIn w P A vs) (hp : PartsAt w P vs l) :
    Calls Tryz.prog 134 #[.slice A n c] w (RowPost P (eitherT l) w) := by
  by_cases h0 : n = 0
  · subst h0
    obtain rfl : vs = [] := List.eq_nil_of_length_eq_zero hn
    obtain rfl : l = [] := List.eq_nil_of_length_eq_zero hp.1.symm
    have Hp : Hid (PartAt w P (.iface 203 (.agg (bcells noneM))) (eitherT [])) := .set noneM_length
    rw [← zero96] at Hp
    clear hp hc
    go_enter Tryz.func134, Tryz.ntmps134
    go_wp2_with fail
    go_ret
    exact ⟨⟨_, rfl, Hp.out⟩, rfl⟩
  by_cases h1 : n = 1
  · subst h1
    obtain ⟨v, rfl⟩ : ∃ v, vs = [v] := by
      match vs, hn with
      | [v], _ => exact ⟨v, rfl⟩
    obtain ⟨t, rfl⟩ : ∃ t, l = [t] := by
      match l, hp.1 with
      | [t], _ => exact ⟨t, rfl⟩
    obtain ⟨b, o, rfl, hbl, hcell⟩ := hc.at_ (j := 0) (v := v) rfl
    rw [Nat.add_zero] at hcell
    have Hp := Lib.hid (hp.2 0 v t rfl rfl)
    clear hp hc
    go_enter Tryz.func134, Tryz.ntmps134
    go_wp2_with fail
    go_ret
    exact ⟨⟨_, rfl, Hp.out⟩, rfl⟩
  · have hd : ((n : Int) == 1) = false := beq_eq_false_iff_ne.2 (by omega)
    have hd0 : ((n : Int) == 0) = false := beq_eq_false_iff_ne.2 (by omega)
    have Hp : Hid (PartAt w P (.iface 207 (.agg #[.slice A n c])) (eitherT l)) := by
      have hl : eitherT l = .alt l := by
        unfold eitherT
        split
        · exact absurd hp.1 (by rw [hn]; exact h0)
        · exact absurd hp.1 (by rw [hn]; exact h1)
        · rfl
      show PartAt _ _ _ _
      rw [hl]
      exact .alt hc hn hcap hp.1 hp.2
    clear hp hc
    go_enter Tryz.func134, Tryz.ntmps134
    go_wp2_with fail
    go_ret
    exact ⟨⟨_, rfl, Hp.out⟩, rfl⟩
def SetPost (m : List Bool) (w : World) (e : Ending) (w' : World) : Prop := e = .returned (.agg (bcells m)) ∧ Below w.heap.size w w'
theorem set_there {wr : World} {m : List Bool} {m0 : List Bool} {g : Nat} (hm : m.length = 95) (hm0 : m0.length = 95) (hg : wr.heap[g]? = some (.cells (bcells m0) 203 (0, 0))) :
    wr.there g 0 (bcells m).size := by
  intro j hj
  have hj2 : j < 95 := by rw [bcells_size] at hj; omega
  rw [Nat.zero_add]
  refine ⟨?_, blk_frozen hg j⟩
  rw [blk_cell hg j, bcells_get (by omega)]
  rfl
theorem blk_setCellsAll {g t : Nat} : ∀ (vs old pre : List Value) (w : World), old.length = vs.length → w.heap[g]? = some (.cells (pre ++ old).toArray t (0, 0)) →
    (w.setCells g pre.length vs).heap[g]? = some (.cells (pre ++ vs).toArray t (0, 0)) := by
  intro vs
  induction vs with
  | nil =>
    intro old pre w ho h
    obtain rfl : old = [] := List.eq_nil_of_length_eq_zero ho
    exact h
  | cons v vs ih =>
    intro old pre w ho h
    cases old with
    | nil => simp at ho
    | cons u old =>
      have h1 := blk_set_self h pre.length v
      have h2 : ((pre ++ u :: old).toArray).setIfInBounds pre.length v = ((pre ++ [v]) ++ old).toArray := by
        rw [List.setIfInBounds_toArray]
        simp
      rw [h2] at h1
      have h3 := ih old (pre ++ [v]) (w.setCell ⟨g, pre.length, none⟩ v) (by simpa using ho) h1
      have e1 : (pre ++ [v]) ++ vs = pre ++ v :: vs := by simp
      have e2 : (pre ++ [v]).length = pre.length + 1 := by simp
      rw [e1, e2] at h3
      exact h3
theorem set_stored {wr : World} {m m0 : List Bool} {g : Nat} (hm : m.length = 95) (hm0 : m0.length = 95) (hg : wr.heap[g]? = some (.cells (bcells m0) 203 (0, 0))) :
    (wr.setCells g 0 (bcells m).toList).heap[g]? = some (.cells (bcells m) 203 (0, 0)) := by
  have h := blk_setCellsAll (bcells m).toList (m0.map Value.bool) [] wr (by simp [bcells, hm, hm0]) hg
  simpa using h
theorem heap_setCells_other {g x : Nat} (hx : x ≠ g) : ∀ (vs : List Value) (o : Nat) (w : World), (w.setCells g o vs).heap[x]? = w.heap[x]? := by
  intro vs
  induction vs with
  | nil => intro o w; rfl
  | cons v vs ih =>
    intro o w
    show ((w.setCell ⟨g, o, none⟩ v).setCells g (o + 1) vs).heap[x]? = _
    rw [ih]
    exact Below.heap_setCell w ⟨g, o, none⟩ v x hx
set_option maxRecDepth 8192 in
set_option maxHeartbeats 800000 in
theorem single_any (j : Nat) (w : World) (hj : j < 95) :
    Calls Tryz.prog 158 #[.int .u8 (32 + (j : Int))] w (SetPost (singleM (32 + j)) w) := by
  have hm : (singleM (32 + j)).length = 95 := singleM_length _
  go_enter Tryz.func158, Tryz.ntmps158
  go_upto_region 2 with fail
  rw [zero96]
  generalize hw1 : (w.alloc (.cells (bcells noneM) 203)).alloc (.cells (bcells noneM) 203) = w1
  have g0 : w1.heap[w.heap.size]? = some (.cells (bcells noneM) 203 (0, 0)) := by subst hw1; exact blk_alloc (blk_new _ _) _
  have g1 : w1.heap[w.heap.size + 1]? = some (.cells (bcells noneM) 203 (0, 0)) := by subst hw1; exact blk_new' (by simp)
  have hb : Below w.heap.size w w1 := by subst hw1; exact ((Below.refl _ _).alloc (Nat.le_refl _) _).alloc (by simp) _
  clear hw1
  have hz0 := blk_lt g0
  have hz1 := blk_lt g1
  have c1 : w1.cell? ⟨w.heap.size + 1, j, none⟩ = some (.bool (noneM.getD j false)) := (blk_cell g1 j).trans (bcells_get (by rw [noneM_length]; exact hj))
  have f1 := blk_frozen g1 j
  have G0 := Lib.hid g0
  have G1 := Lib.hid g1
  have Hm := Lib.hid hm
  clear g0 g1 hm
  go_upto_region 3 with fail
  have h2 := blk_set_self G1.out j (.bool true)
  rw [bcells_set, show noneM.set j true = singleM (32 + j) from by unfold singleM; rw [Nat.add_sub_cancel_left]] at h2
  have h3 := blk_set G0.out (p := ⟨w.heap.size + 1, j, none⟩) (by simp) (.bool true)
  have hb3 := hb.setCell (p := ⟨w.heap.size + 1, j, none⟩) (by simp) (.bool true)
  generalize World.setCell w1 _ _ = W at h2 h3 hb3 ⊢
  have Hth := Lib.hid (set_there Hm.out noneM_length h3)
  have H2 := Lib.hid h2
  have H3 := Lib.hid h3
  clear h2 h3 c1 f1
  go_wp2_with (first | ((with_reducible show wpList _ _ _ (⟨some 7, _, _, _, _, _⟩ :: _) _ _); refine wpList_load_row rfl 203 _ rfl (w.heap.size + 1) rfl 203 _ (0, 0) _ H2.out Tryz.underlying203 rfl (info96m Hm.out) ?_) | ((with_reducible show wpList _ _ _ (⟨none, _, _, _, _, _⟩ :: _) _ _); refine wpList_store_mid rfl 203 _ _ rfl w.heap.size 0 _ rfl rfl Hth.out (info96m Hm.out) (bcells_one _) ?_))
  exact bodyPost_ret (results_cell_row rfl _ _ w.heap.size 203 _ _ _ rfl (set_stored Hm.out noneM_length H3.out) Tryz.underlying203 rfl (info96m Hm.out)) rfl ⟨rfl, below_setCells (by omega) _ _ _ hb3⟩
def invM (m : List Bool) (k : Nat) : List Bool := (m.take k).map (!·) ++ m.drop k
theorem invM_length {m : List Bool} (h : m.length = 95) (k : Nat) : (invM m k).length = 95 := by simp [invM]; omega
theorem invM_zero (m : List Bool) : invM m 0 = m := by simp [invM]
theorem invM_end {m : List Bool} (h : m.length = 95) : invM m 95 = m.map (!·) := by
  unfold invM
  rw [List.take_of_length_le (by omega), List.drop_of_length_le (by omega), List.append_nil]
theorem invM_get {m : List Bool} {k : Nat} (h : k < m.length) : (invM m k).getD k false = m.getD k false := by
  unfold invM
  rw [List.getD_eq_getElem?_getD, List.getElem?_append_right (by simp; omega), List.getElem?_drop]
  rw [List.getD_eq_getElem?_getD]
  congr 2
  simp; omega
theorem invM_next {m : List Bool} {k : Nat} (h : k < m.length) : (invM m k).set k (!m.getD k false) = invM m (k + 1) := by
  unfold invM
  rw [List.set_append_right _ _ (by simp; omega)]
  have e : k - ((m.take k).map (!·)).length = 0 := by simp; omega
  rw [e, List.take_add_one, List.getElem?_eq_getElem h, List.getD_eq_getElem?_getD, List.getElem?_eq_getElem h, List.drop_eq_getElem_cons h]
  simp only [List.set_cons_zero, List.map_append, Option.getD_some, Option.toList_some, List.map_cons, List.map_nil, List.append_assoc, List.singleton_append]
set_option maxRecDepth 8192 in
set_option maxHeartbeats 1600000 in
theorem other_any (m : List Bool) (w : World) (hm : m.length = 95) :
    Calls Tryz.prog 159 #[.agg (bcells m)] w (SetPost (m.map (!·)) w) := by
  go_enter Tryz.func159, Tryz.ntmps159
  go_upto_region 1 with fail
  rw [zero96]
  generalize hw1 : (w.alloc (.cells (bcells m) 203)).alloc (.cells (bcells noneM) 203) = w1
  have g0 : w1.heap[w.heap.size]? = some (.cells (bcells (invM m 0)) 203 (0, 0)) := by subst hw1; rw [invM_zero]; exact blk_alloc (blk_new _ _) _
  have g1 : w1.heap[w.heap.size + 1]? = some (.cells (bcells noneM) 203 (0, 0)) := by subst hw1; exact blk_new' (by simp)
  have hb : Below w.heap.size w w1 := by subst hw1; exact ((Below.refl _ _).alloc (Nat.le_refl _) _).alloc (by simp) _
  clear hw1
  have Hm := Lib.hid hm
  clear hm
  have G0 := Lib.hid g0
  have G1 := Lib.hid g1
  clear g0 g1
  go_wp2_with fail
  go_loopw [4] (fun i wr => ∃ k : Nat, i = .int .i64 k ∧ k ≤ 95 ∧ Hid (wr.heap[w.heap.size]? = some (.cells (bcells (invM m k)) 203 (0, 0))) ∧ Hid (wr.heap[w.heap.size + 1]? = some (.cells (bcells noneM) 203 (0, 0))) ∧ Below w.heap.size w wr) (fun i _ => 95 - (intOf i).toNat)
  case atStart => exact ⟨0, rfl, by omega, G0, G1, hb⟩
  case round =>
    clear G0 G1 hb
    obtain ⟨k, rfl, hk, hg0, hg1, hb⟩ := hrel
    by_cases hlt : k < 95
    · have hkm : k < m.length := by rw [Hm.out]; exact hlt
      have c0 : wr.cell? ⟨w.heap.size, k, none⟩ = some (.bool (m.getD k false)) := by
        rw [← invM_get hkm]
        exact (blk_cell hg0.out k).trans (bcells_get (by rw [invM_length Hm.out]; exact hlt))
      have f0 := blk_frozen hg0.out k
      have Hkm := Lib.hid hkm
      clear hkm
      go_wp2_with fail
      go_roundw
      case rel =>
        refine ⟨k + 1, by go_num, by omega, ?_, ?_, hb.setCell (p := ⟨w.heap.size, k, none⟩) (Nat.le_refl _) _⟩
        · show _ = _
          have h2 := blk_set_self hg0.out k (.bool (!m.getD k false))
          rw [bcells_set, invM_next Hkm.out] at h2
          exact h2
        · exact blk_set hg1.out (by simp) _
      case measure => simp [intOf]; omega
    · have hk95 : k = 95 := by omega
      have H0 : Hid (wr.heap[w.heap.size]? = some (.cells (bcells (m.map (!·))) 203 (0, 0))) := by
        show _ = _
        rw [← invM_end Hm.out, ← hk95]
        exact hg0.out
      have Hm2 : Hid ((m.map (!·)).length = 95) := by show _ = _; rw [List.length_map]; exact Hm.out
      have hlt' : ¬ ((k : Int) < 95) := by omega
      have Hth := Lib.hid (set_there Hm2.out noneM_length hg1.out)
      clear hk95 hlt hk hg0
      go_wp2_with (first | ((with_reducible show wpList _ _ _ (⟨some 14, _, _, _, _, _⟩ :: _) _ _); refine wpList_load_row rfl 203 _ rfl w.heap.size rfl 203 _ (0, 0) _ H0.out Tryz.underlying203 rfl (info96m Hm2.out) ?_) | ((with_reducible show wpList _ _ _ (⟨none, _, _, _, _, _⟩ :: _) _ _); refine wpList_store_mid rfl 203 _ _ rfl (w.heap.size + 1) 0 _ rfl rfl Hth.out (info96m Hm2.out) (bcells_one _) ?_))
      exact bodyPost_ret (results_cell_row rfl _ _ (w.heap.size + 1) 203 _ _ _ rfl (set_stored Hm2.out noneM_length hg1.out) Tryz.underlying203 rfl (info96m Hm2.out)) rfl ⟨rfl, below_setCells (by omega) _ _ _ hb⟩
set_option maxRecDepth 8192 in
set_option maxHeartbeats 800000 in
theorem every_any (w : World) : Calls Tryz.prog 155 #[] w (SetPost everyM w) := by
  go_enter Tryz.func155, Tryz.ntmps155
  go_upto_region 1 with fail
  rw [zero96]
  have Hm : Hid (everyM.length = 95) := everyM_length
  generalize hw1 : w.alloc (.cells (bcells noneM) 203) = w1
  have g0 : w1.heap[w.heap.size]? = some (.cells (bcells noneM) 203 (0, 0)) := by subst hw1; exact blk_new _ _
  have hb : Below w.heap.size w w1 := by subst hw1; exact (Below.refl _ _).alloc (Nat.le_refl _) _
  clear hw1
  have hz := blk_lt g0
  have G0 := Lib.hid g0
  clear g0
  have HO : Hid (Calls Tryz.prog 159 #[.agg Tryz.zeroCells203] w1 (SetPost everyM w1)) := by
    rw [zero96]
    exact other_any noneM w1 noneM_length
  go_wp2_with fail
  refine HO.out.mono ?_
  rintro e w2 ⟨rfl, hb2⟩
  have g2 := blk_below G0.out hb2 hz
  have Hth := Lib.hid (set_there Hm.out noneM_length g2)
  have G2 := Lib.hid g2
  clear g2
  go_wp2_with (first | ((with_reducible show wpList _ _ _ (⟨none, _, _, _, _, _⟩ :: _) _ _); refine wpList_store_mid rfl 203 _ _ rfl w.heap.size 0 _ rfl rfl Hth.out (info96m Hm.out) (bcells_one _) ?_))
  exact bodyPost_ret (results_cell_row rfl _ _ w.heap.size 203 _ _ _ rfl (set_stored Hm.out noneM_length G2.out) Tryz.underlying203 rfl (info96m Hm.out)) rfl ⟨rfl, below_setCells (Nat.le_refl _) _ _ _ (hb.trans (hb2.mono (by omega)))⟩
end
end Go.Proofs.YtghlodpbbghcoaaGreatDoor.Rx
