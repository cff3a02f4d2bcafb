/- Stable nodes are so one by one: the plain law. No program in sight. -/
import Derived.Test.YtghlodpbbghcoaaDoorN19
namespace Go.Proofs.YtghlodpbbghcoaaDoor
open Go.Lib Go.RowKit Go.Shelf
noncomputable def fitsAll (p : ByteArray) : Fo → Bool
  | .nil => true
  | .node k nm _ tx _ rest => fitsB p k nm tx && fitsAll p rest
/-- A node alone. -/
def single (k : Int) (nm : ByteArray) (al : List (ByteArray × ByteArray)) (tx : ByteArray) (kids : Fo) : Fo := .node k nm al tx kids .nil
noncomputable def allOne : Fo → Bool
  | .nil => true
  | .node k nm al tx kids rest => stableB (single k nm al tx kids) && allOne rest
theorem raw_none_b : rawB ⟨#[]⟩ = false := by decide +kernel
theorem void_none_b : voidB ⟨#[]⟩ = false := by decide +kernel
theorem allS_nil : allS .nil = true := rfl
theorem fitsB_none (k : Int) (nm tx : ByteArray) : fitsB ⟨#[]⟩ k nm tx = true := by
  have h3 : closersOf (⟨#[]⟩ : ByteArray).data.toList = [] := by decide
  have h4 : Lib.containsS [] nm = false := by simp [Lib.containsS, Lib.idxOfS, Lib.idxFromS]
  unfold fitsB
  rw [void_none_b, raw_none_b, h3, h4]
  simp
theorem rowStays_fits : ∀ (p : ByteArray) (g : Fo), rowStays p g = true → fitsAll p g = true ∧ rowStays ⟨#[]⟩ g = true
  | _, .nil, _ => ⟨rfl, rfl⟩
  | p, .node k nm _ tx _ rest, h => by
    simp only [rowStays, fitsAll, Bool.and_eq_true] at h ⊢
    obtain ⟨h1, h2⟩ := rowStays_fits p rest h.2
    have h3 := h.1
    simp only [staysB, Bool.and_eq_true] at h3
    exact ⟨⟨h3.1, h1⟩, by rw [staysB, fitsB_none, Bool.true_and]; exact h3.2, h2⟩
theorem treeS_none (g : Fo) : treeS ⟨#[]⟩ g = (rowStays ⟨#[]⟩ g && allS g) := by
  unfold treeS
  rw [raw_none_b]
  simp
theorem single_stable {k : Int} {nm : ByteArray} {al : List (ByteArray × ByteArray)} {tx : ByteArray} {kids : Fo} (h : stableB (single k nm al tx kids) = true) : stableB kids = true ∧ fitsAll nm kids = true := by
  unfold stableB at h ⊢
  rw [Bool.and_eq_true] at h ⊢
  obtain ⟨h1, h2⟩ := h
  rw [treeS_none] at h2 ⊢
  simp only [single, rowStays, allS_node, allS_nil, Bool.and_true, Bool.and_eq_true, treeS] at h2
  obtain ⟨h3, ⟨h4, h5⟩, h6⟩ := h2
  obtain ⟨h7, h8⟩ := rowStays_fits nm kids h5
  refine ⟨⟨?_, by rw [h8, h6]; rfl⟩, h7⟩
  unfold mayB at h1 ⊢
  simp only [single, nodesOf, List.all_cons, List.all_append, Bool.and_eq_true] at h1
  exact h1.2.1
theorem check_flag (k : Int) (nm : ByteArray) (al : List (ByteArray × ByteArray)) (tx : ByteArray) (n : Nat) (p : Bool) (h : p = true → k ≠ 2) : checkB k nm al tx n p = checkB k nm al tx n false := by
  cases p with
  | false => rfl
  | true =>
    have := h rfl
    unfold checkB
    simp [this]
theorem all_one : ∀ (p : Bool) (g : Fo), noTw p g → ((nodesOf p g).all Dt.good && (rowStays ⟨#[]⟩ g && allS g)) = allOne g
  | _, .nil, _ => rfl
  | p, .node k nm al tx kids rest, h => by
    have ih := all_one (decide (k = 2)) rest h.2
    rw [allOne, ← ih]
    unfold stableB
    rw [treeS_none]
    unfold mayB
    simp only [single, nodesOf, List.all_cons, List.all_append, List.all_nil, Bool.and_true, rowStays, allS_node, allS_nil]
    have e : Dt.good ⟨p, k, nm, al, tx, kids.len⟩ = Dt.good ⟨false, k, nm, al, tx, kids.len⟩ := check_flag k nm al tx kids.len p h.1
    rw [e]
    cases Dt.good ⟨false, k, nm, al, tx, kids.len⟩ <;> cases (nodesOf false kids).all Dt.good <;> cases (nodesOf (decide (k = 2)) rest).all Dt.good <;> cases staysB ⟨#[]⟩ k nm tx <;> cases rowStays ⟨#[]⟩ rest <;> cases treeS nm kids <;> cases allS rest <;> rfl
theorem stable_all (g : Fo) (h : noTw false g) : stableB g = allOne g := by
  unfold stableB
  rw [treeS_none]
  exact all_one false g h
theorem okF_Ok : ∀ g : Fo, okF 400000 g → g.Ok
  | .nil, _ => trivial
  | .node _ _ _ _ kids rest, ⟨h1, h2, h3, h4, h5⟩ => ⟨by unfold maxLen; omega, fun p hp => by have := h2.2 p hp; unfold maxLen; omega, by have := h2.1; omega, by unfold maxLen; omega, okF_Ok kids h4, okF_Ok rest h5⟩
theorem Fo.height_size : ∀ g : Fo, g.height ≤ g.size
  | .nil => Nat.le_refl _
  | .node _ _ _ _ kids rest => by
    have := Fo.height_size kids
    have := Fo.height_size rest
    rw [Fo.height, Fo.size]
    omega
end Go.Proofs.YtghlodpbbghcoaaDoor
