/- Nodes that are stable, by the document: the plain part. No program in sight. -/
import Derived.Test.YtghlodpbbghcoaaDoorN20
namespace Go.Proofs.YtghlodpbbghcoaaDoor
open Go.Lib Go.RowKit Go.Shelf
/-- all: is each of nodes that may be stable? -/
noncomputable def refAll : Fo → Bool
  | .nil => true
  | .node k nm _ tx kids rest => (!(decide (k = 3) && Lib.contains tx.data.toList [45, 45, 62]) && (fitsAll nm kids && refAll kids)) && refAll rest
/-- No text of a comment ends it. -/
noncomputable def plainC : Fo → Bool
  | .nil => true
  | .node k _ _ tx _ rest => !(decide (k = 3) && Lib.contains tx.data.toList [45, 45, 62]) && plainC rest
theorem rowStays_iff : ∀ (p : ByteArray) (g : Fo), rowStays p g = (fitsAll p g && plainC g)
  | _, .nil => rfl
  | p, .node k nm al tx kids rest => by
    rw [rowStays, fitsAll, plainC, rowStays_iff p rest, staysB]
    have e : (decide (k ≠ 3) || !Lib.contains tx.data.toList [45, 45, 62]) = !(decide (k = 3) && Lib.contains tx.data.toList [45, 45, 62]) := by
      by_cases h : k = 3 <;> simp [h]
    rw [e]
    cases fitsB p k nm tx <;> cases fitsAll p rest <;> cases plainC rest <;> cases (!(decide (k = 3) && Lib.contains tx.data.toList [45, 45, 62])) <;> rfl
theorem fitsAll_none : ∀ g : Fo, fitsAll ⟨#[]⟩ g = true
  | .nil => rfl
  | .node k nm _ tx _ rest => by rw [fitsAll, fitsB_none, fitsAll_none rest]; rfl
/-- Nodes that may be, and all fit in a raw element: one at most. -/
theorem raw_one (p : ByteArray) (hr : rawB p = true) (hv : voidB p = false) : ∀ g : Fo, mayB g = true → fitsAll p g = true → g.len ≤ 1
  | .nil, _, _ => Nat.zero_le _
  | .node _ _ _ _ _ .nil, _, _ => Nat.le_refl _
  | .node k nm al tx kids (.node k2 nm2 al2 tx2 kids2 rest), hm, hf => by
    exfalso
    simp only [fitsAll, Bool.and_eq_true] at hf
    obtain ⟨h1, h2, _⟩ := hf
    have g1 : k = 2 := by
      unfold fitsB at h1
      rw [hv, hr] at h1
      simp at h1
      exact h1.1
    have g2 : k2 = 2 := by
      unfold fitsB at h2
      rw [hv, hr] at h2
      simp at h2
      exact h2.1
    subst g1 g2
    unfold mayB at hm
    simp only [nodesOf, List.all_cons, List.all_append, Bool.and_eq_true] at hm
    have h3 := hm.2.2.1
    simp [Dt.good, checkB] at h3
theorem fits_void {p : ByteArray} (hv : voidB p = true) : ∀ g : Fo, fitsAll p g = true → g = .nil
  | .nil, _ => rfl
  | .node k nm _ tx _ rest, h => by
    simp only [fitsAll, Bool.and_eq_true] at h
    have := h.1
    unfold fitsB at this
    rw [hv] at this
    cases this
theorem tree_ref (p : ByteArray) (g : Fo) (hm : mayB g = true) : treeS p g = (fitsAll p g && (plainC g && allS g)) := by
  rw [treeS, rowStays_iff]
  cases hf : fitsAll p g with
  | false => simp
  | true =>
    have hl : (rawB p && decide (1 < g.len)) = false := by
      cases hr : rawB p with
      | false => rfl
      | true =>
        cases hv : voidB p with
        | true => rw [fits_void hv g hf]; rfl
        | false =>
          have := raw_one p hr hv g hm hf
          simp
          omega
    rw [hl]
    cases plainC g <;> cases allS g <;> rfl
theorem may_kids {p : Bool} {k : Int} {nm : ByteArray} {al : List (ByteArray × ByteArray)} {tx : ByteArray} {kids rest : Fo} (h : (nodesOf p (.node k nm al tx kids rest)).all Dt.good = true) : mayB kids = true ∧ (nodesOf (decide (k = 2)) rest).all Dt.good = true := by
  simp only [nodesOf, List.all_cons, List.all_append, Bool.and_eq_true] at h
  exact ⟨h.2.1, h.2.2⟩
theorem ref_all : ∀ (p : Bool) (g : Fo), (nodesOf p g).all Dt.good = true → refAll g = (plainC g && allS g)
  | _, .nil, _ => rfl
  | p, .node k nm al tx kids rest, h => by
    obtain ⟨h1, h2⟩ := may_kids h
    have e1 := ref_all false kids h1
    have e2 := ref_all _ rest h2
    rw [refAll, plainC, allS_node, tree_ref nm kids h1, e1, e2]
    cases (!(decide (k = 3) && Lib.contains tx.data.toList [45, 45, 62])) <;> cases fitsAll nm kids <;> cases plainC kids <;> cases allS kids <;> cases plainC rest <;> cases allS rest <;> rfl
theorem stable_ref (g : Fo) : stableB g = (mayB g && refAll g) := by
  unfold stableB
  cases hm : mayB g with
  | false => rfl
  | true =>
    rw [ref_all false g hm, tree_ref _ g hm, fitsAll_none]
    rfl
end Go.Proofs.YtghlodpbbghcoaaDoor
