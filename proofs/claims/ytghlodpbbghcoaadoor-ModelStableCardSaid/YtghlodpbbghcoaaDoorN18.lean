/- Which nodes are stable: the plain part. -/
import Derived.Test.YtghlodpbbghcoaaDoorN17
import Derived.Test.YtghlodpbbghcoaaDoorN11a
import Derived.WalkSmall
namespace Go.Proofs.YtghlodpbbghcoaaDoor
open Go.Lib Go.RowKit

/-- Does each of nodes stay in an element? -/
noncomputable def rowStays (p : ByteArray) : Fo → Bool
  | .nil => true
  | .node k nm _ tx _ rest => staysB p k nm tx && rowStays p rest
/-- Are all kids, and theirs, stable in their elements? -/
noncomputable def allS : Fo → Bool
  | .nil => true
  | .node _ nm _ _ kids rest => (!(rawB nm && decide (1 < kids.len)) && rowStays nm kids && allS kids) && allS rest
noncomputable def treeS (p : ByteArray) (g : Fo) : Bool := !(rawB p && decide (1 < g.len)) && rowStays p g && allS g
theorem allS_node (k : Int) (nm : ByteArray) (al : List (ByteArray × ByteArray)) (tx : ByteArray) (kids rest : Fo) : allS (.node k nm al tx kids rest) = (treeS nm kids && allS rest) := rfl
theorem treeS_nil (p : ByteArray) : treeS p .nil = true := by simp [treeS, rowStays, allS, Fo.len]
/-- P6.2. -/
noncomputable def stableB (f : Fo) : Bool := mayB f && treeS ⟨#[]⟩ f

structure Job where
  of : ByteArray
  v : Value
  g : Fo
def Job.Fine (w : World) (B : Nat) (j : Job) : Prop := j.of.size ≤ 1000 ∧ okF 400000 j.g ∧ ∃ (A : Option Addr) (n cap : Nat), j.v = .slice A n cap ∧ n = j.g.len ∧ n ≤ cap ∧ n ≤ 1000000 ∧ (0 < n → ∃ b o, A = some ⟨b, o, none⟩ ∧ RowAt w B b o j.g)
def jobCells (l : List Job) : List Value := l.flatMap fun j => [.string j.of, j.v]
noncomputable def jobsB (l : List Job) : Bool := l.all fun j => treeS j.of j.g
def jobsSize : List Job → Nat
  | [] => 0
  | j :: l => j.g.size + 1 + jobsSize l
theorem jobCells_length : ∀ l : List Job, (jobCells l).length = l.length * 2
  | [] => rfl
  | p :: t => by
    have := jobCells_length t
    simp only [jobCells, List.flatMap_cons, List.length_append, List.length_cons, List.length_nil] at this ⊢
    omega
theorem jobCells_snoc (l : List Job) (j : Job) : jobCells (l ++ [j]) = jobCells l ++ [.string j.of, j.v] := by simp [jobCells]
theorem jobsB_snoc (l : List Job) (j : Job) : jobsB (l ++ [j]) = (jobsB l && treeS j.of j.g) := by simp [jobsB]
theorem jobsSize_snoc : ∀ (l : List Job) (j : Job), jobsSize (l ++ [j]) = jobsSize l + (j.g.size + 1)
  | [], j => by simp [jobsSize]
  | d :: l, j => by
    rw [List.cons_append, jobsSize, jobsSize, jobsSize_snoc l j]
    omega
theorem jobsSize_len : ∀ l : List Job, l.length ≤ jobsSize l
  | [] => Nat.le_refl _
  | j :: l => by
    have := jobsSize_len l
    rw [jobsSize, List.length_cons]
    omega
theorem Job.Fine.below {w w' : World} {B : Nat} {j : Job} (h : j.Fine w B) (hb : Below B w w') : j.Fine w' B := by
  obtain ⟨h1, h2, A, n, cap, h3, h4, h5, h6, h7⟩ := h
  exact ⟨h1, h2, A, n, cap, h3, h4, h5, h6, fun hp => by obtain ⟨b, o, e, hr⟩ := h7 hp; exact ⟨b, o, e, hr.below hb⟩⟩
theorem okF_drop {M : Nat} : ∀ (f : Fo) (i : Nat) (q : Bool), okF M f → okF M (Fo.drop q f i).2
  | f, 0, q, h => by simpa [Fo.drop] using h
  | .nil, i + 1, q, h => trivial
  | .node _ _ _ _ _ rest, i + 1, q, h => by rw [Fo.drop]; exact okF_drop rest i _ h.2.2.2.2
/-- The last job of a row: its cells. -/
theorem own_job_at {w : World} {base : Nat} {v : Value} {l : List Job} {j : Job} (h : w.ownsRow base 62 2 v (l ++ [j]).length (jobCells (l ++ [j]))) :
    ∃ (g m cap : Nat), v = .slice (some ⟨g, 0, none⟩) (m + 1) cap ∧ m = l.length ∧ m + 1 ≤ cap ∧ base ≤ g ∧ w.cell? ⟨g, m * 2, none⟩ = some (.string j.of) ∧ w.cell? ⟨g, m * 2 + 1, none⟩ = some j.v := by
  rcases h.2 with ⟨rfl, h0⟩ | ⟨g, cap, cur, rfl, hb0, hb, h1, h2, h3, h4⟩
  · simp at h0
  · rw [List.length_append, List.length_singleton] at h1 h4
    refine ⟨g, l.length, cap, by simp, rfl, h1, hb0, ?_, ?_⟩
    · have e3 : w.cell? ⟨g, l.length * 2, none⟩ = cur[l.length * 2]? := by simp [World.cell?, hb]
      have e4 : cur[l.length * 2]? = (cur.toList.take ((l.length + 1) * 2))[l.length * 2]? := by rw [List.getElem?_take, if_pos (by omega), Array.getElem?_toList]
      rw [e3, e4, h4, jobCells_snoc, List.getElem?_append_right (by rw [jobCells_length]; omega), jobCells_length, Nat.sub_self]
      rfl
    · have e3 : w.cell? ⟨g, l.length * 2 + 1, none⟩ = cur[l.length * 2 + 1]? := by simp [World.cell?, hb]
      have e4 : cur[l.length * 2 + 1]? = (cur.toList.take ((l.length + 1) * 2))[l.length * 2 + 1]? := by rw [List.getElem?_take, if_pos (by omega), Array.getElem?_toList]
      rw [e3, e4, h4, jobCells_snoc, List.getElem?_append_right (by rw [jobCells_length]; omega), jobCells_length, show l.length * 2 + 1 - l.length * 2 = 1 by omega]
      rfl
theorem own_first {w : World} {j : Job} {base : Nat} (hb : base ≤ w.heap.size) : (w.alloc (.cells #[.string j.of, j.v] 62)).ownsRow base 62 2 (.slice (some ⟨w.heap.size, 0, none⟩) 1 1) [j].length (jobCells [j]) :=
  ⟨rfl, .inr ⟨w.heap.size, 1, _, rfl, hb, blk_new w _, Nat.le_refl _, by decide, rfl, rfl⟩⟩
end Go.Proofs.YtghlodpbbghcoaaDoor
