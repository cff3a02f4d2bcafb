/- A call of a Go function as one step of a region that draws its order, for 'go_region_law'. -/
import Derived.Test.YtghlodpbbghcoaaGreatDoorProg
import Derived.Deep.RegionLaw
import Derived.Deep.AppendLies
import Derived.WalkKit
namespace Go.Proofs.YtghlodpbbghcoaaGreatDoor
open Go.RowKit
theorem step_call31 {ops : Array Oper} {o : Oper} {a : Act} {w : World} {K : Act → World → Prop} {Q : Exit → Act → World → Prop} {E : Prop} (hgd : o.guard = none) (x : Operand) (t : TypeId)
    (ho : o.op = .call { callee := .value (.func 31), args := #[x], argTypes := #[t] }) (v : Value) (hx : a.eval x = v) {Post : Ending → World → Prop} (hc : Calls Tryz.prog 31 #[v] w Post)
    (h : ∀ e w', Post e w' → ∃ r, e = .returned r ∧ K (a.put o.dst r) w') : if Region.wanted o (yielded ops a.tmps) = true then Oper.wp Tryz.prog o a w K Q else E := by
  have hw : Region.wanted o (yielded ops a.tmps) = true := by simp [Region.wanted, hgd]
  rw [if_pos hw]
  unfold Oper.wp
  have hr : (execOp a.eval o).run Tryz.prog w = .ok (.enter 31 #[v]) w := by
    subst hx
    simp [execOp, ho, resolve, go_sem]
  rw [hr, Oper.upon_enter]
  refine hc.mono ?_
  intro e w' hp
  obtain ⟨r, rfl, hk⟩ := h e w' hp
  exact hk
end Go.Proofs.YtghlodpbbghcoaaGreatDoor
