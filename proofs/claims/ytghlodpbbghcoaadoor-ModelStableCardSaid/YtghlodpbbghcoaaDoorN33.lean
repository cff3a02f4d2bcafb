/- Which nodes are stable, by the document: walked. -/
import Derived.Test.YtghlodpbbghcoaaDoorN31
import Derived.Test.YtghlodpbbghcoaaDoorN32
namespace Go.Proofs.YtghlodpbbghcoaaDoor
open Go.Lib Go.RowKit Go.Shelf
set_option maxRecDepth 8192 in
set_option maxHeartbeats 1600000 in
theorem stable15_any (A : Option Addr) (cap : Nat) (g : Fo) (hok : okF 400000 g) (hs : g.size ≤ 1000) (hcap : g.len ≤ cap) (B : Nat) (w : World) (hBw : B ≤ w.heap.size) (hrow : 0 < g.len → ∃ b o, A = some ⟨b, o, none⟩ ∧ RowAt w B b o g) :
    Calls Tryd.prog 15 #[.slice A g.len cap] w fun e w' => e = .returned (.bool (stableB g)) ∧ Below w.heap.size w w' := by
  have hmay := may36_ok g A cap B w hok hs hcap hBw hrow
  have hall := fun (w' : World) (h : Below w.heap.size w w') => all37_ok g A cap B w' hok hs hcap (Nat.le_trans hBw h.size) (fun hp => by obtain ⟨b, o, e, hr⟩ := hrow hp; exact ⟨b, o, e, hr.below (h.mono hBw)⟩)
  rw [stable_ref]
  obtain ⟨n, hn⟩ : ∃ n, g.len = n := ⟨_, rfl⟩
  rw [hn] at hmay hall ⊢
  obtain ⟨m, hm⟩ : ∃ m, mayB g = m := ⟨_, rfl⟩
  obtain ⟨a, ha⟩ : ∃ a, refAll g = a := ⟨_, rfl⟩
  rw [hm] at hmay ⊢
  rw [ha] at hall ⊢
  clear hm ha hn hrow hcap
  cases m with
  | false =>
    go_enter Tryd.func15, Tryd.ntmps15
    go_wp2_with (go_at_call 36; refine hmay.mono ?_; rintro e w1 ⟨x, rfl, hx, hB1⟩; have hx0 : ¬ x = 0 := of_decide_eq_false hx)
    go_ret
    exact ⟨rfl, hB1⟩
  | true =>
    go_enter Tryd.func15, Tryd.ntmps15
    go_wp2_with (first
      | (go_at_call 36; refine hmay.mono ?_; rintro e w1 ⟨x, rfl, hx, hB1⟩; obtain rfl : x = 0 := of_decide_eq_true hx)
      | (go_at_call 37; refine (hall _ hB1).mono ?_; rintro e w2 ⟨rfl, hB2⟩))
    go_ret
    exact ⟨by simp, hB1.trans (hB2.mono hB1.size)⟩
end Go.Proofs.YtghlodpbbghcoaaDoor
