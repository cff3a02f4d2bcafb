/- The statement ModelStableCardSaid. -/
import Derived.Test.YtghlodpbbghcoaaDoorN37
import Derived.Test.YtghlodpbbghcoaaDoorFrame2
namespace Go.Proofs.YtghlodpbbghcoaaDoor
open Go.ChangeShapes Go.WideShapes Go.ChangeAt Go.RowKit

set_option maxRecDepth 100000 in
theorem modelStable_contract (H : Type) (enc : TypeId × Value → H) (ds gs : List (DataW H)) (before : List MemPlace) (W : World) (base : Nat) (args : Array Value) (hshape : W.ShapedOpen Tryd.prog)
    (hval0 : ∀ (j : Nat) t v, Tryd.f4.params[j]? = some t → args[j]? = some v → Value.okWide Tryd.prog W .any base t v)
    (hW : DataW.Whole enc Tryd.prog Tryd.f4.params.toList Rows.modelStableSpec.vars false W args.toList ds gs before) (hL : laidMetH Tryd.prog laidL W) :
    Calls Tryd.prog 4 args W fun e W' => ∃ v, e = .returned v ∧ Rows.modelStableSpec.post enc Tryd.prog Tryd.f4 false true false false W args v W' := by
  have hval : ∀ (j : Nat) t v, Tryd.f4.params[j]? = some t → args[j]? = some v → Value.okWide Tryd.prog W .any base t v := hval0
  have hW' := hW
  obtain ⟨p, q, hA0, hV, rfl, _, _⟩ := hW
  have hA : DataW.TrodAll enc Tryd.prog W 0 (fun _ => true) true Tryd.f4.params.toList args.toList ds p := hA0
  rw [Tryd.params4] at hA hval
  obtain ⟨v0, d0, rfl, rfl, h0⟩ := trodAll_one hA
  obtain ⟨rfl, rfl⟩ := trodVars_none hV
  obtain ⟨a0, len0, cap0, rfl⟩ := okWide_slice Tryd.underlying23 (hval 0 23 v0 rfl rfl)
  obtain ⟨A, cap, f, hv, hcap, hcm, hIn, hrow⟩ : ∃ (A : Option Addr) (cap : Nat) (f : Fo), Value.slice a0 len0 cap0 = .slice A f.len cap ∧ f.len ≤ cap ∧ cap ≤ maxLen ∧ f.In ∧ (0 < f.len → ∃ b o, A = some ⟨b, o, none⟩ ∧ b < W.heap.size ∧ RowAt W W.heap.size b o f) := by
    obtain ⟨fuel, hfu⟩ := id h0
    exact open_nodes fuel _ _ hfu
  obtain ⟨rfl, rfl, rfl⟩ : a0 = A ∧ len0 = f.len ∧ cap0 = cap := by simpa only [Value.slice.injEq] using hv
  have htab : Tabs W := by
    rw [MakeChecks.laidMetH_plain _ _ _ (by kernel_rfl)] at hL
    exact tabs_laid hL
  have hmax : MaxAt W := Tryd.laysM143.s1_3 W hshape
  clear hA0 hval0
  simp only [List.append_nil] at hW'
  refine (modelStable_any a0 cap0 f hIn hcap (Nat.le_trans hcap hcm) W.heap.size W htab hmax (Nat.le_refl _) (fun hp => by obtain ⟨b, o, e, _, hr⟩ := hrow hp; exact ⟨b, o, e, hr⟩)).mono fun e W' ⟨he, hb⟩ => ?_
  subst he
  have hlt : ∀ x ∈ p, x.block < W.heap.size := fun x hx => by simpa using hW'.lt x hx
  exact ⟨_, rfl, post_of_below (pa := p) (pv := []) hW' (fun _ _ _ => trodAll_mk1 (shut_bool Tryd.underlying4 _))
    (fun sp hsp => trodAll_mk1 (WideElems.Trod_stays Tryd.laidOut (by kernel_rfl) (of_decide_eq_true (by kernel_rfl)) h0 (fun x hx => hb.same (hlt x hx)) (fun x hx => hsp x (by simpa using hx)))) (fun _ _ => rfl) (by simp) hb
    (ok_one (by kernel_rfl) rfl (okWide_bool_mk Tryd.underlying4 _))⟩

set_option maxRecDepth 100000 in
theorem modelStable_lifted (os : Os) (started : os.Started) (H : Type) (enc : TypeId × Value → H) :
    ReturnsInHanded {} Tryd.checked os 4 .any (fun w args => (Rows.modelStableSpec.pre enc Tryd.prog Tryd.f4 [] false w args ∧ laidMetH Tryd.prog laidL w) ∧ sizedMet enc Tryd.prog Tryd.f4 (OpenSpec.ofChange Rows.modelStableSpec) false w args)
      (Rows.modelStableSpec.post enc Tryd.prog Tryd.f4 false true false false) := by
  refine returnsInHanded_of_calls Tryd.own started (by kernel_rfl)
    (ChangeSpec.witness_shaped (enc := enc) (C := Tryd.checked) (os := os) (X := fun w _ => laidMetH Tryd.prog laidL w) false (World.laidAll Tryd.prog os laidL) #[.slice none 0 0] 8 (World.laidAll_os _ _ _)
      (World.shaped_of_ZipB (by kernel_rfl) (by kernel_rfl)) (by kernel_rfl) (by kernel_rfl) (by kernel_rfl) (laid_met os _)) ?_
  intro w0 tape i _ hshape _ hok hpre _
  obtain ⟨_, _, _, fn', hfn', _, _, _, _, hval0⟩ := hok
  obtain rfl : fn' = Tryd.f4 := Option.some.inj (hfn'.symm.trans Tryd.func4)
  obtain ⟨⟨⟨ds, gs, before, hw, _⟩, hx⟩, _⟩ := hpre
  exact (modelStable_contract H enc ds gs before (w0.forCall tape i) w0.heap.size i.args hshape hval0 (DataW.Whole.of_heap (w' := w0.forCall tape i) (by rfl) hw) (hx.of_heap (by rfl))).mono fun e W' ⟨v, he, hp⟩ => by
    subst he
    exact ChangeSpec.post_blind hp

theorem modelStable_row : Rows.ModelStableSaid :=
  OpenClaim.holds_of_wide 4 Tryd.f4 rfl rfl rfl rfl rfl rfl rfl ⟨rfl, rfl, rfl, rfl, rfl⟩ rfl rfl rfl rfl rfl (by kernel_rfl) Tryd.func4 (by kernel_rfl)
    (of_decide_eq_true (by kernel_rfl)) (by unfold Func.isWrapper; first | (rw [if_pos (by decide +kernel)]; kernel_rfl) | (rw [if_neg (by decide +kernel)]; exact ⟨rfl, rfl⟩))
    (fun os started H enc _ => modelStable_lifted os started H enc)

theorem modelStable_holds : Rows.ModelStableCardSaid :=
  Claim7.holds_tied_plain_at .later [] [.data, .pinned] true (true, "44bc768d48c5279d6174301f0f4150e64161457be3c4eddc0e3cb3de7a832435") false modelStable_row (fun _ h => by cases h) (by kernel_rfl) (fun _ h => by cases h) modelStable_row_tie rfl ⟨rfl, rfl⟩ (by kernel_rfl) rfl
    (fun f fn hf hfn => by
      obtain rfl : f = 4 := Option.some.inj ((show Tryd.prog.funcNamed Rows.modelStableRow.func = some 4 by kernel_rfl).symm.trans hf) |>.symm
      obtain rfl : fn = Tryd.f4 := (Option.some.inj (Tryd.func4.symm.trans hfn)).symm
      exact ⟨by kernel_rfl, fun j t ht => by
        rw [Tryd.params4] at ht
        have hm : t ∈ [23] := by simpa using Array.mem_of_getElem? ht
        have hall : ([23].all fun u => !Tryd.prog.wantsStandIn u) = true := by kernel_rfl
        exact (show Tryd.prog.wantsStandIn t = false by simpa using List.all_eq_true.1 hall t hm)⟩)
    (by kernel_rfl)
#print axioms modelStable_holds
end Go.Proofs.YtghlodpbbghcoaaDoor
