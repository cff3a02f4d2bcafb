/- The statement RulesPrintsCardSaid. -/
import Derived.Test.YtghlodpbbghcoaaGreatDoorL8
import Derived.Test.YtghlodpbbghcoaaGreatDoorOA
namespace Go.Proofs.YtghlodpbbghcoaaGreatDoor
open Go.ChangeShapes Go.WideShapes Go.ChangeAt Go.RowKit
open Go.ChangeMaps (open_string)

set_option maxRecDepth 100000 in
theorem rulesPrints_contract (H : Type) (enc : TypeId × Value → H) (ds gs : List (DataW H)) (before : List MemPlace) (W : World) (base : Nat) (args : Array Value)
    (hT : TzTab W)
    (hval0 : ∀ (j : Nat) t v, Tryz.f8.params[j]? = some t → args[j]? = some v → Value.okWide Tryz.prog W .any base t v)
    (hW : DataW.Whole enc Tryz.prog Tryz.f8.params.toList Rows.rulesPrintsSpec.vars false W args.toList ds gs before)
    (hsz0 : (DataW.weightsEach Tryz.prog (Tryz.f8.params.toList ++ (OpenSpec.ofChange Rows.rulesPrintsSpec).bare.plain.varTypes Tryz.prog) (ds ++ gs)).all (· ≤ reachBytes) = true) :
    Calls Tryz.prog 8 args W fun e W' => ∃ v, e = .returned v ∧ Rows.rulesPrintsSpec.post enc Tryz.prog Tryz.f8 false true false false W args v W' := by
  have hval : ∀ (j : Nat) t v, Tryz.f8.params[j]? = some t → args[j]? = some v → Value.okWide Tryz.prog W .any base t v := hval0
  have hW' := hW
  have hsz := hsz0
  obtain ⟨p, q, hA0, hV, rfl, _, _⟩ := hW
  have hA : DataW.TrodAll enc Tryz.prog W 0 (fun _ => true) true Tryz.f8.params.toList args.toList ds p := hA0
  rw [Tryz.params8] at hA hval hsz
  obtain ⟨v0, d0, rfl, rfl, h0⟩ := trodAll_one hA
  obtain ⟨rfl, rfl⟩ := trodVars_none hV
  have sm0 : SmallW 25 d0 := fun m hm => Nat.le_trans (of_decide_eq_true (List.all_eq_true.1 hsz m (weightsEach_mem (i := 0) (t := 25) (d := d0) rfl rfl hm))) (by decide)
  obtain ⟨vt0, ve0, vu0, pol0, rfl, hpa0, hpi0⟩ := open_pol h0 sm0 (by
    obtain ⟨cs, e, hc⟩ := okWide_struct Tryz.underlying25 (hval 0 25 v0 rfl rfl)
    rw [show Tryz.prog.cellsOf 25 = 3 by kernel_rfl] at hc
    obtain ⟨a, b, c, rfl⟩ := arr3 hc
    exact ⟨a, b, c, e⟩)
  clear hA0 hval0 hsz0
  simp only [List.append_nil] at hW'
  refine (rulesPrints_any vt0 ve0 vu0 pol0 W hT hpa0 hpi0).mono fun e W' ⟨he, hb⟩ => ?_
  subst he
  have hlt : ∀ x ∈ p, x.block < W.heap.size := fun x hx => by simpa using hW'.lt x (by simpa using hx)
  exact ⟨_, rfl, post_of_below (pa := p) (pv := []) hW' (fun _ _ _ => trodAll_mk1 (shut_bool Tryz.underlying4 _))
    (fun sp hsp => trodAll_mk1
      (WideElems.Trod_stays Tryz.laidOut (by kernel_rfl) (of_decide_eq_true (by kernel_rfl)) h0 (fun x hx => hb.same (hlt x (hx))) (fun x hx => hsp x (by simp [hx])))) (fun _ _ => rfl) (by simp) hb
    (ok_one (by kernel_rfl) rfl (okWide_bool_mk Tryz.underlying4 _))⟩

set_option maxRecDepth 100000 in
theorem rulesPrints_lifted (os : Os) (started : os.Started) (H : Type) (enc : TypeId × Value → H) :
    ReturnsInHanded {} Tryz.checked os 8 .any (fun w args => (Rows.rulesPrintsSpec.pre enc Tryz.prog Tryz.f8 [] false w args ∧ laidMetH Tryz.prog laidL w) ∧ sizedMet enc Tryz.prog Tryz.f8 (OpenSpec.ofChange Rows.rulesPrintsSpec) false w args)
      (Rows.rulesPrintsSpec.post enc Tryz.prog Tryz.f8 false true false false) := by
  refine returnsInHanded_of_calls Tryz.own started (by kernel_rfl)
    (ChangeSpec.witness_shaped (enc := enc) (C := Tryz.checked) (os := os) (X := fun w _ => laidMetH Tryz.prog laidL w) false (World.laidAll Tryz.prog os laidL) #[.agg #[.slice none 0 0, .slice none 0 0, .slice none 0 0]] 8 (World.laidAll_os _ _ _)
      (World.shaped_of_ZipB (by kernel_rfl) (by kernel_rfl)) (by kernel_rfl) (by kernel_rfl) (by kernel_rfl) (laid_met os _)) ?_
  intro w0 tape i _ hshape _ hok hpre _
  obtain ⟨_, _, _, fn', hfn', _, _, _, _, hval0⟩ := hok
  obtain rfl : fn' = Tryz.f8 := Option.some.inj (hfn'.symm.trans Tryz.func8)
  obtain ⟨⟨_, hx⟩, _, ds, gs, before, hw, hsz⟩ := hpre
  exact (rulesPrints_contract H enc ds gs before (w0.forCall tape i) w0.heap.size i.args ((tz_laid hx).keep rfl) hval0 (DataW.Whole.of_heap (w' := w0.forCall tape i) (by rfl) hw) hsz).mono fun e W' ⟨v, he, hp⟩ => by
    subst he
    exact ChangeSpec.post_blind hp

theorem rulesPrints_row : Rows.RulesPrintsSaid :=
  OpenClaim.holds_of_wide 8 Tryz.f8 rfl rfl rfl rfl rfl rfl rfl ⟨rfl, rfl, rfl, rfl, rfl⟩ rfl rfl rfl rfl rfl (by kernel_rfl) Tryz.func8 (by kernel_rfl)
    (of_decide_eq_true (by kernel_rfl)) (by unfold Func.isWrapper; first | (rw [if_pos (by decide +kernel)]; kernel_rfl) | (rw [if_neg (by decide +kernel)]; exact ⟨rfl, rfl⟩))
    (fun os started H enc _ => rulesPrints_lifted os started H enc)

theorem rulesPrints_holds : Rows.RulesPrintsCardSaid :=
  Claim7.holds_tied_plain_at .later [] [.data] true (true, "cb2627fc84688daa4ee11e423c77d0223a9ad123659152a7c8da5172cf0902d6") false rulesPrints_row (fun _ h => by cases h) (by kernel_rfl) (fun _ h => by cases h) rulesPrints_row_tie rfl ⟨rfl, rfl⟩ (by kernel_rfl) rfl
    (fun f fn hf hfn => by
      obtain rfl : f = 8 := Option.some.inj ((show Tryz.prog.funcNamed Rows.rulesPrintsRow.func = some 8 by kernel_rfl).symm.trans hf) |>.symm
      obtain rfl : fn = Tryz.f8 := (Option.some.inj (Tryz.func8.symm.trans hfn)).symm
      exact ⟨by kernel_rfl, fun j t ht => by
        rw [Tryz.params8] at ht
        have hm : t ∈ [25] := by simpa using Array.mem_of_getElem? ht
        have hall : ([25].all fun u => !Tryz.prog.wantsStandIn u) = true := by kernel_rfl
        exact (show Tryz.prog.wantsStandIn t = false by simpa using List.all_eq_true.1 hall t hm)⟩)
    (by kernel_rfl)
#print axioms rulesPrints_holds
end Go.Proofs.YtghlodpbbghcoaaGreatDoor
