/- The statement PolicyInsideCardSaid. -/
import Derived.Test.YtghlodpbbghcoaaGreatDoorSL
import Derived.Test.YtghlodpbbghcoaaGreatDoorOpen1
namespace Go.Proofs.YtghlodpbbghcoaaGreatDoor
open Go.ChangeShapes Go.WideShapes Go.ChangeAt Go.RowKit
open Go.ChangeMaps (open_string)

set_option maxRecDepth 100000 in
theorem policyInside_contract (H : Type) (enc : TypeId × Value → H) (ds gs : List (DataW H)) (before : List MemPlace) (W : World) (base : Nat) (args : Array Value)
    (hval0 : ∀ (j : Nat) t v, Tryz.f4.params[j]? = some t → args[j]? = some v → Value.okWide Tryz.prog W .any base t v)
    (hW : DataW.Whole enc Tryz.prog Tryz.f4.params.toList Rows.policyInsideSpec.vars false W args.toList ds gs before)
    (hsz0 : (DataW.weightsEach Tryz.prog (Tryz.f4.params.toList ++ (OpenSpec.ofChange Rows.policyInsideSpec).bare.plain.varTypes Tryz.prog) (ds ++ gs)).all (· ≤ reachBytes) = true) :
    Calls Tryz.prog 4 args W fun e W' => ∃ v, e = .returned v ∧ Rows.policyInsideSpec.post enc Tryz.prog Tryz.f4 false true false false W args v W' := by
  have hval : ∀ (j : Nat) t v, Tryz.f4.params[j]? = some t → args[j]? = some v → Value.okWide Tryz.prog W .any base t v := hval0
  have hW' := hW
  have hsz := hsz0
  obtain ⟨p, q, hA0, hV, rfl, _, _⟩ := hW
  have hA : DataW.TrodAll enc Tryz.prog W 0 (fun _ => true) true Tryz.f4.params.toList args.toList ds p := hA0
  rw [Tryz.params4] at hA hval hsz
  obtain ⟨v0, v1, v2, d0, d1, d2, p0, p1, p2, rfl, rfl, rfl, h0, h1, h2⟩ := trodAll_three hA
  obtain ⟨rfl, rfl⟩ := trodVars_none hV
  have sm0 : SmallW 25 d0 := fun m hm => Nat.le_trans (of_decide_eq_true (List.all_eq_true.1 hsz m (weightsEach_mem (i := 0) (t := 25) (d := d0) rfl rfl hm))) (by decide)
  obtain ⟨vt0, ve0, vu0, pol0, rfl, hpa0, hpi0⟩ := open_pol h0 sm0 (by
    obtain ⟨cs, e, hc⟩ := okWide_struct Tryz.underlying25 (hval 0 25 v0 rfl rfl)
    rw [show Tryz.prog.cellsOf 25 = 3 by kernel_rfl] at hc
    obtain ⟨a, b, c, rfl⟩ := arr3 hc
    exact ⟨a, b, c, e⟩)
  obtain ⟨s1, rfl, _, _, hsz1⟩ := open_string Tryz.underlying9 (hval 1 9 v1 rfl rfl) h1
  obtain ⟨a2, len2, cap2, rfl⟩ := okWide_slice Tryz.underlying40 (hval 2 40 v2 rfl rfl)
  obtain ⟨A2, cp2, f2, hv2, hcap2, hcm2, hIn2, hrow2⟩ : ∃ (A : Option Addr) (cap : Nat) (f : Nd.Fo), Value.slice a2 len2 cap2 = .slice A f.len cap ∧ f.len ≤ cap ∧ cap ≤ maxLen ∧ f.In ∧ (0 < f.len → ∃ b o, A = some ⟨b, o, none⟩ ∧ b < W.heap.size ∧ Nd.RowAt W W.heap.size b o f) := by
    obtain ⟨fuel, hfu⟩ := id h2
    exact Nd.open_nodes fuel _ _ hfu
  obtain ⟨rfl, rfl, rfl⟩ : a2 = A2 ∧ len2 = f2.len ∧ cap2 = cp2 := by simpa only [Value.slice.injEq] using hv2
  clear hA0 hval0 hsz0
  simp only [List.append_nil] at hW'
  refine (policyInside_any vt0 ve0 vu0 pol0 s1 a2 cap2 f2 W hpa0 hpi0 hIn2 hcap2 (Nat.le_trans hcap2 hcm2) (fun hp => by obtain ⟨b, o, e, _, hr⟩ := hrow2 hp; exact ⟨b, o, e, hr⟩)).mono fun e W' ⟨he, hb⟩ => ?_
  subst he
  have hlt : ∀ x ∈ p0 ++ (p1 ++ p2), x.block < W.heap.size := fun x hx => by simpa using hW'.lt x (by simpa using hx)
  exact ⟨_, rfl, post_of_below (pa := p0 ++ (p1 ++ p2)) (pv := []) hW' (fun _ _ _ => trodAll_mk1 (shut_bool Tryz.underlying4 _))
    (fun sp hsp => trodAll_mk3
      (WideElems.Trod_stays Tryz.laidOut (by kernel_rfl) (of_decide_eq_true (by kernel_rfl)) h0 (fun x hx => hb.same (hlt x (List.mem_append_left _ hx))) (fun x hx => hsp x (by simp [hx])))
      (WideElems.Trod_stays Tryz.laidOut (by kernel_rfl) (of_decide_eq_true (by kernel_rfl)) h1 (fun x hx => hb.same (hlt x (List.mem_append_right _ (List.mem_append_left _ hx)))) (fun x hx => hsp x (by simp [hx])))
      (WideElems.Trod_stays Tryz.laidOut (by kernel_rfl) (of_decide_eq_true (by kernel_rfl)) h2 (fun x hx => hb.same (hlt x (List.mem_append_right _ (List.mem_append_right _ hx)))) (fun x hx => hsp x (by simp [hx])))) (fun _ _ => rfl) (by simp) hb
    (ok_one (by kernel_rfl) rfl (okWide_bool_mk Tryz.underlying4 _))⟩

set_option maxRecDepth 100000 in
theorem policyInside_lifted (os : Os) (started : os.Started) (H : Type) (enc : TypeId × Value → H) :
    ReturnsInHanded {} Tryz.checked os 4 .any (fun w args => (Rows.policyInsideSpec.pre enc Tryz.prog Tryz.f4 [] false w args ∧ laidMetH Tryz.prog laidL w) ∧ sizedMet enc Tryz.prog Tryz.f4 (OpenSpec.ofChange Rows.policyInsideSpec) false w args)
      (Rows.policyInsideSpec.post enc Tryz.prog Tryz.f4 false true false false) := by
  refine returnsInHanded_of_calls Tryz.own started (by kernel_rfl)
    (ChangeSpec.witness_shaped (enc := enc) (C := Tryz.checked) (os := os) (X := fun w _ => laidMetH Tryz.prog laidL w) false (World.laidAll Tryz.prog os laidL) #[.agg #[.slice none 0 0, .slice none 0 0, .slice none 0 0], .string ByteArray.empty, .slice none 0 0] 8 (World.laidAll_os _ _ _)
      (World.shaped_of_ZipB (by kernel_rfl) (by kernel_rfl)) (by kernel_rfl) (by kernel_rfl) (by kernel_rfl) (laid_met os _)) ?_
  intro w0 tape i _ hshape _ hok hpre _
  obtain ⟨_, _, _, fn', hfn', _, _, _, _, hval0⟩ := hok
  obtain rfl : fn' = Tryz.f4 := Option.some.inj (hfn'.symm.trans Tryz.func4)
  obtain ⟨⟨_, hx⟩, _, ds, gs, before, hw, hsz⟩ := hpre
  exact (policyInside_contract H enc ds gs before (w0.forCall tape i) w0.heap.size i.args hval0 (DataW.Whole.of_heap (w' := w0.forCall tape i) (by rfl) hw) hsz).mono fun e W' ⟨v, he, hp⟩ => by
    subst he
    exact ChangeSpec.post_blind hp

theorem policyInside_row : Rows.PolicyInsideSaid :=
  OpenClaim.holds_of_wide 4 Tryz.f4 rfl rfl rfl rfl rfl rfl rfl ⟨rfl, rfl, rfl, rfl, rfl⟩ rfl rfl rfl rfl rfl (by kernel_rfl) Tryz.func4 (by kernel_rfl)
    (of_decide_eq_true (by kernel_rfl)) (by unfold Func.isWrapper; first | (rw [if_pos (by decide +kernel)]; kernel_rfl) | (rw [if_neg (by decide +kernel)]; exact ⟨rfl, rfl⟩))
    (fun os started H enc _ => policyInside_lifted os started H enc)

theorem policyInside_holds : Rows.PolicyInsideCardSaid :=
  Claim7.holds_tied_plain_at .later [] [.data] true (true, "cb2627fc84688daa4ee11e423c77d0223a9ad123659152a7c8da5172cf0902d6") false policyInside_row (fun _ h => by cases h) (by kernel_rfl) (fun _ h => by cases h) policyInside_row_tie rfl ⟨rfl, rfl⟩ (by kernel_rfl) rfl
    (fun f fn hf hfn => by
      obtain rfl : f = 4 := Option.some.inj ((show Tryz.prog.funcNamed Rows.policyInsideRow.func = some 4 by kernel_rfl).symm.trans hf) |>.symm
      obtain rfl : fn = Tryz.f4 := (Option.some.inj (Tryz.func4.symm.trans hfn)).symm
      exact ⟨by kernel_rfl, fun j t ht => by
        rw [Tryz.params4] at ht
        have hm : t ∈ [25, 9, 40] := by simpa using Array.mem_of_getElem? ht
        have hall : ([25, 9, 40].all fun u => !Tryz.prog.wantsStandIn u) = true := by kernel_rfl
        exact (show Tryz.prog.wantsStandIn t = false by simpa using List.all_eq_true.1 hall t hm)⟩)
    (by kernel_rfl)
#print axioms policyInside_holds
end Go.Proofs.YtghlodpbbghcoaaGreatDoor
