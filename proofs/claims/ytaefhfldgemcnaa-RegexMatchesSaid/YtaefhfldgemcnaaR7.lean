/- Walks over expressions, seventh part: a branch, by its atoms. -/
import Derived.Test.YtaefhfldgemcnaaR6
namespace Go.Proofs.Ytaefhfldgemcnaa
open Go.RowKit

theorem info76 : (Try.prog.info? 76).map (fun i => (i.zero, i.size, i.bytes)) = some (some .nilIface, 1, 16) := by kernel_rfl
theorem own_keep {b : Nat} {w w' : World} {base : Nat} {e : TypeId} {size n : Nat} {v : Value} {xs : List Value} (h : w.ownsRow base e size v n xs) (hk : Keep b w w') (hb : b < base) : w'.ownsRow base e size v n xs := by
  obtain ⟨h1, h2⟩ := h
  refine ⟨h1, ?_⟩
  rcases h2 with h2 | ⟨g, cap, cur, hv, hg, hh, r⟩
  · exact .inl h2
  · exact .inr ⟨g, cap, cur, hv, hg, (hk.block g (Array.getElem?_eq_some_iff.1 hh).1 (by omega)).trans hh, r⟩
theorem Keep.own {b : Nat} {a w w' : World} (h : Keep b a w) (hb : Below a.heap.size w w') : Keep b a w' :=
  ⟨hb.os.trans h.os, hb.tape.trans h.tape, hb.output.trans h.output, Nat.le_trans h.size hb.size, fun g hg hgb => (hb.block g hg).trans (h.block g hg hgb)⟩
/-- The blocks that were made since a, but for a row's own. -/
def Beside (a w : World) (v : Value) (g : Nat) : Prop := a.heap.size ≤ g ∧ g < w.heap.size ∧ v.ownBlock ≠ some g
theorem Beside.keep {b : Nat} {a w w' : World} {v : Value} (hab : b < a.heap.size) (h : Keep b w w') : Moves (Beside a w v) (Beside a w' v) w w' :=
  fun g hg => ⟨⟨hg.1, Nat.lt_of_lt_of_le hg.2.1 h.size, hg.2.2⟩, h.block g hg.2.1 (by have := hg.1; omega)⟩
theorem Beside.fresh {a w w' : World} {v : Value} {base : Nat} {e : TypeId} {size n : Nat} {xs : List Value} (haw : a.heap.size ≤ w.heap.size) (hown : w.ownsRow base e size v n xs) : Moves (Fresh w w') (Beside a w' v) w' w' :=
  fun g hg => ⟨⟨Nat.le_trans haw hg.1, hg.2, fun h => by have := hown.lt g h; have := hg.1; omega⟩, rfl⟩
theorem Beside.grown {a w w' : World} {v v' : Value} (hg : w.grownBy w' v.ownBlock) (hz : w.heap.size ≤ w'.heap.size) (hn : ∀ k, v'.ownBlock = some k → v.ownBlock = some k ∨ w.heap.size < k) : Moves (Beside a w v) (Beside a w' v') w w' :=
  fun g h => ⟨⟨h.1, Nat.lt_of_lt_of_le h.2.1 hz, fun e => by
    rcases hn g e with h1 | h1
    · exact h.2.2 h1
    · have := h.2.1; omega⟩, hg.block g h.2.1 (fun e => h.2.2 e.symm)⟩
theorem Beside.out {a w : World} {v : Value} : Moves (Beside a w v) (Fresh a w) w w := fun _ h => ⟨⟨h.1, h.2.1⟩, rfl⟩
theorem cells_own {a w : World} {A : Option Addr} {n c : Nat} {xs : List Value} (h : w.ownsRow a.heap.size 76 1 (.slice A n c) n xs) : CellsIn w (Fresh a w) A xs := by
  intro j hj
  obtain ⟨b, o, h1, h2, h3⟩ := CellsAt.of_own h j hj
  refine ⟨b, o, h1, ⟨?_, h2⟩, h3⟩
  obtain ⟨_, h5⟩ := h
  rcases h5 with ⟨hv, hn⟩ | ⟨g, cap, cur, hv, hg, _⟩
  · simp only [Value.slice.injEq] at hv
    rw [h1] at hv
    cases hv.1
  · simp only [Value.slice.injEq] at hv
    rw [h1] at hv
    simp only [Option.some.injEq, Addr.mk.injEq, and_true] at hv
    omega
theorem own_cap {w : World} {base : Nat} {e : TypeId} {size n c : Nat} {A : Option Addr} {xs : List Value} (h : w.ownsRow base e size (.slice A n c) n xs) : n ≤ c := by
  rcases h.2 with ⟨hv, hn⟩ | ⟨g, cap, cur, hv, _, _, h2, _⟩
  · omega
  · simp only [Value.slice.injEq] at hv
    omega
theorem own_len {w : World} {base : Nat} {e : TypeId} {n : Nat} {v : Value} {xs : List Value} (h : w.ownsRow base e 1 v n xs) : xs.length = n := by
  have := h.1
  simpa using this

theorem PartAt.form {w : World} {P : Nat → Prop} {v : Value} {t : T} (h : PartAt w P v t) : ∃ (ty : TypeId) (x : Value), v = .iface ty x := by cases h <;> exact ⟨_, _, rfl⟩

set_option maxHeartbeats 6400000 in
theorem branch_any (s : ByteArray) (k0 : Nat) (hs : s.size ≤ 1000) (IH : ∀ k, k0 ≤ k → AtomOk s k) : BranchOk s k0 := by
  intro b f0 w hr hk0 hf0
  have hlb : b < w.heap.size := blk_lt hr.blk
  have Hr := Lib.hid hr
  obtain ⟨res, hres⟩ : ∃ res, res = branchF s f0 [] k0 := ⟨_, rfl⟩
  rw [← hres]
  have Hres := Lib.hid hres
  have HIH := Lib.hid IH
  clear hres hr IH
  go_enter Try.func65, Try.ntmps65
  go_wp2_with fail
  go_loopw [4] (fun l wr => ∃ (f K : Nat) (vs : List Value) (acc : List T), Hid (res = branchF s f acc K) ∧ 3 * (s.size - K) + 2 ≤ f ∧ k0 ≤ K ∧ K ≤ s.size ∧ vs.length ≤ K ∧ Hid (RdAt wr b s K) ∧ Hid (Keep b w wr) ∧
      Hid (wr.ownsRow w.heap.size 76 1 l vs.length vs) ∧ Hid (PartsAt wr (Beside w wr l) vs acc)) (fun _ wr => s.size - rdK wr b)
  case atStart => exact ⟨f0, k0, [], [], Hres, hf0, Nat.le_refl _, hk0, Nat.zero_le _, Hr, Keep.refl b w, World.ownsRow_nil _ _ _ _, PartsAt.nil _ _⟩
  case round =>
    obtain ⟨f, K, vs, acc, htot, hf, hkK, hK, hvs, hR, hKp, hown, hparts⟩ := hrel
    obtain ⟨A, c, rfl, hown'⟩ := own_form hown.out
    have Hown := Lib.hid hown'
    clear hown hown'
    have hrk := Lib.hid hR.out.rdK
    obtain ⟨f', rfl⟩ : ∃ f', f = f' + 1 := ⟨f - 1, by omega⟩
    have hst := htot.out
    rw [branchF] at hst
    have Hst := Lib.hid hst
    clear hst htot
    have c0 : wr.cell? ⟨b, 0, none⟩ = some (.string s) := blk_cell hR.out.blk 0
    have c1 : wr.cell? ⟨b, 1, none⟩ = some (.int .i64 K) := blk_cell hR.out.blk 1
    by_cases hlt : K < s.size
    · have hd : decide ((K : Int) < (s.size : Int)) = true := decide_eq_true (by omega)
      have hlt' : (K : Int) < (s.size : Int) := by omega
      have HA := Lib.hid (fun n => quiet_at (set := ByteArray.mk #[124, 41]) (l := [124, 41]) rfl hR.out n)
      cases hb : atL s K [124, 41] with
      | true =>
        rw [hb] at HA
        have hres := Hst.out
        rw [hb, Bool.not_true, Bool.and_false, if_neg (by decide)] at hres
        go_upto_region 2 with fail
        go_quiet ((go_at_call 66; exact HA.out _))
        go_wp2_with fail
        refine (row_any (Fresh w wr) vs acc A _ c _ rfl (own_cap Hown.out) ((cells_own Hown.out).move (w' := wr.drewN _) (fun _ h => ⟨h, rfl⟩)) ((hparts.out.move Beside.out).move (w' := wr.drewN _) (fun _ h => ⟨h, rfl⟩))).mono ?_
        rintro e w2 ⟨⟨v, rfl, hv⟩, rfl⟩
        have Hv := Lib.hid hv
        clear hv
        subst hres
        go_wp2_with fail
        go_ret2
        exact ⟨⟨⟨_, rfl, Hv.out⟩, hR.out.drewN _⟩, hKp.out.drewN _⟩
      | false =>
        rw [hb] at HA
        have hres := Hst.out
        rw [hb, Bool.not_false, Bool.and_true, if_pos (decide_eq_true hlt)] at hres
        have Hres2 := Lib.hid hres
        clear hres Hst
        go_upto_region 2 with fail
        go_quiet ((go_at_call 66; exact HA.out _))
        go_upto_region 3 with fail
        have hKq := Lib.hid (hKp.out.drewN nq)
        have hoq : Hid ((wr.drewN nq).ownsRow w.heap.size 76 1 (.slice A vs.length c) vs.length vs) := Hown.out.drewN nq
        have hpq : Hid (PartsAt (wr.drewN nq) (Beside w (wr.drewN nq) (.slice A vs.length c)) vs acc) := hparts.out.move (fun _ h => ⟨h, rfl⟩)
        have hRq := Lib.hid (hR.out.drewN nq)
        clear hKp Hown hparts hR HA c0 c1 hb
        have hrq : Hid (rdK wr b = K) := hrk
        generalize wr.drewN nq = W at hKq hoq hpq hRq ⊢
        have hwW := hKq.out.size
        have HA := Lib.hid (HIH.out K hkK b f' W hRq.out hlt (by omega))
        cases ha : atomF s f' K with
        | none =>
          have hres := Hres2.out
          rw [ha] at hres
          subst hres
          go_wp2_with fail
          refine (part_none HA.out ha).mono ?_
          rintro e w2 ⟨rfl, k2, hk2, hR2, hK2⟩
          go_wp2_with fail
          go_ret2
          exact ⟨⟨rfl, k2, hk2, hR2.out⟩, hKq.out.trans hK2.out⟩
        | some q =>
          obtain ⟨p, k1⟩ := q
          have hres := Hres2.out
          rw [ha] at hres
          have Hres3 : Hid (res = branchF s f' (acc ++ [(reps s p k1).1]) (reps s p k1).2) := hres
          have hpf := (pfacts s f').a K p k1 hK ha
          have hk1 := hpf.1
          have hk1s := hpf.2.1
          clear hres Hres2 hpf
          go_wp2_with fail
          refine (part_some HA.out ha).mono ?_
          rintro e w1 ⟨v, rfl, hP1, hR1, hK1⟩
          clear HA ha
          have ho1 := Lib.hid (own_keep hoq.out hK1.out hlb)
          have hp1 := Lib.hid (hpq.out.move (Beside.keep hlb hK1.out))
          have hf1 : Hid (PartAt w1 (Beside w w1 (.slice A vs.length c)) v p) := hP1.out.move (Beside.fresh hwW hoq.out)
          have hK1w := Lib.hid (hKq.out.trans hK1.out)
          clear hP1 hK1 hKq hoq hpq hRq
          go_wp2_with fail
          obtain ⟨wo, rfl⟩ : ∃ wo : World, wo = wr := ⟨_, rfl⟩
          go_loopw [5] (fun pv wr => ∃ (K2 : Nat) (t : T), Hid (reps s p k1 = reps s t K2) ∧ k1 ≤ K2 ∧ K2 ≤ s.size ∧ Hid (RdAt wr b s K2) ∧ Hid (Keep b w wr) ∧ Hid (wr.ownsRow w.heap.size 76 1 (.slice A vs.length c) vs.length vs) ∧
              Hid (PartsAt wr (Beside w wr (.slice A vs.length c)) vs acc) ∧ Hid (PartAt wr (Beside w wr (.slice A vs.length c)) pv t)) (fun _ wr => s.size - rdK wr b)
          case atStart => exact ⟨k1, p, rfl, Nat.le_refl _, hk1s, hR1, hK1w, ho1, hp1, hf1⟩
          case round =>
            clear hR1 hK1w ho1 hp1 hf1
            obtain ⟨pv, rfl⟩ : ∃ pv, pv = u5 := ⟨_, rfl⟩
            obtain ⟨K2, t, hrp, hk2, hk2s, hR2, hK2, ho2, hp2, hf2⟩ := hrel
            have hrk2 := Lib.hid hR2.out.rdK
            obtain ⟨ty, x, rfl⟩ := hf2.out.form
            go_wp2_with fail
            refine (at_any b s _ K2 wr hR2.out).mono ?_
            rintro e w3 ⟨rfl, n3, rfl⟩
            rw [show (ByteArray.mk #[42, 43, 63]).data.toList = [42, 43, 63] from rfl]
            cases hb : atL s K2 [42, 43, 63] with
            | true =>
              have hl := atL_lt hb
              have c0 : wr.cell? ⟨b, 0, none⟩ = some (.string s) := blk_cell hR2.out.blk 0
              have c1 : wr.cell? ⟨b, 1, none⟩ = some (.int .i64 K2) := blk_cell hR2.out.blk 1
              have cf : wr.frozen? ⟨b, 1, none⟩ = false := blk_frozen hR2.out.blk 1
              have hi0 : (0 : Int) ≤ (K2 : Int) := by omega
              have hi1 : (K2 : Int) < (s.size : Int) := by omega
              obtain ⟨cb, hcb⟩ : ∃ cb : UInt8, s[K2] = cb := ⟨_, rfl⟩
              have hcb2 : Hid (byteAt s K2 = cb) := by show _ = _; rw [← byteAt_eq hl]; exact hcb
              have hrp2 : Hid (reps s p k1 = reps s (.rep t cb) (K2 + 1)) := by show _ = _; rw [hrp.out, reps_yes hb, hcb2.out]
              clear hrp
              go_upto_region 7 with fail
              go_quiet (fail)
              go_wp2_with fail
              have hk9 : ∀ m, Keep b wr ((wr.drewN m).setCell ⟨b, 1, none⟩ (.int .i64 ((K2 : Int) + 1))) := fun m => ((Keep.refl b wr).drewN m).set 1 _
              go_roundw
              case rel =>
                refine ⟨K2 + 1, .rep t cb, hrp2, by omega, by omega, (hR2.out.drewN _).next, hK2.out.trans (hk9 _), own_keep ho2.out (hk9 _) hlb, hp2.out.move (Beside.keep hlb (hk9 _)), ?_⟩
                exact .rep (hf2.out.move (Beside.keep hlb (hk9 _)))
              case measure => rw [hrk2.out, ((hR2.out.drewN _).next).rdK]; omega
            | false =>
              have hrp2 : reps s p k1 = (t, K2) := by rw [hrp.out, reps_no hb]
              rw [hrp2] at Hres3
              have hzz := hK2.out.size
              clear hrp hrp2 hb
              go_upto_region 9 with fail
              have hps := Lib.hid (PartsAt.snoc hp2.out hf2.out)
              go_wp2_with (at_builtin; refine wpList_append_new_at info76 Try.underlying93 rfl (by decide) (by decide) _ (ho2.out.drewN n3) 1 rfl _ _ rfl rfl rfl (by simp) rfl rfl (by omega) (by simpa using hzz) ?_; intro v' w' hown' hbel hgt hgrow hnew)
              have hR9 := Lib.hid ((hR2.out.drewN n3).below hbel hlb)
              have hK9 := Lib.hid ((hK2.out.drewN n3).own hbel)
              have hp9 : Hid (PartsAt w' (Beside w w' v') (vs ++ [Value.iface ty x]) (acc ++ [t])) := (hps.out.move (w' := wr.drewN n3) (Q := Beside w (wr.drewN n3) (.slice A vs.length c)) (fun _ h => ⟨h, rfl⟩)).move (Beside.grown hgrow (by omega) hnew)
              have ho9 : Hid (w'.ownsRow w.heap.size 76 1 v' (vs ++ [Value.iface ty x]).length (vs ++ [Value.iface ty x])) := by
                show World.ownsRow _ _ _ _ _ _ _
                rw [List.length_append]
                exact hown'
              go_roundw
              case rel =>
                exact ⟨f', K2, vs ++ [Value.iface ty x], acc ++ [t], Hres3, by omega, by omega, hk2s, by simp; omega, hR9, hK9, ho9, hp9⟩
              case measure => rw [hrk.out, hR9.out.rdK]; omega
    · obtain rfl : K = s.size := by omega
      have hd : decide (((s.size : Nat) : Int) < (s.size : Int)) = false := decide_eq_false (by omega)
      have hres := Hst.out
      rw [decide_eq_false hlt, Bool.false_and, if_neg (by decide)] at hres
      go_upto_region 2 with fail
      go_quiet (fail)
      go_wp2_with fail
      refine (row_any (Fresh w wr) vs acc A _ c _ rfl (own_cap Hown.out) ((cells_own Hown.out).move (w' := wr.drewN _) (fun _ h => ⟨h, rfl⟩)) ((hparts.out.move Beside.out).move (w' := wr.drewN _) (fun _ h => ⟨h, rfl⟩))).mono ?_
      rintro e w2 ⟨⟨v, rfl, hv⟩, rfl⟩
      have Hv := Lib.hid hv
      clear hv
      subst hres
      go_wp2_with fail
      go_ret2
      exact ⟨⟨⟨_, rfl, Hv.out⟩, hR.out.drewN _⟩, hKp.out.drewN _⟩
end Go.Proofs.Ytaefhfldgemcnaa
