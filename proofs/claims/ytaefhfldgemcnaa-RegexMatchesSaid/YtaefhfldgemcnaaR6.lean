/- Walks over expressions, sixth part: an atom, by what an expression within it gives. -/
import Derived.Test.YtaefhfldgemcnaaR5
namespace Go.Proofs.Ytaefhfldgemcnaa
open Go.RowKit

/-- What an expression from k on gives, whoever asks. -/
def ExprOk (s : ByteArray) (k : Nat) : Prop :=
  ∀ (b f : Nat) (w : World), RdAt w b s k → k ≤ s.size → 3 * (s.size - k) + 3 ≤ f → Calls Try.prog 53 #[.pointer (some ⟨b, 0, none⟩)] w (PartPost b s (exprF s f [] k) w)
def AtomOk (s : ByteArray) (k : Nat) : Prop :=
  ∀ (b f : Nat) (w : World), RdAt w b s k → k < s.size → 3 * (s.size - k) + 1 ≤ f → Calls Try.prog 75 #[.pointer (some ⟨b, 0, none⟩)] w (PartPost b s (atomF s f k) w)
def BranchOk (s : ByteArray) (k : Nat) : Prop :=
  ∀ (b f : Nat) (w : World), RdAt w b s k → k ≤ s.size → 3 * (s.size - k) + 2 ≤ f → Calls Try.prog 65 #[.pointer (some ⟨b, 0, none⟩)] w (PartPost b s (branchF s f [] k) w)

theorem part_none {b : Nat} {s : ByteArray} {fn : Nat} {r : Option (T × Nat)} {w : World} (h : Calls Try.prog fn #[.pointer (some ⟨b, 0, none⟩)] w (PartPost b s r w)) (hr : r = none) :
    Calls Try.prog fn #[.pointer (some ⟨b, 0, none⟩)] w fun e w' => e = .returned (.tuple #[.nilIface, .bool false]) ∧ ∃ k', k' ≤ s.size ∧ Hid (RdAt w' b s k') ∧ Hid (Keep b w w') := by
  subst hr
  refine h.mono ?_
  rintro e w' ⟨⟨rfl, k', h1, h2⟩, h3⟩
  exact ⟨rfl, k', h1, h2, h3⟩
theorem part_some {b : Nat} {s : ByteArray} {fn : Nat} {r : Option (T × Nat)} {w : World} (h : Calls Try.prog fn #[.pointer (some ⟨b, 0, none⟩)] w (PartPost b s r w)) {t : T} {k' : Nat} (hr : r = some (t, k')) :
    Calls Try.prog fn #[.pointer (some ⟨b, 0, none⟩)] w fun e w' => ∃ v, e = .returned (.tuple #[v, .bool true]) ∧ Hid (PartAt w' (Fresh w w') v t) ∧ Hid (RdAt w' b s k') ∧ Hid (Keep b w w') := by
  subst hr
  refine h.mono ?_
  rintro e w' ⟨⟨⟨v, rfl, h1⟩, h2⟩, h3⟩
  exact ⟨v, rfl, h1, h2, h3⟩
/-- Trees above the reader's block stay. -/
theorem Fresh.keep {b : Nat} {a w w' : World} (hab : b < a.heap.size) (h : Keep b w w') : Moves (Fresh a w) (Fresh a w') w w' :=
  fun g hg => ⟨⟨hg.1, Nat.lt_of_lt_of_le hg.2 h.size⟩, h.block g hg.2 (by have := hg.1; omega)⟩
theorem Fresh.back {b : Nat} {a a' w : World} (h : Keep b a a') : Moves (Fresh a' w) (Fresh a w) w w :=
  fun _ hg => ⟨⟨Nat.le_trans h.size hg.1, hg.2⟩, rfl⟩

set_option maxHeartbeats 6400000 in
theorem atom_any (s : ByteArray) (k : Nat) (hs : s.size ≤ 1000) (IH : k + 1 ≤ s.size → ExprOk s (k + 1)) : AtomOk s k := by
  intro b f w hr hk hf
  have hlb : b < w.heap.size := blk_lt hr.blk
  have Hr := Lib.hid hr
  obtain ⟨f', rfl⟩ : ∃ f', f = f' + 1 := ⟨f - 1, by omega⟩
  obtain ⟨res, hres⟩ : ∃ res, res = atomF s (f' + 1) k := ⟨_, rfl⟩
  rw [← hres]
  rw [atomF] at hres
  have HIH := Lib.hid (fun (wx : World) (h : RdAt wx b s (k + 1)) => IH (by omega) b f' wx h (by omega) (by omega))
  have c0 : w.cell? ⟨b, 0, none⟩ = some (.string s) := blk_cell hr.blk 0
  have c1 : w.cell? ⟨b, 1, none⟩ = some (.int .i64 k) := blk_cell hr.blk 1
  have cf : w.frozen? ⟨b, 1, none⟩ = false := blk_frozen hr.blk 1
  have Hres := Lib.hid hres
  have hAt := Lib.hid (fun (st : ByteArray) (n : Nat) => at_any b s st k (w.drewN n) (hr.drewN n))
  clear hres IH hr
  go_enter Try.func75, Try.ntmps75
  go_wp2_with fail
  refine (at_any b s _ k w Hr.out).mono ?_
  rintro e w1 ⟨rfl, m1, rfl⟩
  rw [show (ByteArray.mk #[40]).data.toList = [40] from rfl]
  cases h1 : atL s k [40] with
  | true =>
    have hres := Hres.out
    rw [h1, if_pos rfl] at hres
    cases he : exprF s f' [] (k + 1) with
    | none =>
      rw [he] at hres
      subst hres
      go_wp2_with fail
      refine (part_none (HIH.out _ (Hr.out.drewN _).next) he).mono ?_
      rintro e w2 ⟨rfl, k2, hk2, hR2, hK2⟩
      go_wp2_with fail
      go_ret2
      exact ⟨⟨rfl, k2, hk2, hR2.out⟩, (((Keep.refl b w).drewN _).set 1 _).trans hK2.out⟩
    | some p =>
      obtain ⟨t, k2⟩ := p
      rw [he] at hres
      have hpf := (pfacts s f').e [] (k + 1) t k2 (by omega) he
      have hk2 := hpf.1
      have hk2s := hpf.2.1
      have Hres2 := Lib.hid hres
      clear hpf hres
      have hKw : Keep b w ((w.drewN m1).setCell ⟨b, 1, none⟩ (.int .i64 ((k : Int) + 1))) := ((Keep.refl b w).drewN _).set 1 _
      have HKw := Lib.hid hKw
      clear hKw
      go_wp2_with fail
      refine (part_some (HIH.out _ (Hr.out.drewN _).next) he).mono ?_
      rintro e w2 ⟨v, rfl, hP2, hR2, hK2⟩
      have hKK := Lib.hid (HKw.out.trans hK2.out)
      have hP3 := Lib.hid (hP2.out.move (Fresh.back HKw.out))
      clear HKw hP2 hK2 c0 c1 cf
      go_wp2_with fail
      refine (at_any b s _ k2 w2 hR2.out).mono ?_
      rintro e w3 ⟨rfl, m3, rfl⟩
      rw [show (ByteArray.mk #[41]).data.toList = [41] from rfl]
      cases h2 : atL s k2 [41] with
      | true =>
        have h2l := atL_lt h2
        have hres := Hres2.out
        rw [h2, if_pos rfl] at hres
        subst hres
        have c1 : w2.cell? ⟨b, 1, none⟩ = some (.int .i64 k2) := blk_cell hR2.out.blk 1
        have cf : w2.frozen? ⟨b, 1, none⟩ = false := blk_frozen hR2.out.blk 1
        go_wp2_with fail
        go_ret2
        have hk4 := ((Keep.refl b w2).drewN m3).set 1 (.int .i64 ((k2 : Int) + 1))
        exact ⟨⟨⟨_, rfl, hP3.out.move (Fresh.keep hlb hk4)⟩, (hR2.out.drewN m3).next⟩, hKK.out.trans hk4⟩
      | false =>
        have hres := Hres2.out
        rw [h2, if_neg (by decide)] at hres
        subst hres
        go_wp2_with fail
        go_ret2
        exact ⟨⟨rfl, k2, hk2s, hR2.out.drewN _⟩, hKK.out.drewN _⟩
  | false =>
    have hres := Hres.out
    rw [h1, if_neg (by decide)] at hres
    have Hres2 := Lib.hid hres
    clear hres Hres HIH
    go_wp2_with fail
    refine (hAt.out _ m1).mono ?_
    rintro e w2 ⟨rfl, m2, rfl⟩
    rw [show (ByteArray.mk #[46]).data.toList = [46] from rfl]
    simp only [World.drewN_drewN]
    generalize m1 + m2 = m12
    cases h2 : atL s k [46] with
    | true =>
      have hres := Hres2.out
      rw [h2, if_pos rfl] at hres
      subst hres
      go_wp2_with fail
      refine (every_any _).mono ?_
      rintro e w3 ⟨rfl, hb3⟩
      go_wp2_with fail
      go_ret2
      have hR := ((Hr.out.drewN m12).next)
      have hK := ((Keep.refl b w).drewN m12).set 1 (.int .i64 ((k : Int) + 1))
      exact ⟨⟨⟨_, rfl, .set everyM_length⟩, hR.below hb3 (blk_lt hR.blk)⟩, hK.trans (Keep.of_below hb3)⟩
    | false =>
      have hres := Hres2.out
      rw [h2, if_neg (by decide)] at hres
      have Hres3 := Lib.hid hres
      clear hres Hres2
      go_wp2_with fail
      refine (hAt.out _ m12).mono ?_
      rintro e w2 ⟨rfl, m3, rfl⟩
      rw [show (ByteArray.mk #[91]).data.toList = [91] from rfl]
      simp only [World.drewN_drewN]
      generalize m12 + m3 = m13
      cases h3 : atL s k [91] with
      | true =>
        have hres := Hres3.out
        rw [h3, if_pos rfl] at hres
        have hK := ((Keep.refl b w).drewN m13).set 1 (.int .i64 ((k : Int) + 1))
        have HK := Lib.hid hK
        clear hK
        have HC := Lib.hid (class_any b s (k + 1) _ (Hr.out.drewN m13).next (by omega) hs)
        cases hc : classF s (k + 1) with
        | none =>
          rw [hc] at hres
          subst hres
          go_wp2_with fail
          refine (part_none HC.out hc).mono ?_
          rintro e w3 ⟨rfl, k3, hk3, hR3, hK3⟩
          go_wp2_with fail
          go_ret2
          exact ⟨⟨rfl, k3, hk3, hR3.out⟩, HK.out.trans hK3.out⟩
        | some p =>
          obtain ⟨t, k3⟩ := p
          rw [hc] at hres
          subst hres
          go_wp2_with fail
          refine (part_some HC.out hc).mono ?_
          rintro e w3 ⟨v, rfl, hP3, hR3, hK3⟩
          go_wp2_with fail
          go_ret2
          exact ⟨⟨⟨_, rfl, hP3.out.move (Fresh.back HK.out)⟩, hR3.out⟩, HK.out.trans hK3.out⟩
      | false =>
        have hres := Hres3.out
        rw [h3, if_neg (by decide)] at hres
        cases hsg : signF s k spA with
        | none =>
          rw [hsg] at hres
          subst hres
          go_wp2_with fail
          refine (sign_none rfl (Hr.out.drewN m13) (by omega) hs hsg).mono ?_
          rintro e w3 ⟨rfl, k3, hk3, hR3, hK3⟩
          go_wp2_with fail
          go_ret2
          exact ⟨⟨rfl, k3, hk3, hR3.out⟩, ((Keep.refl b w).drewN m13).trans hK3.out⟩
        | some p =>
          obtain ⟨c, k3⟩ := p
          rw [hsg] at hres
          subst hres
          obtain ⟨j, hj, hj95⟩ := isS_form (signF_some hsg).2.2
          have Hj := Lib.hid hj
          clear hj
          go_wp2_with fail
          refine (sign_some rfl (Hr.out.drewN m13) (by omega) hs hsg Hj.out).mono ?_
          rintro e w3 ⟨rfl, hR3, hK3⟩
          go_wp2_with fail
          refine (single_any j w3 hj95).mono ?_
          rintro e w4 ⟨rfl, hb4⟩
          go_wp2_with fail
          go_ret2
          rw [Hj.out]
          exact ⟨⟨⟨_, rfl, .set (singleM_length _)⟩, hR3.out.below hb4 (blk_lt hR3.out.blk)⟩, ((Keep.refl b w).drewN m13).trans (hK3.out.trans (Keep.of_below hb4))⟩
end Go.Proofs.Ytaefhfldgemcnaa
