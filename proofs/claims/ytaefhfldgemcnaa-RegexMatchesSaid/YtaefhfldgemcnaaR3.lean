/- Walks over expressions, third part: the reader's sign. -/
import Derived.Test.YtaefhfldgemcnaaR2
import Derived.Test.YtaefhfldgemcnaaW10
import Derived.Deep.RegionWith
import Derived.Deep.RegionHeld3

namespace Go.Proofs.Ytaefhfldgemcnaa
open Go.RowKit

/-- Every block but b is as it was. -/
structure Keep (b : Nat) (w w' : World) : Prop where
  os : w'.os = w.os
  tape : w'.tape = w.tape
  output : w'.output = w.output
  size : w.heap.size ≤ w'.heap.size
  block : ∀ g, g < w.heap.size → g ≠ b → w'.heap[g]? = w.heap[g]?
theorem Keep.refl (b : Nat) (w : World) : Keep b w w := ⟨rfl, rfl, rfl, Nat.le_refl _, fun _ _ _ => rfl⟩
theorem Keep.trans {b : Nat} {a w w' : World} (h : Keep b a w) (k : Keep b w w') : Keep b a w' :=
  ⟨k.os.trans h.os, k.tape.trans h.tape, k.output.trans h.output, Nat.le_trans h.size k.size, fun g hg hb => (k.block g (Nat.lt_of_lt_of_le hg h.size) hb).trans (h.block g hg hb)⟩
theorem Keep.drewN {b : Nat} {a w : World} (h : Keep b a w) (n : Nat) : Keep b a (w.drewN n) := ⟨h.os, h.tape, h.output, h.size, h.block⟩
theorem Keep.of_below {b : Nat} {w w' : World} (h : Below w.heap.size w w') : Keep b w w' := ⟨h.os, h.tape, h.output, h.size, fun g hg _ => h.block g hg⟩
theorem Keep.alloc {b : Nat} {a w : World} (h : Keep b a w) (o : Obj) : Keep b a (w.alloc o) := h.trans (Keep.of_below ((Below.refl _ _).alloc (Nat.le_refl _) o))
theorem Keep.set {b : Nat} {a w : World} (h : Keep b a w) (i : Nat) (v : Value) : Keep b a (w.setCell ⟨b, i, none⟩ v) :=
  h.trans ⟨rfl, rfl, rfl, by simp, fun g hg hb => Below.heap_setCell w ⟨b, i, none⟩ v g hb⟩
theorem Keep.below {b : Nat} {w w' : World} (h : Keep b w w') (hb : b ≤ w.heap.size) : Below b w w' := ⟨h.os, h.tape, h.output, h.size, fun g hg => h.block g (by omega) (by omega)⟩

/-- What a reader's function of a sign hands back. -/
def SignPost (b : Nat) (s : ByteArray) (r : Option (UInt8 × Nat)) (w : World) (e : Ending) (w' : World) : Prop :=
  (match r with
  | some (c, k') => e = .returned (.tuple #[.int .u8 c.toNat, .bool true]) ∧ RdAt w' b s k'
  | none => e = .returned (.tuple #[.int .u8 0, .bool false]) ∧ ∃ k', k' ≤ s.size ∧ RdAt w' b s k') ∧ Keep b w w'
theorem isSign_b (c : UInt8) (w : World) : Calls Try.prog 58 #[.int .u8 c.toNat] w fun e w' => e = .returned (.bool (isS c)) ∧ w = w' := by
  refine (isSign_any (c.toNat : Int) w).mono ?_
  rintro e w' ⟨rfl, h⟩
  refine ⟨?_, h⟩
  unfold isS
  rw [Bool.eq_iff_iff.2 (by simp only [Bool.and_eq_true, decide_eq_true_eq]; omega : (decide (32 ≤ (c.toNat : Int)) && decide ((c.toNat : Int) ≤ 126)) = true ↔ (decide (32 ≤ c.toNat) && decide (c.toNat ≤ 126)) = true)]

set_option maxHeartbeats 3200000 in
theorem sign_any (b : Nat) (s n : ByteArray) (nl : List UInt8) (hn : n.data.toList = nl) (k : Nat) (w : World) (hr : RdAt w b s k) (hk : k ≤ s.size) (hs : s.size ≤ 1000) :
    Calls Try.prog 82 #[.pointer (some ⟨b, 0, none⟩), .string n] w (SignPost b s (signF s k nl) w) := by
  have c0 : w.cell? ⟨b, 0, none⟩ = some (.string s) := by simp [World.cell?, hr.blk]
  have c1 : w.cell? ⟨b, 1, none⟩ = some (.int .i64 k) := by simp [World.cell?, hr.blk]
  have cf : w.frozen? ⟨b, 1, none⟩ = false := by simp [World.frozen?, hr.blk]
  have hlb : b < w.heap.size := (Array.getElem?_eq_some_iff.1 hr.blk).1
  have Hr := Lib.hid hr
  obtain ⟨res, hres⟩ : ∃ res, res = signF s k nl := ⟨_, rfl⟩
  rw [← hres]
  have Hres := Lib.hid hres
  clear hres hr
  go_enter Try.func82, Try.ntmps82
  go_wp2_with fail
  refine (at_any b s _ k w Hr.out).mono ?_
  rintro e w1 ⟨rfl, m, rfl⟩
  rw [show (ByteArray.mk #[92]).data.toList = [92] from rfl]
  cases hb : atL s k [92] with
  | true =>
    have hkl := atL_lt hb
    have hres := Hres.out
    unfold signF at hres
    rw [hb, if_pos rfl] at hres
    have Hres2 := Lib.hid hres
    clear hres
    go_upto_region 4 with fail
    have hR : RdAt ((w.drewN m).setCell ⟨b, 1, none⟩ (.int .i64 ((k : Int) + 1))) b s (k + 1) := by
      refine ⟨?_⟩
      have := blk_set_self (w := w.drewN m) Hr.out.blk 1 (.int .i64 ((k : Int) + 1))
      simpa using this
    have hK : Keep b w ((w.drewN m).setCell ⟨b, 1, none⟩ (.int .i64 ((k : Int) + 1))) := ((Keep.refl b w).drewN m).set 1 _
    have hlbw : b < ((w.drewN m).setCell ⟨b, 1, none⟩ (.int .i64 ((k : Int) + 1))).heap.size := by simpa using hlb
    generalize World.setCell (w.drewN m) _ _ = W at hR hK hlbw ⊢
    clear c0 c1 cf
    obtain ⟨K, hKK⟩ : ∃ K, K = k + 1 := ⟨_, rfl⟩
    rw [← hKK] at hR
    have HR := Lib.hid hR
    have HK := Lib.hid hK
    have HKK := Lib.hid hKK
    have hKs : K ≤ s.size := by omega
    clear hR hK hKK
    have c0 : W.cell? ⟨b, 0, none⟩ = some (.string s) := blk_cell HR.out.blk 0
    have c1 : W.cell? ⟨b, 1, none⟩ = some (.int .i64 K) := blk_cell HR.out.blk 1
    have cf : W.frozen? ⟨b, 1, none⟩ = false := blk_frozen HR.out.blk 1
    by_cases hlt : K < s.size
    · have hne : ((K : Int) == (s.size : Int)) = false := beq_eq_false_iff_ne.2 (by omega)
      have hi0 : (0 : Int) ≤ (K : Int) := by omega
      have hi1 : (K : Int) < (s.size : Int) := by omega
      obtain ⟨cb, hcb⟩ : ∃ cb : UInt8, s[K] = cb := ⟨_, rfl⟩
      have hcb2 : byteAt s (k + 1) = cb := by rw [← HKK.out, ← byteAt_eq hlt]; exact hcb
      have HS : Hid (∀ wx, Calls Try.prog 58 #[.int .u8 cb.toNat] wx fun e w' => e = .returned (.bool (isS cb)) ∧ wx = w') := isSign_b cb
      have Hcb2 := Lib.hid hcb2
      clear hcb2
      cases hsb : isS cb with
      | false =>
        rw [hsb] at HS
        go_quiet ((go_at_call 58; exact quiet_left (HS.out _)))
        go_wp2_with fail
        go_ret2
        have := Hres2.out
        rw [Hcb2.out, hsb, Bool.and_false] at this
        rw [this]
        exact ⟨⟨rfl, K, hKs, ⟨HR.out.blk⟩⟩, HK.out.drewN _⟩
      | true =>
        rw [hsb] at HS
        have HA : Hid (∀ x, Calls Try.prog 66 #[.pointer (some ⟨b, 0, none⟩), .string (ByteArray.mk #[])] (W.drewN x) fun e w'' => e = .returned (.bool false) ∧ ∃ m, w'' = W.drewN m) := fun x => by
          have := quiet_at (set := ByteArray.mk #[]) rfl HR.out x
          rwa [show atL s K (ByteArray.mk #[]).data.toList = false from by unfold atL inL; simp] at this
        go_quiet (first | (go_at_call 58; exact quiet_left (HS.out _)) | (go_at_call 66; exact HA.out _))
        go_wp2_with fail
        go_quiet (fail)
        go_wp2_with fail
        go_ret2
        have := Hres2.out
        rw [Hcb2.out, hsb, decide_eq_true (by rw [← HKK.out]; exact hlt), Bool.and_true, if_pos rfl] at this
        rw [this]
        refine ⟨⟨?_, ?_⟩, ((HK.out.drewN _).set 1 _).drewN _⟩
        · exact rfl
        · refine ⟨?_⟩
          rw [show k + 2 = K + 1 from by rw [HKK.out]]
          exact (blk_set_self (w := W.drewN _) HR.out.blk 1 _).trans (by simp)
    · have hne : ((K : Int) == (s.size : Int)) = true := beq_iff_eq.2 (by omega)
      go_quiet (fail)
      go_wp2_with fail
      go_ret2
      have := Hres2.out
      rw [decide_eq_false (by rw [← HKK.out]; exact hlt), Bool.false_and] at this
      rw [this]
      exact ⟨⟨rfl, K, hKs, ⟨HR.out.blk⟩⟩, HK.out.drewN _⟩
  | false =>
    have hres := Hres.out
    unfold signF at hres
    rw [hb, if_neg (by decide)] at hres
    have Hres2 := Lib.hid hres
    clear hres
    go_upto_region 4 with fail
    have hR : RdAt (w.drewN m) b s k := ⟨Hr.out.blk⟩
    have hK : Keep b w (w.drewN m) := (Keep.refl b w).drewN m
    have hlbw : b < (w.drewN m).heap.size := hlb
    generalize World.drewN w m = W at hR hK hlbw ⊢
    clear c0 c1 cf
    have HR := Lib.hid hR
    have HK := Lib.hid hK
    clear hR hK
    have c0 : W.cell? ⟨b, 0, none⟩ = some (.string s) := blk_cell HR.out.blk 0
    have c1 : W.cell? ⟨b, 1, none⟩ = some (.int .i64 k) := blk_cell HR.out.blk 1
    have cf : W.frozen? ⟨b, 1, none⟩ = false := blk_frozen HR.out.blk 1
    by_cases hlt : k < s.size
    · have hne : ((k : Int) == (s.size : Int)) = false := beq_eq_false_iff_ne.2 (by omega)
      have hi0 : (0 : Int) ≤ (k : Int) := by omega
      have hi1 : (k : Int) < (s.size : Int) := by omega
      obtain ⟨cb, hcb⟩ : ∃ cb : UInt8, s[k] = cb := ⟨_, rfl⟩
      have hcb2 : byteAt s k = cb := by rw [← byteAt_eq hlt]; exact hcb
      have HS : Hid (∀ wx, Calls Try.prog 58 #[.int .u8 cb.toNat] wx fun e w' => e = .returned (.bool (isS cb)) ∧ wx = w') := isSign_b cb
      have Hcb2 := Lib.hid hcb2
      clear hcb2
      cases hsb : isS cb with
      | false =>
        rw [hsb] at HS
        go_quiet ((go_at_call 58; exact quiet_left (HS.out _)))
        go_wp2_with fail
        go_ret2
        have := Hres2.out
        rw [Hcb2.out, hsb, Bool.and_false, Bool.false_and] at this
        rw [this]
        exact ⟨⟨rfl, k, hk, ⟨HR.out.blk⟩⟩, HK.out.drewN _⟩
      | true =>
        rw [hsb] at HS
        cases hin : inL nl cb with
        | true =>
          have HA : Hid (∀ x, Calls Try.prog 66 #[.pointer (some ⟨b, 0, none⟩), .string n] (W.drewN x) fun e w'' => e = .returned (.bool true) ∧ ∃ m, w'' = W.drewN m) := fun x => by
            have := quiet_at hn HR.out x
            rwa [show atL s k nl = true from by unfold atL; rw [Hcb2.out, hin, decide_eq_true hlt]; rfl] at this
          go_quiet (first | (go_at_call 58; exact quiet_left (HS.out _)) | (go_at_call 66; exact HA.out _))
          go_wp2_with fail
          go_ret2
          have := Hres2.out
          rw [Hcb2.out, hsb, hin, Bool.not_true, Bool.and_false] at this
          rw [this]
          exact ⟨⟨rfl, k, hk, ⟨HR.out.blk⟩⟩, HK.out.drewN _⟩
        | false =>
          have HA : Hid (∀ x, Calls Try.prog 66 #[.pointer (some ⟨b, 0, none⟩), .string n] (W.drewN x) fun e w'' => e = .returned (.bool false) ∧ ∃ m, w'' = W.drewN m) := fun x => by
            have := quiet_at hn HR.out x
            rwa [show atL s k nl = false from by unfold atL; rw [Hcb2.out, hin, Bool.and_false]] at this
          go_quiet (first | (go_at_call 58; exact quiet_left (HS.out _)) | (go_at_call 66; exact HA.out _))
          go_wp2_with fail
          go_quiet (fail)
          go_wp2_with fail
          go_ret2
          have := Hres2.out
          rw [Hcb2.out, hsb, hin, decide_eq_true hlt, Bool.not_false, Bool.and_true, Bool.and_true, if_pos rfl] at this
          rw [this]
          refine ⟨⟨?_, ?_⟩, ((HK.out.drewN _).set 1 _).drewN _⟩
          · exact rfl
          · refine ⟨?_⟩
            exact (blk_set_self (w := W.drewN _) HR.out.blk 1 _).trans (by simp)
    · have hne : ((k : Int) == (s.size : Int)) = true := beq_iff_eq.2 (by omega)
      go_quiet (fail)
      go_wp2_with fail
      go_ret2
      have := Hres2.out
      rw [decide_eq_false hlt, Bool.false_and, Bool.false_and] at this
      rw [this]
      exact ⟨⟨rfl, k, hk, ⟨HR.out.blk⟩⟩, HK.out.drewN _⟩
end Go.Proofs.Ytaefhfldgemcnaa
