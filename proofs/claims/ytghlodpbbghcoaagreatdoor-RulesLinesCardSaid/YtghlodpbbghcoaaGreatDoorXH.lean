/- A class of signs: walked. -/
import Derived.Test.YtghlodpbbghcoaaGreatDoorXC
import Derived.Test.YtghlodpbbghcoaaGreatDoorProg
import Derived.Deep.DeepCutAuto
import Derived.WalkKit
import Derived.Lib.Hide
namespace Go.Proofs.YtghlodpbbghcoaaGreatDoor.Rx
section
open Go.RowKit
/-- What a reader's function of a part hands back. -/
def PartPost (b : Nat) (s : ByteArray) (r : Option (T × Nat)) (w : World) (e : Ending) (w' : World) : Prop :=
  (match r with
  | some (t, k') => (∃ v, e = .returned (.tuple #[v, .bool true]) ∧ PartAt w' (Fresh w w') v t) ∧ RdAt w' b s k'
  | none => e = .returned (.tuple #[.nilIface, .bool false]) ∧ ∃ k', k' ≤ s.size ∧ RdAt w' b s k') ∧ Keep b w w'
def rdK (w : World) (b : Nat) : Nat := match w.cell? ⟨b, 1, none⟩ with | some (.int _ n) => n.toNat | _ => 0
theorem RdAt.rdK {w : World} {b : Nat} {s : ByteArray} {k : Nat} (h : RdAt w b s k) : rdK w b = k := by
  have c1 : w.cell? ⟨b, 1, none⟩ = some (.int .i64 k) := blk_cell h.blk 1
  unfold Go.Proofs.YtghlodpbbghcoaaGreatDoor.Rx.rdK
  rw [c1]
  simp
theorem RdAt.next {w : World} {b : Nat} {s : ByteArray} {k : Nat} (h : RdAt w b s k) : RdAt (w.setCell ⟨b, 1, none⟩ (.int .i64 ((k : Int) + 1))) b s (k + 1) :=
  ⟨(blk_set_self h.blk 1 _).trans (by simp)⟩
theorem RdAt.alloc {w : World} {b : Nat} {s : ByteArray} {k : Nat} (h : RdAt w b s k) (o : Obj) : RdAt (w.alloc o) b s k := ⟨blk_alloc h.blk o⟩
theorem RdAt.drewN {w : World} {b : Nat} {s : ByteArray} {k : Nat} (h : RdAt w b s k) (n : Nat) : RdAt (w.drewN n) b s k := ⟨h.blk⟩
theorem RdAt.setOther {w : World} {b g i : Nat} {s : ByteArray} {k : Nat} (h : RdAt w b s k) (hg : g ≠ b) (v : Value) : RdAt (w.setCell ⟨g, i, none⟩ v) b s k :=
  ⟨(Below.heap_setCell w ⟨g, i, none⟩ v b (Ne.symm hg)).trans h.blk⟩
theorem RdAt.below {w w' : World} {b C : Nat} {s : ByteArray} {k : Nat} (h : RdAt w b s k) (hb : Below C w w') (hC : b < C) : RdAt w' b s k := ⟨blk_below h.blk hb hC⟩
/-- What has been made since a is one's own: it may be changed. -/
theorem Keep.setNew {b : Nat} {a w : World} (h : Keep b a w) (g i : Nat) (hg : a.heap.size ≤ g) (v : Value) : Keep b a (w.setCell ⟨g, i, none⟩ v) :=
  ⟨h.os, h.tape, h.output, by simpa using h.size, fun x hx hxb => (Below.heap_setCell w ⟨g, i, none⟩ v x (by show x ≠ g; omega)).trans (h.block x hx hxb)⟩
theorem Keep.setCellsNew {b : Nat} {a w : World} (h : Keep b a w) (g : Nat) (hg : a.heap.size ≤ g) (vs : List Value) : ∀ o, Keep b a (w.setCells g o vs) := by
  induction vs generalizing w with
  | nil => intro o; exact h
  | cons v vs ih => intro o; exact ih (h.setNew g o hg v) (o + 1)
theorem classL_step {s : ByteArray} {f : Nat} {m : List Bool} {first : Bool} {k : Nat} (h : (first || !atL s k [93]) = true) (hf : 1 ≤ f) :
    classL s f m first k = match itemF s k m with | none => none | some (m', k') => classL s (f - 1) m' false k' := by
  obtain ⟨f', rfl⟩ : ∃ f', f = f' + 1 := ⟨f - 1, by omega⟩
  rw [classL, if_pos h]
  rfl
theorem classL_end {s : ByteArray} {f : Nat} {m : List Bool} {k : Nat} (h : atL s k [93] = true) (hf : 1 ≤ f) : classL s f m false k = some (m, k) := by
  obtain ⟨f', rfl⟩ : ∃ f', f = f' + 1 := ⟨f - 1, by omega⟩
  rw [classL, if_neg (by rw [h]; decide)]
theorem isS_form {c : UInt8} (h : isS c = true) : ∃ j : Nat, c.toNat = 32 + j ∧ j < 95 := by
  unfold isS at h
  simp only [Bool.and_eq_true, decide_eq_true_eq] at h
  exact ⟨c.toNat - 32, by omega, by omega⟩
theorem sign_none {b : Nat} {s n : ByteArray} {nl : List UInt8} (hn : n.data.toList = nl) {k : Nat} {w : World} (hr : RdAt w b s k) (hk : k ≤ s.size) (hs : s.size ≤ 1000) (h : signF s k nl = none) :
    Calls Tryz.prog 157 #[.pointer (some ⟨b, 0, none⟩), .string n] w fun e w' => e = .returned (.tuple #[.int .u8 0, .bool false]) ∧ ∃ k', k' ≤ s.size ∧ Hid (RdAt w' b s k') ∧ Hid (Keep b w w') := by
  refine (sign_any b s n nl hn k w hr hk hs).mono ?_
  rw [h]
  rintro e w' ⟨⟨rfl, k', h1, h2⟩, h3⟩
  exact ⟨rfl, k', h1, h2, h3⟩
theorem sign_some {b : Nat} {s n : ByteArray} {nl : List UInt8} (hn : n.data.toList = nl) {k : Nat} {w : World} (hr : RdAt w b s k) (hk : k ≤ s.size) (hs : s.size ≤ 1000) {c : UInt8} {k' j : Nat} (h : signF s k nl = some (c, k')) (hj : c.toNat = 32 + j) :
    Calls Tryz.prog 157 #[.pointer (some ⟨b, 0, none⟩), .string n] w fun e w' => e = .returned (.tuple #[.int .u8 (32 + (j : Int)), .bool true]) ∧ Hid (RdAt w' b s k') ∧ Hid (Keep b w w') := by
  refine (sign_any b s n nl hn k w hr hk hs).mono ?_
  rw [h]
  rintro e w' ⟨⟨rfl, h2⟩, h3⟩
  exact ⟨by rw [hj]; simp, h2, h3⟩
set_option maxRecDepth 8192 in
set_option maxHeartbeats 12800000 in
theorem class_any (b : Nat) (s : ByteArray) (k : Nat) (w : World) (hr : RdAt w b s k) (hk : k ≤ s.size) (hs : s.size ≤ 1000) :
    Calls Tryz.prog 156 #[.pointer (some ⟨b, 0, none⟩)] w (PartPost b s (classF s k) w) := by
  have hlb : b < w.heap.size := blk_lt hr.blk
  have Hr := Lib.hid hr
  obtain ⟨res, hres⟩ : ∃ res, res = classF s k := ⟨_, rfl⟩
  rw [← hres]
  have Hres := Lib.hid hres
  clear hres hr
  go_enter Tryz.func156, Tryz.ntmps156
  go_wp2_with fail
  refine (at_any b s _ k w Hr.out).mono ?_
  rintro e w1 ⟨rfl, m, rfl⟩
  rw [show (ByteArray.mk #[94]).data.toList = [94] from rfl]
  have hor : Hid (res = match classL s (s.size + 1) noneM true (class0 s k) with | none => none | some (m, k') => some (.set (if atL s k [94] then m.map (!·) else m), k' + 1)) := by
    show _ = _
    rw [Hres.out]
    rfl
  have hcl : Hid (class0 s k = if atL s k [94] then k + 1 else k) := rfl
  have hlt : Hid (atL s k [94] = true → k < s.size) := atL_lt
  clear Hres
  generalize atL s k [94] = oth at hor hcl hlt ⊢
  go_upto_if 13 with fail
  go_cut [] (fun wx => ∃ K0, Hid (K0 = class0 s k) ∧ K0 ≤ s.size ∧ Hid (RdAt wx b s K0) ∧ Hid (Keep b w wx))
  case first =>
    have c0 : w.cell? ⟨b, 0, none⟩ = some (.string s) := blk_cell Hr.out.blk 0
    have c1 : w.cell? ⟨b, 1, none⟩ = some (.int .i64 k) := blk_cell Hr.out.blk 1
    have cf : w.frozen? ⟨b, 1, none⟩ = false := blk_frozen Hr.out.blk 1
    cases oth with
    | true =>
      have hkl := hlt.out rfl
      go_wp2_with fail
      go_meet
      exact ⟨k + 1, by show _ = _; rw [hcl.out]; simp, by omega, (Hr.out.drewN m).next, ((Keep.refl b w).drewN m).set 1 _⟩
    | false =>
      go_wp2_with fail
      go_meet
      exact ⟨k, by show _ = _; rw [hcl.out]; simp, hk, Hr.out.drewN m, (Keep.refl b w).drewN m⟩
  case rest =>
  obtain ⟨K0, hK0e, hK0, HR, HK⟩ := hcut
  obtain ⟨W, rfl⟩ : ∃ W : World, W = wc := ⟨_, rfl⟩
  rw [← hK0e.out] at hor
  clear hK0e hcl hlt
  go_upto_region 5 with fail
  rw [zero96]
  have hz0 : W.heap.size < (W.alloc (.cells (bcells noneM) 203)).heap.size := by simp
  have hbW := blk_lt HR.out.blk
  have hgb : W.heap.size ≠ b := by omega
  have hwW := HK.out.size
  have G0 : Hid ((W.alloc (.cells (bcells noneM) 203)).heap[W.heap.size]? = some (.cells (bcells noneM) 203 (0, 0))) := blk_new _ _
  have HR0 := Lib.hid (HR.out.alloc (.cells (bcells noneM) 203))
  have HK1 := Lib.hid (HK.out.alloc (.cells (bcells noneM) 203))
  go_wp2_with fail
  obtain ⟨sg, hsg⟩ : ∃ sg, W.heap.size = sg := ⟨_, rfl⟩
  rw [hsg] at hz0 hgb hwW G0 ⊢
  clear HR HK hbW hsg
  generalize W.alloc _ = W1 at hz0 G0 HR0 HK1 ⊢
  go_loopw [6] (fun fi wr => ∃ (f K : Nat) (m : List Bool) (first : Bool), fi = .bool first ∧ Hid (classL s (s.size + 1) noneM true K0 = classL s f m first K) ∧ s.size + 1 ≤ f + K ∧ K ≤ s.size ∧ Hid (m.length = 95) ∧
      Hid (wr.heap[sg]? = some (.cells (bcells m) 203 (0, 0))) ∧ Hid (RdAt wr b s K) ∧ Hid (Keep b w wr)) (fun _ wr => s.size - rdK wr b)
  case atStart => exact ⟨s.size + 1, K0, noneM, true, rfl, rfl, by omega, hK0, noneM_length, G0, HR0, HK1⟩
  case round =>
    clear G0 HR0 HK1 hz0
    obtain ⟨f, K, m, first, rfl, htot, hf, hK, hm, hg, hR, hKp⟩ := hrel
    have hgl := blk_lt hg.out
    have hrk := Lib.hid hR.out.rdK
    go_upto_region 6 with fail
    go_cut [26] (fun s26 wx => s26 = .bool (first || !atL s K [93]) ∧ ∃ n, wx = wr.drewN n)
    case first =>
      cases first with
      | true =>
        go_wp2_with fail
        go_meet
        exact ⟨rfl, 0, rfl⟩
      | false =>
        go_wp2_with fail
        refine (at_any b s _ K wr hR.out).mono ?_
        rintro e w1 ⟨rfl, n1, rfl⟩
        go_wp2_with fail
        go_meet
        exact ⟨rfl, n1, rfl⟩
    case rest =>
    obtain ⟨rfl, n0, rfl⟩ := hcut
    by_cases hgo : (first || !atL s K [93]) = true
    · have hst := classL_step (m := m) hgo (show 1 ≤ f by omega)
      rw [← htot.out] at hst
      have Hst := Lib.hid hst
      clear hst
      rw [hgo]
      clear hgo htot
      cases hsg : signF s K spC with
      | none =>
        have hr2 : res = none := by
          have e1 : itemF s K m = none := by unfold itemF; rw [hsg]
          have := Hst.out
          rw [e1] at this
          rw [hor.out, this]
        subst hr2
        go_wp2_with fail
        refine (sign_none rfl (hR.out.drewN _) hK hs hsg).mono ?_
        rintro e w1 ⟨rfl, k1, hk1, hR1, hK1⟩
        go_wp2_with fail
        go_ret2
        exact ⟨⟨rfl, k1, hk1, hR1.out⟩, (hKp.out.drewN _).trans hK1.out⟩
      | some p =>
        obtain ⟨c, K1⟩ := p
        have hsf := signF_some hsg
        obtain ⟨cj, hcj, hcj95⟩ := isS_form hsf.2.2
        have Hcj := Lib.hid hcj
        clear hcj
        go_wp2_with fail
        refine (sign_some rfl (hR.out.drewN _) hK hs hsg Hcj.out).mono ?_
        rintro e w1 ⟨rfl, hR1, hK1⟩
        have Hsg := Lib.hid hsg
        have hKK1 : K < K1 := hsf.1
        have hK1s : K1 ≤ s.size := hsf.2.1
        clear hsg hsf
        have hg1 : Hid (w1.heap[sg]? = some (.cells (bcells m) 203 (0, 0))) := (hK1.out.block sg (by simpa using hgl) hgb).trans hg.out
        have hKp1 := Lib.hid ((hKp.out.drewN _).trans hK1.out)
        go_wp2_with fail
        refine (at_any b s _ K1 w1 hR1.out).mono ?_
        rintro e w2 ⟨rfl, n2, rfl⟩
        rw [show (ByteArray.mk #[45]).data.toList = [45] from rfl]
        go_upto_if 36 with fail
        go_cut [9] (fun s9 wx => ∃ (dj K2 : Nat), s9 = .int .u8 (32 + (dj : Int)) ∧ cj ≤ dj ∧ dj < 95 ∧ Hid (itemF s K m = some (rangeM m (32 + cj) (dj + 1 - cj), K2)) ∧ K < K2 ∧ K2 ≤ s.size ∧ Hid (RdAt wx b s K2) ∧ Hid (wx.heap[sg]? = some (.cells (bcells m) 203 (0, 0))) ∧ Hid (Keep b w wx))
        case first =>
          cases hd : atL s K1 [45] with
          | false =>
            go_wp2_with fail
            go_meet
            refine ⟨cj, K1, rfl, Nat.le_refl _, hcj95, ?_, hKK1, hK1s, hR1.out.drewN _, hg1, hKp1.out.drewN _⟩
            show _ = _
            unfold itemF
            rw [Hsg.out]
            simp only []
            rw [hd, Hcj.out, Nat.add_sub_cancel_left]
            rfl
          | true =>
            have hK1l := atL_lt hd
            have c1 : w1.cell? ⟨b, 1, none⟩ = some (.int .i64 K1) := blk_cell hR1.out.blk 1
            have cf : w1.frozen? ⟨b, 1, none⟩ = false := blk_frozen hR1.out.blk 1
            cases hsd : signF s (K1 + 1) spC with
            | none =>
              have hr2 : res = none := by
                have e1 : itemF s K m = none := by
                  unfold itemF
                  rw [Hsg.out]
                  simp only []
                  rw [hd, if_pos rfl, hsd]
                have := Hst.out
                rw [e1] at this
                rw [hor.out, this]
              subst hr2
              go_wp2_with fail
              refine (sign_none rfl (hR1.out.drewN _).next (by omega) hs hsd).mono ?_
              rintro e w3 ⟨rfl, k3, hk3, hR3, hK3⟩
              go_wp2_with fail
              go_ret2
              exact ⟨⟨rfl, k3, hk3, hR3.out⟩, ((hKp1.out.drewN _).set 1 _).trans hK3.out⟩
            | some p =>
              obtain ⟨d, K2⟩ := p
              have hsf := signF_some hsd
              obtain ⟨dj, hdj, hdj95⟩ := isS_form hsf.2.2
              have Hdj := Lib.hid hdj
              clear hdj
              have hK12 : K1 + 1 < K2 := hsf.1
              have hK2s : K2 ≤ s.size := hsf.2.1
              go_wp2_with fail
              refine (sign_some rfl (hR1.out.drewN _).next (by omega) hs hsd Hdj.out).mono ?_
              rintro e w3 ⟨rfl, hR3, hK3⟩
              have Hsd := Lib.hid hsd
              clear hsd hsf c1 cf
              by_cases hdc : dj < cj
              · have hr2 : res = none := by
                  have e1 : itemF s K m = none := by
                    unfold itemF
                    rw [Hsg.out]
                    simp only []
                    rw [hd, if_pos rfl, Hsd.out]
                    simp only []
                    rw [if_pos (by rw [Hdj.out, Hcj.out]; omega)]
                  have := Hst.out
                  rw [e1] at this
                  rw [hor.out, this]
                subst hr2
                have hdci : (32 + (dj : Int)) < 32 + (cj : Int) := by omega
                go_wp2_with fail
                go_ret2
                exact ⟨⟨rfl, K2, hK2s, hR3.out⟩, ((hKp1.out.drewN _).set 1 _).trans hK3.out⟩
              · have hdci : ¬ (32 + (dj : Int)) < 32 + (cj : Int) := by omega
                go_wp2_with fail
                go_meet
                refine ⟨dj, K2, rfl, by omega, hdj95, ?_, by omega, hK2s, hR3, ?_, ((hKp1.out.drewN _).set 1 _).trans hK3.out⟩
                · show _ = _
                  unfold itemF
                  rw [Hsg.out]
                  simp only []
                  rw [hd, if_pos rfl, Hsd.out]
                  simp only []
                  rw [if_neg (by rw [Hdj.out, Hcj.out]; omega), Hcj.out, Hdj.out, show 32 + dj + 1 - (32 + cj) = dj + 1 - cj from by omega]
                · show _ = _
                  rw [hK3.out.block sg (by have := hKp1.out.size; have := hK1.out.size; simp at *; omega) hgb]
                  exact blk_set hg1.out (by simpa using hgb) _
        case rest =>
        obtain ⟨dj, K2, rfl, hcd, hdj95, hit, hK2, hK2s, hR4, hg4, hKp4⟩ := hcut
        obtain ⟨w4, rfl⟩ : ∃ w4 : World, w4 = wc := ⟨_, rfl⟩
        rw [hit.out] at Hst
        clear hg1 hR1 hKp1 hK1 hit Hsg
        go_wp2_with fail
        obtain ⟨wo, rfl⟩ : ∃ wo : World, wo = wr := ⟨_, rfl⟩
        go_loopw [10] (fun x wi => ∃ (y : Nat), x = .int .u8 (32 + (y : Int)) ∧ cj ≤ y ∧ y ≤ dj + 1 ∧ Hid (RdAt wi b s K2) ∧ Hid (wi.heap[sg]? = some (.cells (bcells (rangeM m (32 + cj) (y - cj))) 203 (0, 0))) ∧ Hid (Keep b w wi)) (fun x _ => 200 - (intOf x).toNat)
        case atStart => exact ⟨cj, rfl, Nat.le_refl _, by omega, hR4, by rw [Nat.sub_self]; exact hg4, hKp4⟩
        case round =>
          clear hR4 hg4 hKp4
          obtain ⟨y, rfl, hy1, hy2, hR5, hg5, hKp5⟩ := hrel
          have hrl : (rangeM m (32 + cj) (y - cj)).length = 95 := rangeM_length hm.out _ _
          by_cases hyd : y ≤ dj
          · have hydi : (32 + (y : Int)) ≤ 32 + (dj : Int) := by omega
            have hy95 : y < 95 := by omega
            have c1 : wr.cell? ⟨sg, y, none⟩ = some (.bool ((rangeM m (32 + cj) (y - cj)).getD y false)) := (blk_cell hg5.out y).trans (bcells_get (by omega))
            have cf := blk_frozen hg5.out y
            go_wp2_with fail
            go_roundw
            case rel =>
              refine ⟨y + 1, by go_num, by omega, by omega, hR5.out.setOther hgb _, ?_, hKp5.out.setNew sg y hwW _⟩
              show _ = _
              have h2 := blk_set_self hg5.out y (.bool true)
              rw [bcells_set] at h2
              rw [h2, show y + 1 - cj = (y - cj) + 1 from by omega]
              show _ = some (Obj.cells (bcells ((rangeM m (32 + cj) (y - cj)).set (32 + cj - 32 + (y - cj)) true)) 203 (0, 0))
              rw [show 32 + cj - 32 + (y - cj) = y from by omega]
            case measure => simp [intOf]; omega
          · have hydi : ¬ (32 + (y : Int)) ≤ 32 + (dj : Int) := by omega
            have hye : y = dj + 1 := by omega
            subst hye
            go_wp2_with fail
            go_roundw
            case rel =>
              refine ⟨f - 1, K2, rangeM m (32 + cj) (dj + 1 - cj), false, rfl, Hst, by omega, hK2s, rangeM_length hm.out _ _, hg5, hR5, hKp5⟩
            case measure => rw [hrk.out, hR5.out.rdK]; omega
    · have hgo2 : first = false ∧ atL s K [93] = true := by
        simpa using hgo
      obtain ⟨rfl, hat⟩ := hgo2
      have hend := classL_end (m := m) hat (show 1 ≤ f by omega)
      rw [← htot.out] at hend
      have hKl := atL_lt hat
      have hres : res = some (.set (if oth then m.map (!·) else m), K + 1) := by rw [hor.out, hend]
      clear hend hor htot hgo
      rw [hat]
      clear hat
      subst hres
      have c1 : wr.cell? ⟨b, 1, none⟩ = some (.int .i64 K) := blk_cell hR.out.blk 1
      have cf : wr.frozen? ⟨b, 1, none⟩ = false := blk_frozen hR.out.blk 1
      go_upto_region 22 with fail
      have hR2 := Lib.hid (hR.out.drewN n0).next
      have hK2 := Lib.hid ((hKp.out.drewN n0).set 1 (.int .i64 ((K : Int) + 1)))
      have hg2 : Hid (((wr.drewN n0).setCell ⟨b, 1, none⟩ (.int .i64 ((K : Int) + 1))).heap[sg]? = some (.cells (bcells m) 203 (0, 0))) := blk_set (w := wr.drewN n0) hg.out (by simpa using hgb) _
      clear c1 cf hg hR hKp hrk hgl
      generalize World.setCell (wr.drewN n0) _ _ = W2 at hR2 hK2 hg2 ⊢
      have hgl := blk_lt hg2.out
      cases oth with
      | false =>
        go_wp2_with (first | ((with_reducible show wpList _ _ _ (⟨some 75, _, _, _, _, _⟩ :: _) _ _); refine wpList_load_row rfl 203 _ rfl sg rfl 203 _ (0, 0) _ hg2.out Tryz.underlying203 rfl (info96m hm.out) ?_))
        go_ret2
        exact ⟨⟨⟨_, rfl, .set hm.out⟩, hR2.out⟩, hK2.out⟩
      | true =>
        have hm2 : Hid ((m.map (!·)).length = 95) := by show _ = _; rw [List.length_map]; exact hm.out
        have HO := Lib.hid (other_any m W2 hm.out)
        go_wp2_with (first | ((with_reducible show wpList _ _ _ (⟨some 73, _, _, _, _, _⟩ :: _) _ _); refine wpList_load_row rfl 203 _ rfl sg rfl 203 _ (0, 0) _ hg2.out Tryz.underlying203 rfl (info96m hm.out) ?_))
        refine HO.out.mono ?_
        rintro e w5 ⟨rfl, hb5⟩
        have hg5 : Hid (w5.heap[sg]? = some (.cells (bcells m) 203 (0, 0))) := blk_below hg2.out hb5 hgl
        have Hth := Lib.hid (set_there hm2.out hm.out hg5.out)
        have hg6 := Lib.hid (set_stored hm2.out hm.out hg5.out)
        have hR6 : Hid (RdAt (w5.setCells sg 0 (bcells (m.map (!·))).toList) b s (K + 1)) := ⟨(heap_setCells_other (Ne.symm hgb) _ _ _).trans (hR2.out.below hb5 (blk_lt hR2.out.blk)).blk⟩
        have hK6 : Hid (Keep b w (w5.setCells sg 0 (bcells (m.map (!·))).toList)) := (hK2.out.trans (Keep.of_below hb5)).setCellsNew sg hwW _ 0
        go_wp2_with (first | ((with_reducible show wpList _ _ _ (⟨none, _, _, _, _, _⟩ :: _) _ _); refine wpList_store_mid rfl 203 _ _ rfl sg 0 _ rfl rfl Hth.out (info96m hm2.out) (bcells_one _) ?_) | ((with_reducible show wpList _ _ _ (⟨some 75, _, _, _, _, _⟩ :: _) _ _); refine wpList_load_row rfl 203 _ rfl sg rfl 203 _ (0, 0) _ hg6.out Tryz.underlying203 rfl (info96m hm2.out) ?_))
        go_ret2
        exact ⟨⟨⟨_, rfl, .set hm2.out⟩, hR6.out⟩, hK6.out⟩
end
end Go.Proofs.YtghlodpbbghcoaaGreatDoor.Rx

/- Parse: walked. -/
namespace Go.Proofs.YtghlodpbbghcoaaGreatDoor.Rx
section
open Go.RowKit
/-- What an expression from k on gives, whoever asks. -/
def ExprOk (s : ByteArray) (k : Nat) : Prop :=
  ∀ (b f : Nat) (w : World), RdAt w b s k → k ≤ s.size → 3 * (s.size - k) + 3 ≤ f → Calls Tryz.prog 119 #[.pointer (some ⟨b, 0, none⟩)] w (PartPost b s (exprF s f [] k) w)
def AtomOk (s : ByteArray) (k : Nat) : Prop :=
  ∀ (b f : Nat) (w : World), RdAt w b s k → k < s.size → 3 * (s.size - k) + 1 ≤ f → Calls Tryz.prog 147 #[.pointer (some ⟨b, 0, none⟩)] w (PartPost b s (atomF s f k) w)
def BranchOk (s : ByteArray) (k : Nat) : Prop :=
  ∀ (b f : Nat) (w : World), RdAt w b s k → k ≤ s.size → 3 * (s.size - k) + 2 ≤ f → Calls Tryz.prog 132 #[.pointer (some ⟨b, 0, none⟩)] w (PartPost b s (branchF s f [] k) w)
theorem part_none {b : Nat} {s : ByteArray} {fn : Nat} {r : Option (T × Nat)} {w : World} (h : Calls Tryz.prog fn #[.pointer (some ⟨b, 0, none⟩)] w (PartPost b s r w)) (hr : r = none) :
    Calls Tryz.prog fn #[.pointer (some ⟨b, 0, none⟩)] w fun e w' => e = .returned (.tuple #[.nilIface, .bool false]) ∧ ∃ k', k' ≤ s.size ∧ Hid (RdAt w' b s k') ∧ Hid (Keep b w w') := by
  subst hr
  refine h.mono ?_
  rintro e w' ⟨⟨rfl, k', h1, h2⟩, h3⟩
  exact ⟨rfl, k', h1, h2, h3⟩
theorem part_some {b : Nat} {s : ByteArray} {fn : Nat} {r : Option (T × Nat)} {w : World} (h : Calls Tryz.prog fn #[.pointer (some ⟨b, 0, none⟩)] w (PartPost b s r w)) {t : T} {k' : Nat} (hr : r = some (t, k')) :
    Calls Tryz.prog fn #[.pointer (some ⟨b, 0, none⟩)] w fun e w' => ∃ v, e = .returned (.tuple #[v, .bool true]) ∧ Hid (PartAt w' (Fresh w w') v t) ∧ Hid (RdAt w' b s k') ∧ Hid (Keep b w w') := by
  subst hr
  refine h.mono ?_
  rintro e w' ⟨⟨⟨v, rfl, h1⟩, h2⟩, h3⟩
  exact ⟨v, rfl, h1, h2, h3⟩
/-- Trees above the reader's block stay. -/
theorem Fresh.keep {b : Nat} {a w w' : World} (hab : b < a.heap.size) (h : Keep b w w') : Moves (Fresh a w) (Fresh a w') w w' :=
  fun g hg => ⟨⟨hg.1, Nat.lt_of_lt_of_le hg.2 h.size⟩, h.block g hg.2 (by have := hg.1; omega)⟩
theorem Fresh.back {b : Nat} {a a' w : World} (h : Keep b a a') : Moves (Fresh a' w) (Fresh a w) w w :=
  fun _ hg => ⟨⟨Nat.le_trans h.size hg.1, hg.2⟩, rfl⟩
set_option maxHeartbeats 6400000 in
theorem atom_any (s : ByteArray) (k : Nat) (hs : s.size ≤ 1000) (IH : k + 1 ≤ s.size → ExprOk s (k + 1)) : AtomOk s k := by
  intro b f w hr hk hf
  have hlb : b < w.heap.size := blk_lt hr.blk
  have Hr := Lib.hid hr
  obtain ⟨f', rfl⟩ : ∃ f', f = f' + 1 := ⟨f - 1, by omega⟩
  obtain ⟨res, hres⟩ : ∃ res, res = atomF s (f' + 1) k := ⟨_, rfl⟩
  rw [← hres]
  rw [atomF] at hres
  have HIH := Lib.hid (fun (wx : World) (h : RdAt wx b s (k + 1)) => IH (by omega) b f' wx h (by omega) (by omega))
  have c0 : w.cell? ⟨b, 0, none⟩ = some (.string s) := blk_cell hr.blk 0
  have c1 : w.cell? ⟨b, 1, none⟩ = some (.int .i64 k) := blk_cell hr.blk 1
  have cf : w.frozen? ⟨b, 1, none⟩ = false := blk_frozen hr.blk 1
  have Hres := Lib.hid hres
  have hAt := Lib.hid (fun (st : ByteArray) (n : Nat) => at_any b s st k (w.drewN n) (hr.drewN n))
  clear hres IH hr
  go_enter Tryz.func147, Tryz.ntmps147
  go_wp2_with fail
  refine (at_any b s _ k w Hr.out).mono ?_
  rintro e w1 ⟨rfl, m1, rfl⟩
  rw [show (ByteArray.mk #[40]).data.toList = [40] from rfl]
  cases h1 : atL s k [40] with
  | true =>
    have hres := Hres.out
    rw [h1, if_pos rfl] at hres
    cases he : exprF s f' [] (k + 1) with
    | none =>
      rw [he] at hres
      subst hres
      go_wp2_with fail
      refine (part_none (HIH.out _ (Hr.out.drewN _).next) he).mono ?_
      rintro e w2 ⟨rfl, k2, hk2, hR2, hK2⟩
      go_wp2_with fail
      go_ret2
      exact ⟨⟨rfl, k2, hk2, hR2.out⟩, (((Keep.refl b w).drewN _).set 1 _).trans hK2.out⟩
    | some p =>
      obtain ⟨t, k2⟩ := p
      rw [he] at hres
      have hpf := (pfacts s f').e [] (k + 1) t k2 (by omega) he
      have hk2 := hpf.1
      have hk2s := hpf.2.1
      have Hres2 := Lib.hid hres
      clear hpf hres
      have hKw : Keep b w ((w.drewN m1).setCell ⟨b, 1, none⟩ (.int .i64 ((k : Int) + 1))) := ((Keep.refl b w).drewN _).set 1 _
      have HKw := Lib.hid hKw
      clear hKw
      go_wp2_with fail
      refine (part_some (HIH.out _ (Hr.out.drewN _).next) he).mono ?_
      rintro e w2 ⟨v, rfl, hP2, hR2, hK2⟩
      have hKK := Lib.hid (HKw.out.trans hK2.out)
      have hP3 := Lib.hid (hP2.out.move (Fresh.back HKw.out))
      clear HKw hP2 hK2 c0 c1 cf
      go_wp2_with fail
      refine (at_any b s _ k2 w2 hR2.out).mono ?_
      rintro e w3 ⟨rfl, m3, rfl⟩
      rw [show (ByteArray.mk #[41]).data.toList = [41] from rfl]
      cases h2 : atL s k2 [41] with
      | true =>
        have h2l := atL_lt h2
        have hres := Hres2.out
        rw [h2, if_pos rfl] at hres
        subst hres
        have c1 : w2.cell? ⟨b, 1, none⟩ = some (.int .i64 k2) := blk_cell hR2.out.blk 1
        have cf : w2.frozen? ⟨b, 1, none⟩ = false := blk_frozen hR2.out.blk 1
        go_wp2_with fail
        go_ret2
        have hk4 := ((Keep.refl b w2).drewN m3).set 1 (.int .i64 ((k2 : Int) + 1))
        exact ⟨⟨⟨_, rfl, hP3.out.move (Fresh.keep hlb hk4)⟩, (hR2.out.drewN m3).next⟩, hKK.out.trans hk4⟩
      | false =>
        have hres := Hres2.out
        rw [h2, if_neg (by decide)] at hres
        subst hres
        go_wp2_with fail
        go_ret2
        exact ⟨⟨rfl, k2, hk2s, hR2.out.drewN _⟩, hKK.out.drewN _⟩
  | false =>
    have hres := Hres.out
    rw [h1, if_neg (by decide)] at hres
    have Hres2 := Lib.hid hres
    clear hres Hres HIH
    go_wp2_with fail
    refine (hAt.out _ m1).mono ?_
    rintro e w2 ⟨rfl, m2, rfl⟩
    rw [show (ByteArray.mk #[46]).data.toList = [46] from rfl]
    simp only [World.drewN_drewN]
    generalize m1 + m2 = m12
    cases h2 : atL s k [46] with
    | true =>
      have hres := Hres2.out
      rw [h2, if_pos rfl] at hres
      subst hres
      go_wp2_with fail
      refine (every_any _).mono ?_
      rintro e w3 ⟨rfl, hb3⟩
      go_wp2_with fail
      go_ret2
      have hR := ((Hr.out.drewN m12).next)
      have hK := ((Keep.refl b w).drewN m12).set 1 (.int .i64 ((k : Int) + 1))
      exact ⟨⟨⟨_, rfl, .set everyM_length⟩, hR.below hb3 (blk_lt hR.blk)⟩, hK.trans (Keep.of_below hb3)⟩
    | false =>
      have hres := Hres2.out
      rw [h2, if_neg (by decide)] at hres
      have Hres3 := Lib.hid hres
      clear hres Hres2
      go_wp2_with fail
      refine (hAt.out _ m12).mono ?_
      rintro e w2 ⟨rfl, m3, rfl⟩
      rw [show (ByteArray.mk #[91]).data.toList = [91] from rfl]
      simp only [World.drewN_drewN]
      generalize m12 + m3 = m13
      cases h3 : atL s k [91] with
      | true =>
        have hres := Hres3.out
        rw [h3, if_pos rfl] at hres
        have hK := ((Keep.refl b w).drewN m13).set 1 (.int .i64 ((k : Int) + 1))
        have HK := Lib.hid hK
        clear hK
        have HC := Lib.hid (class_any b s (k + 1) _ (Hr.out.drewN m13).next (by omega) hs)
        cases hc : classF s (k + 1) with
        | none =>
          rw [hc] at hres
          subst hres
          go_wp2_with fail
          refine (part_none HC.out hc).mono ?_
          rintro e w3 ⟨rfl, k3, hk3, hR3, hK3⟩
          go_wp2_with fail
          go_ret2
          exact ⟨⟨rfl, k3, hk3, hR3.out⟩, HK.out.trans hK3.out⟩
        | some p =>
          obtain ⟨t, k3⟩ := p
          rw [hc] at hres
          subst hres
          go_wp2_with fail
          refine (part_some HC.out hc).mono ?_
          rintro e w3 ⟨v, rfl, hP3, hR3, hK3⟩
          go_wp2_with fail
          go_ret2
          exact ⟨⟨⟨_, rfl, hP3.out.move (Fresh.back HK.out)⟩, hR3.out⟩, HK.out.trans hK3.out⟩
      | false =>
        have hres := Hres3.out
        rw [h3, if_neg (by decide)] at hres
        cases hsg : signF s k spA with
        | none =>
          rw [hsg] at hres
          subst hres
          go_wp2_with fail
          refine (sign_none rfl (Hr.out.drewN m13) (by omega) hs hsg).mono ?_
          rintro e w3 ⟨rfl, k3, hk3, hR3, hK3⟩
          go_wp2_with fail
          go_ret2
          exact ⟨⟨rfl, k3, hk3, hR3.out⟩, ((Keep.refl b w).drewN m13).trans hK3.out⟩
        | some p =>
          obtain ⟨c, k3⟩ := p
          rw [hsg] at hres
          subst hres
          obtain ⟨j, hj, hj95⟩ := isS_form (signF_some hsg).2.2
          have Hj := Lib.hid hj
          clear hj
          go_wp2_with fail
          refine (sign_some rfl (Hr.out.drewN m13) (by omega) hs hsg Hj.out).mono ?_
          rintro e w3 ⟨rfl, hR3, hK3⟩
          go_wp2_with fail
          refine (single_any j w3 hj95).mono ?_
          rintro e w4 ⟨rfl, hb4⟩
          go_wp2_with fail
          go_ret2
          rw [Hj.out]
          exact ⟨⟨⟨_, rfl, .set (singleM_length _)⟩, hR3.out.below hb4 (blk_lt hR3.out.blk)⟩, ((Keep.refl b w).drewN m13).trans (hK3.out.trans (Keep.of_below hb4))⟩
end
section
open Go.RowKit
theorem info76 : (Tryz.prog.info? 149).map (fun i => (i.zero, i.size, i.bytes)) = some (some .nilIface, 1, 16) := by kernel_rfl
theorem own_keep {b : Nat} {w w' : World} {base : Nat} {e : TypeId} {size n : Nat} {v : Value} {xs : List Value} (h : w.ownsRow base e size v n xs) (hk : Keep b w w') (hb : b < base) : w'.ownsRow base e size v n xs := by
  obtain ⟨h1, h2⟩ := h
  refine ⟨h1, ?_⟩
  rcases h2 with h2 | ⟨g, cap, cur, hv, hg, hh, r⟩
  · exact .inl h2
  · exact .inr ⟨g, cap, cur, hv, hg, (hk.block g (Array.getElem?_eq_some_iff.1 hh).1 (by omega)).trans hh, r⟩
theorem Keep.own {b : Nat} {a w w' : World} (h : Keep b a w) (hb : Below a.heap.size w w') : Keep b a w' :=
  ⟨hb.os.trans h.os, hb.tape.trans h.tape, hb.output.trans h.output, Nat.le_trans h.size hb.size, fun g hg hgb => (hb.block g hg).trans (h.block g hg hgb)⟩
/-- The blocks that were made since a, but for a row's own. -/
def Beside (a w : World) (v : Value) (g : Nat) : Prop := a.heap.size ≤ g ∧ g < w.heap.size ∧ v.ownBlock ≠ some g
theorem Beside.keep {b : Nat} {a w w' : World} {v : Value} (hab : b < a.heap.size) (h : Keep b w w') : Moves (Beside a w v) (Beside a w' v) w w' :=
  fun g hg => ⟨⟨hg.1, Nat.lt_of_lt_of_le hg.2.1 h.size, hg.2.2⟩, h.block g hg.2.1 (by have := hg.1; omega)⟩
theorem Beside.fresh {a w w' : World} {v : Value} {base : Nat} {e : TypeId} {size n : Nat} {xs : List Value} (haw : a.heap.size ≤ w.heap.size) (hown : w.ownsRow base e size v n xs) : Moves (Fresh w w') (Beside a w' v) w' w' :=
  fun g hg => ⟨⟨Nat.le_trans haw hg.1, hg.2, fun h => by have := hown.lt g h; have := hg.1; omega⟩, rfl⟩
theorem Beside.grown {a w w' : World} {v v' : Value} (hg : w.grownBy w' v.ownBlock) (hz : w.heap.size ≤ w'.heap.size) (hn : ∀ k, v'.ownBlock = some k → v.ownBlock = some k ∨ w.heap.size < k) : Moves (Beside a w v) (Beside a w' v') w w' :=
  fun g h => ⟨⟨h.1, Nat.lt_of_lt_of_le h.2.1 hz, fun e => by
    rcases hn g e with h1 | h1
    · exact h.2.2 h1
    · have := h.2.1; omega⟩, hg.block g h.2.1 (fun e => h.2.2 e.symm)⟩
theorem Beside.out {a w : World} {v : Value} : Moves (Beside a w v) (Fresh a w) w w := fun _ h => ⟨⟨h.1, h.2.1⟩, rfl⟩
theorem cells_own {a w : World} {A : Option Addr} {n c : Nat} {xs : List Value} (h : w.ownsRow a.heap.size 149 1 (.slice A n c) n xs) : CellsIn w (Fresh a w) A xs := by
  intro j hj
  obtain ⟨b, o, h1, h2, h3⟩ := CellsAt.of_own h j hj
  refine ⟨b, o, h1, ⟨?_, h2⟩, h3⟩
  obtain ⟨_, h5⟩ := h
  rcases h5 with ⟨hv, hn⟩ | ⟨g, cap, cur, hv, hg, _⟩
  · simp only [Value.slice.injEq] at hv
    rw [h1] at hv
    cases hv.1
  · simp only [Value.slice.injEq] at hv
    rw [h1] at hv
    simp only [Option.some.injEq, Addr.mk.injEq, and_true] at hv
    omega
theorem own_cap {w : World} {base : Nat} {e : TypeId} {size n c : Nat} {A : Option Addr} {xs : List Value} (h : w.ownsRow base e size (.slice A n c) n xs) : n ≤ c := by
  rcases h.2 with ⟨hv, hn⟩ | ⟨g, cap, cur, hv, _, _, h2, _⟩
  · omega
  · simp only [Value.slice.injEq] at hv
    omega
theorem PartAt.form {w : World} {P : Nat → Prop} {v : Value} {t : T} (h : PartAt w P v t) : ∃ (ty : TypeId) (x : Value), v = .iface ty x := by cases h <;> exact ⟨_, _, rfl⟩
set_option maxHeartbeats 6400000 in
theorem branch_any (s : ByteArray) (k0 : Nat) (hs : s.size ≤ 1000) (IH : ∀ k, k0 ≤ k → AtomOk s k) : BranchOk s k0 := by
  intro b f0 w hr hk0 hf0
  have hlb : b < w.heap.size := blk_lt hr.blk
  have Hr := Lib.hid hr
  obtain ⟨res, hres⟩ : ∃ res, res = branchF s f0 [] k0 := ⟨_, rfl⟩
  rw [← hres]
  have Hres := Lib.hid hres
  have HIH := Lib.hid IH
  clear hres hr IH
  go_enter Tryz.func132, Tryz.ntmps132
  go_wp2_with fail
  go_loopw [4] (fun l wr => ∃ (f K : Nat) (vs : List Value) (acc : List T), Hid (res = branchF s f acc K) ∧ 3 * (s.size - K) + 2 ≤ f ∧ k0 ≤ K ∧ K ≤ s.size ∧ vs.length ≤ K ∧ Hid (RdAt wr b s K) ∧ Hid (Keep b w wr) ∧
      Hid (wr.ownsRow w.heap.size 149 1 l vs.length vs) ∧ Hid (PartsAt wr (Beside w wr l) vs acc)) (fun _ wr => s.size - rdK wr b)
  case atStart => exact ⟨f0, k0, [], [], Hres, hf0, Nat.le_refl _, hk0, Nat.zero_le _, Hr, Keep.refl b w, World.ownsRow_nil _ _ _ _, PartsAt.nil _ _⟩
  case round =>
    obtain ⟨f, K, vs, acc, htot, hf, hkK, hK, hvs, hR, hKp, hown, hparts⟩ := hrel
    obtain ⟨A, c, rfl, hown'⟩ := own_form hown.out
    have Hown := Lib.hid hown'
    clear hown hown'
    have hrk := Lib.hid hR.out.rdK
    obtain ⟨f', rfl⟩ : ∃ f', f = f' + 1 := ⟨f - 1, by omega⟩
    have hst := htot.out
    rw [branchF] at hst
    have Hst := Lib.hid hst
    clear hst htot
    have c0 : wr.cell? ⟨b, 0, none⟩ = some (.string s) := blk_cell hR.out.blk 0
    have c1 : wr.cell? ⟨b, 1, none⟩ = some (.int .i64 K) := blk_cell hR.out.blk 1
    by_cases hlt : K < s.size
    · have hd : decide ((K : Int) < (s.size : Int)) = true := decide_eq_true (by omega)
      have hlt' : (K : Int) < (s.size : Int) := by omega
      have HA := Lib.hid (fun n => quiet_at (set := ByteArray.mk #[124, 41]) (l := [124, 41]) rfl hR.out n)
      cases hb : atL s K [124, 41] with
      | true =>
        rw [hb] at HA
        have hres := Hst.out
        rw [hb, Bool.not_true, Bool.and_false, if_neg (by decide)] at hres
        go_upto_region 2 with fail
        go_quiet ((go_at_call 133; exact HA.out _))
        go_wp2_with fail
        refine (row_any (Fresh w wr) vs acc A _ c _ rfl (own_cap Hown.out) ((cells_own Hown.out).move (w' := wr.drewN _) (fun _ h => ⟨h, rfl⟩)) ((hparts.out.move Beside.out).move (w' := wr.drewN _) (fun _ h => ⟨h, rfl⟩))).mono ?_
        rintro e w2 ⟨⟨v, rfl, hv⟩, rfl⟩
        have Hv := Lib.hid hv
        clear hv
        subst hres
        go_wp2_with fail
        go_ret2
        exact ⟨⟨⟨_, rfl, Hv.out⟩, hR.out.drewN _⟩, hKp.out.drewN _⟩
      | false =>
        rw [hb] at HA
        have hres := Hst.out
        rw [hb, Bool.not_false, Bool.and_true, if_pos (decide_eq_true hlt)] at hres
        have Hres2 := Lib.hid hres
        clear hres Hst
        go_upto_region 2 with fail
        go_quiet ((go_at_call 133; exact HA.out _))
        go_upto_region 3 with fail
        have hKq := Lib.hid (hKp.out.drewN nq)
        have hoq : Hid ((wr.drewN nq).ownsRow w.heap.size 149 1 (.slice A vs.length c) vs.length vs) := Hown.out.drewN nq
        have hpq : Hid (PartsAt (wr.drewN nq) (Beside w (wr.drewN nq) (.slice A vs.length c)) vs acc) := hparts.out.move (fun _ h => ⟨h, rfl⟩)
        have hRq := Lib.hid (hR.out.drewN nq)
        clear hKp Hown hparts hR HA c0 c1 hb
        have hrq : Hid (rdK wr b = K) := hrk
        generalize wr.drewN nq = W at hKq hoq hpq hRq ⊢
        have hwW := hKq.out.size
        have HA := Lib.hid (HIH.out K hkK b f' W hRq.out hlt (by omega))
        cases ha : atomF s f' K with
        | none =>
          have hres := Hres2.out
          rw [ha] at hres
          subst hres
          go_wp2_with fail
          refine (part_none HA.out ha).mono ?_
          rintro e w2 ⟨rfl, k2, hk2, hR2, hK2⟩
          go_wp2_with fail
          go_ret2
          exact ⟨⟨rfl, k2, hk2, hR2.out⟩, hKq.out.trans hK2.out⟩
        | some q =>
          obtain ⟨p, k1⟩ := q
          have hres := Hres2.out
          rw [ha] at hres
          have Hres3 : Hid (res = branchF s f' (acc ++ [(reps s p k1).1]) (reps s p k1).2) := hres
          have hpf := (pfacts s f').a K p k1 hK ha
          have hk1 := hpf.1
          have hk1s := hpf.2.1
          clear hres Hres2 hpf
          go_wp2_with fail
          refine (part_some HA.out ha).mono ?_
          rintro e w1 ⟨v, rfl, hP1, hR1, hK1⟩
          clear HA ha
          have ho1 := Lib.hid (own_keep hoq.out hK1.out hlb)
          have hp1 := Lib.hid (hpq.out.move (Beside.keep hlb hK1.out))
          have hf1 : Hid (PartAt w1 (Beside w w1 (.slice A vs.length c)) v p) := hP1.out.move (Beside.fresh hwW hoq.out)
          have hK1w := Lib.hid (hKq.out.trans hK1.out)
          clear hP1 hK1 hKq hoq hpq hRq
          go_wp2_with fail
          obtain ⟨wo, rfl⟩ : ∃ wo : World, wo = wr := ⟨_, rfl⟩
          go_loopw [5] (fun pv wr => ∃ (K2 : Nat) (t : T), Hid (reps s p k1 = reps s t K2) ∧ k1 ≤ K2 ∧ K2 ≤ s.size ∧ Hid (RdAt wr b s K2) ∧ Hid (Keep b w wr) ∧ Hid (wr.ownsRow w.heap.size 149 1 (.slice A vs.length c) vs.length vs) ∧
              Hid (PartsAt wr (Beside w wr (.slice A vs.length c)) vs acc) ∧ Hid (PartAt wr (Beside w wr (.slice A vs.length c)) pv t)) (fun _ wr => s.size - rdK wr b)
          case atStart => exact ⟨k1, p, rfl, Nat.le_refl _, hk1s, hR1, hK1w, ho1, hp1, hf1⟩
          case round =>
            clear hR1 hK1w ho1 hp1 hf1
            obtain ⟨pv, rfl⟩ : ∃ pv, pv = u5 := ⟨_, rfl⟩
            obtain ⟨K2, t, hrp, hk2, hk2s, hR2, hK2, ho2, hp2, hf2⟩ := hrel
            have hrk2 := Lib.hid hR2.out.rdK
            obtain ⟨ty, x, rfl⟩ := hf2.out.form
            go_wp2_with fail
            refine (at_any b s _ K2 wr hR2.out).mono ?_
            rintro e w3 ⟨rfl, n3, rfl⟩
            rw [show (ByteArray.mk #[42, 43, 63]).data.toList = [42, 43, 63] from rfl]
            cases hb : atL s K2 [42, 43, 63] with
            | true =>
              have hl := atL_lt hb
              have c0 : wr.cell? ⟨b, 0, none⟩ = some (.string s) := blk_cell hR2.out.blk 0
              have c1 : wr.cell? ⟨b, 1, none⟩ = some (.int .i64 K2) := blk_cell hR2.out.blk 1
              have cf : wr.frozen? ⟨b, 1, none⟩ = false := blk_frozen hR2.out.blk 1
              have hi0 : (0 : Int) ≤ (K2 : Int) := by omega
              have hi1 : (K2 : Int) < (s.size : Int) := by omega
              obtain ⟨cb, hcb⟩ : ∃ cb : UInt8, s[K2] = cb := ⟨_, rfl⟩
              have hcb2 : Hid (byteAt s K2 = cb) := by show _ = _; rw [← byteAt_eq hl]; exact hcb
              have hrp2 : Hid (reps s p k1 = reps s (.rep t cb) (K2 + 1)) := by show _ = _; rw [hrp.out, reps_yes hb, hcb2.out]
              clear hrp
              go_upto_region 7 with fail
              go_quiet (fail)
              go_wp2_with fail
              have hk9 : ∀ m, Keep b wr ((wr.drewN m).setCell ⟨b, 1, none⟩ (.int .i64 ((K2 : Int) + 1))) := fun m => ((Keep.refl b wr).drewN m).set 1 _
              go_roundw
              case rel =>
                refine ⟨K2 + 1, .rep t cb, hrp2, by omega, by omega, (hR2.out.drewN _).next, hK2.out.trans (hk9 _), own_keep ho2.out (hk9 _) hlb, hp2.out.move (Beside.keep hlb (hk9 _)), ?_⟩
                exact .rep (hf2.out.move (Beside.keep hlb (hk9 _)))
              case measure => rw [hrk2.out, ((hR2.out.drewN _).next).rdK]; omega
            | false =>
              have hrp2 : reps s p k1 = (t, K2) := by rw [hrp.out, reps_no hb]
              rw [hrp2] at Hres3
              have hzz := hK2.out.size
              clear hrp hrp2 hb
              go_upto_region 9 with fail
              have hps := Lib.hid (PartsAt.snoc hp2.out hf2.out)
              go_wp2_with (at_builtin; refine wpList_append_new_at info76 Tryz.underlying181 rfl (by decide) (by decide) _ (ho2.out.drewN n3) 1 rfl _ _ rfl rfl rfl (by simp) rfl rfl (by omega) (by simpa using hzz) ?_; intro v' w' hown' hbel hgt hgrow hnew)
              have hR9 := Lib.hid ((hR2.out.drewN n3).below hbel hlb)
              have hK9 := Lib.hid ((hK2.out.drewN n3).own hbel)
              have hp9 : Hid (PartsAt w' (Beside w w' v') (vs ++ [Value.iface ty x]) (acc ++ [t])) := (hps.out.move (w' := wr.drewN n3) (Q := Beside w (wr.drewN n3) (.slice A vs.length c)) (fun _ h => ⟨h, rfl⟩)).move (Beside.grown hgrow (by omega) hnew)
              have ho9 : Hid (w'.ownsRow w.heap.size 149 1 v' (vs ++ [Value.iface ty x]).length (vs ++ [Value.iface ty x])) := by
                show World.ownsRow _ _ _ _ _ _ _
                rw [List.length_append]
                exact hown'
              go_roundw
              case rel =>
                exact ⟨f', K2, vs ++ [Value.iface ty x], acc ++ [t], Hres3, by omega, by omega, hk2s, by simp; omega, hR9, hK9, ho9, hp9⟩
              case measure => rw [hrk.out, hR9.out.rdK]; omega
    · obtain rfl : K = s.size := by omega
      have hd : decide (((s.size : Nat) : Int) < (s.size : Int)) = false := decide_eq_false (by omega)
      have hres := Hst.out
      rw [decide_eq_false hlt, Bool.false_and, if_neg (by decide)] at hres
      go_upto_region 2 with fail
      go_quiet (fail)
      go_wp2_with fail
      refine (row_any (Fresh w wr) vs acc A _ c _ rfl (own_cap Hown.out) ((cells_own Hown.out).move (w' := wr.drewN _) (fun _ h => ⟨h, rfl⟩)) ((hparts.out.move Beside.out).move (w' := wr.drewN _) (fun _ h => ⟨h, rfl⟩))).mono ?_
      rintro e w2 ⟨⟨v, rfl, hv⟩, rfl⟩
      have Hv := Lib.hid hv
      clear hv
      subst hres
      go_wp2_with fail
      go_ret2
      exact ⟨⟨⟨_, rfl, Hv.out⟩, hR.out.drewN _⟩, hKp.out.drewN _⟩
end
section
open Go.RowKit
set_option maxHeartbeats 6400000 in
theorem expr_any (s : ByteArray) (k0 : Nat) (hs : s.size ≤ 1000) (IH : ∀ k, k0 ≤ k → BranchOk s k) : ExprOk s k0 := by
  intro b f0 w hr hk0 hf0
  have hlb : b < w.heap.size := blk_lt hr.blk
  have Hr := Lib.hid hr
  obtain ⟨res, hres⟩ : ∃ res, res = exprF s f0 [] k0 := ⟨_, rfl⟩
  rw [← hres]
  have Hres := Lib.hid hres
  have HIH := Lib.hid IH
  clear hres hr IH
  go_enter Tryz.func119, Tryz.ntmps119
  go_wp2_with fail
  go_loopw [4] (fun l wr => ∃ (f K : Nat) (vs : List Value) (acc : List T), Hid (res = exprF s f acc K) ∧ 3 * (s.size - K) + 3 ≤ f ∧ k0 ≤ K ∧ K ≤ s.size ∧ vs.length ≤ K ∧ Hid (RdAt wr b s K) ∧ Hid (Keep b w wr) ∧
      Hid (wr.ownsRow w.heap.size 149 1 l vs.length vs) ∧ Hid (PartsAt wr (Beside w wr l) vs acc)) (fun _ wr => s.size - rdK wr b)
  case atStart => exact ⟨f0, k0, [], [], Hres, hf0, Nat.le_refl _, hk0, Nat.zero_le _, Hr, Keep.refl b w, World.ownsRow_nil _ _ _ _, PartsAt.nil _ _⟩
  case round =>
    obtain ⟨f, K, vs, acc, htot, hf, hkK, hK, hvs, hR, hKp, hown, hparts⟩ := hrel
    obtain ⟨A, c, rfl, hown'⟩ := own_form hown.out
    have Hown := Lib.hid hown'
    clear hown hown'
    have hrk := Lib.hid hR.out.rdK
    have hwW := hKp.out.size
    obtain ⟨f', rfl⟩ : ∃ f', f = f' + 1 := ⟨f - 1, by omega⟩
    have hst := htot.out
    rw [exprF] at hst
    have HB := Lib.hid (HIH.out K hkK b f' wr hR.out hK (by omega))
    cases hb : branchF s f' [] K with
    | none =>
      rw [hb] at hst
      subst hst
      go_wp2_with fail
      refine (part_none HB.out hb).mono ?_
      rintro e w2 ⟨rfl, k2, hk2, hR2, hK2⟩
      go_wp2_with fail
      go_ret2
      exact ⟨⟨rfl, k2, hk2, hR2.out⟩, hKp.out.trans hK2.out⟩
    | some q =>
      obtain ⟨p, k1⟩ := q
      rw [hb] at hst
      have Hst : Hid (res = if atL s k1 [124] then exprF s f' (acc ++ [p]) (k1 + 1) else some (eitherT (acc ++ [p]), k1)) := hst
      have hpf := (pfacts s f').b [] K p k1 hK hb
      have hk1 := hpf.1
      have hk1s := hpf.2.1
      clear hst htot hpf
      go_wp2_with fail
      refine (part_some HB.out hb).mono ?_
      rintro e w1 ⟨v, rfl, hP1, hR1, hK1⟩
      have ho1 := Lib.hid (own_keep Hown.out hK1.out hlb)
      have hp1 := Lib.hid (hparts.out.move (Beside.keep hlb hK1.out))
      have hf1 : Hid (PartAt w1 (Beside w w1 (.slice A vs.length c)) v p) := hP1.out.move (Beside.fresh hwW Hown.out)
      have hK1w := Lib.hid (hKp.out.trans hK1.out)
      obtain ⟨ty, x, rfl⟩ := hf1.out.form
      have hzz := hK1w.out.size
      have hps := Lib.hid (PartsAt.snoc hp1.out hf1.out)
      clear hP1 hK1 Hown hparts hKp hR HB hb
      go_upto_region 5 with fail
      go_wp2_with (at_builtin; refine wpList_append_new_at info76 Tryz.underlying181 rfl (by decide) (by decide) _ ho1.out 1 rfl _ _ rfl rfl rfl (by simp) rfl rfl (by omega) hzz ?_; intro v' w' hown' hbel hgt hgrow hnew)
      have hR9 := Lib.hid (hR1.out.below hbel hlb)
      have hK9 := Lib.hid (hK1w.out.own hbel)
      have hp9 : Hid (PartsAt w' (Beside w w' v') (vs ++ [Value.iface ty x]) (acc ++ [p])) := hps.out.move (Beside.grown hgrow (by omega) hnew)
      have ho9 : Hid (w'.ownsRow w.heap.size 149 1 v' (vs ++ [Value.iface ty x]).length (vs ++ [Value.iface ty x])) := by
        show World.ownsRow _ _ _ _ _ _ _
        rw [List.length_append]
        exact hown'
      have hlen : (vs ++ [Value.iface ty x]).length = vs.length + 1 := by simp
      clear hown' hbel hgrow hnew hps ho1 hp1 hf1 hK1w hR1
      refine (at_any b s _ k1 w' hR9.out).mono ?_
      rintro e w3 ⟨rfl, n3, rfl⟩
      rw [show (ByteArray.mk #[124]).data.toList = [124] from rfl]
      cases ha : atL s k1 [124] with
      | true =>
        have hl := atL_lt ha
        have hres := Hst.out
        rw [ha, if_pos rfl] at hres
        have Hres2 := Lib.hid hres
        clear hres ha
        have c1 : w'.cell? ⟨b, 1, none⟩ = some (.int .i64 k1) := blk_cell hR9.out.blk 1
        have cf : w'.frozen? ⟨b, 1, none⟩ = false := blk_frozen hR9.out.blk 1
        have hk9 : Keep b w' ((w'.drewN n3).setCell ⟨b, 1, none⟩ (.int .i64 ((k1 : Int) + 1))) := ((Keep.refl b w').drewN n3).set 1 _
        have Hk9 := Lib.hid hk9
        clear hk9
        go_wp2_with fail
        go_roundw
        case rel =>
          exact ⟨f', k1 + 1, vs ++ [Value.iface ty x], acc ++ [p], Hres2, by omega, by omega, hl, by omega, (hR9.out.drewN n3).next, hK9.out.trans Hk9.out, own_keep ho9.out Hk9.out hlb, hp9.out.move (Beside.keep hlb Hk9.out)⟩
        case measure => rw [hrk.out, ((hR9.out.drewN n3).next).rdK]; omega
      | false =>
        have hres := Hst.out
        rw [ha, if_neg (by decide)] at hres
        have ho9' := ho9.out
        obtain ⟨n', hn'⟩ : ∃ n', (vs ++ [Value.iface ty x]).length = n' := ⟨_, rfl⟩
        rw [hn'] at ho9'
        have Hn' := Lib.hid hn'
        clear hn' hlen ho9
        obtain ⟨A', c', rfl, ho10⟩ := own_form ho9'
        have HE := Lib.hid (either_any (Fresh w w') (vs ++ [Value.iface ty x]) (acc ++ [p]) A' n' c' (w'.drewN n3) Hn'.out (own_cap ho10) ((cells_own ho10).move (w' := w'.drewN n3) (fun _ h => ⟨h, rfl⟩)) ((hp9.out.move Beside.out).move (w' := w'.drewN n3) (fun _ h => ⟨h, rfl⟩)))
        clear ho10 ha ho9'
        go_wp2_with fail
        refine HE.out.mono ?_
        rintro e w2 ⟨⟨v, rfl, hv⟩, rfl⟩
        have Hv := Lib.hid hv
        clear hv
        subst hres
        go_wp2_with fail
        go_ret2
        exact ⟨⟨⟨_, rfl, Hv.out⟩, hR9.out.drewN _⟩, hK9.out.drewN _⟩
theorem expr_ok (s : ByteArray) (hs : s.size ≤ 1000) : ∀ (n k : Nat), s.size ≤ n + k → ExprOk s k := by
  intro n
  induction n with
  | zero =>
    intro k hk
    exact expr_any s k hs (fun j hj => branch_any s j hs (fun i hi => atom_any s i hs (fun h => absurd h (by omega))))
  | succ n ih =>
    intro k hk
    exact expr_any s k hs (fun j hj => branch_any s j hs (fun i hi => atom_any s i hs (fun _ => ih (i + 1) (by omega))))
def parseR (s : ByteArray) : Option T := if 60 < s.size then none else parseF s
def ParseGot (r : Option T) (err : Int) (w : World) (e : Ending) (w' : World) : Prop :=
  match r with
  | some t => ∃ g v, e = .returned (.tuple #[.pointer (some ⟨g, 0, none⟩), .int .i64 0]) ∧ w'.heap[g]? = some (.cells #[v] 153 (0, 0)) ∧ w.heap.size ≤ g ∧ PartAt w' (Fresh w w') v t
  | none => e = .returned (.tuple #[.pointer none, .int .i64 err])
/-- What the parser hands back: a tree, or an error. -/
def ParsePost (s : ByteArray) (w : World) (e : Ending) (w' : World) : Prop :=
  ParseGot (parseR s) (if 60 < s.size then 3 else 2) w e w' ∧ Below w.heap.size w w'
set_option maxHeartbeats 3200000 in
theorem parse_any (s : ByteArray) (w : World) (hs : s.size ≤ 1000) : Calls Tryz.prog 115 #[.string s] w (ParsePost s w) := by
  obtain ⟨res, hres⟩ : ∃ res, res = parseR s := ⟨_, rfl⟩
  unfold ParsePost
  rw [← hres]
  unfold parseR at hres
  by_cases hlong : 60 < s.size
  · have hl : (60 : Int) < (s.size : Int) := by omega
    rw [if_pos hlong] at hres
    rw [if_pos hlong]
    subst hres
    go_enter Tryz.func115, Tryz.ntmps115
    go_wp2_with fail
    go_ret2
    exact ⟨rfl, Below.refl _ _⟩
  · have hl : ¬ (60 : Int) < (s.size : Int) := by omega
    have hR : RdAt (w.alloc (.cells #[.string s, .int .i64 0] 147)) w.heap.size s 0 := ⟨blk_new _ _⟩
    have hE := Lib.hid (expr_ok s hs s.size 0 (by omega) w.heap.size (3 * s.size + 3) _ hR (Nat.zero_le _) (by omega))
    have hb0 : Below w.heap.size w (w.alloc (.cells #[.string s, .int .i64 0] 147)) := (Below.refl _ _).alloc (Nat.le_refl _) _
    have Hb0 := Lib.hid hb0
    rw [if_neg hlong] at hres
    rw [if_neg hlong]
    unfold parseF at hres
    clear hR hb0
    cases he : exprF s (3 * s.size + 3) [] 0 with
    | none =>
      rw [he] at hres
      subst hres
      go_enter Tryz.func115, Tryz.ntmps115
      go_wp2_with fail
      refine (part_none hE.out he).mono ?_
      rintro e w2 ⟨rfl, k2, hk2, hR2, hK2⟩
      have hb2 := Lib.hid (Hb0.out.trans (hK2.out.below (by simp)))
      go_wp2_with fail
      go_ret2
      exact ⟨rfl, hb2.out⟩
    | some q =>
      obtain ⟨t, k1⟩ := q
      rw [he] at hres
      have hk1s := ((pfacts s (3 * s.size + 3)).e [] 0 t k1 (Nat.zero_le _) he).2.1
      have Hres : Hid (res = if k1 < s.size then none else some t) := hres
      clear hres
      go_enter Tryz.func115, Tryz.ntmps115
      go_wp2_with fail
      refine (part_some hE.out he).mono ?_
      rintro e w2 ⟨v, rfl, hP2, hR2, hK2⟩
      have c1 : w2.cell? ⟨w.heap.size, 1, none⟩ = some (.int .i64 k1) := blk_cell hR2.out.blk 1
      have hb2 := Lib.hid (Hb0.out.trans (hK2.out.below (by simp)))
      have hz2 := hK2.out.size
      obtain ⟨ty, x, rfl⟩ := hP2.out.form
      have hsz := hb2.out.size
      clear hK2 hE he
      by_cases hk : k1 < s.size
      · have hres := Hres.out
        rw [if_pos hk] at hres
        subst hres
        have hki : (k1 : Int) < (s.size : Int) := by omega
        go_wp2_with fail
        go_ret2
        exact ⟨rfl, hb2.out⟩
      · have hres := Hres.out
        rw [if_neg hk] at hres
        subst hres
        have hki : ¬ (k1 : Int) < (s.size : Int) := by omega
        have hP3 : Hid (PartAt (w2.alloc (.cells #[.iface ty x] 153)) (Fresh w (w2.alloc (.cells #[.iface ty x] 153))) (.iface ty x) t) :=
          hP2.out.move (fun g hg => ⟨⟨by have := hg.1; simp at this; omega, by have := hg.2; simp; omega⟩, by first | exact heap_alloc_old w2 _ hg.2 | exact heap_alloc_old w2 _ g hg.2⟩)
        go_wp2_with fail
        go_ret2
        exact ⟨⟨w2.heap.size, _, rfl, blk_new _ _, hsz, hP3.out⟩, hb2.out.alloc hsz _⟩
end
end Go.Proofs.YtghlodpbbghcoaaGreatDoor.Rx
