/- Walks over expressions, fifth part: a class of signs. -/
import Derived.Test.YtaefhfldgemcnaaR4
import Derived.Deep.DeepCutAuto
namespace Go.Proofs.Ytaefhfldgemcnaa
open Go.RowKit

/-- What a reader's function of a part hands back. -/
def PartPost (b : Nat) (s : ByteArray) (r : Option (T × Nat)) (w : World) (e : Ending) (w' : World) : Prop :=
  (match r with
  | some (t, k') => (∃ v, e = .returned (.tuple #[v, .bool true]) ∧ PartAt w' (Fresh w w') v t) ∧ RdAt w' b s k'
  | none => e = .returned (.tuple #[.nilIface, .bool false]) ∧ ∃ k', k' ≤ s.size ∧ RdAt w' b s k') ∧ Keep b w w'
def rdK (w : World) (b : Nat) : Nat := match w.cell? ⟨b, 1, none⟩ with | some (.int _ n) => n.toNat | _ => 0
theorem RdAt.rdK {w : World} {b : Nat} {s : ByteArray} {k : Nat} (h : RdAt w b s k) : rdK w b = k := by
  have c1 : w.cell? ⟨b, 1, none⟩ = some (.int .i64 k) := blk_cell h.blk 1
  unfold Go.Proofs.Ytaefhfldgemcnaa.rdK
  rw [c1]
  simp
theorem RdAt.next {w : World} {b : Nat} {s : ByteArray} {k : Nat} (h : RdAt w b s k) : RdAt (w.setCell ⟨b, 1, none⟩ (.int .i64 ((k : Int) + 1))) b s (k + 1) :=
  ⟨(blk_set_self h.blk 1 _).trans (by simp)⟩
theorem RdAt.alloc {w : World} {b : Nat} {s : ByteArray} {k : Nat} (h : RdAt w b s k) (o : Obj) : RdAt (w.alloc o) b s k := ⟨blk_alloc h.blk o⟩
theorem RdAt.drewN {w : World} {b : Nat} {s : ByteArray} {k : Nat} (h : RdAt w b s k) (n : Nat) : RdAt (w.drewN n) b s k := ⟨h.blk⟩
theorem RdAt.setOther {w : World} {b g i : Nat} {s : ByteArray} {k : Nat} (h : RdAt w b s k) (hg : g ≠ b) (v : Value) : RdAt (w.setCell ⟨g, i, none⟩ v) b s k :=
  ⟨(Below.heap_setCell w ⟨g, i, none⟩ v b (Ne.symm hg)).trans h.blk⟩
theorem RdAt.below {w w' : World} {b C : Nat} {s : ByteArray} {k : Nat} (h : RdAt w b s k) (hb : Below C w w') (hC : b < C) : RdAt w' b s k := ⟨blk_below h.blk hb hC⟩
/-- What has been made since a is one's own: it may be changed. -/
theorem Keep.setNew {b : Nat} {a w : World} (h : Keep b a w) (g i : Nat) (hg : a.heap.size ≤ g) (v : Value) : Keep b a (w.setCell ⟨g, i, none⟩ v) :=
  ⟨h.os, h.tape, h.output, by simpa using h.size, fun x hx hxb => (Below.heap_setCell w ⟨g, i, none⟩ v x (by show x ≠ g; omega)).trans (h.block x hx hxb)⟩
theorem Keep.setCellsNew {b : Nat} {a w : World} (h : Keep b a w) (g : Nat) (hg : a.heap.size ≤ g) (vs : List Value) : ∀ o, Keep b a (w.setCells g o vs) := by
  induction vs generalizing w with
  | nil => intro o; exact h
  | cons v vs ih => intro o; exact ih (h.setNew g o hg v) (o + 1)

theorem classL_step {s : ByteArray} {f : Nat} {m : List Bool} {first : Bool} {k : Nat} (h : (first || !atL s k [93]) = true) (hf : 1 ≤ f) :
    classL s f m first k = match itemF s k m with | none => none | some (m', k') => classL s (f - 1) m' false k' := by
  obtain ⟨f', rfl⟩ : ∃ f', f = f' + 1 := ⟨f - 1, by omega⟩
  rw [classL, if_pos h]
  rfl
theorem classL_end {s : ByteArray} {f : Nat} {m : List Bool} {k : Nat} (h : atL s k [93] = true) (hf : 1 ≤ f) : classL s f m false k = some (m, k) := by
  obtain ⟨f', rfl⟩ : ∃ f', f = f' + 1 := ⟨f - 1, by omega⟩
  rw [classL, if_neg (by rw [h]; decide)]

theorem isS_form {c : UInt8} (h : isS c = true) : ∃ j : Nat, c.toNat = 32 + j ∧ j < 95 := by
  unfold isS at h
  simp only [Bool.and_eq_true, decide_eq_true_eq] at h
  exact ⟨c.toNat - 32, by omega, by omega⟩
theorem sign_none {b : Nat} {s n : ByteArray} {nl : List UInt8} (hn : n.data.toList = nl) {k : Nat} {w : World} (hr : RdAt w b s k) (hk : k ≤ s.size) (hs : s.size ≤ 1000) (h : signF s k nl = none) :
    Calls Try.prog 82 #[.pointer (some ⟨b, 0, none⟩), .string n] w fun e w' => e = .returned (.tuple #[.int .u8 0, .bool false]) ∧ ∃ k', k' ≤ s.size ∧ Hid (RdAt w' b s k') ∧ Hid (Keep b w w') := by
  refine (sign_any b s n nl hn k w hr hk hs).mono ?_
  rw [h]
  rintro e w' ⟨⟨rfl, k', h1, h2⟩, h3⟩
  exact ⟨rfl, k', h1, h2, h3⟩
theorem sign_some {b : Nat} {s n : ByteArray} {nl : List UInt8} (hn : n.data.toList = nl) {k : Nat} {w : World} (hr : RdAt w b s k) (hk : k ≤ s.size) (hs : s.size ≤ 1000) {c : UInt8} {k' j : Nat} (h : signF s k nl = some (c, k')) (hj : c.toNat = 32 + j) :
    Calls Try.prog 82 #[.pointer (some ⟨b, 0, none⟩), .string n] w fun e w' => e = .returned (.tuple #[.int .u8 (32 + (j : Int)), .bool true]) ∧ Hid (RdAt w' b s k') ∧ Hid (Keep b w w') := by
  refine (sign_any b s n nl hn k w hr hk hs).mono ?_
  rw [h]
  rintro e w' ⟨⟨rfl, h2⟩, h3⟩
  exact ⟨by rw [hj]; simp, h2, h3⟩

set_option maxRecDepth 8192 in
set_option maxHeartbeats 12800000 in
theorem class_any (b : Nat) (s : ByteArray) (k : Nat) (w : World) (hr : RdAt w b s k) (hk : k ≤ s.size) (hs : s.size ≤ 1000) :
    Calls Try.prog 81 #[.pointer (some ⟨b, 0, none⟩)] w (PartPost b s (classF s k) w) := by
  have hlb : b < w.heap.size := blk_lt hr.blk
  have Hr := Lib.hid hr
  obtain ⟨res, hres⟩ : ∃ res, res = classF s k := ⟨_, rfl⟩
  rw [← hres]
  have Hres := Lib.hid hres
  clear hres hr
  go_enter Try.func81, Try.ntmps81
  go_wp2_with fail
  refine (at_any b s _ k w Hr.out).mono ?_
  rintro e w1 ⟨rfl, m, rfl⟩
  rw [show (ByteArray.mk #[94]).data.toList = [94] from rfl]
  have hor : Hid (res = match classL s (s.size + 1) noneM true (class0 s k) with | none => none | some (m, k') => some (.set (if atL s k [94] then m.map (!·) else m), k' + 1)) := by
    show _ = _
    rw [Hres.out]
    rfl
  have hcl : Hid (class0 s k = if atL s k [94] then k + 1 else k) := rfl
  have hlt : Hid (atL s k [94] = true → k < s.size) := atL_lt
  clear Hres
  generalize atL s k [94] = oth at hor hcl hlt ⊢
  go_upto_if 13 with fail
  go_cut [] (fun wx => ∃ K0, Hid (K0 = class0 s k) ∧ K0 ≤ s.size ∧ Hid (RdAt wx b s K0) ∧ Hid (Keep b w wx))
  case first =>
    have c0 : w.cell? ⟨b, 0, none⟩ = some (.string s) := blk_cell Hr.out.blk 0
    have c1 : w.cell? ⟨b, 1, none⟩ = some (.int .i64 k) := blk_cell Hr.out.blk 1
    have cf : w.frozen? ⟨b, 1, none⟩ = false := blk_frozen Hr.out.blk 1
    cases oth with
    | true =>
      have hkl := hlt.out rfl
      go_wp2_with fail
      go_meet
      exact ⟨k + 1, by show _ = _; rw [hcl.out]; simp, by omega, (Hr.out.drewN m).next, ((Keep.refl b w).drewN m).set 1 _⟩
    | false =>
      go_wp2_with fail
      go_meet
      exact ⟨k, by show _ = _; rw [hcl.out]; simp, hk, Hr.out.drewN m, (Keep.refl b w).drewN m⟩
  case rest =>
  obtain ⟨K0, hK0e, hK0, HR, HK⟩ := hcut
  obtain ⟨W, rfl⟩ : ∃ W : World, W = wc := ⟨_, rfl⟩
  rw [← hK0e.out] at hor
  clear hK0e hcl hlt
  go_upto_region 5 with fail
  rw [zero96]
  have hz0 : W.heap.size < (W.alloc (.cells (bcells noneM) 96)).heap.size := by simp
  have hbW := blk_lt HR.out.blk
  have hgb : W.heap.size ≠ b := by omega
  have hwW := HK.out.size
  have G0 : Hid ((W.alloc (.cells (bcells noneM) 96)).heap[W.heap.size]? = some (.cells (bcells noneM) 96 (0, 0))) := blk_new _ _
  have HR0 := Lib.hid (HR.out.alloc (.cells (bcells noneM) 96))
  have HK1 := Lib.hid (HK.out.alloc (.cells (bcells noneM) 96))
  go_wp2_with fail
  obtain ⟨sg, hsg⟩ : ∃ sg, W.heap.size = sg := ⟨_, rfl⟩
  rw [hsg] at hz0 hgb hwW G0 ⊢
  clear HR HK hbW hsg
  generalize W.alloc _ = W1 at hz0 G0 HR0 HK1 ⊢
  go_loopw [6] (fun fi wr => ∃ (f K : Nat) (m : List Bool) (first : Bool), fi = .bool first ∧ Hid (classL s (s.size + 1) noneM true K0 = classL s f m first K) ∧ s.size + 1 ≤ f + K ∧ K ≤ s.size ∧ Hid (m.length = 95) ∧
      Hid (wr.heap[sg]? = some (.cells (bcells m) 96 (0, 0))) ∧ Hid (RdAt wr b s K) ∧ Hid (Keep b w wr)) (fun _ wr => s.size - rdK wr b)
  case atStart => exact ⟨s.size + 1, K0, noneM, true, rfl, rfl, by omega, hK0, noneM_length, G0, HR0, HK1⟩
  case round =>
    clear G0 HR0 HK1 hz0
    obtain ⟨f, K, m, first, rfl, htot, hf, hK, hm, hg, hR, hKp⟩ := hrel
    have hgl := blk_lt hg.out
    have hrk := Lib.hid hR.out.rdK
    go_upto_region 6 with fail
    go_cut [26] (fun s26 wx => s26 = .bool (first || !atL s K [93]) ∧ ∃ n, wx = wr.drewN n)
    case first =>
      cases first with
      | true =>
        go_wp2_with fail
        go_meet
        exact ⟨rfl, 0, rfl⟩
      | false =>
        go_wp2_with fail
        refine (at_any b s _ K wr hR.out).mono ?_
        rintro e w1 ⟨rfl, n1, rfl⟩
        go_wp2_with fail
        go_meet
        exact ⟨rfl, n1, rfl⟩
    case rest =>
    obtain ⟨rfl, n0, rfl⟩ := hcut
    by_cases hgo : (first || !atL s K [93]) = true
    · have hst := classL_step (m := m) hgo (show 1 ≤ f by omega)
      rw [← htot.out] at hst
      have Hst := Lib.hid hst
      clear hst
      rw [hgo]
      clear hgo htot
      cases hsg : signF s K spC with
      | none =>
        have hr2 : res = none := by
          have e1 : itemF s K m = none := by unfold itemF; rw [hsg]
          have := Hst.out
          rw [e1] at this
          rw [hor.out, this]
        subst hr2
        go_wp2_with fail
        refine (sign_none rfl (hR.out.drewN _) hK hs hsg).mono ?_
        rintro e w1 ⟨rfl, k1, hk1, hR1, hK1⟩
        go_wp2_with fail
        go_ret2
        exact ⟨⟨rfl, k1, hk1, hR1.out⟩, (hKp.out.drewN _).trans hK1.out⟩
      | some p =>
        obtain ⟨c, K1⟩ := p
        have hsf := signF_some hsg
        obtain ⟨cj, hcj, hcj95⟩ := isS_form hsf.2.2
        have Hcj := Lib.hid hcj
        clear hcj
        go_wp2_with fail
        refine (sign_some rfl (hR.out.drewN _) hK hs hsg Hcj.out).mono ?_
        rintro e w1 ⟨rfl, hR1, hK1⟩
        have Hsg := Lib.hid hsg
        have hKK1 : K < K1 := hsf.1
        have hK1s : K1 ≤ s.size := hsf.2.1
        clear hsg hsf
        have hg1 : Hid (w1.heap[sg]? = some (.cells (bcells m) 96 (0, 0))) := (hK1.out.block sg (by simpa using hgl) hgb).trans hg.out
        have hKp1 := Lib.hid ((hKp.out.drewN _).trans hK1.out)
        go_wp2_with fail
        refine (at_any b s _ K1 w1 hR1.out).mono ?_
        rintro e w2 ⟨rfl, n2, rfl⟩
        rw [show (ByteArray.mk #[45]).data.toList = [45] from rfl]
        go_upto_if 36 with fail
        go_cut [9] (fun s9 wx => ∃ (dj K2 : Nat), s9 = .int .u8 (32 + (dj : Int)) ∧ cj ≤ dj ∧ dj < 95 ∧ Hid (itemF s K m = some (rangeM m (32 + cj) (dj + 1 - cj), K2)) ∧ K < K2 ∧ K2 ≤ s.size ∧ Hid (RdAt wx b s K2) ∧ Hid (wx.heap[sg]? = some (.cells (bcells m) 96 (0, 0))) ∧ Hid (Keep b w wx))
        case first =>
          cases hd : atL s K1 [45] with
          | false =>
            go_wp2_with fail
            go_meet
            refine ⟨cj, K1, rfl, Nat.le_refl _, hcj95, ?_, hKK1, hK1s, hR1.out.drewN _, hg1, hKp1.out.drewN _⟩
            show _ = _
            unfold itemF
            rw [Hsg.out]
            simp only []
            rw [hd, Hcj.out, Nat.add_sub_cancel_left]
            rfl
          | true =>
            have hK1l := atL_lt hd
            have c1 : w1.cell? ⟨b, 1, none⟩ = some (.int .i64 K1) := blk_cell hR1.out.blk 1
            have cf : w1.frozen? ⟨b, 1, none⟩ = false := blk_frozen hR1.out.blk 1
            cases hsd : signF s (K1 + 1) spC with
            | none =>
              have hr2 : res = none := by
                have e1 : itemF s K m = none := by
                  unfold itemF
                  rw [Hsg.out]
                  simp only []
                  rw [hd, if_pos rfl, hsd]
                have := Hst.out
                rw [e1] at this
                rw [hor.out, this]
              subst hr2
              go_wp2_with fail
              refine (sign_none rfl (hR1.out.drewN _).next (by omega) hs hsd).mono ?_
              rintro e w3 ⟨rfl, k3, hk3, hR3, hK3⟩
              go_wp2_with fail
              go_ret2
              exact ⟨⟨rfl, k3, hk3, hR3.out⟩, ((hKp1.out.drewN _).set 1 _).trans hK3.out⟩
            | some p =>
              obtain ⟨d, K2⟩ := p
              have hsf := signF_some hsd
              obtain ⟨dj, hdj, hdj95⟩ := isS_form hsf.2.2
              have Hdj := Lib.hid hdj
              clear hdj
              have hK12 : K1 + 1 < K2 := hsf.1
              have hK2s : K2 ≤ s.size := hsf.2.1
              go_wp2_with fail
              refine (sign_some rfl (hR1.out.drewN _).next (by omega) hs hsd Hdj.out).mono ?_
              rintro e w3 ⟨rfl, hR3, hK3⟩
              have Hsd := Lib.hid hsd
              clear hsd hsf c1 cf
              by_cases hdc : dj < cj
              · have hr2 : res = none := by
                  have e1 : itemF s K m = none := by
                    unfold itemF
                    rw [Hsg.out]
                    simp only []
                    rw [hd, if_pos rfl, Hsd.out]
                    simp only []
                    rw [if_pos (by rw [Hdj.out, Hcj.out]; omega)]
                  have := Hst.out
                  rw [e1] at this
                  rw [hor.out, this]
                subst hr2
                have hdci : (32 + (dj : Int)) < 32 + (cj : Int) := by omega
                go_wp2_with fail
                go_ret2
                exact ⟨⟨rfl, K2, hK2s, hR3.out⟩, ((hKp1.out.drewN _).set 1 _).trans hK3.out⟩
              · have hdci : ¬ (32 + (dj : Int)) < 32 + (cj : Int) := by omega
                go_wp2_with fail
                go_meet
                refine ⟨dj, K2, rfl, by omega, hdj95, ?_, by omega, hK2s, hR3, ?_, ((hKp1.out.drewN _).set 1 _).trans hK3.out⟩
                · show _ = _
                  unfold itemF
                  rw [Hsg.out]
                  simp only []
                  rw [hd, if_pos rfl, Hsd.out]
                  simp only []
                  rw [if_neg (by rw [Hdj.out, Hcj.out]; omega), Hcj.out, Hdj.out, show 32 + dj + 1 - (32 + cj) = dj + 1 - cj from by omega]
                · show _ = _
                  rw [hK3.out.block sg (by have := hKp1.out.size; have := hK1.out.size; simp at *; omega) hgb]
                  exact blk_set hg1.out (by simpa using hgb) _
        case rest =>
        obtain ⟨dj, K2, rfl, hcd, hdj95, hit, hK2, hK2s, hR4, hg4, hKp4⟩ := hcut
        obtain ⟨w4, rfl⟩ : ∃ w4 : World, w4 = wc := ⟨_, rfl⟩
        rw [hit.out] at Hst
        clear hg1 hR1 hKp1 hK1 hit Hsg
        go_wp2_with fail
        obtain ⟨wo, rfl⟩ : ∃ wo : World, wo = wr := ⟨_, rfl⟩
        go_loopw [10] (fun x wi => ∃ (y : Nat), x = .int .u8 (32 + (y : Int)) ∧ cj ≤ y ∧ y ≤ dj + 1 ∧ Hid (RdAt wi b s K2) ∧ Hid (wi.heap[sg]? = some (.cells (bcells (rangeM m (32 + cj) (y - cj))) 96 (0, 0))) ∧ Hid (Keep b w wi)) (fun x _ => 200 - (intOf x).toNat)
        case atStart => exact ⟨cj, rfl, Nat.le_refl _, by omega, hR4, by rw [Nat.sub_self]; exact hg4, hKp4⟩
        case round =>
          clear hR4 hg4 hKp4
          obtain ⟨y, rfl, hy1, hy2, hR5, hg5, hKp5⟩ := hrel
          have hrl : (rangeM m (32 + cj) (y - cj)).length = 95 := rangeM_length hm.out _ _
          by_cases hyd : y ≤ dj
          · have hydi : (32 + (y : Int)) ≤ 32 + (dj : Int) := by omega
            have hy95 : y < 95 := by omega
            have c1 : wr.cell? ⟨sg, y, none⟩ = some (.bool ((rangeM m (32 + cj) (y - cj)).getD y false)) := (blk_cell hg5.out y).trans (bcells_get (by omega))
            have cf := blk_frozen hg5.out y
            go_wp2_with fail
            go_roundw
            case rel =>
              refine ⟨y + 1, by go_num, by omega, by omega, hR5.out.setOther hgb _, ?_, hKp5.out.setNew sg y hwW _⟩
              show _ = _
              have h2 := blk_set_self hg5.out y (.bool true)
              rw [bcells_set] at h2
              rw [h2, show y + 1 - cj = (y - cj) + 1 from by omega]
              show _ = some (Obj.cells (bcells ((rangeM m (32 + cj) (y - cj)).set (32 + cj - 32 + (y - cj)) true)) 96 (0, 0))
              rw [show 32 + cj - 32 + (y - cj) = y from by omega]
            case measure => simp [intOf]; omega
          · have hydi : ¬ (32 + (y : Int)) ≤ 32 + (dj : Int) := by omega
            have hye : y = dj + 1 := by omega
            subst hye
            go_wp2_with fail
            go_roundw
            case rel =>
              refine ⟨f - 1, K2, rangeM m (32 + cj) (dj + 1 - cj), false, rfl, Hst, by omega, hK2s, rangeM_length hm.out _ _, hg5, hR5, hKp5⟩
            case measure => rw [hrk.out, hR5.out.rdK]; omega
    · have hgo2 : first = false ∧ atL s K [93] = true := by
        simpa using hgo
      obtain ⟨rfl, hat⟩ := hgo2
      have hend := classL_end (m := m) hat (show 1 ≤ f by omega)
      rw [← htot.out] at hend
      have hKl := atL_lt hat
      have hres : res = some (.set (if oth then m.map (!·) else m), K + 1) := by rw [hor.out, hend]
      clear hend hor htot hgo
      rw [hat]
      clear hat
      subst hres
      have c1 : wr.cell? ⟨b, 1, none⟩ = some (.int .i64 K) := blk_cell hR.out.blk 1
      have cf : wr.frozen? ⟨b, 1, none⟩ = false := blk_frozen hR.out.blk 1
      go_upto_region 22 with fail
      have hR2 := Lib.hid (hR.out.drewN n0).next
      have hK2 := Lib.hid ((hKp.out.drewN n0).set 1 (.int .i64 ((K : Int) + 1)))
      have hg2 : Hid (((wr.drewN n0).setCell ⟨b, 1, none⟩ (.int .i64 ((K : Int) + 1))).heap[sg]? = some (.cells (bcells m) 96 (0, 0))) := blk_set (w := wr.drewN n0) hg.out (by simpa using hgb) _
      clear c1 cf hg hR hKp hrk hgl
      generalize World.setCell (wr.drewN n0) _ _ = W2 at hR2 hK2 hg2 ⊢
      have hgl := blk_lt hg2.out
      cases oth with
      | false =>
        go_wp2_with (first | ((with_reducible show wpList _ _ _ (⟨some 75, _, _, _, _, _⟩ :: _) _ _); refine wpList_load_row rfl 96 _ rfl sg rfl 96 _ (0, 0) _ hg2.out Try.underlying96 rfl (info96m hm.out) ?_))
        go_ret2
        exact ⟨⟨⟨_, rfl, .set hm.out⟩, hR2.out⟩, hK2.out⟩
      | true =>
        have hm2 : Hid ((m.map (!·)).length = 95) := by show _ = _; rw [List.length_map]; exact hm.out
        have HO := Lib.hid (other_any m W2 hm.out)
        go_wp2_with (first | ((with_reducible show wpList _ _ _ (⟨some 73, _, _, _, _, _⟩ :: _) _ _); refine wpList_load_row rfl 96 _ rfl sg rfl 96 _ (0, 0) _ hg2.out Try.underlying96 rfl (info96m hm.out) ?_))
        refine HO.out.mono ?_
        rintro e w5 ⟨rfl, hb5⟩
        have hg5 : Hid (w5.heap[sg]? = some (.cells (bcells m) 96 (0, 0))) := blk_below hg2.out hb5 hgl
        have Hth := Lib.hid (set_there hm2.out hm.out hg5.out)
        have hg6 := Lib.hid (set_stored hm2.out hm.out hg5.out)
        have hR6 : Hid (RdAt (w5.setCells sg 0 (bcells (m.map (!·))).toList) b s (K + 1)) := ⟨(heap_setCells_other (Ne.symm hgb) _ _ _).trans (hR2.out.below hb5 (blk_lt hR2.out.blk)).blk⟩
        have hK6 : Hid (Keep b w (w5.setCells sg 0 (bcells (m.map (!·))).toList)) := (hK2.out.trans (Keep.of_below hb5)).setCellsNew sg hwW _ 0
        go_wp2_with (first | ((with_reducible show wpList _ _ _ (⟨none, _, _, _, _, _⟩ :: _) _ _); refine wpList_store_mid rfl 96 _ _ rfl sg 0 _ rfl rfl Hth.out (info96m hm2.out) (bcells_one _) ?_) | ((with_reducible show wpList _ _ _ (⟨some 75, _, _, _, _, _⟩ :: _) _ _); refine wpList_load_row rfl 96 _ rfl sg rfl 96 _ (0, 0) _ hg6.out Try.underlying96 rfl (info96m hm2.out) ?_))
        go_ret2
        exact ⟨⟨⟨_, rfl, .set hm2.out⟩, hR6.out⟩, hK6.out⟩
end Go.Proofs.Ytaefhfldgemcnaa
