/- Walks over nets, nineteenth part: the reference's Accepts. -/
import Derived.Test.YtaefhfldgemcnaaW15
import Derived.Test.YtaefhfldgemcnaaW4
import Derived.Deep.RegionHeld3
namespace Go.Proofs.Ytaefhfldgemcnaa
open Go.RowKit

noncomputable def runL (n : Net) (s : List UInt8) : List Int := rising n.st (Run n s (start0 n))
theorem mem_runL {n : Net} (hm : n.may = true) {s : List UInt8} {q : Int} : q ∈ runL n s ↔ Run n s (start0 n) q := by
  unfold runL
  rw [mem_rising]
  exact ⟨fun h => h.2.2, fun h => by have := Run_in hm h; exact ⟨this.1, this.2, h⟩⟩
theorem runL_nil {n : Net} (hm : n.may = true) : rising n.st (Eps Edge.none_ n.edges (S0 n.st [n.start])) = runL n [] := by
  have e : S0 n.st [n.start] = fun q => q = n.start := by
    obtain ⟨_, _, h3, _⟩ := may_iff.1 hm
    funext q
    simp only [S0, List.mem_singleton, eq_iff_iff]
    exact ⟨fun h => h.1, fun h => by subst h; exact ⟨rfl, h3⟩⟩
  rw [e]
  rfl
theorem runL_snoc {n : Net} (hm : n.may = true) (s : List UInt8) (c : UInt8) : rising n.st (Eps Edge.none_ n.edges (S0 n.st (rising n.st (StepP n.edges c.toNat (· ∈ runL n s))))) = runL n (s ++ [c]) := by
  have e1 : (· ∈ runL n s) = Run n s (start0 n) := by
    funext q
    exact propext (mem_runL hm)
  have e2 : S0 n.st (rising n.st (StepP n.edges c.toNat (Run n s (start0 n)))) = StepP n.edges c.toNat (Run n s (start0 n)) := by
    funext q
    simp only [S0, mem_rising, eq_iff_iff]
    refine ⟨fun h => h.1.2.2, fun h => ?_⟩
    obtain ⟨e, he, _, _, rfl⟩ := id h
    obtain ⟨_, _, _, _, h5⟩ := may_iff.1 hm
    have := (ok_iff.1 (h5 e he)).2
    exact ⟨⟨this.1, this.2, h⟩, this⟩
  rw [e1, e2]
  unfold runL
  rw [Run_snoc]
theorem runL_fin {n : Net} (hm : n.may = true) (s : List UInt8) : hasB (runL n s) n.fin = accB n s := by
  cases hB : hasB (runL n s) n.fin with
  | true => exact (accB_yes ((mem_runL hm).1 (hasB_iff.1 hB))).symm
  | false => exact (accB_no (fun h => by rw [hasB_yes ((mem_runL hm).2 h)] at hB; cases hB)).symm
theorem rising_len {n : Net} (hm : n.may = true) (P : Int → Prop) : (rising n.st P).length ≤ 500 := by
  obtain ⟨h1, h2, _⟩ := may_iff.1 hm
  obtain ⟨st, hst⟩ := Int.eq_ofNat_of_zero_le (show 0 ≤ n.st by omega)
  rw [hst]
  have := rising_length st P
  omega

/-- A call that hands back a rising list, its own. -/
def RPost (w : World) (l : List Int) (e : Ending) (w' : World) : Prop := (∃ A c, e = .returned (.slice A l.length c) ∧ IntsAt w' w'.heap.size A l) ∧ Below w.heap.size w w'
theorem refClosed_r (n : Net) (l r : List Int) (A A' : Option Addr) (c c' : Nat) (w : World) (hm : n.may = true) (hne : n.edges.length ≤ 1000000) (hn : l.length ≤ 1000000000)
    (hE : EdgesAt w w.heap.size A n.edges) (hl : IntsAt w w.heap.size A' l) (hr : rising n.st (Eps Edge.none_ n.edges (S0 n.st l)) = r) :
    Calls Try.prog 25 #[.agg #[.int .i64 n.st, .int .i64 n.start, .int .i64 n.fin, .slice A n.edges.length c], .slice A' l.length c'] w (RPost w r) := by
  refine (refClosed_any n l A A' c c' w hm hne hn hE hl).mono ?_
  rintro e w' ⟨⟨v, rfl, A2, c2, rfl, hown⟩, hb⟩
  rw [hr] at hown ⊢
  exact ⟨⟨A2, c2, rfl, OwnInts.ints hown⟩, hb⟩
theorem refStep_r (n : Net) (l : List Int) (cc : Int) (A A' : Option Addr) (c c' : Nat) (w : World) (hm : n.may = true) (hne : n.edges.length ≤ 1000000) (hn : l.length ≤ 1000000000)
    (hE : EdgesAt w w.heap.size A n.edges) (hl : IntsAt w w.heap.size A' l) :
    Calls Try.prog 27 #[.agg #[.int .i64 n.st, .int .i64 n.start, .int .i64 n.fin, .slice A n.edges.length c], .slice A' l.length c', .int .u8 cc] w (RPost w (rising n.st (StepP n.edges cc (· ∈ l)))) := by
  obtain ⟨h1, h2, _⟩ := may_iff.1 hm
  refine (refStep_any n l cc A A' c c' w (by omega) h2 hne hn hE hl).mono ?_
  rintro e w' ⟨⟨v, rfl, A2, c2, rfl, hown⟩, hb⟩
  exact ⟨⟨A2, c2, rfl, OwnInts.ints hown⟩, hb⟩

set_option maxHeartbeats 3200000 in
theorem refAccepts_any (n : Net) (s : ByteArray) (A : Option Addr) (c : Nat) (w : World) (hm : n.may = true) (hne : n.edges.length ≤ 1000000) (hs : s.size ≤ 1000000) (hE : EdgesAt w w.heap.size A n.edges) :
    Calls Try.prog 20 #[.agg #[.int .i64 n.st, .int .i64 n.start, .int .i64 n.fin, .slice A n.edges.length c], .string s] w fun e w' => e = .returned (.bool (accB n s.data.toList)) ∧ Below w.heap.size w w' := by
  have Hm := Lib.hid hm
  have hE1 := hE.alloc (Nat.le_refl _) (.cells #[.int .i64 n.st, .int .i64 n.start, .int .i64 n.fin, .slice A n.edges.length c] 24)
  have hI1 : IntsAt ((w.alloc (.cells #[.int .i64 n.st, .int .i64 n.start, .int .i64 n.fin, .slice A n.edges.length c] 24)).alloc (.cells #[.int .i64 n.start] 3)) (w.heap.size + 1 + 1) (some ⟨w.heap.size + 1, 0, none⟩) [n.start] := by
    intro j hj
    have : j = 0 := by simpa using hj
    subst this
    refine ⟨w.heap.size + 1, 0, rfl, by omega, ?_⟩
    rw [blk_cell (blk_new' (by simp))]
    rfl
  clear hm
  go_enter Try.func20, Try.ntmps20
  go_wp2_with fail
  refine (refClosed_r n [n.start] _ A _ c _ _ Hm.out hne (by simp) ((hE1.alloc (by simp) _).more (by simp; omega)) (hI1.more (by simp)) (runL_nil Hm.out)).mono ?_
  rintro e w1 ⟨⟨A1, c1, rfl, hI⟩, hb1⟩
  have hb1' : Below (w.heap.size + 1) (w.alloc (.cells #[.int .i64 n.st, .int .i64 n.start, .int .i64 n.fin, .slice A n.edges.length c] 24)) w1 :=
    ((Below.refl _ _).alloc (by simp) _).trans (hb1.mono (by simp))
  clear hE1 hI1 hb1
  go_wp2_with fail
  go_loopw [5, 6] (fun v i wr => ∃ (k : Nat) (l : List Int) (A2 : Option Addr) (c2 : Nat), i = .int .i64 k ∧ k ≤ s.size ∧ v = .slice A2 l.length c2 ∧ Hid (l = runL n (s.data.toList.take k)) ∧ IntsAt wr wr.heap.size A2 l ∧
    Below (w.heap.size + 1) (w.alloc (.cells #[.int .i64 n.st, .int .i64 n.start, .int .i64 n.fin, .slice A n.edges.length c] 24)) wr) (fun _ i _ => s.size - (intOf i).toNat)
  case atStart => exact ⟨0, _, A1, c1, rfl, Nat.zero_le _, rfl, rfl, hI, hb1'⟩
  case round =>
    clear hI hb1'
    obtain ⟨k, l, A2, c2, rfl, hk, rfl, hl, hI, hb⟩ := hrel
    obtain ⟨b0, b1, b2, b3, hsz⟩ := boxed4 hb
    have hEr : EdgesAt wr wr.heap.size A n.edges := (hE.below (unbox hb)).more (by omega)
    have hll : l.length ≤ 500 := by rw [hl.out]; exact rising_len Hm.out _
    by_cases hlt : k < s.size
    · obtain ⟨cb, hcb⟩ : ∃ cb : UInt8, s[k] = cb := ⟨_, rfl⟩
      have hgk : s.data.toList[k]? = some cb := by
        rw [← hcb, List.getElem?_eq_getElem (by simpa [Array.length_toList] using hlt)]
        rfl
      have Hgk := Lib.hid hgk
      clear hgk
      have HS := Lib.hid (refStep_r n l cb.toNat A A2 c c2 wr.drew Hm.out hne (by omega) hEr hI)
      have HC : Hid (∀ (A3 : Option Addr) (c3 : Nat) (wx : World), Below wr.heap.size wr.drew wx → IntsAt wx wx.heap.size A3 (rising n.st (StepP n.edges cb.toNat (· ∈ l))) →
          Calls Try.prog 25 #[.agg #[.int .i64 n.st, .int .i64 n.start, .int .i64 n.fin, .slice A n.edges.length c], .slice A3 (rising n.st (StepP n.edges cb.toNat (· ∈ l))).length c3] wx (RPost wx (runL n (s.data.toList.take (k + 1))))) := by
        intro A3 c3 wx hbx hx
        refine refClosed_r n _ _ A A3 c c3 wx Hm.out hne (Nat.le_trans (rising_len Hm.out _) (by omega)) ((show EdgesAt wr.drew wr.heap.size A n.edges from hEr).below hbx |>.more (show wr.heap.size ≤ _ from hbx.size)) hx ?_
        rw [take_snoc Hgk.out, hl.out]
        exact runL_snoc Hm.out _ _
      go_upto_region 5 with fail
      go_region_held3 (fun w' => w'.cell? ⟨w.heap.size, 0, none⟩ = some (.int .i64 n.st) ∧ w'.cell? ⟨w.heap.size, 1, none⟩ = some (.int .i64 n.start) ∧ w'.cell? ⟨w.heap.size, 2, none⟩ = some (.int .i64 n.fin) ∧ w'.cell? ⟨w.heap.size, 3, none⟩ = some (.slice A n.edges.length c)) (first | exact ⟨b0, b1, b2, b3⟩ | exact ⟨b0', b1', b2', b3'⟩ | exact ⟨b0'', b1'', b2'', b3''⟩)
        (first
          | (go_at_call 27; refine HS.out.mono ?_; rintro e w' ⟨⟨A3, c3, rfl, hI3⟩, hb3⟩; have HI3 := Lib.hid hI3; have HB3 := Lib.hid hb3; clear hI3 hb3; have b0' := (HB3.out.cell (p := ⟨w.heap.size, 0, none⟩) hsz).trans b0; have b1' := (HB3.out.cell (p := ⟨w.heap.size, 1, none⟩) hsz).trans b1; have b2' := (HB3.out.cell (p := ⟨w.heap.size, 2, none⟩) hsz).trans b2; have b3' := (HB3.out.cell (p := ⟨w.heap.size, 3, none⟩) hsz).trans b3)
          | (go_at_call 25; refine (HC.out _ _ _ HB3.out HI3.out).mono ?_; rintro e w'' ⟨⟨A4, c4, rfl, hI4⟩, hb4⟩; have HI4 := Lib.hid hI4; have HB4 := Lib.hid (HB3.out.trans (hb4.mono HB3.out.size)); clear hI4 hb4; have b0'' := (HB4.out.cell (p := ⟨w.heap.size, 0, none⟩) hsz).trans b0; have b1'' := (HB4.out.cell (p := ⟨w.heap.size, 1, none⟩) hsz).trans b1; have b2'' := (HB4.out.cell (p := ⟨w.heap.size, 2, none⟩) hsz).trans b2; have b3'' := (HB4.out.cell (p := ⟨w.heap.size, 3, none⟩) hsz).trans b3))
      go_wp2_with fail
      go_roundw
      case rel => exact ⟨k + 1, _, A4, c4, by go_num, by omega, rfl, rfl, HI4.out, hb.drew.trans (HB4.out.mono (by show _ ≤ wr.heap.size; omega))⟩
      case measure => simp [intOf]; omega
    · have ht : s.data.toList.take k = s.data.toList := List.take_of_length_le (by simp [Array.length_toList]; have : s.data.size = s.size := rfl; omega)
      have hv : hasB l n.fin = accB n s.data.toList := by rw [hl.out, ht]; exact runL_fin Hm.out _
      clear ht
      have HH := Lib.hid (fun wx (hx : IntsAt wx wx.heap.size A2 l) => has_any l n.fin A2 c2 wx wx.heap.size (by omega) hx)
      rw [hv] at HH
      clear hv
      go_wp2_with fail
      refine (HH.out _ hI).mono ?_
      rintro e w' ⟨rfl, rfl⟩
      go_wp2_with fail
      go_ret
      exact ⟨rfl, unbox hb⟩
end Go.Proofs.Ytaefhfldgemcnaa
