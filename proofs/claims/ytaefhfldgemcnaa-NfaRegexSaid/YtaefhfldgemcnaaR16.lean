/- The law NfaRegex, walked. -/
import Derived.Test.YtaefhfldgemcnaaR15
import Derived.Deep.RegionWith
import Derived.Deep.RegionHeld3
namespace Go.Proofs.Ytaefhfldgemcnaa
open Go.RowKit

def fewB (s : ByteArray) : ByteArray := if 10 < s.size then s.extract 0 10 else s
theorem fewB_size (s : ByteArray) : (fewB s).size ≤ 10 := by
  unfold fewB
  split
  · simp; omega
  · omega
set_option maxHeartbeats 400000 in
theorem few_is (s : ByteArray) (w : World) (hs : s.size ≤ 9223372036854775807) :
    Calls Try.prog 18 #[.string s] w fun e w' => e = .returned (.string (fewB s)) ∧ w = w' := by
  by_cases h : 10 < s.size
  · have h' : (10 : Int) < (s.size : Int) := by omega
    have hf : fewB s = s.extract 0 10 := by unfold fewB; rw [if_pos h]
    rw [hf]
    go_enter Try.func18, Try.ntmps18
    go_wp2_with fail
    go_ret
    exact ⟨rfl, rfl⟩
  · have h' : ¬ (10 : Int) < (s.size : Int) := by omega
    have hf : fewB s = s := by unfold fewB; rw [if_neg h]
    rw [hf]
    go_enter Try.func18, Try.ntmps18
    go_wp2_with fail
    go_ret
    exact ⟨rfl, rfl⟩

def RLPost (w : World) (e : Ending) (w' : World) : Prop := e = .returned (.bool true) ∧ Below w.heap.size w w'
def RAcc (n : Net) (t : ByteArray) (w : World) (e : Ending) (w' : World) : Prop := e = .returned (.bool (accB n t.data.toList)) ∧ Below w.heap.size w w'

set_option maxRecDepth 8192 in
set_option maxHeartbeats 6400000 in
theorem nfaRegex_any (s t : ByteArray) (w : World) (hs : s.size ≤ 9223372036854775807) (ht : t.size ≤ 9223372036854775807) :
    Calls Try.prog 13 #[.string s, .string t] w (RLPost w) := by
  go_enter Try.func13, Try.ntmps13
  go_upto_if 10 with fail
  go_cut [0] (fun s0 wx => ∃ s' : ByteArray, s0 = .string s' ∧ s'.size ≤ 30 ∧ wx = w)
  case first =>
    by_cases h : 30 < s.size
    · have h' : (30 : Int) < (s.size : Int) := by omega
      go_wp2_with fail
      go_meet
      exact ⟨s.extract 0 30, rfl, by simp; omega, rfl⟩
    · have h' : ¬ (30 : Int) < (s.size : Int) := by omega
      go_wp2_with fail
      go_meet
      exact ⟨s, rfl, by omega, rfl⟩
  case rest =>
  obtain ⟨s', rfl, hs', rfl⟩ := hcut
  obtain ⟨w, rfl⟩ : ∃ w : World, w = wc := ⟨_, rfl⟩
  have HP := Lib.hid (parse_any s' w (by omega))
  cases hp : parseR s' with
  | none =>
    unfold ParsePost at HP
    rw [hp, if_neg (by omega)] at HP
    go_wp2_with fail
    refine HP.out.mono ?_
    rintro e w1 ⟨he, hb1⟩
    have he' : e = .returned (.tuple #[.pointer none, .int .i64 2]) := he
    subst he'
    have Hb1 := Lib.hid hb1
    clear hb1 he
    go_wp2_with fail
    refine (lives_any _).mono ?_
    rintro e w2 ⟨rfl, hb2⟩
    have Hb2 := Lib.hid (Hb1.out.trans (hb2.mono Hb1.out.size))
    clear hb2
    go_wp2_with fail
    go_ret
    exact ⟨rfl, Hb2.out⟩
  | some tr =>
    have hts : tr.size ≤ 92 := by
      unfold parseR at hp
      rw [if_neg (by omega)] at hp
      have := parseF_size hp
      omega
    unfold ParsePost at HP
    rw [hp] at HP
    go_wp2_with fail
    refine HP.out.mono ?_
    rintro e w1 ⟨⟨g, v, rfl, hg, hgw, hpt⟩, hb1⟩
    obtain ⟨ty, u, rfl⟩ := hpt.form
    have hpt1 : PartAt w1 (· < w1.heap.size) (.iface ty u) tr := hpt.move (fun g h => ⟨h.2, rfl⟩)
    have Hg := Lib.hid hg
    have Hpt := Lib.hid hpt1
    have Hb1 := Lib.hid hb1
    have HN := Lib.hid (net_any g ty u tr w1 hg hpt1 (by omega))
    have hf := netT_facts tr
    obtain ⟨st, hst⟩ : ∃ st, (netT tr).1 = st := ⟨_, rfl⟩
    obtain ⟨es, hes⟩ : ∃ es, (netT tr).2 = es := ⟨_, rfl⟩
    have HNet : Hid (netN tr = ⟨(st : Int), 0, 1, es⟩) := by show _ = _; unfold netN; rw [hst, hes]
    have Hst := Lib.hid hst
    unfold NetGot at HN
    rw [hst, hes] at hf HN
    obtain ⟨h2, hst2, _, hel⟩ := hf
    have hesl : es.length ≤ 95000 := by omega
    have hstl : st ≤ 2001 := by omega
    clear hst hes hpt hg hel hst2 hp HP hb1 hpt1
    go_wp2_with fail
    refine HN.out.mono ?_
    rintro e w2 ⟨⟨A, c, rfl, hE⟩, hb2⟩
    have hE3 : EdgesAt (w2.alloc (.cells #[.int .i64 st, .int .i64 0, .int .i64 1, .slice A es.length c] 24)) (w2.alloc (.cells #[.int .i64 st, .int .i64 0, .int .i64 1, .slice A es.length c] 24)).heap.size A es := (hE.alloc (Nat.le_refl _) _).more (by simp)
    have hM := Lib.hid (may_any ⟨(st : Int), 0, 1, es⟩ A c (w2.alloc (.cells #[.int .i64 st, .int .i64 0, .int .i64 1, .slice A es.length c] 24)) (Nat.le_trans hesl (by decide)) hE3)
    have hbx3 : (w2.alloc (.cells #[.int .i64 st, .int .i64 0, .int .i64 1, .slice A es.length c] 24)).heap[w2.heap.size]? = some (.cells #[.int .i64 st, .int .i64 0, .int .i64 1, .slice A es.length c] 24 (0, 0)) := blk_new _ _
    have hb13 : Below w1.heap.size w1 (w2.alloc (.cells #[.int .i64 st, .int .i64 0, .int .i64 1, .slice A es.length c] 24)) := hb2.alloc hb2.size _
    have hz3 : (w2.alloc (.cells #[.int .i64 st, .int .i64 0, .int .i64 1, .slice A es.length c] 24)).heap.size = w2.heap.size + 1 := by simp
    have hz2 := hb2.size
    have Hbx3 := Lib.hid hbx3
    have Hb13 := Lib.hid hb13
    have HE3 := Lib.hid hE3
    clear hE hb2 hE3 hbx3 hb13 HN
    go_wp2_with fail
    refine hM.out.mono ?_
    rintro e w4 ⟨rfl, hb4⟩
    have hb4' := hb4
    rw [hz3] at hb4'
    have hbx4 := blk_below Hbx3.out hb4' (Nat.lt_succ_self _)
    have hE4 : EdgesAt w4 w4.heap.size A es := (HE3.out.below hb4).more hb4.size
    have hb14 : Below w1.heap.size w1 w4 := Hb13.out.trans (hb4'.mono (by omega))
    have m0 : w4.cell? ⟨w2.heap.size, 0, none⟩ = some (.int .i64 st) := blk_cell hbx4 0
    have m1 : w4.cell? ⟨w2.heap.size, 1, none⟩ = some (.int .i64 0) := blk_cell hbx4 1
    have m2 : w4.cell? ⟨w2.heap.size, 2, none⟩ = some (.int .i64 1) := blk_cell hbx4 2
    have m3 : w4.cell? ⟨w2.heap.size, 3, none⟩ = some (.slice A es.length c) := blk_cell hbx4 3
    have hbl := blk_lt hbx4
    have HE4 := Lib.hid hE4
    have Hb14 := Lib.hid hb14
    have Hbw := Lib.hid (Hb1.out.trans (hb14.mono Hb1.out.size))
    have hz14 := hb14.size
    have hzw := Hb1.out.size
    clear hb4 hb4' hbx4 hE4 hb14 Hbx3 HE3 Hb13 hM
    by_cases h500 : st ≤ 500
    · have hmv : mayV ⟨(st : Int), 0, 1, es⟩ = 0 := by
        refine mayV_yes ?_
        rw [← HNet.out]
        exact netN_may (by rw [Hst.out]; exact h500)
      rw [hmv]
      have Hmay : Hid ((⟨(st : Int), 0, 1, es⟩ : Net).may = true) := by
        show _ = _
        rw [← HNet.out]
        exact netN_may (by rw [Hst.out]; exact h500)
      have hfs := fewB_size t
      have HF := Lib.hid (fun (wx : World) => few_is t wx ht)
      have HA := Lib.hid (fun (wx : World) (hx : Below w4.heap.size w4 wx) => (show Calls Try.prog 19 #[.agg #[.int .i64 st, .int .i64 0, .int .i64 1, .slice A es.length c], .string (fewB t)] wx (RAcc ⟨(st : Int), 0, 1, es⟩ (fewB t) wx) from
        accepts_any ⟨(st : Int), 0, 1, es⟩ (fewB t) A c wx Hmay.out (Nat.le_trans hesl (by decide)) (by omega) ((HE4.out.below hx).more hx.size)))
      have HM := Lib.hid (fun (wx : World) (hx : Below w4.heap.size w4 wx) => (show Calls Try.prog 32 #[.pointer (some ⟨g, 0, none⟩), .string (fewB t)] wx (RAcc ⟨(st : Int), 0, 1, es⟩ (fewB t) wx) from by
        have h1 := Hb14.out.trans (hx.mono hz14)
        have := match_any g ty u tr (fewB t) wx (blk_below Hg.out h1 (blk_lt Hg.out)) (Hpt.out.move (fun x hx' => ⟨Nat.lt_of_lt_of_le hx' h1.size, h1.block x hx'⟩)) (by omega) (by omega)
        rw [HNet.out] at this
        exact this))
      clear hmv
      go_upto_region 9 with fail
      have hB := Lib.hid ((Below.refl w4.heap.size w4).drew)
      go_region_held3 (fun w' => w'.cell? ⟨w2.heap.size, 0, none⟩ = some (.int .i64 st) ∧ w'.cell? ⟨w2.heap.size, 1, none⟩ = some (.int .i64 0) ∧ w'.cell? ⟨w2.heap.size, 2, none⟩ = some (.int .i64 1) ∧ w'.cell? ⟨w2.heap.size, 3, none⟩ = some (.slice A es.length c))
        (exact ⟨(hB.out.cell (p := ⟨w2.heap.size, 0, none⟩) hbl).trans m0, (hB.out.cell (p := ⟨w2.heap.size, 1, none⟩) hbl).trans m1, (hB.out.cell (p := ⟨w2.heap.size, 2, none⟩) hbl).trans m2, (hB.out.cell (p := ⟨w2.heap.size, 3, none⟩) hbl).trans m3⟩)
        (first
          | (go_at_call 18; refine (HF.out _).mono ?_; rintro e w' ⟨rfl, rfl⟩)
          | (go_at_call 19; refine (HA.out _ hB.out).mono ?_; rintro e w' ⟨rfl, hb'⟩; have hB := Lib.hid (hB.out.trans (hb'.mono hB.out.size)); clear hb')
          | (go_at_call 32; refine (HM.out _ hB.out).mono ?_; rintro e w' ⟨rfl, hb'⟩; have hB := Lib.hid (hB.out.trans (hb'.mono hB.out.size)); clear hb')
          | (go_at_call 17; refine (lives_any _).mono ?_; rintro e w' ⟨rfl, hb'⟩; have hB := Lib.hid (hB.out.trans (hb'.mono hB.out.size)); clear hb'))
      all_goals go_wp2_with fail
      all_goals go_ret
      all_goals exact ⟨by simp, Hbw.out.trans (hB.out.mono (by omega))⟩
    · have hmv : mayV ⟨(st : Int), 0, 1, es⟩ = 1 := by
        refine mayV_no ?_
        rw [← HNet.out]
        exact netN_not (by rw [Hst.out]; omega)
      rw [hmv]
      have h500i : (500 : Int) < (st : Int) := by omega
      clear hmv
      go_wp2_with fail
      refine (lives_any _).mono ?_
      rintro e w5 ⟨rfl, hb5⟩
      have Hb5 := Lib.hid (Hbw.out.trans (hb5.mono (by omega)))
      clear hb5
      go_wp2_with fail
      go_ret
      exact ⟨rfl, Hb5.out⟩
end Go.Proofs.Ytaefhfldgemcnaa
