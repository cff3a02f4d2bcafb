/- The law NfaAlone, walked. -/
import Derived.Test.YtaefhfldgemcnaaW16
namespace Go.Proofs.Ytaefhfldgemcnaa
open Go.RowKit

def FewPost (w : World) (e : Ending) (w' : World) : Prop := (∃ t : ByteArray, e = .returned (.string t) ∧ t.size ≤ 10) ∧ w = w'
def AccPost (m : Net) (t : ByteArray) (w : World) (e : Ending) (w' : World) : Prop := e = .returned (.bool (accB m t.data.toList)) ∧ Below w.heap.size w w'
theorem may_alone {n : Net} (h : n.may = true) : (Net.mk n.st n.start n.fin []).may = true := by
  obtain ⟨h1, h2, h3, h4, _⟩ := may_iff.1 h
  exact may_iff.2 ⟨h1, h2, h3, h4, by simp⟩
theorem signs_alone (n : Net) (w : World) (hm : n.may = true) :
    Calls Try.prog 21 #[.agg #[.int .i64 n.st, .int .i64 n.start, .int .i64 n.fin, .slice none 0 0]] w fun e w' => (∃ A c, e = .returned (.slice A 1 c)) ∧ Below w.heap.size w w' := by
  refine (signs_any ⟨n.st, n.start, n.fin, []⟩ none 0 w (may_alone hm) (by simp) CellsAt.nil).mono ?_
  rintro e w' ⟨⟨v, rfl, A', c', rfl, _⟩, hb⟩
  have hs : signsL (Net.mk n.st n.start n.fin []).edges = [32] := signsL_nil
  rw [hs]
  exact ⟨⟨A', c', rfl⟩, hb⟩
theorem acc_alone_yes {t : ByteArray} {st a b : Int} (h : t.toList = []) (h2 : a = b) : accB ⟨st, a, b, []⟩ t.data.toList = true := by
  refine accB_yes ((AccP_alone rfl).2 ⟨?_, h2⟩)
  rw [← ByteArray.toList_eq]
  exact h
theorem acc_alone_no {t : ByteArray} {st a b : Int} (h : ¬ (t.toList = [] ∧ a = b)) : accB ⟨st, a, b, []⟩ t.data.toList = false := by
  refine accB_no (fun h2 => h ?_)
  have := (AccP_alone rfl).1 h2
  rw [← ByteArray.toList_eq] at this
  exact this
def SignsPost (w : World) (e : Ending) (w' : World) : Prop := (∃ A c, e = .returned (.slice A 1 c)) ∧ Below w.heap.size w w'

set_option maxHeartbeats 3200000 in
theorem nfaAlone_any (st start fin : Int) (es : List Edge) (A : Option Addr) (c : Nat) (s : ByteArray) (w : World) (h1 : I64 st) (h2 : I64 start) (h3 : I64 fin) (h4 : ∀ e ∈ es, I64 e.frm ∧ I64 e.to)
    (hs : s.size ≤ 9223372036854775807) (hE : EdgesAt w w.heap.size A es) :
    Calls Try.prog 5 #[.agg #[.int .i64 st, .int .i64 start, .int .i64 fin, .slice A es.length c], .string s] w fun e w' => e = .returned (.bool true) ∧ Below w.heap.size w w' := by
  have HG := Lib.hid (fun (wx : World) (hx : EdgesAt wx wx.heap.size A es) => (show Calls Try.prog 16 #[.agg #[.int .i64 st, .int .i64 start, .int .i64 fin, .slice A es.length c]] wx (GoodPost ⟨st, start, fin, es⟩ wx) from good_any ⟨st, start, fin, es⟩ A c wx h1 h2 h3 h4 hx))
  have HF := Lib.hid (fun (wx : World) => (show Calls Try.prog 18 #[.string s] wx (FewPost wx) from few_any s wx hs))
  clear h1 h2 h3 h4 hs
  have hE1 := (hE.alloc (Nat.le_refl _) (.cells #[.int .i64 st, .int .i64 start, .int .i64 fin, .slice A es.length c] 24)).more (B' := (w.alloc (.cells #[.int .i64 st, .int .i64 start, .int .i64 fin, .slice A es.length c] 24)).heap.size) (by simp)
  have hgm := good_may ⟨st, start, fin, es⟩
  go_enter Try.func5, Try.ntmps5
  go_wp2_with fail
  refine (HG.out _ hE1).mono ?_
  rintro e w2 ⟨hg, hb2⟩
  generalize good ⟨st, start, fin, es⟩ = g at hgm hg
  obtain ⟨A5, c5, rfl, _⟩ := hg
  simp only [World.size_alloc] at hb2
  have hbw : Below w.heap.size w w2 := ((Below.refl _ _).alloc (Nat.le_refl _) _).trans (hb2.mono (by omega))
  have hz := hbw.size
  have Hgm := Lib.hid hgm
  clear hgm hb2 hE1
  go_wp2_with fail
  refine (HF.out _).mono ?_
  rintro e w3 ⟨⟨t, rfl, ht⟩, rfl⟩
  have HA : Hid (∀ wx : World, Calls Try.prog 19 #[.agg #[.int .i64 g.st, .int .i64 g.start, .int .i64 g.fin, .slice none 0 0], .string t] wx (AccPost ⟨g.st, g.start, g.fin, []⟩ t wx)) :=
    fun wx => accepts_any ⟨g.st, g.start, g.fin, []⟩ t none 0 wx (may_alone Hgm.out) (by simp) (by omega) CellsAt.nil
  have HS : Hid (∀ wx : World, Calls Try.prog 21 #[.agg #[.int .i64 g.st, .int .i64 g.start, .int .i64 g.fin, .slice none 0 0]] wx (SignsPost wx)) := fun wx => signs_alone g wx Hgm.out
  go_wp2_with fail
  refine (HA.out _).mono ?_
  rintro e w4 ⟨rfl, hb4⟩
  have hz4 := hb4.size
  simp only [World.size_alloc] at hz4
  have hbx := blk_below (blk_new w2 (.cells #[.int .i64 g.st, .int .i64 g.start, .int .i64 g.fin, .slice none 0 0] 24)) hb4 (by simp)
  have b0 : w4.cell? ⟨w2.heap.size, 0, none⟩ = some (.int .i64 g.st) := blk_cell hbx 0
  have b1 : w4.cell? ⟨w2.heap.size, 1, none⟩ = some (.int .i64 g.start) := blk_cell hbx 1
  have b2 : w4.cell? ⟨w2.heap.size, 2, none⟩ = some (.int .i64 g.fin) := blk_cell hbx 2
  have b3 : w4.cell? ⟨w2.heap.size, 3, none⟩ = some (.slice none 0 0) := blk_cell hbx 3
  have hbw4 : Below w.heap.size w w4 := (hbw.alloc (by omega) _).trans (hb4.mono (by simp; omega))
  have hzw := hbw4.size
  clear hbx hbw hb4
  by_cases hte : t.toList = []
  · by_cases hsf : g.start = g.fin
    · rw [acc_alone_yes hte hsf]
      have hsb : (g.start == g.fin) = true := beq_iff_eq.2 hsf
      clear hsf
      go_wp2_with fail
      refine (HS.out _).mono ?_
      rintro e w5 ⟨⟨A6, c6, rfl⟩, hb5⟩
      have hz5 := hb5.size
      go_wp2_with fail
      refine (lives_any w5).mono ?_
      rintro e w6 ⟨rfl, hb6⟩
      go_wp2_with fail
      go_ret
      exact ⟨rfl, hbw4.trans ((hb5.mono (by omega)).trans (hb6.mono (by omega)))⟩
    · rw [acc_alone_no (fun h => hsf h.2)]
      have hsb : (g.start == g.fin) = false := beq_eq_false_iff_ne.2 hsf
      clear hsf
      go_wp2_with fail
      refine (HS.out _).mono ?_
      rintro e w5 ⟨⟨A6, c6, rfl⟩, hb5⟩
      have hz5 := hb5.size
      go_wp2_with fail
      refine (lives_any w5).mono ?_
      rintro e w6 ⟨rfl, hb6⟩
      go_wp2_with fail
      go_ret
      exact ⟨rfl, hbw4.trans ((hb5.mono (by omega)).trans (hb6.mono (by omega)))⟩
  · rw [acc_alone_no (fun h => hte h.1)]
    go_wp2_with fail
    refine (HS.out _).mono ?_
    rintro e w5 ⟨⟨A6, c6, rfl⟩, hb5⟩
    have hz5 := hb5.size
    go_wp2_with fail
    refine (lives_any w5).mono ?_
    rintro e w6 ⟨rfl, hb6⟩
    go_wp2_with fail
    go_ret
    exact ⟨rfl, hbw4.trans ((hb5.mono (by omega)).trans (hb6.mono (by omega)))⟩
end Go.Proofs.Ytaefhfldgemcnaa
