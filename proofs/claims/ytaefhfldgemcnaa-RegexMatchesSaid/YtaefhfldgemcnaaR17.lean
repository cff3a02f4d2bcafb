/- Walks over expressions, seventeenth part: an expression in memory; the document's example. -/
import Derived.Test.YtaefhfldgemcnaaR15
import Derived.Test.YtaefhfldgemcnaaP5
namespace Go.Proofs.Ytaefhfldgemcnaa
open Go.RowKit

/-- An expression lies in block g, all of it below M. -/
structure RxAt (w : World) (g M : Nat) (t : T) : Prop where
  lt : g < M
  blk : ∃ ty u, w.heap[g]? = some (.cells #[.iface ty u] 80 (0, 0)) ∧ PartAt w (· < M) (.iface ty u) t
theorem RxAt.below {w w' : World} {g M K : Nat} {t : T} (h : RxAt w g M t) (hb : Below K w w') (hK : M ≤ K) : RxAt w' g M t := by
  obtain ⟨ty, u, h1, h2⟩ := h.blk
  exact ⟨h.lt, ty, u, blk_below h1 hb (Nat.lt_of_lt_of_le h.lt hK), h2.move (below_moves hb hK)⟩
def BoolPost (b : Bool) (w : World) (e : Ending) (w' : World) : Prop := e = .returned (.bool b) ∧ Below w.heap.size w w'
theorem match_rx (g M : Nat) (t : T) (s : ByteArray) (b : Bool) (w : World) (h : RxAt w g M t) (hM : M ≤ w.heap.size) (hts : t.size ≤ 1000) (hs : s.size ≤ 1000) (hb : accB (netN t) s.data.toList = b) :
    Calls Try.prog 32 #[.pointer (some ⟨g, 0, none⟩), .string s] w (BoolPost b w) := by
  obtain ⟨ty, u, h1, h2⟩ := h.blk
  subst hb
  exact match_any g ty u t s w h1 (h2.move (fun x hx => ⟨Nat.lt_of_lt_of_le hx hM, rfl⟩)) hts hs
def ParseRx (s : ByteArray) (w : World) (e : Ending) (w' : World) : Prop :=
  (match parseR s with
  | some t => ∃ g, e = .returned (.tuple #[.pointer (some ⟨g, 0, none⟩), .int .i64 0]) ∧ RxAt w' g w'.heap.size t
  | none => e = .returned (.tuple #[.pointer none, .int .i64 (if 60 < s.size then 3 else 2)])) ∧ Below w.heap.size w w'
theorem parse_some {s : ByteArray} {t : T} (h : parseR s = some t) (w : World) (hs : s.size ≤ 1000) :
    Calls Try.prog 29 #[.string s] w fun e w' => ∃ g, e = .returned (.tuple #[.pointer (some ⟨g, 0, none⟩), .int .i64 0]) ∧ Hid (RxAt w' g w'.heap.size t) ∧ Hid (Below w.heap.size w w') := by
  refine (parse_any s w hs).mono ?_
  rintro e w' ⟨h1, hb⟩
  rw [h] at h1
  obtain ⟨g, v, rfl, hg, _, hpt⟩ := h1
  obtain ⟨ty, u, rfl⟩ := hpt.form
  exact ⟨g, rfl, ⟨blk_lt hg, ty, u, hg, hpt.move (fun x hx => ⟨hx.2, rfl⟩)⟩, hb⟩
theorem parse_none {s : ByteArray} (h : parseR s = none) (w : World) (hs : s.size ≤ 1000) :
    Calls Try.prog 29 #[.string s] w fun e w' => e = .returned (.tuple #[.pointer none, .int .i64 (if 60 < s.size then 3 else 2)]) ∧ Hid (Below w.heap.size w w') := by
  refine (parse_any s w hs).mono ?_
  rintro e w' ⟨h1, hb⟩
  rw [h] at h1
  exact ⟨h1, hb⟩
theorem parseR_size {s : ByteArray} {t : T} (h : parseR s = some t) : t.size ≤ 182 := by
  unfold parseR at h
  split at h
  · cases h
  · have := parseF_size h
    omega

set_option maxHeartbeats 1600000 in
theorem rxLives_any (w : World) : Calls Try.prog 31 #[] w (BoolPost true w) := by
  have hp : parseR liveS = some liveT := by
    unfold parseR
    rw [if_neg (by decide)]
    exact live_parse
  have HP : Hid (∀ wx : World, Calls Try.prog 29 #[.string (ByteArray.mk #[97, 40, 98, 124, 99, 41, 42])] wx fun e w' => ∃ g, e = .returned (.tuple #[.pointer (some ⟨g, 0, none⟩), .int .i64 0]) ∧ Hid (RxAt w' g w'.heap.size liveT) ∧ Hid (Below wx.heap.size wx w')) := fun wx => parse_some hp wx (by decide)
  have hsz : liveT.size ≤ 1000 := by rw [live_size]; decide
  have HM1 := Lib.hid (fun (wx : World) (g M : Nat) (h : RxAt wx g M liveT) (hM : M ≤ wx.heap.size) => match_rx g M liveT (ByteArray.mk #[97, 99, 98]) true wx h hM hsz (by decide) live_yes)
  have HM2 := Lib.hid (fun (wx : World) (g M : Nat) (h : RxAt wx g M liveT) (hM : M ≤ wx.heap.size) => match_rx g M liveT (ByteArray.mk #[98]) false wx h hM hsz (by decide) live_no)
  clear hp hsz
  go_enter Try.func31, Try.ntmps31
  go_wp2_with fail
  refine (HP.out _).mono ?_
  rintro e w1 ⟨g, rfl, hR1, hB1⟩
  go_wp2_with fail
  refine (HM1.out w1 g _ hR1.out (Nat.le_refl _)).mono ?_
  rintro e w2 ⟨rfl, hb2⟩
  have hR2 := Lib.hid (hR1.out.below hb2 (Nat.le_refl _))
  have hB2 := Lib.hid (hB1.out.trans (hb2.mono hB1.out.size))
  have hz2 := hb2.size
  clear hb2
  go_wp2_with fail
  refine (HM2.out w2 g _ hR2.out hz2).mono ?_
  rintro e w3 ⟨rfl, hb3⟩
  have hB3 := Lib.hid (hB2.out.trans (hb3.mono hB2.out.size))
  clear hb3
  go_wp2_with fail
  go_ret
  exact ⟨rfl, hB3.out⟩

def few2B (s : ByteArray) (m : Nat) : ByteArray := if m < s.size then s.extract 0 m else s
theorem few2B_size (s : ByteArray) (m : Nat) : (few2B s m).size ≤ m := by
  unfold few2B
  split
  · simp; omega
  · omega
set_option maxHeartbeats 400000 in
theorem few2_is (s : ByteArray) (m : Nat) (w : World) (hm : m ≤ 1000) :
    Calls Try.prog 28 #[.string s, .int .i64 m] w fun e w' => e = .returned (.string (few2B s m)) ∧ w = w' := by
  by_cases h : m < s.size
  · have h' : (m : Int) < (s.size : Int) := by omega
    have hf : few2B s m = s.extract 0 m := by unfold few2B; rw [if_pos h]
    rw [hf]
    go_enter Try.func28, Try.ntmps28
    go_wp2_with fail
    go_ret
    exact ⟨rfl, rfl⟩
  · have h' : ¬ (m : Int) < (s.size : Int) := by omega
    have hf : few2B s m = s := by unfold few2B; rw [if_neg h]
    rw [hf]
    go_enter Try.func28, Try.ntmps28
    go_wp2_with fail
    go_ret
    exact ⟨rfl, rfl⟩

/-- Many: a new expression. -/
def ManyPost (t : T) (w : World) (e : Ending) (w' : World) : Prop := ∃ g, e = .returned (.pointer (some ⟨g, 0, none⟩)) ∧ Hid (RxAt w' g w'.heap.size (.rep t 42)) ∧ Hid (Below w.heap.size w w')
set_option maxHeartbeats 800000 in
theorem many_any (g M : Nat) (t : T) (w : World) (h : RxAt w g M t) (hM : M ≤ w.heap.size) :
    Calls Try.prog 34 #[.pointer (some ⟨g, 0, none⟩)] w (ManyPost t w) := by
  obtain ⟨ty, u, h1, h2⟩ := h.blk
  have H1 := Lib.hid h1
  have H2 := Lib.hid h2
  clear h1 h2
  go_enter Try.func34, Try.ntmps34
  go_wp2_with fail
  refine (inner_any g ty u _ H1.out).mono ?_
  rintro e w1 ⟨rfl, rfl⟩
  go_wp2_with fail
  go_ret
  refine ⟨w.heap.size, rfl, ⟨by simp, 92, .agg #[.iface ty u, .int .u8 42], blk_new _ _, ?_⟩, (Below.refl _ _).alloc (Nat.le_refl _) _⟩
  exact .rep (op := 42) ((H2.out.move (Q := (· < (w.alloc (.cells #[.iface 92 (.agg #[.iface ty u, .int .u8 42])] 80)).heap.size)) (fun x hx => ⟨by simp; omega, heap_alloc_old w _ (by omega)⟩)))
end Go.Proofs.Ytaefhfldgemcnaa
