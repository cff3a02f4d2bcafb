/- Walks over nets, second part: the reference's test on nets; small tests on edges; lists of states. -/
import Derived.Test.YtaefhfldgemcnaaW1
namespace Go.Proofs.Ytaefhfldgemcnaa
open Go.RowKit

abbrev IntsAt (w : World) (B : Nat) (A : Option Addr) (l : List Int) : Prop := CellsAt w B A (l.map (Value.int .i64))
theorem int_at {w wr : World} {B : Nat} {A : Option Addr} {l : List Int} (h : IntsAt w B A l) (hb : Below B w wr) {k : Nat} (hk : k < l.length) :
    ∃ b o q, A = some ⟨b, o, none⟩ ∧ b < B ∧ Hid (l[k]? = some q) ∧ wr.cell? ⟨b, o + k, none⟩ = some (.int .i64 q) := by
  have he : (l.map (Value.int .i64))[k]? = some (.int .i64 l[k]) := by rw [List.getElem?_map, List.getElem?_eq_getElem hk]; rfl
  obtain ⟨b, o, rfl, hB, c0⟩ := (h.below hb).at_ he
  exact ⟨b, o, l[k], rfl, hB, List.getElem?_eq_getElem hk, c0⟩

set_option maxHeartbeats 400000 in
theorem round_any (n m : Int) (h : 1 ≤ m) (h1 : -9223372036854775808 ≤ n) (h2 : n ≤ 9223372036854775807) (w : World) :
    Calls Try.prog 41 #[.int .i64 n, .int .i64 m] w fun e w' => e = .returned (.int .i64 (roundI n m)) ∧ w = w' := by
  by_cases hn : n < 0
  · have e : roundI n m = (-(n + 1)).tmod m := by unfold roundI; rw [if_pos hn, Int.tmod_eq_emod_of_nonneg (by omega)]
    rw [e]
    go_enter Try.func41, Try.ntmps41
    go_wp2
    go_ret
    exact ⟨ret_int (by rw [Int.neg_tmod]), rfl⟩
  · have e : roundI n m = n % m := by unfold roundI; rw [if_neg hn]
    rw [e]
    go_enter Try.func41, Try.ntmps41
    go_wp2
    go_ret
    exact ⟨rfl, rfl⟩

set_option maxHeartbeats 400000 in
theorem none_any (f t l h : Int) (w : World) :
    Calls Try.prog 43 #[.agg #[.int .i64 f, .int .i64 t, .int .u8 l, .int .u8 h]] w fun e w' => e = .returned (.bool (Edge.none_ ⟨f, t, l, h⟩)) ∧ w.alloc (.cells #[.int .i64 f, .int .i64 t, .int .u8 l, .int .u8 h] 35) = w' := by
  go_enter Try.func43, Try.ntmps43
  go_wp2
  go_ret
  exact ⟨rfl, rfl⟩
set_option maxHeartbeats 400000 in
theorem some_any (f t l h : Int) (w : World) :
    Calls Try.prog 44 #[.agg #[.int .i64 f, .int .i64 t, .int .u8 l, .int .u8 h]] w fun e w' => e = .returned (.bool (!Edge.none_ ⟨f, t, l, h⟩)) ∧ (w.alloc (.cells #[.int .i64 f, .int .i64 t, .int .u8 l, .int .u8 h] 35)).alloc (.cells #[.int .i64 f, .int .i64 t, .int .u8 l, .int .u8 h] 35) = w' := by
  go_enter Try.func44, Try.ntmps44
  go_wp2_with (go_at_call 43; refine (none_any _ _ _ _ _).mono ?_; rintro e w' ⟨rfl, rfl⟩)
  go_ret
  exact ⟨rfl, rfl⟩
set_option maxHeartbeats 400000 in
theorem takes_any (f t l h c : Int) (w : World) :
    Calls Try.prog 46 #[.agg #[.int .i64 f, .int .i64 t, .int .u8 l, .int .u8 h], .int .u8 c] w fun e w' => e = .returned (.bool (Edge.takes ⟨f, t, l, h⟩ c)) ∧ w.alloc (.cells #[.int .i64 f, .int .i64 t, .int .u8 l, .int .u8 h] 35) = w' := by
  unfold Edge.takes
  go_enter Try.func46, Try.ntmps46
  go_wp2
  all_goals
    go_ret
    refine ⟨ret_bool ?_, rfl⟩
    simp_all <;> (intros; omega)
set_option maxHeartbeats 400000 in
theorem refTakes_any (f t l h c : Int) (w : World) :
    Calls Try.prog 52 #[.agg #[.int .i64 f, .int .i64 t, .int .u8 l, .int .u8 h], .int .u8 c] w fun e w' => e = .returned (.bool (Edge.takes ⟨f, t, l, h⟩ c)) ∧ w.alloc (.cells #[.int .i64 f, .int .i64 t, .int .u8 l, .int .u8 h] 35) = w' := by
  unfold Edge.takes
  go_enter Try.func52, Try.ntmps52
  go_wp2
  all_goals
    go_ret
    refine ⟨ret_bool ?_, rfl⟩
    simp_all <;> (intros; omega)

def hasB (l : List Int) (q : Int) : Bool := l.contains q
theorem hasB_iff {l : List Int} {q : Int} : hasB l q = true ↔ q ∈ l := by simp [hasB]
theorem hasB_yes {l : List Int} {q : Int} (h : q ∈ l) : hasB l q = true := hasB_iff.2 h
theorem hasB_no {l : List Int} {q : Int} (h : ¬ q ∈ l) : hasB l q = false := Bool.eq_false_iff.2 fun e => h (hasB_iff.1 e)

set_option maxHeartbeats 400000 in
theorem has_any (l : List Int) (q : Int) (A : Option Addr) (c : Nat) (w : World) (B : Nat) (hn : l.length ≤ 1000000000) (hl : IntsAt w B A l) :
    Calls Try.prog 47 #[.slice A l.length c, .int .i64 q] w fun e w' => e = .returned (.bool (hasB l q)) ∧ w = w' := by
  go_enter Try.func47, Try.ntmps47
  go_wp2
  go_loop [5] (fun i => ∃ k : Nat, k ≤ l.length ∧ i = .int .i64 k ∧ Hid (¬ q ∈ l.take k)) (fun i => l.length - (intOf i).toNat)
  case atStart => exact ⟨0, Nat.zero_le _, rfl, by intro h; simp at h⟩
  case round =>
    obtain ⟨k, hk, rfl, hno⟩ := hrel
    by_cases hlt : k < l.length
    · obtain ⟨b, o, x, rfl, _, hx, hcell⟩ := int_at hl (Below.refl _ _) hlt
      by_cases hq : x = q
      · subst hq
        go_wp2
        go_ret
        exact ⟨ret_bool (hasB_yes (List.mem_of_getElem? hx.out)).symm, rfl⟩
      · have hqb : (x == q) = false := beq_eq_false_iff_ne.2 hq
        go_wp2
        go_round
        case rel =>
          refine ⟨k + 1, by omega, by go_num, ?_⟩
          intro h
          rw [List.take_add_one, hx.out] at h
          simp only [Option.toList_some, List.mem_append, List.mem_singleton] at h
          rcases h with h | h
          · exact hno.out h
          · exact hq h.symm
        case measure => simp [intOf]; omega
    · obtain rfl : k = l.length := by omega
      go_wp2
      go_ret
      exact ⟨ret_bool (hasB_no (by have := hno.out; rwa [List.take_length] at this)).symm, rfl⟩

set_option maxHeartbeats 400000 in
theorem few_any (s : ByteArray) (w : World) (hs : s.size ≤ 9223372036854775807) :
    Calls Try.prog 18 #[.string s] w fun e w' => (∃ t : ByteArray, e = .returned (.string t) ∧ t.size ≤ 10) ∧ w = w' := by
  go_enter Try.func18, Try.ntmps18
  go_wp2
  · go_ret
    exact ⟨⟨_, rfl, by simp; omega⟩, rfl⟩
  · rename_i h
    go_ret
    exact ⟨⟨_, rfl, by omega⟩, rfl⟩

theorem info3 : (Try.prog.info? 3).map (fun i => (i.zero, i.size, i.bytes)) = some (some (.int .i64 0), 1, 8) := by kernel_rfl
theorem info4 : (Try.prog.info? 4).map (fun i => (i.zero, i.size, i.bytes)) = some (some (.bool false), 1, 1) := by kernel_rfl
theorem info35 : (Try.prog.info? 35).map (fun i => (i.zero, i.size, i.bytes)) = some (some (.agg #[.int .i64 0, .int .i64 0, .int .u8 0, .int .u8 0]), 4, 24) := by kernel_rfl

/-- What a call has made of ints, and hands back. -/
def OwnInts (w w' : World) (xs : List Int) (v : Value) : Prop :=
  ∃ A c, v = .slice A xs.length c ∧ w'.ownsRow w.heap.size 3 1 (.slice A xs.length c) xs.length (xs.map (Value.int .i64))
theorem ownInts_of {w w' : World} {base : Nat} {xs : List Int} {v : Value} (h : w'.ownsRow base 3 1 v xs.length (xs.map (Value.int .i64))) (hb : w.heap.size ≤ base) : OwnInts w w' xs v := by
  obtain ⟨h1, h2⟩ := h
  rcases h2 with ⟨rfl, hn⟩ | ⟨g, cap, cur, rfl, hg, r⟩
  · refine ⟨none, 0, by rw [hn], h1, .inl ⟨by rw [hn], hn⟩⟩
  · exact ⟨some ⟨g, 0, none⟩, cap, rfl, h1, .inr ⟨g, cap, cur, rfl, by omega, r⟩⟩
theorem OwnInts.ints {w w' : World} {xs : List Int} {A : Option Addr} {c : Nat} (h : w'.ownsRow w.heap.size 3 1 (.slice A xs.length c) xs.length (xs.map (Value.int .i64))) : IntsAt w' w'.heap.size A xs := CellsAt.of_own h

set_option maxHeartbeats 800000 in
theorem sorted_any (st a b : Int) (v : Value) (l : List Int) (A : Option Addr) (c : Nat) (w : World) (hst : 0 ≤ st) (hst' : st ≤ 500) (hn : l.length ≤ 1000000000) (hl : IntsAt w w.heap.size A l) :
    Calls Try.prog 51 #[.agg #[.int .i64 st, .int .i64 a, .int .i64 b, v], .slice A l.length c] w fun e w' => (∃ v, e = .returned v ∧ OwnInts w w' (rising st (· ∈ l)) v) ∧ Below w.heap.size w w' := by
  obtain ⟨n, rfl⟩ := Int.eq_ofNat_of_zero_le hst
  go_enter Try.func51, Try.ntmps51
  go_wp2
  go_loopw [5, 6] (fun out i wr => ∃ k : Nat, k ≤ n ∧ i = .int .i64 k ∧ wr.ownsRow (w.heap.size + 1) 3 1 out (rising k (· ∈ l)).length ((rising k (· ∈ l)).map (Value.int .i64)) ∧ Below (w.heap.size + 1) (w.alloc (.cells #[.int .i64 n, .int .i64 a, .int .i64 b, v] 24)) wr) (fun _ i _ => n - (intOf i).toNat)
  case atStart => exact ⟨0, Nat.zero_le _, rfl, World.ownsRow_nil _ _ _ _, Below.refl _ _⟩
  case round =>
    obtain ⟨k, hk, rfl, hown, hb⟩ := hrel
    obtain ⟨b0, b1, b2, b3, hsz⟩ := boxed4 hb
    by_cases hlt : k < n
    · by_cases hin : (k : Int) ∈ l
      · have hB := hasB_yes hin
        have hR := Lib.hid (rising_yes (P := (· ∈ l)) hin)
        have hlen := rising_length k (· ∈ l)
        go_wp2_with (first | (go_at_call 47; refine (has_any _ _ _ _ _ _ hn (hl.below (unbox hb))).mono ?_; rintro e w' ⟨rfl, rfl⟩) | (at_builtin; refine wpList_append_new info3 Try.underlying36 rfl (by decide) (by decide) _ hown 1 rfl _ _ rfl rfl rfl (by simp) rfl rfl (by omega) (by omega) ?_; intro v' w' hown' hbel hgt _))
        go_roundw
        case rel =>
          refine ⟨k + 1, by omega, by go_num, ?_, hb.trans hbel⟩
          rw [show ((k + 1 : Nat) : Int) = (k : Int) + 1 from by omega, hR.out, List.map_append, List.length_append]
          exact hown'
        case measure => simp [intOf]; omega
      · have hB := hasB_no hin
        have hR := Lib.hid (rising_no (P := (· ∈ l)) hin)
        go_wp2_with (go_at_call 47; refine (has_any _ _ _ _ _ _ hn (hl.below (unbox hb))).mono ?_; rintro e w' ⟨rfl, rfl⟩)
        go_roundw
        case rel =>
          refine ⟨k + 1, by omega, by go_num, ?_, hb⟩
          rw [show ((k + 1 : Nat) : Int) = (k : Int) + 1 from by omega, hR.out]
          exact hown
        case measure => simp [intOf]; omega
    · obtain rfl : k = n := by omega
      go_wp2_with fail
      go_ret
      exact ⟨⟨_, rfl, ownInts_of hown (by omega)⟩, unbox hb⟩
end Go.Proofs.Ytaefhfldgemcnaa
