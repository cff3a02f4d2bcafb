/- Walks over nets, seventh part: what is reached by none; the states to which a sign goes. -/
import Derived.Test.YtaefhfldgemcnaaW6
namespace Go.Proofs.Ytaefhfldgemcnaa
open Go.RowKit

theorem S0_snoc {st : Int} {l : List Int} {q x : Int} : S0 st (l ++ [x]) q ↔ S0 st l q ∨ (q = x ∧ isSt st x = true) := by
  unfold S0
  rw [isSt_iff]
  simp only [List.mem_append, List.mem_singleton]
  constructor
  · rintro ⟨h | h, h1⟩
    · exact .inl ⟨h, h1⟩
    · subst h; exact .inr ⟨rfl, h1⟩
  · rintro (⟨h, h1⟩ | ⟨rfl, h1⟩)
    · exact ⟨.inl h, h1⟩
    · exact ⟨.inr rfl, h1⟩

structure RInv (st : Nat) (l xs : List Int) : Prop where
  nodup : xs.Nodup
  set : ∀ q, q ∈ xs ↔ S0 (st : Int) l q
theorem RInv.out {st : Nat} {l xs : List Int} {x : Int} (h : RInv st l xs) (hx : isSt (st : Int) x = false) : RInv st (l ++ [x]) xs :=
  ⟨h.nodup, fun q => by rw [h.set, S0_snoc, hx]; simp⟩
theorem RInv.had {st : Nat} {l xs : List Int} {x : Int} (h : RInv st l xs) (hx : x ∈ xs) : RInv st (l ++ [x]) xs :=
  ⟨h.nodup, fun q => by
    rw [h.set, S0_snoc]
    exact ⟨.inl, fun h' => h'.elim id (fun h' => by obtain ⟨rfl, _⟩ := h'; exact (h.set q).1 hx)⟩⟩
theorem RInv.push {st : Nat} {l xs : List Int} {x : Int} (h : RInv st l xs) (hx : isSt (st : Int) x = true) (hn : ¬ x ∈ xs) : RInv st (l ++ [x]) (xs ++ [x]) := by
  refine ⟨?_, fun q => ?_⟩
  · rw [List.nodup_append]
    refine ⟨h.nodup, by simp, ?_⟩
    intro a ha b hb
    simp only [List.mem_singleton] at hb
    subst hb
    rintro rfl
    exact hn ha
  · rw [S0_snoc, List.mem_append, h.set, List.mem_singleton]
    simp [hx]
theorem RInv.length {st : Nat} {l xs : List Int} (h : RInv st l xs) : xs.length ≤ st := nodup_range st h.nodup (fun q hq => ((h.set q).1 hq).2)
theorem row_push {w : World} {I st n : Nat} {xs : List Int} (h : w.rowIs I 4 st (fun j => if j = n then .bool true else .bool (hasB xs (j : Int)))) : w.rowIs I 4 st (fun q => .bool (hasB (xs ++ [(n : Int)]) (q : Int))) := by
  refine World.rowIs.congr h ?_
  intro x hx
  by_cases hxt : x = n
  · subst hxt
    rw [if_pos rfl, hasB_yes (by simp)]
  · rw [if_neg hxt]
    congr 1
    rw [Bool.eq_iff_iff, hasB_iff, hasB_iff]
    simp only [List.mem_append, List.mem_singleton]
    constructor
    · exact Or.inl
    · rintro (h | h)
      · exact h
      · exact absurd (by omega) hxt

set_option maxHeartbeats 3200000 in
theorem reached_43 (n : Net) (l : List Int) (A A' : Option Addr) (c c' : Nat) (w : World) (st : Nat) (hst : n.st = st) (hm : n.may = true) (hne : n.edges.length ≤ 1000000) (hn : l.length ≤ 1000000000)
    (hE : EdgesAt w w.heap.size A n.edges) (hl : IntsAt w w.heap.size A' l) :
    Calls Try.prog 50 #[.agg #[.int .i64 st, .int .i64 n.start, .int .i64 n.fin, .slice A n.edges.length c], .slice A' l.length c', .func (.func 43) #[] #[]] w fun e w' => (∃ I xs, e = .returned (.slice (some ⟨I, 0, none⟩) st st) ∧ w'.rowIs I 4 st (fun q => .bool (hasB xs (q : Int))) ∧
      ∀ q, q ∈ xs ↔ Eps Edge.none_ n.edges (S0 n.st l) q) ∧ Below w.heap.size w w' := by
  obtain ⟨hm1, hm2, _, _, hes⟩ := may_iff.1 hm
  rw [hst] at hm1 hm2
  have Hes := Lib.hid hes
  have Hst := Lib.hid hst
  have Hm := Lib.hid hm
  clear hes hst hm
  have hmk := run_make_row' (P := Try.prog) 51 4 (.bool false) 1 Try.underlying51 info4 rfl .i64 .i64 st (by omega) (by omega)
  go_enter Try.func50, Try.ntmps50
  go_wp2
  clear hmk
  go_loopw [8, 16] (fun v i wr => ∃ (k : Nat) (xs : List Int), k ≤ l.length ∧ i = .int .i64 k ∧ OwnI wr (w.heap.size + 2) xs v ∧ Hid (RInv st (l.take k) xs) ∧ wr.rowIs (w.heap.size + 1) 4 st (fun q => .bool (hasB xs (q : Int))) ∧
    Below (w.heap.size + 1) (w.alloc (.cells #[.int .i64 st, .int .i64 n.start, .int .i64 n.fin, .slice A n.edges.length c] 24)) wr) (fun _ i _ => l.length - (intOf i).toNat)
  case atStart =>
    refine ⟨0, [], Nat.zero_le _, rfl, ⟨none, 0, rfl, World.ownsRow_nil _ _ _ _⟩, ⟨by simp, fun q => by simp [S0]⟩, ?_, (Below.refl _ _).alloc (by simp) _⟩
    exact World.rowIs.congr (rowIs_made' (by simp)) (fun _ _ => by simp [hasB])
  case round =>
    obtain ⟨k, xs, hk, rfl, ⟨A2, c2, rfl, hown⟩, hinv, hrow, hb⟩ := hrel
    obtain ⟨b0, b1, b2, b3, hsz⟩ := boxed4 hb
    have hIl := hrow.lt
    have hxl := hinv.out.length
    by_cases hlt : k < l.length
    · obtain ⟨b4, o4, q, rfl, _, hq, hcell⟩ := int_at hl (unbox hb) hlt
      have hT := Lib.hid (take_snoc hq.out)
      cases hi : isSt (st : Int) q with
      | false =>
        go_wp2_with (go_at_call 40; refine (isState_any _ _ _ _ _ _).mono ?_; rintro e w' ⟨rfl, rfl⟩)
        go_roundw
        case rel => exact ⟨k + 1, xs, by omega, by go_num, ⟨_, _, rfl, hown.alloc _⟩, by rw [hT.out]; exact hinv.out.out hi, hrow.alloc _, hb.alloc (by omega) _⟩
        case measure => simp [intOf]; omega
      | true =>
        obtain ⟨hq0, hq1⟩ := isSt_iff.1 hi
        obtain ⟨qn, rfl⟩ := Int.eq_ofNat_of_zero_le hq0
        have hqs : qn < st := by omega
        have hIc := hrow.cell hqs
        have hIf := hrow.frozen qn
        cases hx : hasB xs qn with
        | true =>
          rw [hx] at hIc
          go_wp2_with (go_at_call 40; refine (isState_any _ _ _ _ _ _).mono ?_; rintro e w' ⟨rfl, rfl⟩)
          go_roundw
          case rel => exact ⟨k + 1, xs, by omega, by go_num, ⟨_, _, rfl, hown.alloc _⟩, by rw [hT.out]; exact hinv.out.had (hasB_iff.1 hx), hrow.alloc _, hb.alloc (by omega) _⟩
          case measure => simp [intOf]; omega
        | false =>
          rw [hx] at hIc
          go_wp2_with (first | (go_at_call 40; refine (isState_any _ _ _ _ _ _).mono ?_; rintro e w' ⟨rfl, rfl⟩) | (at_builtin; refine wpList_append_new info3 Try.underlying36 rfl (by decide) (by decide) _ ((ownsRow_setCell_below hown (a := ⟨w.heap.size + 1, qn, none⟩) (by simp) _).alloc _) 1 rfl _ _ rfl rfl rfl (by simp) rfl rfl (by omega) ?_ ?_; (simp; omega); intro v' w' hown' hbel' hgt hgrow))
          go_roundw
          case rel =>
            refine ⟨k + 1, xs ++ [(qn : Int)], by omega, by go_num, ownI_of (by simpa using hown') (Nat.le_refl _), by rw [hT.out]; exact hinv.out.push hi (fun h => by rw [hasB_yes h] at hx; cases hx), ?_, ((hb.setCell (p := ⟨w.heap.size + 1, qn, none⟩) (Nat.le_refl _) _).alloc (by simp; omega) _).trans (hbel'.mono (by omega))⟩
            exact row_push (rowIs_grown ((hrow.set qn _).alloc _) hgrow (own_ne_lt hown (by omega)))
          case measure => simp [intOf]; omega
    · have hEw := hE.below (unbox hb)
      go_wp2_with (first | (go_at_call 42; refine (graphOf_43 n A c _ st Hst.out Hm.out hne (hEw.more (by omega))).mono ?_; rintro e w1 ⟨⟨H, L, rfl, hgr, hH, hL⟩, hb1⟩) | fail)
      have hIH : H ≠ w.heap.size + 1 := by omega
      have hIL : L ≠ w.heap.size + 1 := by omega
      have hkl : k = l.length := by omega
      subst hkl
      have hinv' := hinv.out
      rw [List.take_length] at hinv'
      have hvb : ∀ g, (Value.slice A2 xs.length c2).ownBlock = some g → g < wr.heap.size := fun g hg => (hown.lt g hg).2
      have hown1 : w1.ownsRow (w.heap.size + 1 + 1) 3 1 (.slice A2 xs.length c2) xs.length (xs.map (Value.int .i64)) := hown.kept (row := none) ⟨hb1.os, hb1.tape, hb1.output, hb1.size, fun k hk _ => hb1.block k hk⟩ (by
        cases hv : (Value.slice A2 xs.length c2).ownBlock <;> simp)
      refine (grow_any (fun e => Edge.none_ e) n.edges st H L (w.heap.size + 1) A c xs (.slice A2 xs.length c2) w1 (by omega) hne (by rw [← Hst.out]; exact Hes.out) ((hEw.below (hb1.mono (by omega))).more (by omega)) hgr hIH hIL
        (fun h => by have := hvb _ h; omega) (fun h => by have := hvb _ h; omega) (hrow.of_block (hb1.block _ hIl)) hown1 hinv'.nodup (fun q hq => ((hinv'.set q).1 hq).2)).mono ?_
      rintro e w2 ⟨⟨v2, ys, rfl, _, hcl, hrow2⟩, hb2⟩
      go_wp2_with fail
      go_ret
      refine ⟨⟨_, ys, rfl, hrow2, fun q => ?_⟩, (unbox hb).trans ((hb1.mono (by omega)).trans (hb2.mono (by omega)))⟩
      rw [hcl.done (Nat.le_refl _) q]
      have e1 : (fun x => x ∈ xs) = S0 n.st l := by funext x; rw [Hst.out]; exact propext (hinv'.set x)
      rw [e1]
end Go.Proofs.Ytaefhfldgemcnaa
