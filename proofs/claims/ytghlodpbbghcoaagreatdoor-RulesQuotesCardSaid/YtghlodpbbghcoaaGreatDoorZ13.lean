/- Whether a text stands twice in a list: walked. -/
import Derived.Test.YtghlodpbbghcoaaGreatDoorZ12
import Derived.Test.YtghlodpbbghcoaaGreatDoorC6
import Derived.Maps.OwnSet
import Derived.Maps.OwnOps
namespace Go.Proofs.YtghlodpbbghcoaaGreatDoor
open Go.Lib Go.RowKit Go.Maps
theorem bytes_ext {a b : ByteArray} (h : a.data.toList = b.data.toList) : a = b := by
  cases a; cases b
  simp only at h
  rw [Array.toList_inj.1 h]
/-- What a map of counts holds, of the texts that have been counted. -/
structure Cnt (D : DataW Unit) (l : List ByteArray) : Prop where
  has : ∀ x : List UInt8, Maps.has D (.string x) = l.any fun s => s.data.toList == x
  le : Maps.size D ≤ l.length
  iff : Maps.size D = l.length ↔ l.Nodup
theorem Cnt.nil : Cnt (DataW.map []) [] := ⟨fun x => by simp [Maps.has], by simp [Maps.size], by simp [Maps.size]⟩
theorem Cnt.snoc {D : DataW Unit} {l : List ByteArray} (h : Cnt D l) (ht : Tidy D) (hm : IsMap D) (s : ByteArray) (d : DataW Unit) : Cnt (D.put (.string s.data.toList) d) (l ++ [s]) := by
  have hs := size_put (k := Lit.string s.data.toList) ht d
  have hh := h.has s.data.toList
  have hany : (l.any fun t => t.data.toList == s.data.toList) = true ↔ s ∈ l := by
    rw [List.any_eq_true]
    constructor
    · rintro ⟨t, ht, e⟩
      rw [← bytes_ext (eq_of_beq e)]
      exact ht
    · exact fun hm => ⟨s, hm, by simp⟩
  rw [← hh] at hany
  refine ⟨fun x => ?_, ?_, ?_⟩
  · by_cases hx : x = s.data.toList
    · rw [hx, has_put_same hm (by exact ⟨⟩)]
      simp
    · rw [has_put_other (fun e => hx (Lit.string.inj e)), h.has, List.any_append]
      simp [Ne.symm hx]
  · rw [hs, List.length_append, List.length_singleton]
    have := h.le
    split <;> omega
  · rw [hs, List.length_append, List.length_singleton, List.nodup_append]
    have := h.le
    have hi := h.iff
    by_cases hm : s ∈ l
    · rw [hany.2 hm]
      simp only [if_true]
      constructor
      · intro e; omega
      · rintro ⟨_, _, h3⟩
        exact absurd rfl (h3 s hm s (by simp))
    · rw [Bool.eq_false_iff.2 (fun h => hm (hany.1 h))]
      simp only [Bool.false_eq_true, if_false]
      constructor
      · intro e
        refine ⟨hi.1 (by omega), by simp, fun a ha b hb e2 => ?_⟩
        simp at hb
        subst hb e2
        exact hm ha
      · rintro ⟨h1, _⟩
        rw [hi.2 h1]
/-- Does a text stand twice? -/
def twiceB (l : List ByteArray) : Bool := !decide l.Nodup
theorem zero3 (w : World) : (zeroValue 3).run Tryz.prog w = .ok (.int .i64 0) w := by kernel_rfl
theorem makeMap_hint (w : World) (n : Int) : (Instr.makeMap 116 (some (.int .i64 n))).run Tryz.prog w = .ok (.map (some w.heap.size)) (w.alloc (.map #[] 0)) := by
  simp [Instr.makeMap, run_underlying Tryz.underlying116, asInt, asIntOf, Result.andThen]
theorem wf64 (e : Int) : (Lit.int .i64 (wrap64 e)).wf = true := by
  simp [Lit.wf, wrap64, IntKind.min, IntKind.max, IntKind.signed, IntKind.bits]
  omega
theorem itself_any (s : ByteArray) (w : World) : Calls Tryz.prog 60 #[.string s] w fun e w' => e = .returned (.string s) ∧ w' = w := by
  go_enter Tryz.func60, Tryz.ntmps60
  go_wp2
  go_ret
  exact ⟨rfl, rfl⟩
def IsB (b : Bool) (w : World) (e : Ending) (w' : World) : Prop := e = .returned (.bool b) ∧ Below w.heap.size w w'

set_option maxRecDepth 8192 in
set_option maxHeartbeats 3200000 in
theorem twice_texts (v : Value) (l : List ByteArray) (P : Nat → Prop) (w : World) (hP : ∀ k, P k → k < w.heap.size) (h : StrsAt w P v l) (hl : l.length ≤ 140737488355328) (hsz : ∀ s ∈ l, s.size ≤ maxLen) :
    Calls Tryz.prog 59 #[v, .func (.func 60) #[] #[]] w (IsB (twiceB l) w) := by
  obtain ⟨A, n, cap, rfl, hn, hcap, hat⟩ := h.form
  have hn6 : n ≤ 140737488355328 := by omega
  replace hn := Lib.hid hn
  replace hat := Lib.hid hat
  replace hP := Lib.hid hP
  replace hsz := Lib.hid hsz
  have hmm := fun (w : World) => makeMap_hint w n
  have hMB : Hid (Below w.heap.size w (w.alloc (.map #[] 0))) := Lib.hid ((Below.refl _ _).alloc (Nat.le_refl _) _)
  have hown0 := Lib.hid (World.ownsMap_made w Tryz.prog 9 (plainElem Tryz.prog 3 : Value → Option (DataW Unit × List MemPlace)))
  clear h hl
  go_enter Tryz.func59, Tryz.ntmps59
  go_wp2
  go_loopw [13] (fun x13 wr => ∃ (k : Nat) (D : DataW Unit), k ≤ n ∧ x13 = .int .i64 k ∧ Hid (wr.ownsMap Tryz.prog 9 (plainElem Tryz.prog 3) w.heap.size k D) ∧ Hid (Cnt D (l.take k)) ∧ Hid (Below w.heap.size w wr)) (fun x13 _ => n - (RowKit.intOf x13).toNat)
  case atStart => exact ⟨0, _, Nat.zero_le _, rfl, hown0, Lib.hid Cnt.nil, hMB⟩
  case round =>
    obtain ⟨k, D, hk, rfl, hown, hcnt, hB⟩ := hrel
    clear hown0 hMB
    by_cases hlt : k < n
    · have hkl : k < l.length := by have := hn.out; omega
      obtain ⟨b, o, rfl, hPb, hc⟩ := hat.out (by omega)
      have c0 := (hB.out.cell (p := ⟨b, o + k, none⟩) (hP.out b hPb)).trans (hc k hkl)
      obtain ⟨s, hs⟩ : ∃ s, l[k] = s := ⟨_, rfl⟩
      rw [hs] at c0
      have hss := hsz.out s (by rw [← hs]; exact List.getElem_mem hkl)
      have htake : Hid (l.take (k + 1) = l.take k ++ [s]) := Lib.hid (by rw [List.take_add_one, List.getElem?_eq_getElem hkl, hs]; rfl)
      have hnext : ∀ d, Hid (Cnt (D.put (.string s.data.toList) d) (l.take (k + 1))) := fun d => Lib.hid (by rw [htake.out]; exact hcnt.out.snoc (hown.out.tidy (string_keyed Tryz.underlying9)) hown.out.isMap s d)
      have hi0 : (0 : Int) ≤ (k : Int) := by omega
      have hi1 : (k : Int) < (n : Int) := by omega
      have hBw := hB.out.size
      clear hc hs htake
      go_wp2_with (first
        | (go_at_call 60; refine (itself_any s _).mono ?_; rintro e w1 ⟨rfl, rfl⟩)
        | (at_lookup; refine wpList_lookup_own_int _ rfl _ _ 116 rfl 9 3 .i64 (string_keyed Tryz.underlying9) Tryz.underlying116 Tryz.underlying3 (zero3 _) w.heap.size k D rfl hown.out _ _ rfl (WideMaps.keyOf_string_mk Tryz.underlying9 hss) ?_; intro c hat hwc; clear hat)
        | (at_mapUpdate; refine wpList_mapUpdate_own _ rfl _ _ _ 116 rfl 9 3 (string_keyed Tryz.underlying9) Tryz.underlying116 (plainElem Tryz.prog 3) w.heap.size k D rfl hown.out (by unfold maxLen; omega) _ _ _ rfl rfl (WideMaps.keyOf_string_mk Tryz.underlying9 hss) _ [] (plainElem_int Tryz.underlying3 (wf64 _)) ?_; intro w2 hown3 hg2))
      exact ⟨⟨k + 1, _, by omega, by simp, Lib.hid hown3, hnext _, Lib.hid (hB.out.grown hg2 hB.out.size (fun j hj => by cases hj; exact Nat.le_refl _))⟩, by simp [RowKit.intOf]; omega⟩
    · have hkn : k = n := by omega
      subst hkn
      have hsz : Hid (twiceB l = decide ((Maps.size D : Int) < (k : Int))) := Lib.hid (by
        have h1 := hcnt.out.le
        have h2 := hcnt.out.iff
        rw [hn.out, List.take_length] at h1 h2
        unfold twiceB
        rw [Bool.eq_iff_iff, Bool.not_eq_true', decide_eq_false_iff_not, decide_eq_true_eq, ← h2, hn.out]
        omega)
      go_wp2_with ((with_reducible refine wpList_len_own _ rfl _ _ rfl 9 3 Tryz.underlying116 (plainElem Tryz.prog 3) w.heap.size k D rfl hown.out ?_))
      go_ret
      refine ⟨?_, hB.out⟩
      rw [hsz.out]
      show Ending.returned (.bool (decide (Maps.size D < k))) = _
      congr 2
      exact decide_eq_decide.2 (by omega)
end Go.Proofs.YtghlodpbbghcoaaGreatDoor
