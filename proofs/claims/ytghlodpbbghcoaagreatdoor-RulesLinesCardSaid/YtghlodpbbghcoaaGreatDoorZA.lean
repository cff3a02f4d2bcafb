/- Whether a text stands twice in a list: walked. -/
import Derived.Test.YtghlodpbbghcoaaGreatDoorAM
import Derived.Test.YtghlodpbbghcoaaGreatDoorC6
import Derived.Maps.OwnSet
import Derived.Maps.OwnOps
import Derived.Test.YtghlodpbbghcoaaGreatDoorProg
import Derived.Laws.Rows
import Derived.Laws.ResultCell
import Derived.Deep.MidRow
namespace Go.Proofs.YtghlodpbbghcoaaGreatDoor
open Go.Lib Go.RowKit Go.Maps
theorem bytes_ext {a b : ByteArray} (h : a.data.toList = b.data.toList) : a = b := by
  cases a; cases b
  simp only at h
  rw [Array.toList_inj.1 h]
/-- What a map of counts holds, of the texts that have been counted. -/
structure Cnt (D : DataW Unit) (l : List ByteArray) : Prop where
  has : ∀ x : List UInt8, Maps.has D (.string x) = l.any fun s => s.data.toList == x
  le : Maps.size D ≤ l.length
  iff : Maps.size D = l.length ↔ l.Nodup
theorem Cnt.nil : Cnt (DataW.map []) [] := ⟨fun x => by simp [Maps.has], by simp [Maps.size], by simp [Maps.size]⟩
theorem Cnt.snoc {D : DataW Unit} {l : List ByteArray} (h : Cnt D l) (ht : Tidy D) (hm : IsMap D) (s : ByteArray) (d : DataW Unit) : Cnt (D.put (.string s.data.toList) d) (l ++ [s]) := by
  have hs := size_put (k := Lit.string s.data.toList) ht d
  have hh := h.has s.data.toList
  have hany : (l.any fun t => t.data.toList == s.data.toList) = true ↔ s ∈ l := by
    rw [List.any_eq_true]
    constructor
    · rintro ⟨t, ht, e⟩
      rw [← bytes_ext (eq_of_beq e)]
      exact ht
    · exact fun hm => ⟨s, hm, by simp⟩
  rw [← hh] at hany
  refine ⟨fun x => ?_, ?_, ?_⟩
  · by_cases hx : x = s.data.toList
    · rw [hx, has_put_same hm (by exact ⟨⟩)]
      simp
    · rw [has_put_other (fun e => hx (Lit.string.inj e)), h.has, List.any_append]
      simp [Ne.symm hx]
  · rw [hs, List.length_append, List.length_singleton]
    have := h.le
    split <;> omega
  · rw [hs, List.length_append, List.length_singleton, List.nodup_append]
    have := h.le
    have hi := h.iff
    by_cases hm : s ∈ l
    · rw [hany.2 hm]
      simp only [if_true]
      constructor
      · intro e; omega
      · rintro ⟨_, _, h3⟩
        exact absurd rfl (h3 s hm s (by simp))
    · rw [Bool.eq_false_iff.2 (fun h => hm (hany.1 h))]
      simp only [Bool.false_eq_true, if_false]
      constructor
      · intro e
        refine ⟨hi.1 (by omega), by simp, fun a ha b hb e2 => ?_⟩
        simp at hb
        subst hb e2
        exact hm ha
      · rintro ⟨h1, _⟩
        rw [hi.2 h1]
/-- Does a text stand twice? -/
def twiceB (l : List ByteArray) : Bool := !decide l.Nodup
theorem zero3 (w : World) : (zeroValue 3).run Tryz.prog w = .ok (.int .i64 0) w := by kernel_rfl
theorem makeMap_hint (w : World) (n : Int) : (Instr.makeMap 116 (some (.int .i64 n))).run Tryz.prog w = .ok (.map (some w.heap.size)) (w.alloc (.map #[] 0)) := by
  simp [Instr.makeMap, run_underlying Tryz.underlying116, asInt, asIntOf, Result.andThen]
theorem wf64 (e : Int) : (Lit.int .i64 (wrap64 e)).wf = true := by
  simp [Lit.wf, wrap64, IntKind.min, IntKind.max, IntKind.signed, IntKind.bits]
  omega
theorem itself_any (s : ByteArray) (w : World) : Calls Tryz.prog 60 #[.string s] w fun e w' => e = .returned (.string s) ∧ w' = w := by
  go_enter Tryz.func60, Tryz.ntmps60
  go_wp2
  go_ret
  exact ⟨rfl, rfl⟩
def IsB (b : Bool) (w : World) (e : Ending) (w' : World) : Prop := e = .returned (.bool b) ∧ Below w.heap.size w w'

set_option maxRecDepth 8192 in
set_option maxHeartbeats 3200000 in
theorem twice_texts (v : Value) (l : List ByteArray) (P : Nat → Prop) (w : World) (hP : ∀ k, P k → k < w.heap.size) (h : StrsAt w P v l) (hl : l.length ≤ 140737488355328) (hsz : ∀ s ∈ l, s.size ≤ maxLen) :
    Calls Tryz.prog 59 #[v, .func (.func 60) #[] #[]] w (IsB (twiceB l) w) := by
  obtain ⟨A, n, cap, rfl, hn, hcap, hat⟩ := h.form
  have hn6 : n ≤ 140737488355328 := by omega
  replace hn := Lib.hid hn
  replace hat := Lib.hid hat
  replace hP := Lib.hid hP
  replace hsz := Lib.hid hsz
  have hmm := fun (w : World) => makeMap_hint w n
  have hMB : Hid (Below w.heap.size w (w.alloc (.map #[] 0))) := Lib.hid ((Below.refl _ _).alloc (Nat.le_refl _) _)
  have hown0 := Lib.hid (World.ownsMap_made w Tryz.prog 9 (plainElem Tryz.prog 3 : Value → Option (DataW Unit × List MemPlace)))
  clear h hl
  go_enter Tryz.func59, Tryz.ntmps59
  go_wp2
  go_loopw [13] (fun x13 wr => ∃ (k : Nat) (D : DataW Unit), k ≤ n ∧ x13 = .int .i64 k ∧ Hid (wr.ownsMap Tryz.prog 9 (plainElem Tryz.prog 3) w.heap.size k D) ∧ Hid (Cnt D (l.take k)) ∧ Hid (Below w.heap.size w wr)) (fun x13 _ => n - (RowKit.intOf x13).toNat)
  case atStart => exact ⟨0, _, Nat.zero_le _, rfl, hown0, Lib.hid Cnt.nil, hMB⟩
  case round =>
    obtain ⟨k, D, hk, rfl, hown, hcnt, hB⟩ := hrel
    clear hown0 hMB
    by_cases hlt : k < n
    · have hkl : k < l.length := by have := hn.out; omega
      obtain ⟨b, o, rfl, hPb, hc⟩ := hat.out (by omega)
      have c0 := (hB.out.cell (p := ⟨b, o + k, none⟩) (hP.out b hPb)).trans (hc k hkl)
      obtain ⟨s, hs⟩ : ∃ s, l[k] = s := ⟨_, rfl⟩
      rw [hs] at c0
      have hss := hsz.out s (by rw [← hs]; exact List.getElem_mem hkl)
      have htake : Hid (l.take (k + 1) = l.take k ++ [s]) := Lib.hid (by rw [List.take_add_one, List.getElem?_eq_getElem hkl, hs]; rfl)
      have hnext : ∀ d, Hid (Cnt (D.put (.string s.data.toList) d) (l.take (k + 1))) := fun d => Lib.hid (by rw [htake.out]; exact hcnt.out.snoc (hown.out.tidy (string_keyed Tryz.underlying9)) hown.out.isMap s d)
      have hi0 : (0 : Int) ≤ (k : Int) := by omega
      have hi1 : (k : Int) < (n : Int) := by omega
      have hBw := hB.out.size
      clear hc hs htake
      go_wp2_with (first
        | (go_at_call 60; refine (itself_any s _).mono ?_; rintro e w1 ⟨rfl, rfl⟩)
        | (at_lookup; refine wpList_lookup_own_int _ rfl _ _ 116 rfl 9 3 .i64 (string_keyed Tryz.underlying9) Tryz.underlying116 Tryz.underlying3 (zero3 _) w.heap.size k D rfl hown.out _ _ rfl (WideMaps.keyOf_string_mk Tryz.underlying9 hss) ?_; intro c hat hwc; clear hat)
        | (at_mapUpdate; refine wpList_mapUpdate_own _ rfl _ _ _ 116 rfl 9 3 (string_keyed Tryz.underlying9) Tryz.underlying116 (plainElem Tryz.prog 3) w.heap.size k D rfl hown.out (by unfold maxLen; omega) _ _ _ rfl rfl (WideMaps.keyOf_string_mk Tryz.underlying9 hss) _ [] (plainElem_int Tryz.underlying3 (wf64 _)) ?_; intro w2 hown3 hg2))
      exact ⟨⟨k + 1, _, by omega, by simp, Lib.hid hown3, hnext _, Lib.hid (hB.out.grown hg2 hB.out.size (fun j hj => by cases hj; exact Nat.le_refl _))⟩, by simp [RowKit.intOf]; omega⟩
    · have hkn : k = n := by omega
      subst hkn
      have hsz : Hid (twiceB l = decide ((Maps.size D : Int) < (k : Int))) := Lib.hid (by
        have h1 := hcnt.out.le
        have h2 := hcnt.out.iff
        rw [hn.out, List.take_length] at h1 h2
        unfold twiceB
        rw [Bool.eq_iff_iff, Bool.not_eq_true', decide_eq_false_iff_not, decide_eq_true_eq, ← h2, hn.out]
        omega)
      go_wp2_with ((with_reducible refine wpList_len_own _ rfl _ _ rfl 9 3 Tryz.underlying116 (plainElem Tryz.prog 3) w.heap.size k D rfl hown.out ?_))
      go_ret
      refine ⟨?_, hB.out⟩
      rw [hsz.out]
      show Ending.returned (.bool (decide (Maps.size D < k))) = _
      congr 2
      exact decide_eq_decide.2 (by omega)
end Go.Proofs.YtghlodpbbghcoaaGreatDoor

/- Whether a name stands twice, of elements and of rules: walked. -/
namespace Go.Proofs.YtghlodpbbghcoaaGreatDoor
open Go.Lib Go.RowKit Go.Maps
theorem eltName_any (s : ByteArray) (vk vr : Value) (w : World) : Calls Tryz.prog 58 #[.agg #[.string s, vk, vr]] w fun e w' => e = .returned (.string s) ∧ Below w.heap.size w w' := by
  go_enter Tryz.func58, Tryz.ntmps58
  go_wp2
  go_ret
  exact ⟨rfl, (Below.refl _ _).alloc (Nat.le_refl _) _⟩
theorem rulName_any (s x : ByteArray) (k : Int) (vw : Value) (q : Bool) (w : World) : Calls Tryz.prog 92 #[.agg #[.string s, .int .i64 k, vw, .string x, .bool q]] w fun e w' => e = .returned (.string s) ∧ Below w.heap.size w w' := by
  go_enter Tryz.func92, Tryz.ntmps92
  go_wp2
  go_ret
  exact ⟨rfl, (Below.refl _ _).alloc (Nat.le_refl _) _⟩
theorem ownsMap_same {H : Type} {P : Program} {k : TypeId} {R : Value → Option (DataW H × List MemPlace)} {w w' : World} {b n : Nat} {D : DataW H} (h : w.ownsMap P k R b n D) (e : w'.heap[b]? = w.heap[b]?) : w'.ownsMap P k R b n D := by
  obtain ⟨es, clock, h1, h2⟩ := h
  exact ⟨es, clock, e.trans h1, h2⟩

set_option maxRecDepth 8192 in
set_option maxHeartbeats 3200000 in
theorem twice_elts (v : Value) (l : List Elt) (P : Nat → Prop) (w : World) (hP : ∀ k, P k → k < w.heap.size) (h : EltsAt w P v l) (hl : l.length ≤ 140737488355328) (hsz : ∀ s ∈ l, s.name.size ≤ maxLen) :
    Calls Tryz.prog 57 #[v, .func (.func 58) #[] #[]] w (IsB (twiceB (l.map Elt.name)) w) := by
  obtain ⟨A, n, cap, rfl, hn, hcap, hat⟩ := h.form
  have hn6 : n ≤ 140737488355328 := by omega
  replace hn := Lib.hid hn
  replace hat := Lib.hid hat
  replace hP := Lib.hid hP
  replace hsz := Lib.hid hsz
  have hmm := fun (w : World) => makeMap_hint w n
  have hMB : Hid (Below w.heap.size w (w.alloc (.map #[] 0))) := Lib.hid ((Below.refl _ _).alloc (Nat.le_refl _) _)
  have hown0 := Lib.hid (World.ownsMap_made w Tryz.prog 9 (plainElem Tryz.prog 3 : Value → Option (DataW Unit × List MemPlace)))
  clear h hl
  go_enter Tryz.func57, Tryz.ntmps57
  go_wp2
  go_loopw [13] (fun x13 wr => ∃ (k : Nat) (D : DataW Unit), k ≤ n ∧ x13 = .int .i64 k ∧ Hid (wr.ownsMap Tryz.prog 9 (plainElem Tryz.prog 3) w.heap.size k D) ∧ Hid (Cnt D ((l.map Elt.name).take k)) ∧ Hid (Below w.heap.size w wr)) (fun x13 _ => n - (RowKit.intOf x13).toNat)
  case atStart => exact ⟨0, _, Nat.zero_le _, rfl, hown0, Lib.hid Cnt.nil, hMB⟩
  case round =>
    obtain ⟨k, D, hk, rfl, hown, hcnt, hB⟩ := hrel
    clear hown0 hMB
    by_cases hlt : k < n
    · have hkl : k < l.length := by have := hn.out; omega
      obtain ⟨b, o, rfl, hPb, hc⟩ := hat.out (by omega)
      obtain ⟨vk, vr, h0, h1, h2, hvk, hvr⟩ := hc k hkl
      obtain ⟨Ak, nk, ck, rfl, -, -, -⟩ := hvk.form
      obtain ⟨Ar, nr, cr, rfl, -, -, -⟩ := hvr.form
      have hbw := hP.out b hPb
      have c0 := (hB.out.cell (p := ⟨b, o + k * 3, none⟩) hbw).trans h0
      have c1 := (hB.out.cell (p := ⟨b, o + k * 3 + 1, none⟩) hbw).trans h1
      have c2 := (hB.out.cell (p := ⟨b, o + k * 3 + 2, none⟩) hbw).trans h2
      obtain ⟨s, hs⟩ : ∃ s, l[k].name = s := ⟨_, rfl⟩
      rw [hs] at c0
      have hss := hsz.out l[k] (List.getElem_mem hkl)
      rw [hs] at hss
      have htake : Hid ((l.map Elt.name).take (k + 1) = (l.map Elt.name).take k ++ [s]) := Lib.hid (by rw [List.take_add_one, List.getElem?_map, List.getElem?_eq_getElem hkl, ← hs]; rfl)
      have hnext : ∀ d, Hid (Cnt (D.put (.string s.data.toList) d) ((l.map Elt.name).take (k + 1))) := fun d => Lib.hid (by rw [htake.out]; exact hcnt.out.snoc (hown.out.tidy (string_keyed Tryz.underlying9)) hown.out.isMap s d)
      have hi0 : (0 : Int) ≤ (k : Int) := by omega
      have hi1 : (k : Int) < (n : Int) := by omega
      have hBw := hB.out.size
      clear hc hs htake h0 h1 h2 hvk hvr
      have hown1 := Lib.hid (hown.out.alloc (.cells #[.string s, .slice Ak nk ck, .slice Ar nr cr] 30))
      have hB1 : Hid (Below w.heap.size w (wr.alloc (.cells #[.string s, .slice Ak nk ck, .slice Ar nr cr] 30))) := Lib.hid (hB.out.alloc hBw _)
      go_wp2_with (first
        | (go_at_call 58; refine (eltName_any s _ _ _).mono ?_; rintro e w1 ⟨rfl, hb1⟩; have hown2 := Lib.hid (ownsMap_same hown1.out (hb1.block _ hown1.out.lt)); have hB2 := Lib.hid (hB1.out.trans (hb1.mono hB1.out.size)); clear hb1)
        | (at_lookup; refine wpList_lookup_own_int _ rfl _ _ 116 rfl 9 3 .i64 (string_keyed Tryz.underlying9) Tryz.underlying116 Tryz.underlying3 (zero3 _) w.heap.size k D rfl hown2.out _ _ rfl (WideMaps.keyOf_string_mk Tryz.underlying9 hss) ?_; intro c hat hwc; clear hat)
        | (at_mapUpdate; refine wpList_mapUpdate_own _ rfl _ _ _ 116 rfl 9 3 (string_keyed Tryz.underlying9) Tryz.underlying116 (plainElem Tryz.prog 3) w.heap.size k D rfl hown2.out (by unfold maxLen; omega) _ _ _ rfl rfl (WideMaps.keyOf_string_mk Tryz.underlying9 hss) _ [] (plainElem_int Tryz.underlying3 (wf64 _)) ?_; intro w2 hown3 hg2))
      exact ⟨⟨k + 1, _, by omega, by simp, Lib.hid hown3, hnext _, Lib.hid (hB2.out.grown hg2 hB2.out.size (fun j hj => by cases hj; exact Nat.le_refl _))⟩, by simp [RowKit.intOf]; omega⟩
    · have hkn : k = n := by omega
      subst hkn
      have hsz : Hid (twiceB (l.map Elt.name) = decide ((Maps.size D : Int) < (k : Int))) := Lib.hid (by
        have hlm : (l.map Elt.name).length = k := by rw [List.length_map, hn.out]
        have h1 := hcnt.out.le
        have h2 := hcnt.out.iff
        rw [← hlm, List.take_length] at h1 h2
        unfold twiceB
        rw [Bool.eq_iff_iff, Bool.not_eq_true', decide_eq_false_iff_not, decide_eq_true_eq, ← h2, hlm]
        omega)
      go_wp2_with ((with_reducible refine wpList_len_own _ rfl _ _ rfl 9 3 Tryz.underlying116 (plainElem Tryz.prog 3) w.heap.size k D rfl hown.out ?_))
      go_ret
      refine ⟨?_, hB.out⟩
      rw [hsz.out]
      show Ending.returned (.bool (decide (Maps.size D < k))) = _
      congr 2
      exact decide_eq_decide.2 (by omega)
set_option maxRecDepth 8192 in
set_option maxHeartbeats 3200000 in
theorem twice_ruls (v : Value) (l : List Rul) (P : Nat → Prop) (w : World) (hP : ∀ k, P k → k < w.heap.size) (h : RulsAt w P v l) (hl : l.length ≤ 140737488355328) (hsz : ∀ s ∈ l, s.name.size ≤ maxLen) :
    Calls Tryz.prog 91 #[v, .func (.func 92) #[] #[]] w (IsB (twiceB (l.map Rul.name)) w) := by
  obtain ⟨A, n, cap, rfl, hn, hcap, hat⟩ := h.form
  have hn6 : n ≤ 140737488355328 := by omega
  replace hn := Lib.hid hn
  replace hat := Lib.hid hat
  replace hP := Lib.hid hP
  replace hsz := Lib.hid hsz
  have hmm := fun (w : World) => makeMap_hint w n
  have hMB : Hid (Below w.heap.size w (w.alloc (.map #[] 0))) := Lib.hid ((Below.refl _ _).alloc (Nat.le_refl _) _)
  have hown0 := Lib.hid (World.ownsMap_made w Tryz.prog 9 (plainElem Tryz.prog 3 : Value → Option (DataW Unit × List MemPlace)))
  clear h hl
  go_enter Tryz.func91, Tryz.ntmps91
  go_wp2
  go_loopw [13] (fun x13 wr => ∃ (k : Nat) (D : DataW Unit), k ≤ n ∧ x13 = .int .i64 k ∧ Hid (wr.ownsMap Tryz.prog 9 (plainElem Tryz.prog 3) w.heap.size k D) ∧ Hid (Cnt D ((l.map Rul.name).take k)) ∧ Hid (Below w.heap.size w wr)) (fun x13 _ => n - (RowKit.intOf x13).toNat)
  case atStart => exact ⟨0, _, Nat.zero_le _, rfl, hown0, Lib.hid Cnt.nil, hMB⟩
  case round =>
    obtain ⟨k, D, hk, rfl, hown, hcnt, hB⟩ := hrel
    clear hown0 hMB
    by_cases hlt : k < n
    · have hkl : k < l.length := by have := hn.out; omega
      obtain ⟨b, o, rfl, hPb, hc⟩ := hat.out (by omega)
      obtain ⟨vw, h0, h1, h2, h3, h4, hvw⟩ := hc k hkl
      obtain ⟨Ak, nk, ck, rfl, -, -, -⟩ := hvw.form
      have hbw := hP.out b hPb
      have c0 := (hB.out.cell (p := ⟨b, o + k * 5, none⟩) hbw).trans h0
      have c1 := (hB.out.cell (p := ⟨b, o + k * 5 + 1, none⟩) hbw).trans h1
      have c2 := (hB.out.cell (p := ⟨b, o + k * 5 + 2, none⟩) hbw).trans h2
      have c3 := (hB.out.cell (p := ⟨b, o + k * 5 + 3, none⟩) hbw).trans h3
      have c4 := (hB.out.cell (p := ⟨b, o + k * 5 + 4, none⟩) hbw).trans h4
      obtain ⟨kd, hkd⟩ : ∃ q, l[k].kind = q := ⟨_, rfl⟩
      obtain ⟨rx, hrx⟩ : ∃ q, l[k].regex = q := ⟨_, rfl⟩
      obtain ⟨rq, hrq⟩ : ∃ q, l[k].req = q := ⟨_, rfl⟩
      rw [hkd] at c1
      rw [hrx] at c3
      rw [hrq] at c4
      obtain ⟨s, hs⟩ : ∃ s, l[k].name = s := ⟨_, rfl⟩
      rw [hs] at c0
      have hss := hsz.out l[k] (List.getElem_mem hkl)
      rw [hs] at hss
      have htake : Hid ((l.map Rul.name).take (k + 1) = (l.map Rul.name).take k ++ [s]) := Lib.hid (by rw [List.take_add_one, List.getElem?_map, List.getElem?_eq_getElem hkl, ← hs]; rfl)
      have hnext : ∀ d, Hid (Cnt (D.put (.string s.data.toList) d) ((l.map Rul.name).take (k + 1))) := fun d => Lib.hid (by rw [htake.out]; exact hcnt.out.snoc (hown.out.tidy (string_keyed Tryz.underlying9)) hown.out.isMap s d)
      have hi0 : (0 : Int) ≤ (k : Int) := by omega
      have hi1 : (k : Int) < (n : Int) := by omega
      have hBw := hB.out.size
      clear hc hs htake h0 h1 h2 h3 h4 hvw hkd hrx hrq
      have hown1 := Lib.hid (hown.out.alloc (.cells #[.string s, .int .i64 kd, .slice Ak nk ck, .string rx, .bool rq] 34))
      have hB1 : Hid (Below w.heap.size w (wr.alloc (.cells #[.string s, .int .i64 kd, .slice Ak nk ck, .string rx, .bool rq] 34))) := Lib.hid (hB.out.alloc hBw _)
      go_wp2_with (first
        | (go_at_call 92; refine (rulName_any s rx kd _ rq _).mono ?_; rintro e w1 ⟨rfl, hb1⟩; have hown2 := Lib.hid (ownsMap_same hown1.out (hb1.block _ hown1.out.lt)); have hB2 := Lib.hid (hB1.out.trans (hb1.mono hB1.out.size)); clear hb1)
        | (at_lookup; refine wpList_lookup_own_int _ rfl _ _ 116 rfl 9 3 .i64 (string_keyed Tryz.underlying9) Tryz.underlying116 Tryz.underlying3 (zero3 _) w.heap.size k D rfl hown2.out _ _ rfl (WideMaps.keyOf_string_mk Tryz.underlying9 hss) ?_; intro c hat hwc; clear hat)
        | (at_mapUpdate; refine wpList_mapUpdate_own _ rfl _ _ _ 116 rfl 9 3 (string_keyed Tryz.underlying9) Tryz.underlying116 (plainElem Tryz.prog 3) w.heap.size k D rfl hown2.out (by unfold maxLen; omega) _ _ _ rfl rfl (WideMaps.keyOf_string_mk Tryz.underlying9 hss) _ [] (plainElem_int Tryz.underlying3 (wf64 _)) ?_; intro w2 hown3 hg2))
      exact ⟨⟨k + 1, _, by omega, by simp, Lib.hid hown3, hnext _, Lib.hid (hB2.out.grown hg2 hB2.out.size (fun j hj => by cases hj; exact Nat.le_refl _))⟩, by simp [RowKit.intOf]; omega⟩
    · have hkn : k = n := by omega
      subst hkn
      have hsz : Hid (twiceB (l.map Rul.name) = decide ((Maps.size D : Int) < (k : Int))) := Lib.hid (by
        have hlm : (l.map Rul.name).length = k := by rw [List.length_map, hn.out]
        have h1 := hcnt.out.le
        have h2 := hcnt.out.iff
        rw [← hlm, List.take_length] at h1 h2
        unfold twiceB
        rw [Bool.eq_iff_iff, Bool.not_eq_true', decide_eq_false_iff_not, decide_eq_true_eq, ← h2, hlm]
        omega)
      go_wp2_with ((with_reducible refine wpList_len_own _ rfl _ _ rfl 9 3 Tryz.underlying116 (plainElem Tryz.prog 3) w.heap.size k D rfl hown.out ?_))
      go_ret
      refine ⟨?_, hB.out⟩
      rw [hsz.out]
      show Ending.returned (.bool (decide (Maps.size D < k))) = _
      congr 2
      exact decide_eq_decide.2 (by omega)
end Go.Proofs.YtghlodpbbghcoaaGreatDoor

/- Words for cells that are stored side by side; a struct that is handed back. -/
namespace Go.Proofs.YtghlodpbbghcoaaGreatDoor
open Go.RowKit
theorem blk_setCellsAll {g t : Nat} : ∀ (vs old pre : List Value) (w : World), old.length = vs.length → w.heap[g]? = some (.cells (pre ++ old).toArray t (0, 0)) →
    (w.setCells g pre.length vs).heap[g]? = some (.cells (pre ++ vs).toArray t (0, 0)) := by
  intro vs
  induction vs with
  | nil =>
    intro old pre w ho h
    obtain rfl : old = [] := List.eq_nil_of_length_eq_zero ho
    exact h
  | cons v vs ih =>
    intro old pre w ho h
    cases old with
    | nil => simp at ho
    | cons u old =>
      have h1 := blk_set_self h pre.length v
      have h2 : ((pre ++ u :: old).toArray).setIfInBounds pre.length v = ((pre ++ [v]) ++ old).toArray := by
        rw [List.setIfInBounds_toArray]
        simp
      rw [h2] at h1
      have h3 := ih old (pre ++ [v]) (w.setCell ⟨g, pre.length, none⟩ v) (by simpa using ho) h1
      have e1 : (pre ++ [v]) ++ vs = pre ++ v :: vs := by simp
      have e2 : (pre ++ [v]).length = pre.length + 1 := by simp
      rw [e1, e2] at h3
      exact h3
theorem heap_setCells_other {g x : Nat} (hx : x ≠ g) : ∀ (vs : List Value) (o : Nat) (w : World), (w.setCells g o vs).heap[x]? = w.heap[x]? := by
  intro vs
  induction vs with
  | nil => intro o w; rfl
  | cons v vs ih =>
    intro o w
    show ((w.setCell ⟨g, o, none⟩ v).setCells g (o + 1) vs).heap[x]? = _
    rw [ih]
    exact Below.heap_setCell w ⟨g, o, none⟩ v x hx
theorem setCells_size : ∀ (vs : List Value) (g o : Nat) (w : World), (w.setCells g o vs).heap.size = w.heap.size := by
  intro vs
  induction vs with
  | nil => intro g o w; rfl
  | cons v vs ih => intro g o w; show ((w.setCell ⟨g, o, none⟩ v).setCells g (o + 1) vs).heap.size = _; rw [ih]; simp
theorem below_setCells {B : Nat} {a : World} {b : Nat} (hb : B ≤ b) (vs : List Value) : ∀ (w : World) (o : Nat), Below B a w → Below B a (w.setCells b o vs) := by
  induction vs with
  | nil => intro w o h; exact h
  | cons v vs ih => intro w o h; exact ih _ _ (h.setCell (p := ⟨b, o, none⟩) hb v)
theorem there_of {w : World} {g : Nat} {cs : List Value} {t : TypeId} (h : w.heap[g]? = some (.cells cs.toArray t (0, 0))) : w.there g 0 cs.length := by
  intro j hj
  rw [Nat.zero_add]
  refine ⟨?_, blk_frozen h j⟩
  rw [blk_cell h j]
  simp [hj]
theorem blk_stored {w : World} {g : Nat} {old : List Value} {t : TypeId} (h : w.heap[g]? = some (.cells old.toArray t (0, 0))) (vs : List Value) (hl : old.length = vs.length) : (w.setCells g 0 vs).heap[g]? = some (.cells vs.toArray t (0, 0)) :=
  blk_setCellsAll vs old [] w hl h
theorem info30 : (Tryz.prog.info? 30).map (·.size) = some 3 := by kernel_rfl
theorem results_elt {fn : Func} {p u : Tmp} (h : fn.results = #[.cell p 30, .tmp u]) (tmps : Array Value) (w : World) {g : Nat} {a b c : Value}
    (hp : tmps.getD p undef = .pointer (some ⟨g, 0, none⟩)) (hb : w.heap[g]? = some (.cells #[a, b, c] 30 (0, 0))) : (results fn tmps).run Tryz.prog w = .ok (.tuple #[.agg #[a, b, c], tmps.getD u undef]) w := by
  have hp' : tmps[p]?.getD undef = .pointer (some ⟨g, 0, none⟩) := by simpa using hp
  rw [results_cell_tmp h]
  have hl := run_loadVar_row (P := Tryz.prog) w g 30 30 _ (0, 0) _ hb Tryz.underlying30 rfl info30
  simp [asAddr, hp', hl]
end Go.Proofs.YtghlodpbbghcoaaGreatDoor

/- The element of a name: walked. -/
namespace Go.Proofs.YtghlodpbbghcoaaGreatDoor
open Go.Lib Go.RowKit Go.Maps
def findP (l : List Elt) (nm : ByteArray) : Option Elt := l.find? fun e => decide (e.name = nm)
theorem findP_some {l : List Elt} {nm : ByteArray} {k : Nat} (hk : k < l.length) (h : ∀ j (hj : j < l.length), j < k → l[j].name ≠ nm) (he : l[k].name = nm) : findP l nm = some l[k] := by
  unfold findP
  rw [List.find?_eq_some_iff_getElem]
  exact ⟨by simpa using he, k, hk, rfl, fun j hj => by simpa using h j (by omega) hj⟩
theorem findP_none {l : List Elt} {nm : ByteArray} (h : ∀ j (hj : j < l.length), l[j].name ≠ nm) : findP l nm = none := by
  unfold findP
  rw [List.find?_eq_none]
  intro x hx
  obtain ⟨j, hj, rfl⟩ := List.getElem_of_mem hx
  simpa using h j hj
theorem ne_toList {a b : ByteArray} (h : a ≠ b) : (a.toList == b.toList) = false := by
  rw [beq_eq_false_iff_ne]
  intro e
  rw [ByteArray.toList_eq, ByteArray.toList_eq] at e
  exact h (bytes_ext e)
def FindPost (r : Option Elt) (P : Nat → Prop) (w : World) (e : Ending) (w' : World) : Prop :=
  (match r with
   | none => e = .returned (.tuple #[.agg #[.string ⟨#[]⟩, .slice none 0 0, .slice none 0 0], .bool false])
   | some x => ∃ vk vr, e = .returned (.tuple #[.agg #[.string x.name, vk, vr], .bool true]) ∧ StrsAt w' P vk x.kids ∧ RulsAt w' P vr x.rules) ∧ Below w.heap.size w w'

set_option maxRecDepth 8192 in
set_option maxHeartbeats 3200000 in
theorem find_any (vt ve vu : Value) (l : List Elt) (nm : ByteArray) (P : Nat → Prop) (w : World) (hP : ∀ k, P k → k < w.heap.size) (h : EltsAt w P ve l) (ht : ∃ A n c, vt = .slice A n c) (hu : ∃ A n c, vu = .slice A n c) (hl : l.length ≤ 140737488355328) :
    Calls Tryz.prog 17 #[.agg #[vt, ve, vu], .string nm] w (FindPost (findP l nm) P w) := by
  obtain ⟨At, nt, ct, rfl⟩ := ht
  obtain ⟨Au, nu, cu, rfl⟩ := hu
  obtain ⟨A, n, cap, rfl, hn, hcap, hat⟩ := h.form
  have hn6 : n ≤ 140737488355328 := by omega
  obtain ⟨r, hr⟩ : ∃ r, findP l nm = r := ⟨_, rfl⟩
  rw [hr]
  replace hr := Lib.hid hr
  replace hn := Lib.hid hn
  replace hat := Lib.hid hat
  replace hP := Lib.hid hP
  clear h hl
  obtain ⟨w2, hw2⟩ : ∃ w2, (w.alloc (.cells #[.slice At nt ct, .slice A n cap, .slice Au nu cu] 25)).alloc (.cells #[.string ⟨#[]⟩, .slice none 0 0, .slice none 0 0] 30) = w2 := ⟨_, rfl⟩
  have hB2 : Hid (Below w.heap.size w w2) := Lib.hid (by rw [← hw2]; exact ((Below.refl _ _).alloc (Nat.le_refl _) _).alloc (by simp) _)
  have hR2 : Hid (w2.heap[w.heap.size + 1]? = some (.cells #[.string ⟨#[]⟩, .slice none 0 0, .slice none 0 0] 30)) := Lib.hid (by rw [← hw2]; exact blk_new' (by simp))
  have hS2 : Hid (w2.heap.size = w.heap.size + 2) := Lib.hid (by rw [← hw2]; simp)
  have hbx : Hid (w2.heap[w.heap.size]? = some (.cells #[.slice At nt ct, .slice A n cap, .slice Au nu cu] 25)) := Lib.hid (by rw [← hw2]; exact blk_alloc (blk_new _ _) _)
  go_enter Tryz.func17, Tryz.ntmps17
  go_upto_region 1 with fail
  have d1 : w2.cell? ⟨w.heap.size, 1, none⟩ = some (.slice A n cap) := blk_cell hbx.out 1
  clear hw2
  go_wp2
  go_loopw [11] (fun x11 wr => ∃ k : Nat, k ≤ n ∧ x11 = .int .i64 k ∧ Hid (∀ j (hj : j < l.length), j < k → l[j].name ≠ nm) ∧ Hid (Below w2.heap.size w2 wr)) (fun x11 _ => n - (RowKit.intOf x11).toNat)
  case atStart => exact ⟨0, Nat.zero_le _, rfl, Lib.hid (fun j _ h => absurd h (Nat.not_lt_zero _)), Lib.hid (Below.refl _ _)⟩
  case round =>
    obtain ⟨k, hk, rfl, hno, hB⟩ := hrel
    clear d1
    have hBw : Hid (Below w.heap.size w wr) := Lib.hid (hB2.out.trans (hB.out.mono hB2.out.size))
    have hRr : Hid (wr.heap[w.heap.size + 1]? = some (.cells #[.string ⟨#[]⟩, .slice none 0 0, .slice none 0 0] 30)) := Lib.hid (blk_below hR2.out hB.out (by rw [hS2.out]; omega))
    have hlr : Hid (w.heap.size + 1 < wr.heap.size) := Lib.hid (blk_lt hRr.out)
    by_cases hlt : k < n
    · have hkl : k < l.length := by have := hn.out; omega
      obtain ⟨b, o, rfl, hPb, hc⟩ := hat.out (by omega)
      obtain ⟨vk, vr, h0, h1, h2, hvk, hvr⟩ := hc k hkl
      have hbw := hP.out b hPb
      have c0 := (hBw.out.cell (p := ⟨b, o + k * 3, none⟩) hbw).trans h0
      have c1 := (hBw.out.cell (p := ⟨b, o + k * 3 + 1, none⟩) hbw).trans h1
      have c2 := (hBw.out.cell (p := ⟨b, o + k * 3 + 2, none⟩) hbw).trans h2
      have hfin : Hid (StrsAt w P vk l[k].kids ∧ RulsAt w P vr l[k].rules) := Lib.hid ⟨hvk, hvr⟩
      obtain ⟨Ak, nk, ck, rfl, -, -, -⟩ := hvk.form
      obtain ⟨Ar, nr, cr, rfl, -, -, -⟩ := hvr.form
      obtain ⟨s, hs⟩ : ∃ s, l[k].name = s := ⟨_, rfl⟩
      rw [hs] at c0
      have hi0 : (0 : Int) ≤ (k : Int) := by omega
      have hi1 : (k : Int) < (n : Int) := by omega
      replace hs := Lib.hid hs
      clear hc h0 h1 h2
      by_cases hsn : s = nm
      · subst hsn
        have hr1 : r = some l[k] := by rw [← hr.out]; exact findP_some hkl hno.out hs.out
        subst hr1
        have hW3 : Hid (Below w2.heap.size w2 (wr.alloc (.cells #[.string s, .slice Ak nk ck, .slice Ar nr cr] 30))) := Lib.hid (hB.out.alloc hB.out.size _)
        have hR3 : Hid ((wr.alloc (.cells #[.string s, .slice Ak nk ck, .slice Ar nr cr] 30)).heap[w.heap.size + 1]? = some (.cells #[.string ⟨#[]⟩, .slice none 0 0, .slice none 0 0] 30)) := Lib.hid (blk_alloc hRr.out _)
        go_wp2_with ((with_reducible show wpList _ _ _ (⟨none, _, _, _, _, _⟩ :: _) _ _); refine wpList_store_mid rfl 30 _ _ rfl (w.heap.size + 1) 0 #[.string s, .slice Ak nk ck, .slice Ar nr cr] rfl rfl (there_of (cs := [.string ⟨#[]⟩, .slice none 0 0, .slice none 0 0]) hR3.out) info30 (by simp [Value.oneCell']) ?_)
        try simp only [Exit.inBlock, Exit.then]
        refine bodyPost_ret (results_elt rfl _ _ rfl (blk_stored hR3.out [.string s, .slice Ak nk ck, .slice Ar nr cr] rfl)) rfl ⟨⟨.slice Ak nk ck, .slice Ar nr cr, by rw [hs.out]; rfl, ?_, ?_⟩, ?_⟩
        all_goals have hBf := below_setCells (B := w.heap.size) (b := w.heap.size + 1) (by omega) [.string s, .slice Ak nk ck, .slice Ar nr cr] _ 0 (hB2.out.trans (hW3.out.mono hB2.out.size))
        · exact hfin.out.1.move (Stays.below hBf hP.out) (fun _ h => h)
        · exact hfin.out.2.move (Stays.below hBf hP.out) (fun _ h => h)
        · exact hBf
      · have ens := ne_toList hsn
        have hno2 : Hid (∀ j (hj : j < l.length), j < k + 1 → l[j].name ≠ nm) := Lib.hid (fun j hj hjk => by
          by_cases e : j = k
          · subst e; rw [hs.out]; exact hsn
          · exact hno.out j hj (by omega))
        have hB3 : Hid (Below w2.heap.size w2 (wr.alloc (.cells #[.string s, .slice Ak nk ck, .slice Ar nr cr] 30))) := Lib.hid (hB.out.alloc hB.out.size _)
        go_wp2
        exact ⟨⟨k + 1, by omega, by simp, hno2, hB3⟩, by simp [RowKit.intOf]; omega⟩
    · have hkn : k = n := by omega
      have hr1 : r = none := by rw [← hr.out]; exact findP_none (fun j hj => hno.out j hj (by have := hn.out; omega))
      subst hr1
      go_wp2_with ((with_reducible show wpList _ _ _ (⟨none, _, _, _, _, _⟩ :: _) _ _); refine wpList_store_mid rfl 30 _ _ rfl (w.heap.size + 1) 0 #[.string ⟨#[]⟩, .slice none 0 0, .slice none 0 0] rfl rfl (there_of (cs := [.string ⟨#[]⟩, .slice none 0 0, .slice none 0 0]) hRr.out) info30 (by simp [Value.oneCell']) ?_)
      try simp only [Exit.inBlock, Exit.then]
      refine bodyPost_ret (results_elt rfl _ _ rfl (blk_stored hRr.out [.string ⟨#[]⟩, .slice none 0 0, .slice none 0 0] rfl)) rfl ⟨rfl, ?_⟩
      exact below_setCells (B := w.heap.size) (b := w.heap.size + 1) (by omega) _ _ 0 hBw.out
end Go.Proofs.YtghlodpbbghcoaaGreatDoor

/- Whether names may be listed: walked. -/
namespace Go.Proofs.YtghlodpbbghcoaaGreatDoor
open Go.Lib Go.RowKit Go.Maps
def textN : List UInt8 := [35, 116, 101, 120, 116]
def commN : List UInt8 := [35, 99, 111, 109, 109, 101, 110, 116]
/-- May a name stand in a list? -/
def nameOk (el : List Elt) (s : ByteArray) : Bool := (findP el s).isSome || (s.toList == textN || s.toList == commN)
/-- May a list stand? -/
def listedP (el : List Elt) (l : List ByteArray) : Bool := decide (l.length ≤ el.length + 2) && (l.all (nameOk el) && !twiceB l)
theorem all_take_false {α : Type} {p : α → Bool} {l : List α} {k : Nat} (hk : k < l.length) (h : p l[k] = false) : l.all p = false := by
  rw [List.all_eq_false]
  exact ⟨_, List.getElem_mem hk, by rw [h]; simp⟩
theorem all_of_at {α : Type} {p : α → Bool} {l : List α} (h : ∀ j (hj : j < l.length), p l[j] = true) : l.all p = true := by
  rw [List.all_eq_true]
  intro x hx
  obtain ⟨j, hj, rfl⟩ := List.getElem_of_mem hx
  exact h j hj

set_option maxRecDepth 8192 in
set_option maxHeartbeats 3200000 in
theorem listed_any (vt ve vu v : Value) (el : List Elt) (l : List ByteArray) (P : Nat → Prop) (w : World) (hP : ∀ k, P k → k < w.heap.size) (he : EltsAt w P ve el) (ht : ∃ A n c, vt = .slice A n c) (hu : ∃ A n c, vu = .slice A n c) (hv : StrsAt w P v l)
    (hel : el.length ≤ 140737488355328) (hl : l.length ≤ 140737488355328) (hsz : ∀ s ∈ l, s.size ≤ maxLen) : Calls Tryz.prog 61 #[.agg #[vt, ve, vu], v] w (IsB (listedP el l) w) := by
  have hfind : Hid (∀ (s : ByteArray) (wr : World), Below w.heap.size w wr → Calls Tryz.prog 17 #[.agg #[vt, ve, vu], .string s] wr (FindPost (findP el s) P wr)) := Lib.hid (fun s wr hb =>
    find_any vt ve vu el s P wr (fun k hk => Nat.lt_of_lt_of_le (hP k hk) hb.size) (he.move (Stays.below hb hP) (fun _ h => h)) ht hu hel)
  have htw : Hid (∀ wr : World, Below w.heap.size w wr → Calls Tryz.prog 59 #[v, .func (.func 60) #[] #[]] wr (IsB (twiceB l) wr)) := Lib.hid (fun wr hb =>
    twice_texts v l P wr (fun k hk => Nat.lt_of_lt_of_le (hP k hk) hb.size) (hv.move (Stays.below hb hP) (fun _ h => h)) hl hsz)
  obtain ⟨At, nt, ct, rfl⟩ := ht
  obtain ⟨Au, nu, cu, rfl⟩ := hu
  obtain ⟨Ae, ne, ce, rfl, hne, -, -⟩ := he.form
  obtain ⟨A, n, cap, rfl, hn, hcap, hat⟩ := hv.form
  have hn6 : n ≤ 140737488355328 := by omega
  have hne6 : ne ≤ 140737488355328 := by omega
  obtain ⟨r, hr⟩ : ∃ r, listedP el l = r := ⟨_, rfl⟩
  rw [hr]
  replace hr := Lib.hid hr
  replace hne := Lib.hid hne
  replace hn := Lib.hid hn
  replace hat := Lib.hid hat
  replace hP := Lib.hid hP
  clear he hv hel hl hsz
  obtain ⟨w1, hw1⟩ : ∃ w1, w.alloc (.cells #[.slice At nt ct, .slice Ae ne ce, .slice Au nu cu] 25) = w1 := ⟨_, rfl⟩
  have hB1 : Hid (Below w.heap.size w w1) := Lib.hid (by rw [← hw1]; exact (Below.refl _ _).alloc (Nat.le_refl _) _)
  have hbx : Hid (w1.heap[w.heap.size]? = some (.cells #[.slice At nt ct, .slice Ae ne ce, .slice Au nu cu] 25)) := Lib.hid (by rw [← hw1]; exact blk_new _ _)
  by_cases hbig : ne + 2 < n
  · have e : r = false := by
      rw [← hr.out, listedP, decide_eq_false (by rw [← hn.out, ← hne.out]; omega)]
      rfl
    subst e
    have hbi : (ne : Int) + 2 < (n : Int) := by omega
    go_enter Tryz.func61, Tryz.ntmps61
    go_upto_region 1 with fail
    have d1 : w1.cell? ⟨w.heap.size, 1, none⟩ = some (.slice Ae ne ce) := blk_cell hbx.out 1
    clear hw1
    go_wp2
    go_ret
    exact ⟨rfl, hB1.out⟩
  · have hr1 : Hid (r = (l.all (nameOk el) && !twiceB l)) := Lib.hid (by
      rw [← hr.out, listedP, decide_eq_true (by rw [← hn.out, ← hne.out]; omega)]
      rfl)
    have hbi : ¬ (ne : Int) + 2 < (n : Int) := by omega
    go_enter Tryz.func61, Tryz.ntmps61
    go_upto_region 1 with fail
    have d1 : w1.cell? ⟨w.heap.size, 1, none⟩ = some (.slice Ae ne ce) := blk_cell hbx.out 1
    clear hw1
    go_upto_region 3 with fail
    go_wp2
    go_loopw [18] (fun x18 wr => ∃ k : Nat, k ≤ n ∧ x18 = .int .i64 k ∧ Hid (∀ j (hj : j < l.length), j < k → nameOk el l[j] = true) ∧ Hid (Below w1.heap.size w1 wr)) (fun x18 _ => n - (RowKit.intOf x18).toNat)
    case atStart => exact ⟨0, Nat.zero_le _, rfl, Lib.hid (fun j _ h => absurd h (Nat.not_lt_zero _)), Lib.hid (Below.refl _ _)⟩
    case round =>
      obtain ⟨k, hk, rfl, hok, hB⟩ := hrel
      clear d1 hbi hbig
      have hBw : Hid (Below w.heap.size w wr) := Lib.hid (hB1.out.trans (hB.out.mono hB1.out.size))
      have hX := blk_below hbx.out hB.out (blk_lt hbx.out)
      by_cases hlt : k < n
      · have hkl : k < l.length := by have := hn.out; omega
        obtain ⟨b, o, rfl, hPb, hc⟩ := hat.out (by omega)
        have c0 := (hBw.out.cell (p := ⟨b, o + k, none⟩) (hP.out b hPb)).trans (hc k hkl)
        obtain ⟨s, hs⟩ : ∃ s, l[k] = s := ⟨_, rfl⟩
        rw [hs] at c0
        have d0 : wr.cell? ⟨w.heap.size, 0, none⟩ = some (.slice At nt ct) := blk_cell hX 0
        have d1 : wr.cell? ⟨w.heap.size, 1, none⟩ = some (.slice Ae ne ce) := blk_cell hX 1
        have d2 : wr.cell? ⟨w.heap.size, 2, none⟩ = some (.slice Au nu cu) := blk_cell hX 2
        have hi0 : (0 : Int) ≤ (k : Int) := by omega
        have hi1 : (k : Int) < (n : Int) := by omega
        obtain ⟨t, ht⟩ : ∃ t, (s.toList == textN) = t := ⟨_, rfl⟩
        obtain ⟨c, hc2⟩ : ∃ c, (s.toList == commN) = c := ⟨_, rfl⟩
        have hnk : Hid (nameOk el l[k] = ((findP el s).isSome || (t || c))) := Lib.hid (by rw [hs, nameOk, ht, hc2])
        have hbad : Hid (nameOk el l[k] = false → r = false) := Lib.hid (fun e => by rw [hr1.out, all_take_false hkl e]; rfl)
        have hgood : Hid (nameOk el l[k] = true → ∀ j (hj : j < l.length), j < k + 1 → nameOk el l[j] = true) := Lib.hid (fun e j hj hjk => by
          by_cases e2 : j = k
          · subst e2; exact e
          · exact hok.out j hj (by omega))
        have hfs := hfind.out s wr hBw.out
        unfold textN at ht
        unfold commN at hc2
        have ht2 : (s.toList != [35, 116, 101, 120, 116]) = !t := by rw [bne, ht]
        have hc3 : (s.toList != [35, 99, 111, 109, 109, 101, 110, 116]) = !c := by rw [bne, hc2]
        clear hc hs hr1 hX
        cases hf : findP el s with
        | some x =>
          rw [hf] at hfs hnk
          have g := hgood.out (by rw [hnk.out]; rfl)
          replace g := Lib.hid g
          clear hf hgood hbad hnk
          go_upto_region 7 with (go_at_call 17; refine hfs.mono ?_; rintro e5 w5 ⟨he, hB5⟩; simp only at he; obtain ⟨vk, vr, rfl, hk5, hr5⟩ := he; obtain ⟨Ak, nk, ck, rfl, -, -, -⟩ := hk5.form; obtain ⟨Ar, nr, cr, rfl, -, -, -⟩ := hr5.form; clear hk5 hr5)
          have hB6 : Hid (Below w1.heap.size w1 (w5.alloc (.cells #[.string x.name, .slice Ak nk ck, .slice Ar nr cr] 30))) := Lib.hid ((hB.out.trans (hB5.mono hB.out.size)).alloc (Nat.le_trans hB.out.size hB5.size) _)
          go_wp2
          exact ⟨⟨k + 1, by omega, by simp, g, hB6⟩, by simp [RowKit.intOf]; omega⟩
        | none =>
          rw [hf] at hfs hnk
          clear hf
          go_upto_region 7 with (go_at_call 17; refine hfs.mono ?_; rintro e5 w5 ⟨he, hB5⟩; simp only at he; subst he)
          have hB6 : Hid (Below w1.heap.size w1 (w5.alloc (.cells #[.string ⟨#[]⟩, .slice none 0 0, .slice none 0 0] 30))) := Lib.hid ((hB.out.trans (hB5.mono hB.out.size)).alloc (Nat.le_trans hB.out.size hB5.size) _)
          cases t with
          | true =>
            have g := Lib.hid (hgood.out (by rw [hnk.out]; rfl))
            clear hgood hbad hnk
            go_wp2
            exact ⟨⟨k + 1, by omega, by simp, g, hB6⟩, by simp [RowKit.intOf]; omega⟩
          | false =>
            cases c with
            | true =>
              have g := Lib.hid (hgood.out (by rw [hnk.out]; rfl))
              clear hgood hbad hnk
              go_wp2
              exact ⟨⟨k + 1, by omega, by simp, g, hB6⟩, by simp [RowKit.intOf]; omega⟩
            | false =>
              have e := hbad.out (by rw [hnk.out]; rfl)
              subst e
              clear hgood hbad hnk
              go_wp2
              go_ret
              exact ⟨rfl, hB1.out.trans (hB6.out.mono hB1.out.size)⟩
      · have hkn : k = n := by omega
        have hall : Hid (r = !twiceB l) := Lib.hid (by rw [hr1.out, all_of_at (fun j hj => hok.out j hj (by have := hn.out; omega))]; rfl)
        have htl := htw.out wr hBw.out
        obtain ⟨tb, htb⟩ : ∃ tb, twiceB l = tb := ⟨_, rfl⟩
        rw [htb] at htl hall
        subst hkn
        clear htb hr1
        go_wp2_with (go_at_call 59; refine htl.mono ?_; rintro e5 w5 ⟨rfl, hB5⟩)
        go_ret
        exact ⟨by rw [hall.out]; rfl, hBw.out.trans (hB5.mono hBw.out.size)⟩
end Go.Proofs.YtghlodpbbghcoaaGreatDoor
