/- Whether a name stands twice, of elements and of rules: walked. -/
import Derived.Test.YtghlodpbbghcoaaGreatDoorZ13
namespace Go.Proofs.YtghlodpbbghcoaaGreatDoor
open Go.Lib Go.RowKit Go.Maps
theorem eltName_any (s : ByteArray) (vk vr : Value) (w : World) : Calls Tryz.prog 58 #[.agg #[.string s, vk, vr]] w fun e w' => e = .returned (.string s) ∧ Below w.heap.size w w' := by
  go_enter Tryz.func58, Tryz.ntmps58
  go_wp2
  go_ret
  exact ⟨rfl, (Below.refl _ _).alloc (Nat.le_refl _) _⟩
theorem rulName_any (s x : ByteArray) (k : Int) (vw : Value) (q : Bool) (w : World) : Calls Tryz.prog 92 #[.agg #[.string s, .int .i64 k, vw, .string x, .bool q]] w fun e w' => e = .returned (.string s) ∧ Below w.heap.size w w' := by
  go_enter Tryz.func92, Tryz.ntmps92
  go_wp2
  go_ret
  exact ⟨rfl, (Below.refl _ _).alloc (Nat.le_refl _) _⟩
theorem ownsMap_same {H : Type} {P : Program} {k : TypeId} {R : Value → Option (DataW H × List MemPlace)} {w w' : World} {b n : Nat} {D : DataW H} (h : w.ownsMap P k R b n D) (e : w'.heap[b]? = w.heap[b]?) : w'.ownsMap P k R b n D := by
  obtain ⟨es, clock, h1, h2⟩ := h
  exact ⟨es, clock, e.trans h1, h2⟩

set_option maxRecDepth 8192 in
set_option maxHeartbeats 3200000 in
theorem twice_elts (v : Value) (l : List Elt) (P : Nat → Prop) (w : World) (hP : ∀ k, P k → k < w.heap.size) (h : EltsAt w P v l) (hl : l.length ≤ 140737488355328) (hsz : ∀ s ∈ l, s.name.size ≤ maxLen) :
    Calls Tryz.prog 57 #[v, .func (.func 58) #[] #[]] w (IsB (twiceB (l.map Elt.name)) w) := by
  obtain ⟨A, n, cap, rfl, hn, hcap, hat⟩ := h.form
  have hn6 : n ≤ 140737488355328 := by omega
  replace hn := Lib.hid hn
  replace hat := Lib.hid hat
  replace hP := Lib.hid hP
  replace hsz := Lib.hid hsz
  have hmm := fun (w : World) => makeMap_hint w n
  have hMB : Hid (Below w.heap.size w (w.alloc (.map #[] 0))) := Lib.hid ((Below.refl _ _).alloc (Nat.le_refl _) _)
  have hown0 := Lib.hid (World.ownsMap_made w Tryz.prog 9 (plainElem Tryz.prog 3 : Value → Option (DataW Unit × List MemPlace)))
  clear h hl
  go_enter Tryz.func57, Tryz.ntmps57
  go_wp2
  go_loopw [13] (fun x13 wr => ∃ (k : Nat) (D : DataW Unit), k ≤ n ∧ x13 = .int .i64 k ∧ Hid (wr.ownsMap Tryz.prog 9 (plainElem Tryz.prog 3) w.heap.size k D) ∧ Hid (Cnt D ((l.map Elt.name).take k)) ∧ Hid (Below w.heap.size w wr)) (fun x13 _ => n - (RowKit.intOf x13).toNat)
  case atStart => exact ⟨0, _, Nat.zero_le _, rfl, hown0, Lib.hid Cnt.nil, hMB⟩
  case round =>
    obtain ⟨k, D, hk, rfl, hown, hcnt, hB⟩ := hrel
    clear hown0 hMB
    by_cases hlt : k < n
    · have hkl : k < l.length := by have := hn.out; omega
      obtain ⟨b, o, rfl, hPb, hc⟩ := hat.out (by omega)
      obtain ⟨vk, vr, h0, h1, h2, hvk, hvr⟩ := hc k hkl
      obtain ⟨Ak, nk, ck, rfl, -, -, -⟩ := hvk.form
      obtain ⟨Ar, nr, cr, rfl, -, -, -⟩ := hvr.form
      have hbw := hP.out b hPb
      have c0 := (hB.out.cell (p := ⟨b, o + k * 3, none⟩) hbw).trans h0
      have c1 := (hB.out.cell (p := ⟨b, o + k * 3 + 1, none⟩) hbw).trans h1
      have c2 := (hB.out.cell (p := ⟨b, o + k * 3 + 2, none⟩) hbw).trans h2
      obtain ⟨s, hs⟩ : ∃ s, l[k].name = s := ⟨_, rfl⟩
      rw [hs] at c0
      have hss := hsz.out l[k] (List.getElem_mem hkl)
      rw [hs] at hss
      have htake : Hid ((l.map Elt.name).take (k + 1) = (l.map Elt.name).take k ++ [s]) := Lib.hid (by rw [List.take_add_one, List.getElem?_map, List.getElem?_eq_getElem hkl, ← hs]; rfl)
      have hnext : ∀ d, Hid (Cnt (D.put (.string s.data.toList) d) ((l.map Elt.name).take (k + 1))) := fun d => Lib.hid (by rw [htake.out]; exact hcnt.out.snoc (hown.out.tidy (string_keyed Tryz.underlying9)) hown.out.isMap s d)
      have hi0 : (0 : Int) ≤ (k : Int) := by omega
      have hi1 : (k : Int) < (n : Int) := by omega
      have hBw := hB.out.size
      clear hc hs htake h0 h1 h2 hvk hvr
      have hown1 := Lib.hid (hown.out.alloc (.cells #[.string s, .slice Ak nk ck, .slice Ar nr cr] 30))
      have hB1 : Hid (Below w.heap.size w (wr.alloc (.cells #[.string s, .slice Ak nk ck, .slice Ar nr cr] 30))) := Lib.hid (hB.out.alloc hBw _)
      go_wp2_with (first
        | (go_at_call 58; refine (eltName_any s _ _ _).mono ?_; rintro e w1 ⟨rfl, hb1⟩; have hown2 := Lib.hid (ownsMap_same hown1.out (hb1.block _ hown1.out.lt)); have hB2 := Lib.hid (hB1.out.trans (hb1.mono hB1.out.size)); clear hb1)
        | (at_lookup; refine wpList_lookup_own_int _ rfl _ _ 116 rfl 9 3 .i64 (string_keyed Tryz.underlying9) Tryz.underlying116 Tryz.underlying3 (zero3 _) w.heap.size k D rfl hown2.out _ _ rfl (WideMaps.keyOf_string_mk Tryz.underlying9 hss) ?_; intro c hat hwc; clear hat)
        | (at_mapUpdate; refine wpList_mapUpdate_own _ rfl _ _ _ 116 rfl 9 3 (string_keyed Tryz.underlying9) Tryz.underlying116 (plainElem Tryz.prog 3) w.heap.size k D rfl hown2.out (by unfold maxLen; omega) _ _ _ rfl rfl (WideMaps.keyOf_string_mk Tryz.underlying9 hss) _ [] (plainElem_int Tryz.underlying3 (wf64 _)) ?_; intro w2 hown3 hg2))
      exact ⟨⟨k + 1, _, by omega, by simp, Lib.hid hown3, hnext _, Lib.hid (hB2.out.grown hg2 hB2.out.size (fun j hj => by cases hj; exact Nat.le_refl _))⟩, by simp [RowKit.intOf]; omega⟩
    · have hkn : k = n := by omega
      subst hkn
      have hsz : Hid (twiceB (l.map Elt.name) = decide ((Maps.size D : Int) < (k : Int))) := Lib.hid (by
        have hlm : (l.map Elt.name).length = k := by rw [List.length_map, hn.out]
        have h1 := hcnt.out.le
        have h2 := hcnt.out.iff
        rw [← hlm, List.take_length] at h1 h2
        unfold twiceB
        rw [Bool.eq_iff_iff, Bool.not_eq_true', decide_eq_false_iff_not, decide_eq_true_eq, ← h2, hlm]
        omega)
      go_wp2_with ((with_reducible refine wpList_len_own _ rfl _ _ rfl 9 3 Tryz.underlying116 (plainElem Tryz.prog 3) w.heap.size k D rfl hown.out ?_))
      go_ret
      refine ⟨?_, hB.out⟩
      rw [hsz.out]
      show Ending.returned (.bool (decide (Maps.size D < k))) = _
      congr 2
      exact decide_eq_decide.2 (by omega)
set_option maxRecDepth 8192 in
set_option maxHeartbeats 3200000 in
theorem twice_ruls (v : Value) (l : List Rul) (P : Nat → Prop) (w : World) (hP : ∀ k, P k → k < w.heap.size) (h : RulsAt w P v l) (hl : l.length ≤ 140737488355328) (hsz : ∀ s ∈ l, s.name.size ≤ maxLen) :
    Calls Tryz.prog 91 #[v, .func (.func 92) #[] #[]] w (IsB (twiceB (l.map Rul.name)) w) := by
  obtain ⟨A, n, cap, rfl, hn, hcap, hat⟩ := h.form
  have hn6 : n ≤ 140737488355328 := by omega
  replace hn := Lib.hid hn
  replace hat := Lib.hid hat
  replace hP := Lib.hid hP
  replace hsz := Lib.hid hsz
  have hmm := fun (w : World) => makeMap_hint w n
  have hMB : Hid (Below w.heap.size w (w.alloc (.map #[] 0))) := Lib.hid ((Below.refl _ _).alloc (Nat.le_refl _) _)
  have hown0 := Lib.hid (World.ownsMap_made w Tryz.prog 9 (plainElem Tryz.prog 3 : Value → Option (DataW Unit × List MemPlace)))
  clear h hl
  go_enter Tryz.func91, Tryz.ntmps91
  go_wp2
  go_loopw [13] (fun x13 wr => ∃ (k : Nat) (D : DataW Unit), k ≤ n ∧ x13 = .int .i64 k ∧ Hid (wr.ownsMap Tryz.prog 9 (plainElem Tryz.prog 3) w.heap.size k D) ∧ Hid (Cnt D ((l.map Rul.name).take k)) ∧ Hid (Below w.heap.size w wr)) (fun x13 _ => n - (RowKit.intOf x13).toNat)
  case atStart => exact ⟨0, _, Nat.zero_le _, rfl, hown0, Lib.hid Cnt.nil, hMB⟩
  case round =>
    obtain ⟨k, D, hk, rfl, hown, hcnt, hB⟩ := hrel
    clear hown0 hMB
    by_cases hlt : k < n
    · have hkl : k < l.length := by have := hn.out; omega
      obtain ⟨b, o, rfl, hPb, hc⟩ := hat.out (by omega)
      obtain ⟨vw, h0, h1, h2, h3, h4, hvw⟩ := hc k hkl
      obtain ⟨Ak, nk, ck, rfl, -, -, -⟩ := hvw.form
      have hbw := hP.out b hPb
      have c0 := (hB.out.cell (p := ⟨b, o + k * 5, none⟩) hbw).trans h0
      have c1 := (hB.out.cell (p := ⟨b, o + k * 5 + 1, none⟩) hbw).trans h1
      have c2 := (hB.out.cell (p := ⟨b, o + k * 5 + 2, none⟩) hbw).trans h2
      have c3 := (hB.out.cell (p := ⟨b, o + k * 5 + 3, none⟩) hbw).trans h3
      have c4 := (hB.out.cell (p := ⟨b, o + k * 5 + 4, none⟩) hbw).trans h4
      obtain ⟨kd, hkd⟩ : ∃ q, l[k].kind = q := ⟨_, rfl⟩
      obtain ⟨rx, hrx⟩ : ∃ q, l[k].regex = q := ⟨_, rfl⟩
      obtain ⟨rq, hrq⟩ : ∃ q, l[k].req = q := ⟨_, rfl⟩
      rw [hkd] at c1
      rw [hrx] at c3
      rw [hrq] at c4
      obtain ⟨s, hs⟩ : ∃ s, l[k].name = s := ⟨_, rfl⟩
      rw [hs] at c0
      have hss := hsz.out l[k] (List.getElem_mem hkl)
      rw [hs] at hss
      have htake : Hid ((l.map Rul.name).take (k + 1) = (l.map Rul.name).take k ++ [s]) := Lib.hid (by rw [List.take_add_one, List.getElem?_map, List.getElem?_eq_getElem hkl, ← hs]; rfl)
      have hnext : ∀ d, Hid (Cnt (D.put (.string s.data.toList) d) ((l.map Rul.name).take (k + 1))) := fun d => Lib.hid (by rw [htake.out]; exact hcnt.out.snoc (hown.out.tidy (string_keyed Tryz.underlying9)) hown.out.isMap s d)
      have hi0 : (0 : Int) ≤ (k : Int) := by omega
      have hi1 : (k : Int) < (n : Int) := by omega
      have hBw := hB.out.size
      clear hc hs htake h0 h1 h2 h3 h4 hvw hkd hrx hrq
      have hown1 := Lib.hid (hown.out.alloc (.cells #[.string s, .int .i64 kd, .slice Ak nk ck, .string rx, .bool rq] 34))
      have hB1 : Hid (Below w.heap.size w (wr.alloc (.cells #[.string s, .int .i64 kd, .slice Ak nk ck, .string rx, .bool rq] 34))) := Lib.hid (hB.out.alloc hBw _)
      go_wp2_with (first
        | (go_at_call 92; refine (rulName_any s rx kd _ rq _).mono ?_; rintro e w1 ⟨rfl, hb1⟩; have hown2 := Lib.hid (ownsMap_same hown1.out (hb1.block _ hown1.out.lt)); have hB2 := Lib.hid (hB1.out.trans (hb1.mono hB1.out.size)); clear hb1)
        | (at_lookup; refine wpList_lookup_own_int _ rfl _ _ 116 rfl 9 3 .i64 (string_keyed Tryz.underlying9) Tryz.underlying116 Tryz.underlying3 (zero3 _) w.heap.size k D rfl hown2.out _ _ rfl (WideMaps.keyOf_string_mk Tryz.underlying9 hss) ?_; intro c hat hwc; clear hat)
        | (at_mapUpdate; refine wpList_mapUpdate_own _ rfl _ _ _ 116 rfl 9 3 (string_keyed Tryz.underlying9) Tryz.underlying116 (plainElem Tryz.prog 3) w.heap.size k D rfl hown2.out (by unfold maxLen; omega) _ _ _ rfl rfl (WideMaps.keyOf_string_mk Tryz.underlying9 hss) _ [] (plainElem_int Tryz.underlying3 (wf64 _)) ?_; intro w2 hown3 hg2))
      exact ⟨⟨k + 1, _, by omega, by simp, Lib.hid hown3, hnext _, Lib.hid (hB2.out.grown hg2 hB2.out.size (fun j hj => by cases hj; exact Nat.le_refl _))⟩, by simp [RowKit.intOf]; omega⟩
    · have hkn : k = n := by omega
      subst hkn
      have hsz : Hid (twiceB (l.map Rul.name) = decide ((Maps.size D : Int) < (k : Int))) := Lib.hid (by
        have hlm : (l.map Rul.name).length = k := by rw [List.length_map, hn.out]
        have h1 := hcnt.out.le
        have h2 := hcnt.out.iff
        rw [← hlm, List.take_length] at h1 h2
        unfold twiceB
        rw [Bool.eq_iff_iff, Bool.not_eq_true', decide_eq_false_iff_not, decide_eq_true_eq, ← h2, hlm]
        omega)
      go_wp2_with ((with_reducible refine wpList_len_own _ rfl _ _ rfl 9 3 Tryz.underlying116 (plainElem Tryz.prog 3) w.heap.size k D rfl hown.out ?_))
      go_ret
      refine ⟨?_, hB.out⟩
      rw [hsz.out]
      show Ending.returned (.bool (decide (Maps.size D < k))) = _
      congr 2
      exact decide_eq_decide.2 (by omega)
end Go.Proofs.YtghlodpbbghcoaaGreatDoor
