/- A character's bytes; the text of characters, walked. -/
import Derived.Test.YtghlodpbbghcoaaDoorU4
import Derived.Laws.BytesArg
import Derived.Lib.Strings
import Derived.Lib.SlBytesRow
namespace Go.Proofs.YtghlodpbbghcoaaDoor
open Go.Lib Go.RowKit

set_option maxRecDepth 8192 in
set_option maxHeartbeats 3200000 in
theorem bytes_any (r : Int) (w : World) (h0 : -2147483648 ≤ r) (h9 : r ≤ 2147483647) :
    Calls Tryd.prog 43 #[.int .i32 r] w fun e w' => e = .returned (.slice (some ⟨w.heap.size, 0, none⟩) (runeCells r).length (runeCells r).length) ∧ w' = w.alloc (.cells (runeCells r).toArray 5) := by
  by_cases h1 : 0 ≤ r ∧ r ≤ 127
  · have e : runeCells r = [.int .u8 r] := by rw [runeCells, encodeRuneZ_one h1.1 h1.2]; rfl
    rw [e]
    obtain ⟨h1, h2⟩ := h1
    have g1 : ¬ r < 0 := by omega
    have g2 : ¬ 1114111 < r := by omega
    have g3 : ¬ 55296 ≤ r := by omega
    have g4 : r < 128 := by omega
    go_enter Tryd.func43, Tryd.ntmps43
    go_wp2
    go_ret
    exact ⟨rfl, rfl⟩
  · by_cases h2 : 128 ≤ r ∧ r ≤ 2047
    · have e : runeCells r = [.int .u8 (192 + r / 64), .int .u8 (128 + r % 64)] := by rw [runeCells, encodeRuneZ_two h2.1 h2.2]; rfl
      rw [e]
      obtain ⟨h2, h3⟩ := h2
      have g1 : ¬ r < 0 := by omega
      have g2 : ¬ 1114111 < r := by omega
      have g3 : ¬ 55296 ≤ r := by omega
      have g4 : ¬ r < 128 := by omega
      have g5 : r < 2048 := by omega
      go_enter Tryd.func43, Tryd.ntmps43
      go_wp2
      go_ret
      exact ⟨rfl, rfl⟩
    · by_cases h3 : (2048 ≤ r ∧ r < 55296) ∨ (57343 < r ∧ r ≤ 65535)
      · have e : runeCells r = [.int .u8 (224 + r / 4096), .int .u8 (128 + r / 64 % 64), .int .u8 (128 + r % 64)] := by rw [runeCells, encodeRuneZ_three h3]; rfl
        rw [e]
        have g1 : ¬ r < 0 := by omega
        have g2 : ¬ 1114111 < r := by omega
        have g4 : ¬ r < 128 := by omega
        have g5 : ¬ r < 2048 := by omega
        have g6 : r < 65536 := by omega
        rcases h3 with ⟨h3, h4⟩ | ⟨h3, h4⟩
        · have g3 : ¬ 55296 ≤ r := by omega
          go_enter Tryd.func43, Tryd.ntmps43
          go_wp2
          go_ret
          exact ⟨rfl, rfl⟩
        · have g3 : 55296 ≤ r := by omega
          have g3' : ¬ r ≤ 57343 := by omega
          go_enter Tryd.func43, Tryd.ntmps43
          go_wp2
          go_ret
          exact ⟨rfl, rfl⟩
      · by_cases h4 : 65536 ≤ r ∧ r ≤ 1114111
        · have e : runeCells r = [.int .u8 (240 + r / 262144), .int .u8 (128 + r / 4096 % 64), .int .u8 (128 + r / 64 % 64), .int .u8 (128 + r % 64)] := by rw [runeCells, encodeRuneZ_four h4.1 h4.2]; rfl
          rw [e]
          obtain ⟨h4, h5⟩ := h4
          have g1 : ¬ r < 0 := by omega
          have g2 : ¬ 1114111 < r := by omega
          have g3 : 55296 ≤ r := by omega
          have g3' : ¬ r ≤ 57343 := by omega
          have g4 : ¬ r < 128 := by omega
          have g5 : ¬ r < 2048 := by omega
          have g6 : ¬ r < 65536 := by omega
          go_enter Tryd.func43, Tryd.ntmps43
          go_wp2
          go_ret
          exact ⟨rfl, rfl⟩
        · have hb : r < 0 ∨ (55296 ≤ r ∧ r ≤ 57343) ∨ 1114111 < r := by omega
          have e : runeCells r = [.int .u8 239, .int .u8 191, .int .u8 189] := by rw [runeCells, encodeRuneZ_bad hb]; rfl
          rw [e]
          clear h1 h2 h3 h4
          rcases hb with g1 | ⟨g3, g4⟩ | g2
          · go_enter Tryd.func43, Tryd.ntmps43
            go_wp2
            go_ret
            exact ⟨rfl, rfl⟩
          · have g1 : ¬ r < 0 := by omega
            have g2 : ¬ 1114111 < r := by omega
            go_enter Tryd.func43, Tryd.ntmps43
            go_wp2
            go_ret
            exact ⟨rfl, rfl⟩
          · have g1 : ¬ r < 0 := by omega
            go_enter Tryd.func43, Tryd.ntmps43
            go_wp2
            go_ret
            exact ⟨rfl, rfl⟩

theorem own_cell {w : World} {base : Nat} {e : TypeId} {v : Value} {n : Nat} {xs : List Value} (h : w.ownsRow base e 1 v n xs) : ∃ A cap, v = .slice A n cap ∧ n ≤ cap ∧ ∀ j, j < n → ∃ b, A = some ⟨b, 0, none⟩ ∧ b < w.heap.size ∧ base ≤ b ∧ w.cell? ⟨b, j, none⟩ = xs[j]? := by
  rcases h.2 with ⟨rfl, rfl⟩ | ⟨g, cap, cur, rfl, hb0, hb, h1, h2, h3, h4⟩
  · exact ⟨none, 0, rfl, Nat.le_refl _, fun j hj => absurd hj (Nat.not_lt_zero _)⟩
  · refine ⟨_, cap, rfl, h1, fun j hj => ⟨g, rfl, (Array.getElem?_eq_some_iff.1 hb).1, hb0, ?_⟩⟩
    have e2 : w.cell? ⟨g, j, none⟩ = cur[j]? := by simp [World.cell?, hb]
    rw [e2, ← h4, List.getElem?_take, if_pos (by omega), Array.getElem?_toList]
theorem bytes_data (L : List UInt8) : strOfNums (L.map fun x => (x.toNat : Int)) = ⟨L.toArray⟩ := by
  apply ByteArray.ext
  apply Array.toList_inj.1
  rw [strOfNums_data, List.map_map]
  show _ = L
  conv => rhs; rw [← List.map_id L]
  apply List.map_congr_left
  intro x _
  simp
/-- Bytes of the call's own, as a text. -/
theorem conv_row {w : World} {base : Nat} {v : Value} {n : Nat} {L : List UInt8} (h : w.ownsRow base 5 1 v n (byteCells L)) : (convert 25 9 v).run Tryd.prog w = .ok (.string ⟨L.toArray⟩) w := by
  have hn : n = L.length := by have := h.1; rw [byteCells_length] at this; omega
  obtain ⟨A, cap, rfl, hcap, hc⟩ := own_cell h
  have hx : (L.map fun x => (x.toNat : Int)).length = n := by simp [hn]
  cases A with
  | none =>
    have : n = 0 := Nat.eq_zero_of_not_pos (fun hp => by obtain ⟨b, hb, _⟩ := hc 0 hp; cases hb)
    have : L = [] := List.eq_nil_of_length_eq_zero (by omega)
    subst this
    exact run_convert_bytes_nil w 25 5 Tryd.underlying25 Tryd.underlying5 _ _ 9 Tryd.underlying9
  | some a =>
    obtain ⟨b, o, m⟩ := a
    rcases h.2 with ⟨h1, _⟩ | ⟨g, cap', cur, hv, _⟩
    · cases h1
    · simp only [Value.slice.injEq, Option.some.injEq, Addr.mk.injEq] at hv
      obtain ⟨⟨rfl, rfl, rfl⟩, _, _⟩ := hv
      rw [← bytes_data]
      refine run_convert_bytes_arg w 25 5 Tryd.underlying25 Tryd.underlying5 b 0 n cap _ hx (fun i hi => ?_) 9 Tryd.underlying9
      obtain ⟨b', hb', _, _, hcell⟩ := hc i hi
      simp only [Option.some.injEq, Addr.mk.injEq, and_true] at hb'
      subst hb'
      rw [Nat.zero_add, hcell]
      have hi' : i < L.length := by omega
      simp [byteCells, List.getD, List.getElem?_eq_getElem hi']
theorem info5 : (Tryd.prog.info? 5).map (fun i => (i.zero, i.size, i.bytes)) = some (some (.int .u8 0), 1, 1) := by kernel_rfl
theorem cells_new (w : World) (t : TypeId) (news : List Value) : ∀ j u, news[j]? = some u → (w.alloc (.cells news.toArray t)).cell? ((⟨w.heap.size, 0, none⟩ : Addr).add j) = some u := fun j u h => by
  have e : ((⟨w.heap.size, 0, none⟩ : Addr).add j) = ⟨w.heap.size, j, none⟩ := by unfold Addr.add; split <;> simp_all
  rw [e, World.cell?_alloc_new]
  simpa using h
theorem textL_snoc (pre : List Int) (r : Int) : textL (pre ++ [r]) = textL pre ++ encodeRune r := by simp [textL]
theorem byteCells_append (a b : List UInt8) : byteCells (a ++ b) = byteCells a ++ byteCells b := by simp [byteCells]

set_option maxRecDepth 8192 in
set_option maxHeartbeats 3200000 in
/-- THE TEXT OF CHARACTERS. -/
theorem text_any (v : Value) (rs : List Int) (base : Nat) (hbig : rs.length ≤ 1000000) (hrs : ∀ r ∈ rs, -2147483648 ≤ r ∧ r ≤ 2147483647) (w : World) (hrow : w.ownsRow base 21 1 v rs.length (rs.map r32)) :
    Calls Tryd.prog 23 #[v] w fun e w' => e = .returned (.string ⟨(textL rs).toArray⟩) ∧ Below w.heap.size w w' := by
  obtain ⟨i0, hi, hz0, hz1, hz2⟩ := info_parts info5
  obtain ⟨A, cap, rfl, hcap, hc⟩ := own_cell hrow
  clear hrow
  obtain ⟨N, hN⟩ : ∃ N, rs.length = N := ⟨_, rfl⟩
  rw [hN] at hcap hc hbig ⊢
  replace hN := Lib.hid hN
  replace hrs := Lib.hid hrs
  go_enter Tryd.func23, Tryd.ntmps23
  go_wp2
  go_loopw [3, 4] (fun v x4 wr => ∃ (k : Nat) (pre : List Int) (m : Nat), k ≤ N ∧ x4 = .int .i64 k ∧ Hid (pre = rs.take k) ∧ m ≤ 4 * k ∧
      wr.ownsRow w.heap.size 5 1 v m (byteCells (textL pre)) ∧ Hid (Below w.heap.size w wr)) (fun _ x4 _ => N - (Lib.intOf x4).toNat)
  case atStart => exact ⟨0, [], 0, Nat.zero_le _, rfl, Lib.hid (by simp), Nat.zero_le _, World.ownsRow_nil _ _ _ _, Lib.hid (Below.refl _ _)⟩
  case round =>
    obtain ⟨k, pre, m, hk, rfl, hpre, hm, hrow, hB⟩ := hrel
    by_cases hlt : k < N
    · obtain ⟨b, rfl, hbl, _, hcell⟩ := hc k hlt
      obtain ⟨r, hr⟩ : ∃ r, rs[k]? = some r := ⟨rs[k]'(by rw [hN.out]; exact hlt), List.getElem?_eq_getElem _⟩
      have hrr := hrs.out r (List.mem_of_getElem? hr)
      have hck : wr.cell? ⟨b, k, none⟩ = some (r32 r) := by rw [hB.out.cell (p := ⟨b, k, none⟩) hbl, hcell, List.getElem?_map, hr]; rfl
      have hpre2 : Hid (pre ++ [r] = rs.take (k + 1)) := Lib.hid (by rw [hpre.out, List.take_add_one, hr]; rfl)
      have hL := runeCells_le r
      obtain ⟨q, hq⟩ : ∃ q, (runeCells r).length = q := ⟨_, rfl⟩
      have hbytes := bytes_any r wr hrr.1 hrr.2
      rw [hq] at hbytes hL
      replace hq := Lib.hid hq
      replace hr := Lib.hid hr
      have hsz := Lib.hid hB.out.size
      clear hc hcell hrr
      go_wp2_with (first
        | (go_at_call 43; refine hbytes.mono ?_; rintro e w' ⟨rfl, rfl⟩)
        | (at_builtin; refine wpList_append_own _ rfl _ _ 25 rfl w.heap.size 5 i0 (.int .u8 0) 1 1 Tryd.underlying25 hi hz0 hz1 hz2 rfl (by decide) _ _ _ rfl (hrow.alloc _) ⟨_, 0, none⟩ q q (runeCells r) rfl (by rw [hq.out]; simp) (cells_new _ _ _) (by intro u hu; obtain ⟨x, _, rfl⟩ := List.mem_map.1 hu; rfl) (by unfold maxLen; omega) (by omega) (by have := hsz.out; simp; omega) ?_; intro v' w3 hown' hg3 hnil3; go_frame))
      refine ⟨⟨k + 1, pre ++ [r], m + q, by omega, by simp, hpre2, by omega, by rw [textL_snoc, byteCells_append, byteCells_encodeRune]; exact hown', Lib.hid ?_⟩, by simp [Lib.intOf]; omega⟩
      exact (hB.out.alloc hsz.out _).grown hg3 (by have := hsz.out; simp; omega) (fun j hj => (hrow.lt j hj).1)
    · have hkn : k = N := by omega
      have e2 : Hid (pre = rs) := Lib.hid (by rw [hpre.out, hkn, ← hN.out, List.take_length])
      subst hkn
      have hconv := conv_row hrow
      go_wp2
      go_ret
      exact ⟨by rw [← e2.out]; rfl, hB.out⟩
end Go.Proofs.YtghlodpbbghcoaaDoor
