/- One character, walked. -/
import Derived.Test.YtghlodpbbghcoaaDoorU1
import Derived.Test.YtghlodpbbghcoaaDoorProg
import Derived.WalkKit
import Derived.WalkSpells
import Derived.Lib.Hide
import Derived.Below
import Derived.Deep.DeepCutAuto
import Derived.Lib.Walk
import Derived.Maps.AppendAt
import Derived.OwnWalk
import Derived.Laws.BytesArg
import Derived.Lib.Strings
import Derived.Lib.SlBytesRow
namespace Go.Proofs.YtghlodpbbghcoaaDoor
open Go.Lib Go.RowKit

def headN (c : Nat) : Option (Nat × Nat × Nat) :=
  if 192 ≤ c ∧ c < 224 then some (2, c - 192, 128) else if 224 ≤ c ∧ c < 240 then some (3, c - 224, 2048) else if 240 ≤ c ∧ c < 248 then some (4, c - 240, 65536) else none
def contN (l : List UInt8) : Nat → Nat → Nat → Option Nat
  | 0, _, v => some v
  | m + 1, k, v => if (l.getD k 0).toNat / 64 = 2 then contN l m (k + 1) (64 * v + (l.getD k 0).toNat - 128) else none
def oneN (l : List UInt8) : Nat × Nat :=
  if (l.getD 0 0).toNat < 128 then ((l.getD 0 0).toNat, 1)
  else match headN (l.getD 0 0).toNat with
    | none => (65533, 1)
    | some (n, v, least) => if l.length < n then (65533, 1) else
      match contN l (n - 1) 1 v with
      | none => (65533, 1)
      | some v => if v < least ∨ v > 1114111 ∨ (55296 ≤ v ∧ v ≤ 57343) then (65533, 1) else (v, n)
theorem oneN_eq (l : List UInt8) : oneN l = decodeL l := by
  rw [decodeL_N]
  have k0 := (l.getD 0 0).toNat_lt
  have k1 := (l.getD 1 0).toNat_lt
  have k2 := (l.getD 2 0).toNat_lt
  have k3 := (l.getD 3 0).toNat_lt
  unfold oneN headN decodeN
  generalize (l.getD 0 0).toNat = b0 at *
  by_cases h : b0 < 128
  · rw [if_pos h, if_pos h]
  · rw [if_neg h, if_neg h]
    by_cases h2 : 192 ≤ b0 ∧ b0 < 224
    · rw [if_pos h2]
      simp only [contN]
      generalize (l.getD 1 0).toNat = b1 at *
      repeat' split
      all_goals simp_all
      all_goals omega
    · rw [if_neg h2]
      by_cases h3 : 224 ≤ b0 ∧ b0 < 240
      · rw [if_pos h3]
        simp only [contN]
        generalize (l.getD 1 0).toNat = b1 at *
        generalize (l.getD 2 0).toNat = b2 at *
        repeat' split
        all_goals simp_all
        all_goals omega
      · rw [if_neg h3]
        by_cases h4 : 240 ≤ b0 ∧ b0 < 248
        · rw [if_pos h4]
          simp only [contN]
          generalize (l.getD 1 0).toNat = b1 at *
          generalize (l.getD 2 0).toNat = b2 at *
          generalize (l.getD 3 0).toNat = b3 at *
          repeat' split
          all_goals simp_all
          all_goals omega
        · rw [if_neg h4]
          simp only []
          repeat' split
          all_goals simp_all
          all_goals omega
end Go.Proofs.YtghlodpbbghcoaaDoor

/- One character, walked. -/
namespace Go.Proofs.YtghlodpbbghcoaaDoor
open Go.Lib Go.RowKit

/-- Bytes that lie in memory. -/
def BytesAt (w : World) (b o : Nat) (l : List UInt8) : Prop := ∀ j, j < l.length → w.cell? ⟨b, o + j, none⟩ = some (.int .u8 ((l.getD j 0).toNat : Nat))

set_option maxRecDepth 8192 in
set_option maxHeartbeats 800000 in
theorem follows_any (x : UInt8) (w : World) :
    Calls Tryd.prog 65 #[.int .u8 (x.toNat : Nat)] w fun e w' => e = .returned (.bool (decide (x.toNat / 64 = 2))) ∧ w' = w := by
  have hx := x.toNat_lt
  generalize x.toNat = c at *
  obtain ⟨r, hr⟩ : ∃ r, decide (c / 64 = 2) = r := ⟨_, rfl⟩
  rw [hr]
  by_cases h1 : 128 ≤ c
  · by_cases h2 : c < 192
    · have e : r = true := by rw [← hr]; exact decide_eq_true (by omega)
      subst e
      clear hr
      have h2' : decide ((c : Int) < 192) = _ := decide_eq_true (by omega)
      go_enter Tryd.func65, Tryd.ntmps65
      go_wp2
      go_ret
      exact ⟨rfl, rfl⟩
    · have e : r = false := by rw [← hr]; exact decide_eq_false (by omega)
      subst e
      clear hr
      have h2' : decide ((c : Int) < 192) = _ := decide_eq_false (by omega)
      go_enter Tryd.func65, Tryd.ntmps65
      go_wp2
      go_ret
      exact ⟨rfl, rfl⟩
  · have e : r = false := by rw [← hr]; exact decide_eq_false (by omega)
    subst e
    clear hr
    go_enter Tryd.func65, Tryd.ntmps65
    go_wp2
    go_ret
    exact ⟨rfl, rfl⟩

def tailN (l : List UInt8) (n v least : Nat) : Nat × Nat :=
  if l.length < n then (65533, 1) else
    match contN l (n - 1) 1 v with
    | none => (65533, 1)
    | some v => if v < least ∨ v > 1114111 ∨ (55296 ≤ v ∧ v ≤ 57343) then (65533, 1) else (v, n)

set_option maxRecDepth 8192 in
set_option maxHeartbeats 3200000 in
theorem one_any (b o cap : Nat) (l : List UInt8) (hl : l ≠ []) (hbig : l.length ≤ 1000000000) (w : World) (hb : BytesAt w b o l) :
    Calls Tryd.prog 42 #[.slice (some ⟨b, o, none⟩) l.length cap] w fun e w' => e = .returned (.tuple #[.int .i32 ((oneN l).1 : Nat), .int .i64 ((oneN l).2 : Nat)]) ∧ w' = w := by
  have hpos : 0 < l.length := List.length_pos_iff.2 hl
  obtain ⟨N, hN⟩ : ∃ N, l.length = N := ⟨_, rfl⟩
  obtain ⟨c, hc⟩ : ∃ c, (l.getD 0 0).toNat = c := ⟨_, rfl⟩
  have hcl : c < 256 := by rw [← hc]; exact (l.getD 0 0).toNat_lt
  have h0 : w.cell? ⟨b, o, none⟩ = some (.int .u8 (c : Nat)) := by rw [← hc]; exact hb 0 hpos
  obtain ⟨res, hres⟩ : ∃ res, oneN l = res := ⟨_, rfl⟩
  rw [hres, hN]
  rw [hN] at hpos hbig
  replace hN := Lib.hid hN
  replace hc := Lib.hid hc
  replace hb := Lib.hid hb
  clear hl
  by_cases h1 : c < 128
  · have e : res = (c, 1) := by rw [← hres, oneN, hc.out, if_pos h1]
    subst e
    clear hres
    go_enter Tryd.func42, Tryd.ntmps42
    go_wp2
    go_ret2
    exact ⟨rfl, rfl⟩
  · cases hh : headN c with
    | none =>
      have e : res = (65533, 1) := by rw [← hres, oneN, hc.out, if_neg h1, hh]
      subst e
      clear hres
      have hb1 : ¬ (192 ≤ c ∧ c < 224) := fun h => by rw [headN, if_pos h] at hh; cases hh
      have hb2 : ¬ (224 ≤ c ∧ c < 240) := fun h => by rw [headN, if_neg hb1, if_pos h] at hh; cases hh
      have hb3 : ¬ (240 ≤ c ∧ c < 248) := fun h => by rw [headN, if_neg hb1, if_neg hb2, if_pos h] at hh; cases hh
      clear hh
      go_enter Tryd.func42, Tryd.ntmps42
      by_cases q1 : 192 ≤ c
      · have q2 : 248 ≤ c := by omega
        have q3 : 224 ≤ c := by omega
        have q4 : 240 ≤ c := by omega
        have q5 : ¬ c < 224 := by omega
        have q6 : ¬ c < 240 := by omega
        have q7 : ¬ c < 248 := by omega
        go_wp2
        go_ret2
        exact ⟨rfl, rfl⟩
      · have q3 : ¬ 224 ≤ c := by omega
        have q4 : ¬ 240 ≤ c := by omega
        go_wp2
        go_ret2
        exact ⟨rfl, rfl⟩
    | some q =>
      obtain ⟨n, v, least⟩ := q
      have hq : n ≤ 4 ∧ 2 ≤ n ∧ v < 32 ∧ least ≤ 65536 ∧ 192 ≤ c ∧ c < 248 := by
        unfold headN at hh
        repeat' split at hh
        all_goals cases hh
        all_goals omega
      obtain ⟨hn4, hn2, hv32, hle, hc192, hc248⟩ := hq
      have hres2 : Hid (res = tailN l n v least) := Lib.hid (by rw [← hres, oneN, hc.out, if_neg h1, hh]; rfl)
      clear hres
      replace hh := Lib.hid hh
      go_enter Tryd.func42, Tryd.ntmps42
      go_upto_if 23 with fail
      go_cut [5, 6, 7] (fun x5 x6 x7 wx => x5 = .int .i64 (n : Nat) ∧ x6 = .int .i64 (v : Nat) ∧ x7 = .int .i64 (least : Nat) ∧ wx = w)
      case first =>
        have hh := hh.out
        go_wp2
        · rename_i q
          rw [headN, if_pos (by omega)] at hh
          cases hh
          go_meet
          exact ⟨rfl, by rw [Int.ofNat_sub hc192]; rfl, rfl, rfl⟩
        · rename_i q _
          rw [headN, if_neg (by omega), if_pos (by omega)] at hh
          cases hh
          go_meet
          exact ⟨rfl, by rw [Int.ofNat_sub (by omega)]; rfl, rfl, rfl⟩
        · rename_i q _ _
          rw [headN, if_neg (by omega), if_neg (by omega), if_pos (by omega)] at hh
          cases hh
          go_meet
          exact ⟨rfl, by rw [Int.ofNat_sub (by omega)]; rfl, rfl, rfl⟩
      case rest =>
      obtain ⟨rfl, rfl, rfl, rfl⟩ := hcut
      clear hh hcl hc192 hc248 h0
      by_cases hlen : N < n
      · have e := hres2.out
        rw [tailN, if_pos (by rw [hN.out]; exact hlen)] at e
        subst e
        go_wp2
        go_ret2
        exact ⟨rfl, rfl⟩
      · go_wp2
        go_loop [6, 8] (fun x6 x8 => ∃ (k m v' : Nat), k ≤ n ∧ 1 ≤ k ∧ x8 = .int .i64 k ∧ x6 = .int .i64 v' ∧ m + k = n ∧ v' < 8388608 ∧ Hid (contN l (n - 1) 1 v = contN l m k v') ∧ (k ≤ 1 → v' < 32) ∧ (k ≤ 2 → v' < 2048) ∧ (k ≤ 3 → v' < 131072)) (fun _ x8 => n - (Lib.intOf x8).toNat)
        case atStart => exact ⟨1, n - 1, v, by omega, Nat.le_refl _, rfl, rfl, by omega, by omega, Lib.hid rfl, by omega, by omega, by omega⟩
        case round =>
          obtain ⟨k, m, v', hk, hk1, rfl, rfl, hm, hv', hC, hk2, hk3, hk4⟩ := hrel
          have e1 := hres2.out
          rw [tailN, if_neg (by rw [hN.out]; exact hlen), hC.out] at e1
          by_cases hlt : k < n
          · obtain ⟨x, hx⟩ : ∃ x, l.getD k 0 = x := ⟨_, rfl⟩
            have hxl := x.toNat_lt
            have hck : wc.cell? ⟨b, o + k, none⟩ = some (.int .u8 (x.toNat : Nat)) := by rw [← hx]; exact hb.out k (by rw [hN.out]; omega)
            obtain ⟨m', rfl⟩ : ∃ m', m = m' + 1 := ⟨m - 1, by omega⟩
            by_cases hf : x.toNat / 64 = 2
            · have hfd : decide (x.toNat / 64 = 2) = true := decide_eq_true hf
              have hx128 : 128 ≤ x.toNat := by omega
              have hC2 : Hid (contN l (n - 1) 1 v = contN l m' (k + 1) (64 * v' + x.toNat - 128)) := Lib.hid (by rw [hC.out, contN, hx, if_pos hf])
              clear hC e1
              go_wp2_with (go_at_call 65; refine (follows_any x _).mono ?_; rintro e w' ⟨rfl, rfl⟩)
              have hx256 : x.toNat < 256 := hxl
              refine ⟨⟨k + 1, m', 64 * v' + x.toNat - 128, by omega, by omega, by simp, ?_, by omega, by omega, hC2, by omega, by omega, by omega⟩, by simp [Lib.intOf]; omega⟩
              rw [Int.ofNat_sub (by omega)]
              simp
            · have hfd : decide (x.toNat / 64 = 2) = false := decide_eq_false hf
              rw [contN, hx, if_neg hf] at e1
              subst e1
              go_wp2_with (go_at_call 65; refine (follows_any x _).mono ?_; rintro e w' ⟨rfl, rfl⟩)
              go_ret2
              exact ⟨rfl, rfl⟩
          · obtain rfl : m = 0 := by omega
            have hkn : k = n := by omega
            subst hkn
            rw [contN] at e1
            by_cases q1 : v' < least
            · have e2 : res = (65533, 1) := by rw [e1]; exact if_pos (Or.inl q1)
              subst e2
              go_wp2
              go_ret2
              exact ⟨rfl, rfl⟩
            · by_cases q2 : 1114111 < v'
              · have e2 : res = (65533, 1) := by rw [e1]; exact if_pos (Or.inr (Or.inl q2))
                subst e2
                go_wp2
                go_ret2
                exact ⟨rfl, rfl⟩
              · by_cases q3 : 55296 ≤ v'
                · by_cases q4 : v' ≤ 57343
                  · have e2 : res = (65533, 1) := by rw [e1]; exact if_pos (Or.inr (Or.inr ⟨q3, q4⟩))
                    subst e2
                    go_wp2
                    go_ret2
                    exact ⟨rfl, rfl⟩
                  · have e2 : res = (v', k) := by rw [e1]; exact if_neg (by omega)
                    subst e2
                    go_wp2
                    go_ret2
                    exact ⟨rfl, rfl⟩
                · have e2 : res = (v', k) := by rw [e1]; exact if_neg (by omega)
                  subst e2
                  go_wp2
                  go_ret2
                  exact ⟨rfl, rfl⟩
end Go.Proofs.YtghlodpbbghcoaaDoor

/- Bytes' characters, walked. -/
namespace Go.Proofs.YtghlodpbbghcoaaDoor
open Go.Lib Go.RowKit

/-- Bytes in memory, as a value. -/
structure BytesV (w : World) (A : Option Addr) (n cap : Nat) (l : List UInt8) : Prop where
  len : n = l.length
  cap : n ≤ cap
  at_ : 0 < n → ∃ b o, A = some ⟨b, o, none⟩ ∧ b < w.heap.size ∧ BytesAt w b o l
theorem BytesAt.below {w w' : World} {b o : Nat} {l : List UInt8} (h : BytesAt w b o l) (hb : b < w.heap.size) (hB : Below w.heap.size w w') : BytesAt w' b o l :=
  fun j hj => (hB.cell (p := ⟨b, o + j, none⟩) hb).trans (h j hj)
theorem BytesAt.drop {w : World} {b o : Nat} {l : List UInt8} (h : BytesAt w b o l) (k : Nat) : BytesAt w b (o + k) (l.drop k) := fun j hj => by
  rw [List.length_drop] at hj
  have := h (k + j) (by omega)
  rw [getD_dropU, Nat.add_assoc]
  exact this
theorem info21 : (Tryd.prog.info? 21).map (fun i => (i.zero, i.size, i.bytes)) = some (some (.int .i32 0), 1, 4) := by kernel_rfl
abbrev r32 (r : Int) : Value := .int .i32 r

set_option maxRecDepth 8192 in
set_option maxHeartbeats 3200000 in
theorem runes_any (A : Option Addr) (n cap : Nat) (l : List UInt8) (hbig : n ≤ 1000000) (w : World) (hb : BytesV w A n cap l) :
    Calls Tryd.prog 22 #[.slice A n cap] w fun e w' => ∃ v, e = .returned v ∧ w'.ownsRow w.heap.size 21 1 v (runesL l).length ((runesL l).map r32) ∧ Below w.heap.size w w' := by
  obtain ⟨i0, hi, hz0, hz1, hz2⟩ := info_parts info21
  obtain ⟨hn, hc, hat⟩ := hb
  replace hn := Lib.hid hn
  go_enter Tryd.func22, Tryd.ntmps22
  go_wp2
  go_loopw [3, 4] (fun v x4 wr => ∃ (k : Nat) (pre rest : List Int), k ≤ n ∧ x4 = .int .i64 k ∧ Hid (runesL l = pre ++ rest) ∧ Hid (rest = runesL (l.drop k)) ∧ pre.length ≤ k ∧
      wr.ownsRow w.heap.size 21 1 v pre.length (pre.map r32) ∧ Hid (Below w.heap.size w wr)) (fun _ x4 _ => n - (Lib.intOf x4).toNat)
  case atStart => exact ⟨0, [], _, Nat.zero_le _, rfl, Lib.hid rfl, Lib.hid rfl, Nat.zero_le _, World.ownsRow_nil _ _ _ _, Lib.hid (Below.refl _ _)⟩
  case round =>
    obtain ⟨k, pre, rest, hk, rfl, hpr, hrest, hpk, hrow, hB⟩ := hrel
    by_cases hlt : k < n
    · obtain ⟨b, o, rfl, hbl, hbytes⟩ := hat (by omega)
      have hbytes2 : Hid (BytesAt wr b (o + k) (l.drop k)) := Lib.hid ((hbytes.below hbl hB.out).drop k)
      have hne : l.drop k ≠ [] := fun e => by
        have := congrArg List.length e
        rw [List.length_drop, ← hn.out] at this
        simp at this
        omega
      obtain ⟨r, hr⟩ : ∃ r, (oneN (l.drop k)).1 = r := ⟨_, rfl⟩
      obtain ⟨d, hd⟩ : ∃ d, (oneN (l.drop k)).2 = d := ⟨_, rfl⟩
      have hdl : (l.drop k).length = n - k := by rw [List.length_drop, ← hn.out]
      have hd1 : 1 ≤ d := by rw [← hd, oneN_eq]; exact decodeL_width _
      have hd2 : d ≤ n - k := by rw [← hd, oneN_eq, ← hdl]; exact decodeL_le _ hne
      have hone := one_any b (o + k) (cap - k) (l.drop k) hne (by omega) wr hbytes2.out
      rw [hr, hd, hdl] at hone
      have hstep : Hid (rest = (r : Int) :: runesL (l.drop (k + d))) := Lib.hid (by rw [hrest.out, runesL_step _ hne, ← oneN_eq, hr, hd, List.drop_drop])
      replace hdl := Lib.hid hdl
      replace hr := Lib.hid hr
      replace hd := Lib.hid hd
      have hsz := Lib.hid hB.out.size
      go_wp2_with (first
        | (go_at_call 42; refine hone.mono ?_; rintro e w' ⟨rfl, rfl⟩)
        | (at_builtin; refine wpList_append_own _ rfl _ _ 39 rfl w.heap.size 21 i0 (.int .i32 0) 1 4 Tryd.underlying39 hi hz0 hz1 hz2 rfl (by decide) _ _ _ rfl (hrow.alloc _) ⟨_, 0, none⟩ 1 1 [r32 r] rfl rfl (cell_one_new _ _ _) (by simp [Value.oneCell']) (by unfold maxLen; omega) (by omega) (by have := hsz.out; simp; omega) ?_; intro v' w3 hown' hg3 hnil3; go_frame))
      refine ⟨⟨k + d, pre ++ [(r : Int)], runesL (l.drop (k + d)), by omega, by simp, Lib.hid (by rw [hpr.out, hstep.out]; simp), Lib.hid rfl, by simp; omega, by simpa using hown', Lib.hid ?_⟩, by simp [Lib.intOf]; omega⟩
      exact (hB.out.alloc hsz.out _).grown hg3 (by have := hsz.out; simp; omega) (fun j hj => (hrow.lt j hj).1)
    · have hkn : k = n := by omega
      subst hkn
      have e : rest = [] := by rw [hrest.out, hn.out, List.drop_length]; rfl
      have e2 : Hid (runesL l = pre) := Lib.hid (by rw [hpr.out, e, List.append_nil])
      clear e
      go_wp2
      go_ret
      exact ⟨_, rfl, by rw [e2.out]; exact hrow, hB.out⟩
end Go.Proofs.YtghlodpbbghcoaaDoor

/- A character's bytes; the text of characters, walked. -/
namespace Go.Proofs.YtghlodpbbghcoaaDoor
open Go.Lib Go.RowKit

set_option maxRecDepth 8192 in
set_option maxHeartbeats 3200000 in
theorem bytes_any (r : Int) (w : World) (h0 : -2147483648 ≤ r) (h9 : r ≤ 2147483647) :
    Calls Tryd.prog 43 #[.int .i32 r] w fun e w' => e = .returned (.slice (some ⟨w.heap.size, 0, none⟩) (runeCells r).length (runeCells r).length) ∧ w' = w.alloc (.cells (runeCells r).toArray 5) := by
  by_cases h1 : 0 ≤ r ∧ r ≤ 127
  · have e : runeCells r = [.int .u8 r] := by rw [runeCells, encodeRuneZ_one h1.1 h1.2]; rfl
    rw [e]
    obtain ⟨h1, h2⟩ := h1
    have g1 : ¬ r < 0 := by omega
    have g2 : ¬ 1114111 < r := by omega
    have g3 : ¬ 55296 ≤ r := by omega
    have g4 : r < 128 := by omega
    go_enter Tryd.func43, Tryd.ntmps43
    go_wp2
    go_ret
    exact ⟨rfl, rfl⟩
  · by_cases h2 : 128 ≤ r ∧ r ≤ 2047
    · have e : runeCells r = [.int .u8 (192 + r / 64), .int .u8 (128 + r % 64)] := by rw [runeCells, encodeRuneZ_two h2.1 h2.2]; rfl
      rw [e]
      obtain ⟨h2, h3⟩ := h2
      have g1 : ¬ r < 0 := by omega
      have g2 : ¬ 1114111 < r := by omega
      have g3 : ¬ 55296 ≤ r := by omega
      have g4 : ¬ r < 128 := by omega
      have g5 : r < 2048 := by omega
      go_enter Tryd.func43, Tryd.ntmps43
      go_wp2
      go_ret
      exact ⟨rfl, rfl⟩
    · by_cases h3 : (2048 ≤ r ∧ r < 55296) ∨ (57343 < r ∧ r ≤ 65535)
      · have e : runeCells r = [.int .u8 (224 + r / 4096), .int .u8 (128 + r / 64 % 64), .int .u8 (128 + r % 64)] := by rw [runeCells, encodeRuneZ_three h3]; rfl
        rw [e]
        have g1 : ¬ r < 0 := by omega
        have g2 : ¬ 1114111 < r := by omega
        have g4 : ¬ r < 128 := by omega
        have g5 : ¬ r < 2048 := by omega
        have g6 : r < 65536 := by omega
        rcases h3 with ⟨h3, h4⟩ | ⟨h3, h4⟩
        · have g3 : ¬ 55296 ≤ r := by omega
          go_enter Tryd.func43, Tryd.ntmps43
          go_wp2
          go_ret
          exact ⟨rfl, rfl⟩
        · have g3 : 55296 ≤ r := by omega
          have g3' : ¬ r ≤ 57343 := by omega
          go_enter Tryd.func43, Tryd.ntmps43
          go_wp2
          go_ret
          exact ⟨rfl, rfl⟩
      · by_cases h4 : 65536 ≤ r ∧ r ≤ 1114111
        · have e : runeCells r = [.int .u8 (240 + r / 262144), .int .u8 (128 + r / 4096 % 64), .int .u8 (128 + r / 64 % 64), .int .u8 (128 + r % 64)] := by rw [runeCells, encodeRuneZ_four h4.1 h4.2]; rfl
          rw [e]
          obtain ⟨h4, h5⟩ := h4
          have g1 : ¬ r < 0 := by omega
          have g2 : ¬ 1114111 < r := by omega
          have g3 : 55296 ≤ r := by omega
          have g3' : ¬ r ≤ 57343 := by omega
          have g4 : ¬ r < 128 := by omega
          have g5 : ¬ r < 2048 := by omega
          have g6 : ¬ r < 65536 := by omega
          go_enter Tryd.func43, Tryd.ntmps43
          go_wp2
          go_ret
          exact ⟨rfl, rfl⟩
        · have hb : r < 0 ∨ (55296 ≤ r ∧ r ≤ 57343) ∨ 1114111 < r := by omega
          have e : runeCells r = [.int .u8 239, .int .u8 191, .int .u8 189] := by rw [runeCells, encodeRuneZ_bad hb]; rfl
          rw [e]
          clear h1 h2 h3 h4
          rcases hb with g1 | ⟨g3, g4⟩ | g2
          · go_enter Tryd.func43, Tryd.ntmps43
            go_wp2
            go_ret
            exact ⟨rfl, rfl⟩
          · have g1 : ¬ r < 0 := by omega
            have g2 : ¬ 1114111 < r := by omega
            go_enter Tryd.func43, Tryd.ntmps43
            go_wp2
            go_ret
            exact ⟨rfl, rfl⟩
          · have g1 : ¬ r < 0 := by omega
            go_enter Tryd.func43, Tryd.ntmps43
            go_wp2
            go_ret
            exact ⟨rfl, rfl⟩

theorem own_cell {w : World} {base : Nat} {e : TypeId} {v : Value} {n : Nat} {xs : List Value} (h : w.ownsRow base e 1 v n xs) : ∃ A cap, v = .slice A n cap ∧ n ≤ cap ∧ ∀ j, j < n → ∃ b, A = some ⟨b, 0, none⟩ ∧ b < w.heap.size ∧ base ≤ b ∧ w.cell? ⟨b, j, none⟩ = xs[j]? := by
  rcases h.2 with ⟨rfl, rfl⟩ | ⟨g, cap, cur, rfl, hb0, hb, h1, h2, h3, h4⟩
  · exact ⟨none, 0, rfl, Nat.le_refl _, fun j hj => absurd hj (Nat.not_lt_zero _)⟩
  · refine ⟨_, cap, rfl, h1, fun j hj => ⟨g, rfl, (Array.getElem?_eq_some_iff.1 hb).1, hb0, ?_⟩⟩
    have e2 : w.cell? ⟨g, j, none⟩ = cur[j]? := by simp [World.cell?, hb]
    rw [e2, ← h4, List.getElem?_take, if_pos (by omega), Array.getElem?_toList]
theorem bytes_data (L : List UInt8) : strOfNums (L.map fun x => (x.toNat : Int)) = ⟨L.toArray⟩ := by
  apply ByteArray.ext
  apply Array.toList_inj.1
  rw [strOfNums_data, List.map_map]
  show _ = L
  conv => rhs; rw [← List.map_id L]
  apply List.map_congr_left
  intro x _
  simp
/-- Bytes of the call's own, as a text. -/
theorem conv_row {w : World} {base : Nat} {v : Value} {n : Nat} {L : List UInt8} (h : w.ownsRow base 5 1 v n (byteCells L)) : (convert 25 9 v).run Tryd.prog w = .ok (.string ⟨L.toArray⟩) w := by
  have hn : n = L.length := by have := h.1; rw [byteCells_length] at this; omega
  obtain ⟨A, cap, rfl, hcap, hc⟩ := own_cell h
  have hx : (L.map fun x => (x.toNat : Int)).length = n := by simp [hn]
  cases A with
  | none =>
    have : n = 0 := Nat.eq_zero_of_not_pos (fun hp => by obtain ⟨b, hb, _⟩ := hc 0 hp; cases hb)
    have : L = [] := List.eq_nil_of_length_eq_zero (by omega)
    subst this
    exact run_convert_bytes_nil w 25 5 Tryd.underlying25 Tryd.underlying5 _ _ 9 Tryd.underlying9
  | some a =>
    obtain ⟨b, o, m⟩ := a
    rcases h.2 with ⟨h1, _⟩ | ⟨g, cap', cur, hv, _⟩
    · cases h1
    · simp only [Value.slice.injEq, Option.some.injEq, Addr.mk.injEq] at hv
      obtain ⟨⟨rfl, rfl, rfl⟩, _, _⟩ := hv
      rw [← bytes_data]
      refine run_convert_bytes_arg w 25 5 Tryd.underlying25 Tryd.underlying5 b 0 n cap _ hx (fun i hi => ?_) 9 Tryd.underlying9
      obtain ⟨b', hb', _, _, hcell⟩ := hc i hi
      simp only [Option.some.injEq, Addr.mk.injEq, and_true] at hb'
      subst hb'
      rw [Nat.zero_add, hcell]
      have hi' : i < L.length := by omega
      simp [byteCells, List.getD, List.getElem?_eq_getElem hi']
theorem info5 : (Tryd.prog.info? 5).map (fun i => (i.zero, i.size, i.bytes)) = some (some (.int .u8 0), 1, 1) := by kernel_rfl
theorem cells_new (w : World) (t : TypeId) (news : List Value) : ∀ j u, news[j]? = some u → (w.alloc (.cells news.toArray t)).cell? ((⟨w.heap.size, 0, none⟩ : Addr).add j) = some u := fun j u h => by
  have e : ((⟨w.heap.size, 0, none⟩ : Addr).add j) = ⟨w.heap.size, j, none⟩ := by unfold Addr.add; split <;> simp_all
  rw [e, World.cell?_alloc_new]
  simpa using h
theorem textL_snoc (pre : List Int) (r : Int) : textL (pre ++ [r]) = textL pre ++ encodeRune r := by simp [textL]
theorem byteCells_append (a b : List UInt8) : byteCells (a ++ b) = byteCells a ++ byteCells b := by simp [byteCells]

set_option maxRecDepth 8192 in
set_option maxHeartbeats 3200000 in
/-- THE TEXT OF CHARACTERS. -/
theorem text_any (v : Value) (rs : List Int) (base : Nat) (hbig : rs.length ≤ 1000000) (hrs : ∀ r ∈ rs, -2147483648 ≤ r ∧ r ≤ 2147483647) (w : World) (hrow : w.ownsRow base 21 1 v rs.length (rs.map r32)) :
    Calls Tryd.prog 23 #[v] w fun e w' => e = .returned (.string ⟨(textL rs).toArray⟩) ∧ Below w.heap.size w w' := by
  obtain ⟨i0, hi, hz0, hz1, hz2⟩ := info_parts info5
  obtain ⟨A, cap, rfl, hcap, hc⟩ := own_cell hrow
  clear hrow
  obtain ⟨N, hN⟩ : ∃ N, rs.length = N := ⟨_, rfl⟩
  rw [hN] at hcap hc hbig ⊢
  replace hN := Lib.hid hN
  replace hrs := Lib.hid hrs
  go_enter Tryd.func23, Tryd.ntmps23
  go_wp2
  go_loopw [3, 4] (fun v x4 wr => ∃ (k : Nat) (pre : List Int) (m : Nat), k ≤ N ∧ x4 = .int .i64 k ∧ Hid (pre = rs.take k) ∧ m ≤ 4 * k ∧
      wr.ownsRow w.heap.size 5 1 v m (byteCells (textL pre)) ∧ Hid (Below w.heap.size w wr)) (fun _ x4 _ => N - (Lib.intOf x4).toNat)
  case atStart => exact ⟨0, [], 0, Nat.zero_le _, rfl, Lib.hid (by simp), Nat.zero_le _, World.ownsRow_nil _ _ _ _, Lib.hid (Below.refl _ _)⟩
  case round =>
    obtain ⟨k, pre, m, hk, rfl, hpre, hm, hrow, hB⟩ := hrel
    by_cases hlt : k < N
    · obtain ⟨b, rfl, hbl, _, hcell⟩ := hc k hlt
      obtain ⟨r, hr⟩ : ∃ r, rs[k]? = some r := ⟨rs[k]'(by rw [hN.out]; exact hlt), List.getElem?_eq_getElem _⟩
      have hrr := hrs.out r (List.mem_of_getElem? hr)
      have hck : wr.cell? ⟨b, k, none⟩ = some (r32 r) := by rw [hB.out.cell (p := ⟨b, k, none⟩) hbl, hcell, List.getElem?_map, hr]; rfl
      have hpre2 : Hid (pre ++ [r] = rs.take (k + 1)) := Lib.hid (by rw [hpre.out, List.take_add_one, hr]; rfl)
      have hL := runeCells_le r
      obtain ⟨q, hq⟩ : ∃ q, (runeCells r).length = q := ⟨_, rfl⟩
      have hbytes := bytes_any r wr hrr.1 hrr.2
      rw [hq] at hbytes hL
      replace hq := Lib.hid hq
      replace hr := Lib.hid hr
      have hsz := Lib.hid hB.out.size
      clear hc hcell hrr
      go_wp2_with (first
        | (go_at_call 43; refine hbytes.mono ?_; rintro e w' ⟨rfl, rfl⟩)
        | (at_builtin; refine wpList_append_own _ rfl _ _ 25 rfl w.heap.size 5 i0 (.int .u8 0) 1 1 Tryd.underlying25 hi hz0 hz1 hz2 rfl (by decide) _ _ _ rfl (hrow.alloc _) ⟨_, 0, none⟩ q q (runeCells r) rfl (by rw [hq.out]; simp) (cells_new _ _ _) (by intro u hu; obtain ⟨x, _, rfl⟩ := List.mem_map.1 hu; rfl) (by unfold maxLen; omega) (by omega) (by have := hsz.out; simp; omega) ?_; intro v' w3 hown' hg3 hnil3; go_frame))
      refine ⟨⟨k + 1, pre ++ [r], m + q, by omega, by simp, hpre2, by omega, by rw [textL_snoc, byteCells_append, byteCells_encodeRune]; exact hown', Lib.hid ?_⟩, by simp [Lib.intOf]; omega⟩
      exact (hB.out.alloc hsz.out _).grown hg3 (by have := hsz.out; simp; omega) (fun j hj => (hrow.lt j hj).1)
    · have hkn : k = N := by omega
      have e2 : Hid (pre = rs) := Lib.hid (by rw [hpre.out, hkn, ← hN.out, List.take_length])
      subst hkn
      have hconv := conv_row hrow
      go_wp2
      go_ret
      exact ⟨by rw [← e2.out]; rfl, hB.out⟩
end Go.Proofs.YtghlodpbbghcoaaDoor
