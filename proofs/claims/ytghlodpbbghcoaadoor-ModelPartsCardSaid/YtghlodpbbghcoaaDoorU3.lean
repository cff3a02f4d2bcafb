/- One character, walked. -/
import Derived.Test.YtghlodpbbghcoaaDoorU2
import Derived.Lib.Walk
namespace Go.Proofs.YtghlodpbbghcoaaDoor
open Go.Lib Go.RowKit

/-- Bytes that lie in memory. -/
def BytesAt (w : World) (b o : Nat) (l : List UInt8) : Prop := ∀ j, j < l.length → w.cell? ⟨b, o + j, none⟩ = some (.int .u8 ((l.getD j 0).toNat : Nat))

set_option maxRecDepth 8192 in
set_option maxHeartbeats 800000 in
theorem follows_any (x : UInt8) (w : World) :
    Calls Tryd.prog 65 #[.int .u8 (x.toNat : Nat)] w fun e w' => e = .returned (.bool (decide (x.toNat / 64 = 2))) ∧ w' = w := by
  have hx := x.toNat_lt
  generalize x.toNat = c at *
  obtain ⟨r, hr⟩ : ∃ r, decide (c / 64 = 2) = r := ⟨_, rfl⟩
  rw [hr]
  by_cases h1 : 128 ≤ c
  · by_cases h2 : c < 192
    · have e : r = true := by rw [← hr]; exact decide_eq_true (by omega)
      subst e
      clear hr
      have h2' : decide ((c : Int) < 192) = _ := decide_eq_true (by omega)
      go_enter Tryd.func65, Tryd.ntmps65
      go_wp2
      go_ret
      exact ⟨rfl, rfl⟩
    · have e : r = false := by rw [← hr]; exact decide_eq_false (by omega)
      subst e
      clear hr
      have h2' : decide ((c : Int) < 192) = _ := decide_eq_false (by omega)
      go_enter Tryd.func65, Tryd.ntmps65
      go_wp2
      go_ret
      exact ⟨rfl, rfl⟩
  · have e : r = false := by rw [← hr]; exact decide_eq_false (by omega)
    subst e
    clear hr
    go_enter Tryd.func65, Tryd.ntmps65
    go_wp2
    go_ret
    exact ⟨rfl, rfl⟩

def tailN (l : List UInt8) (n v least : Nat) : Nat × Nat :=
  if l.length < n then (65533, 1) else
    match contN l (n - 1) 1 v with
    | none => (65533, 1)
    | some v => if v < least ∨ v > 1114111 ∨ (55296 ≤ v ∧ v ≤ 57343) then (65533, 1) else (v, n)

set_option maxRecDepth 8192 in
set_option maxHeartbeats 3200000 in
theorem one_any (b o cap : Nat) (l : List UInt8) (hl : l ≠ []) (hbig : l.length ≤ 1000000000) (w : World) (hb : BytesAt w b o l) :
    Calls Tryd.prog 42 #[.slice (some ⟨b, o, none⟩) l.length cap] w fun e w' => e = .returned (.tuple #[.int .i32 ((oneN l).1 : Nat), .int .i64 ((oneN l).2 : Nat)]) ∧ w' = w := by
  have hpos : 0 < l.length := List.length_pos_iff.2 hl
  obtain ⟨N, hN⟩ : ∃ N, l.length = N := ⟨_, rfl⟩
  obtain ⟨c, hc⟩ : ∃ c, (l.getD 0 0).toNat = c := ⟨_, rfl⟩
  have hcl : c < 256 := by rw [← hc]; exact (l.getD 0 0).toNat_lt
  have h0 : w.cell? ⟨b, o, none⟩ = some (.int .u8 (c : Nat)) := by rw [← hc]; exact hb 0 hpos
  obtain ⟨res, hres⟩ : ∃ res, oneN l = res := ⟨_, rfl⟩
  rw [hres, hN]
  rw [hN] at hpos hbig
  replace hN := Lib.hid hN
  replace hc := Lib.hid hc
  replace hb := Lib.hid hb
  clear hl
  by_cases h1 : c < 128
  · have e : res = (c, 1) := by rw [← hres, oneN, hc.out, if_pos h1]
    subst e
    clear hres
    go_enter Tryd.func42, Tryd.ntmps42
    go_wp2
    go_ret2
    exact ⟨rfl, rfl⟩
  · cases hh : headN c with
    | none =>
      have e : res = (65533, 1) := by rw [← hres, oneN, hc.out, if_neg h1, hh]
      subst e
      clear hres
      have hb1 : ¬ (192 ≤ c ∧ c < 224) := fun h => by rw [headN, if_pos h] at hh; cases hh
      have hb2 : ¬ (224 ≤ c ∧ c < 240) := fun h => by rw [headN, if_neg hb1, if_pos h] at hh; cases hh
      have hb3 : ¬ (240 ≤ c ∧ c < 248) := fun h => by rw [headN, if_neg hb1, if_neg hb2, if_pos h] at hh; cases hh
      clear hh
      go_enter Tryd.func42, Tryd.ntmps42
      by_cases q1 : 192 ≤ c
      · have q2 : 248 ≤ c := by omega
        have q3 : 224 ≤ c := by omega
        have q4 : 240 ≤ c := by omega
        have q5 : ¬ c < 224 := by omega
        have q6 : ¬ c < 240 := by omega
        have q7 : ¬ c < 248 := by omega
        go_wp2
        go_ret2
        exact ⟨rfl, rfl⟩
      · have q3 : ¬ 224 ≤ c := by omega
        have q4 : ¬ 240 ≤ c := by omega
        go_wp2
        go_ret2
        exact ⟨rfl, rfl⟩
    | some q =>
      obtain ⟨n, v, least⟩ := q
      have hq : n ≤ 4 ∧ 2 ≤ n ∧ v < 32 ∧ least ≤ 65536 ∧ 192 ≤ c ∧ c < 248 := by
        unfold headN at hh
        repeat' split at hh
        all_goals cases hh
        all_goals omega
      obtain ⟨hn4, hn2, hv32, hle, hc192, hc248⟩ := hq
      have hres2 : Hid (res = tailN l n v least) := Lib.hid (by rw [← hres, oneN, hc.out, if_neg h1, hh]; rfl)
      clear hres
      replace hh := Lib.hid hh
      go_enter Tryd.func42, Tryd.ntmps42
      go_upto_if 23 with fail
      go_cut [5, 6, 7] (fun x5 x6 x7 wx => x5 = .int .i64 (n : Nat) ∧ x6 = .int .i64 (v : Nat) ∧ x7 = .int .i64 (least : Nat) ∧ wx = w)
      case first =>
        have hh := hh.out
        go_wp2
        · rename_i q
          rw [headN, if_pos (by omega)] at hh
          cases hh
          go_meet
          exact ⟨rfl, by rw [Int.ofNat_sub hc192]; rfl, rfl, rfl⟩
        · rename_i q _
          rw [headN, if_neg (by omega), if_pos (by omega)] at hh
          cases hh
          go_meet
          exact ⟨rfl, by rw [Int.ofNat_sub (by omega)]; rfl, rfl, rfl⟩
        · rename_i q _ _
          rw [headN, if_neg (by omega), if_neg (by omega), if_pos (by omega)] at hh
          cases hh
          go_meet
          exact ⟨rfl, by rw [Int.ofNat_sub (by omega)]; rfl, rfl, rfl⟩
      case rest =>
      obtain ⟨rfl, rfl, rfl, rfl⟩ := hcut
      clear hh hcl hc192 hc248 h0
      by_cases hlen : N < n
      · have e := hres2.out
        rw [tailN, if_pos (by rw [hN.out]; exact hlen)] at e
        subst e
        go_wp2
        go_ret2
        exact ⟨rfl, rfl⟩
      · go_wp2
        go_loop [6, 8] (fun x6 x8 => ∃ (k m v' : Nat), k ≤ n ∧ 1 ≤ k ∧ x8 = .int .i64 k ∧ x6 = .int .i64 v' ∧ m + k = n ∧ v' < 8388608 ∧ Hid (contN l (n - 1) 1 v = contN l m k v') ∧ (k ≤ 1 → v' < 32) ∧ (k ≤ 2 → v' < 2048) ∧ (k ≤ 3 → v' < 131072)) (fun _ x8 => n - (Lib.intOf x8).toNat)
        case atStart => exact ⟨1, n - 1, v, by omega, Nat.le_refl _, rfl, rfl, by omega, by omega, Lib.hid rfl, by omega, by omega, by omega⟩
        case round =>
          obtain ⟨k, m, v', hk, hk1, rfl, rfl, hm, hv', hC, hk2, hk3, hk4⟩ := hrel
          have e1 := hres2.out
          rw [tailN, if_neg (by rw [hN.out]; exact hlen), hC.out] at e1
          by_cases hlt : k < n
          · obtain ⟨x, hx⟩ : ∃ x, l.getD k 0 = x := ⟨_, rfl⟩
            have hxl := x.toNat_lt
            have hck : wc.cell? ⟨b, o + k, none⟩ = some (.int .u8 (x.toNat : Nat)) := by rw [← hx]; exact hb.out k (by rw [hN.out]; omega)
            obtain ⟨m', rfl⟩ : ∃ m', m = m' + 1 := ⟨m - 1, by omega⟩
            by_cases hf : x.toNat / 64 = 2
            · have hfd : decide (x.toNat / 64 = 2) = true := decide_eq_true hf
              have hx128 : 128 ≤ x.toNat := by omega
              have hC2 : Hid (contN l (n - 1) 1 v = contN l m' (k + 1) (64 * v' + x.toNat - 128)) := Lib.hid (by rw [hC.out, contN, hx, if_pos hf])
              clear hC e1
              go_wp2_with (go_at_call 65; refine (follows_any x _).mono ?_; rintro e w' ⟨rfl, rfl⟩)
              have hx256 : x.toNat < 256 := hxl
              refine ⟨⟨k + 1, m', 64 * v' + x.toNat - 128, by omega, by omega, by simp, ?_, by omega, by omega, hC2, by omega, by omega, by omega⟩, by simp [Lib.intOf]; omega⟩
              rw [Int.ofNat_sub (by omega)]
              simp
            · have hfd : decide (x.toNat / 64 = 2) = false := decide_eq_false hf
              rw [contN, hx, if_neg hf] at e1
              subst e1
              go_wp2_with (go_at_call 65; refine (follows_any x _).mono ?_; rintro e w' ⟨rfl, rfl⟩)
              go_ret2
              exact ⟨rfl, rfl⟩
          · obtain rfl : m = 0 := by omega
            have hkn : k = n := by omega
            subst hkn
            rw [contN] at e1
            by_cases q1 : v' < least
            · have e2 : res = (65533, 1) := by rw [e1]; exact if_pos (Or.inl q1)
              subst e2
              go_wp2
              go_ret2
              exact ⟨rfl, rfl⟩
            · by_cases q2 : 1114111 < v'
              · have e2 : res = (65533, 1) := by rw [e1]; exact if_pos (Or.inr (Or.inl q2))
                subst e2
                go_wp2
                go_ret2
                exact ⟨rfl, rfl⟩
              · by_cases q3 : 55296 ≤ v'
                · by_cases q4 : v' ≤ 57343
                  · have e2 : res = (65533, 1) := by rw [e1]; exact if_pos (Or.inr (Or.inr ⟨q3, q4⟩))
                    subst e2
                    go_wp2
                    go_ret2
                    exact ⟨rfl, rfl⟩
                  · have e2 : res = (v', k) := by rw [e1]; exact if_neg (by omega)
                    subst e2
                    go_wp2
                    go_ret2
                    exact ⟨rfl, rfl⟩
                · have e2 : res = (v', k) := by rw [e1]; exact if_neg (by omega)
                  subst e2
                  go_wp2
                  go_ret2
                  exact ⟨rfl, rfl⟩
end Go.Proofs.YtghlodpbbghcoaaDoor
