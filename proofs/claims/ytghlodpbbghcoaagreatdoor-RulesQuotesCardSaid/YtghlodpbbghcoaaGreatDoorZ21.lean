/- Patterns; an element's rules: walked. -/
import Derived.Test.YtghlodpbbghcoaaGreatDoorZ20
namespace Go.Proofs.YtghlodpbbghcoaaGreatDoor
open Go.Lib Go.RowKit Go.Maps
def stemP (s : ByteArray) : ByteArray := tx (Lib.trimSuffix s.data.toList [42])
def manyP (s : ByteArray) : Bool := Lib.hasSuffix s.data.toList [42]
theorem stemP_size (s : ByteArray) : (stemP s).size ≤ s.size := by
  unfold stemP
  rw [tx_size, Lib.trimSuffix]
  have hz : s.data.toList.length = s.size := by simp
  split
  · rw [List.length_take]; omega
  · omega
theorem pattern_any (s : ByteArray) (hs : s.size ≤ 140737488355328) (w : World) : Calls Tryz.prog 34 #[.string s] w fun e w' => e = .returned (.tuple #[.string (stemP s), .bool (manyP s), .bool (plainP (stemP s))]) ∧ w' = w := by
  have hc : Calls Tryz.prog 47 #[.string s, .string ⟨#[42]⟩] w fun e w' => e = .returned (.tuple #[.string (stemP s), .bool (manyP s)]) ∧ w' = w := Tryz.strings_CutSuffix s ⟨#[42]⟩ w (by omega)
  have hsz := stemP_size s
  have hp := plain_any (stemP s) (by unfold maxLen; omega) w
  obtain ⟨a, ha⟩ : ∃ a, stemP s = a := ⟨_, rfl⟩
  obtain ⟨b, hb⟩ : ∃ b, manyP s = b := ⟨_, rfl⟩
  rw [ha] at hc hp ⊢
  rw [hb] at hc ⊢
  obtain ⟨c, hc2⟩ : ∃ c, plainP a = c := ⟨_, rfl⟩
  rw [hc2] at hp ⊢
  clear ha hb hc2 hsz
  go_enter Tryz.func34, Tryz.ntmps34
  go_wp2_with (first
    | (go_at_call 47; refine hc.mono ?_; rintro e w1 ⟨rfl, rfl⟩)
    | (go_at_call 55; refine hp.mono ?_; rintro e w1 ⟨rfl, rfl⟩))
  go_ret3
  exact ⟨rfl, rfl⟩
/-- May a rule's name be, and be required? -/
def rul1 (r : Rul) : Bool := plainP (stemP r.name) && !(manyP r.name && r.req)
def rul2 (mt : ByteArray → Bool) (r : Rul) : Bool := conP mt r.kind r.words r.regex
def rulesP (mt : ByteArray → Bool) (l : List Rul) : Bool := (decide (l.length ≤ 8) && !twiceB (l.map Rul.name)) && (l.all rul1 && l.all (rul2 mt))
/-- Sizes that memory holds. -/
def Rul.Fit (r : Rul) : Prop := r.name.size ≤ 140737488355328 ∧ r.words.length ≤ 140737488355328 ∧ ∀ s ∈ r.words, s.size ≤ 140737488355328

set_option maxRecDepth 8192 in
set_option maxHeartbeats 3200000 in
theorem rules_any (mt : ByteArray → Bool) (v : Value) (l : List Rul) (P : Nat → Prop) (w : World) (hP : ∀ k, P k → k < w.heap.size) (h : RulsAt w P v l) (hl : l.length ≤ 140737488355328) (hsz : ∀ r ∈ l, r.Fit)
    (hmt : ∀ r ∈ l, r.kind = 4 → ∀ W', Below w.heap.size w W' → Calls Tryz.prog 109 #[.string r.regex] W' (IsB (mt r.regex) W')) :
    Calls Tryz.prog 63 #[v] w (IsB (rulesP mt l) w) := by
  have htw := twice_ruls v l P w hP h hl (fun s hs => by have := (hsz s hs).1; unfold maxLen; omega)
  obtain ⟨A, n, cap, rfl, hn, hcap, hat⟩ := h.form
  have hn6 : n ≤ 140737488355328 := by omega
  obtain ⟨r, hr⟩ : ∃ r, rulesP mt l = r := ⟨_, rfl⟩
  rw [hr]
  replace hr := Lib.hid hr
  replace hn := Lib.hid hn
  replace hat := Lib.hid hat
  replace hsz := Lib.hid hsz
  replace hP := Lib.hid hP
  replace hmt := Lib.hid hmt
  clear h
  by_cases h8 : 8 < n
  · have e : r = false := by
      rw [← hr.out, rulesP, decide_eq_false (by rw [← hn.out]; omega)]
      rfl
    subst e
    have hi8 : (8 : Int) < (n : Int) := by omega
    clear htw
    go_enter Tryz.func63, Tryz.ntmps63
    go_wp2
    go_ret
    exact ⟨rfl, Below.refl _ _⟩
  · have hi8 : ¬ (8 : Int) < (n : Int) := by omega
    obtain ⟨tb, htb⟩ : ∃ tb, twiceB (l.map Rul.name) = tb := ⟨_, rfl⟩
    rw [htb] at htw
    have hr1 : Hid (r = (!tb && (l.all rul1 && l.all (rul2 mt)))) := Lib.hid (by
      rw [← hr.out, rulesP, decide_eq_true (by rw [← hn.out]; omega), htb]
      rfl)
    clear htb
    cases tb with
    | true =>
      have e : r = false := by rw [hr1.out]; rfl
      subst e
      go_enter Tryz.func63, Tryz.ntmps63
      go_wp2_with (go_at_call 91; refine htw.mono ?_; rintro e5 w5 ⟨rfl, hB5⟩)
      go_ret
      exact ⟨rfl, hB5⟩
    | false =>
      have hr2 : Hid (r = (l.all rul1 && l.all (rul2 mt))) := Lib.hid (by rw [hr1.out]; rfl)
      clear hr1
      go_enter Tryz.func63, Tryz.ntmps63
      go_upto_region 3 with (go_at_call 91; refine htw.mono ?_; rintro e5 w5 ⟨rfl, hB5⟩)
      replace hB5 := Lib.hid hB5
      clear htw
      go_wp2
      go_loopw [19] (fun x wr => ∃ k : Nat, k ≤ n ∧ x = .int .i64 k ∧ Hid (∀ j (hj : j < l.length), j < k → rul1 l[j] = true) ∧ Hid (Below w.heap.size w wr)) (fun x _ => n - (RowKit.intOf x).toNat)
      case atStart => exact ⟨0, Nat.zero_le _, rfl, Lib.hid (fun j _ h => absurd h (Nat.not_lt_zero _)), hB5⟩
      case round =>
        clear hB5
        obtain ⟨k, hk, rfl, hok, hB⟩ := hrel
        by_cases hlt : k < n
        · have hkl : k < l.length := by have := hn.out; omega
          obtain ⟨b, o, rfl, hPb, hc⟩ := hat.out (by omega)
          obtain ⟨vw, h0, h1, h2, h3, h4, hvw⟩ := hc k hkl
          have hbw := hP.out b hPb
          have c0 := (hB.out.cell (p := ⟨b, o + k * 5, none⟩) hbw).trans h0
          have c1 := (hB.out.cell (p := ⟨b, o + k * 5 + 1, none⟩) hbw).trans h1
          have c2 := (hB.out.cell (p := ⟨b, o + k * 5 + 2, none⟩) hbw).trans h2
          have c3 := (hB.out.cell (p := ⟨b, o + k * 5 + 3, none⟩) hbw).trans h3
          have c4 := (hB.out.cell (p := ⟨b, o + k * 5 + 4, none⟩) hbw).trans h4
          obtain ⟨Ak, nk, ck, rfl, -, -, -⟩ := hvw.form
          obtain ⟨x, hx⟩ : ∃ x, l[k] = x := ⟨_, rfl⟩
          have hxs := (hsz.out x (by rw [← hx]; exact List.getElem_mem hkl)).1
          rw [hx] at c0 c1 c3 c4
          have hbad : Hid (rul1 x = false → r = false) := Lib.hid (fun e => by rw [hr2.out, all_take_false hkl (by rw [hx, e])]; rfl)
          have hgood : Hid (rul1 x = true → ∀ j (hj : j < l.length), j < k + 1 → rul1 l[j] = true) := Lib.hid (fun e j hj hjk => by
            by_cases e2 : j = k
            · subst e2; rw [hx]; exact e
            · exact hok.out j hj (by omega))
          have hi0 : (0 : Int) ≤ (k : Int) := by omega
          have hi1 : (k : Int) < (n : Int) := by omega
          obtain ⟨nm, kd, ws, rx, rq⟩ := x
          simp only at c0 c1 c3 c4 hxs
          clear hc hx h0 h1 h2 h3 h4 hvw
          have hpat := fun W => pattern_any nm hxs W
          obtain ⟨a1, ha1⟩ : ∃ a, stemP nm = a := ⟨_, rfl⟩
          obtain ⟨mb, hmb⟩ : ∃ a, manyP nm = a := ⟨_, rfl⟩
          obtain ⟨pb, hpb⟩ : ∃ a, plainP a1 = a := ⟨_, rfl⟩
          rw [ha1, hmb, hpb] at hpat
          have hrul : Hid (rul1 ⟨nm, kd, ws, rx, rq⟩ = (pb && !(mb && rq))) := Lib.hid (by rw [rul1]; simp only [ha1, hmb, hpb])
          have hBn : Hid (Below w.heap.size w (wr.alloc (.cells #[.string nm, .int .i64 kd, .slice Ak nk ck, .string rx, .bool rq] 34))) := Lib.hid (hB.out.alloc hB.out.size _)
          rw [hrul.out] at hbad hgood
          clear ha1 hmb hpb hrul
          cases pb with
          | false =>
            have e := hbad.out rfl
            subst e
            clear hbad hgood hr2
            go_wp2_with (go_at_call 34; refine (hpat _).mono ?_; rintro e5 w5 ⟨rfl, rfl⟩)
            go_ret
            exact ⟨rfl, hBn.out⟩
          | true =>
            cases mb with
            | false =>
              have g := Lib.hid (hgood.out rfl)
              clear hbad hgood
              go_wp2_with (go_at_call 34; refine (hpat _).mono ?_; rintro e5 w5 ⟨rfl, rfl⟩)
              exact ⟨⟨k + 1, by omega, by simp, g, hBn⟩, by simp [RowKit.intOf]; omega⟩
            | true =>
              cases rq with
              | false =>
                have g := Lib.hid (hgood.out rfl)
                clear hbad hgood
                go_wp2_with (go_at_call 34; refine (hpat _).mono ?_; rintro e5 w5 ⟨rfl, rfl⟩)
                exact ⟨⟨k + 1, by omega, by simp, g, hBn⟩, by simp [RowKit.intOf]; omega⟩
              | true =>
                have e := hbad.out rfl
                subst e
                clear hbad hgood hr2
                go_wp2_with (go_at_call 34; refine (hpat _).mono ?_; rintro e5 w5 ⟨rfl, rfl⟩)
                go_ret
                exact ⟨rfl, hBn.out⟩
        · have hr3 : Hid (r = l.all (rul2 mt)) := Lib.hid (by rw [hr2.out, all_of_at (fun j hj => hok.out j hj (by have := hn.out; omega))]; rfl)
          have hkn : k = n := by omega
          subst hkn
          clear hr2 hok
          obtain ⟨wo, rfl⟩ : ∃ wo : World, wo = wr := ⟨_, rfl⟩
          go_wp2
          go_loopw [42] (fun x wr => ∃ i : Nat, i ≤ k ∧ x = .int .i64 i ∧ Hid (∀ j (hj : j < l.length), j < i → rul2 mt l[j] = true) ∧ Hid (Below w.heap.size w wr)) (fun x _ => k - (RowKit.intOf x).toNat)
          case atStart => exact ⟨0, Nat.zero_le _, rfl, Lib.hid (fun j _ h => absurd h (Nat.not_lt_zero _)), hB⟩
          case round =>
            clear hB
            obtain ⟨i, hi, rfl, hok, hB⟩ := hrel
            by_cases hlt : i < k
            · have hkl : i < l.length := by have := hn.out; omega
              obtain ⟨b, o, rfl, hPb, hc⟩ := hat.out (by omega)
              obtain ⟨vw, h0, h1, h2, h3, h4, hvw⟩ := hc i hkl
              have hbw := hP.out b hPb
              have c0 := (hB.out.cell (p := ⟨b, o + i * 5, none⟩) hbw).trans h0
              have c1 := (hB.out.cell (p := ⟨b, o + i * 5 + 1, none⟩) hbw).trans h1
              have c2 := (hB.out.cell (p := ⟨b, o + i * 5 + 2, none⟩) hbw).trans h2
              have c3 := (hB.out.cell (p := ⟨b, o + i * 5 + 3, none⟩) hbw).trans h3
              have c4 := (hB.out.cell (p := ⟨b, o + i * 5 + 4, none⟩) hbw).trans h4
              obtain ⟨x, hx⟩ : ∃ x, l[i] = x := ⟨_, rfl⟩
              have hmem : x ∈ l := by rw [← hx]; exact List.getElem_mem hkl
              obtain ⟨hx1, hx2, hx3⟩ := hsz.out x hmem
              have hmx := hmt.out x hmem
              rw [hx] at c0 c1 c3 c4 hvw
              have hvw' := Lib.hid hvw
              have hbad : Hid (rul2 mt x = false → r = false) := Lib.hid (fun e => by rw [hr3.out, all_take_false hkl (by rw [hx, e])])
              have hgood : Hid (rul2 mt x = true → ∀ j (hj : j < l.length), j < i + 1 → rul2 mt l[j] = true) := Lib.hid (fun e j hj hjk => by
                by_cases e2 : j = i
                · subst e2; rw [hx]; exact e
                · exact hok.out j hj (by omega))
              have hi0 : (0 : Int) ≤ (i : Int) := by omega
              have hi1 : (i : Int) < (k : Int) := by omega
              obtain ⟨nm, kd, ws, rx, rq⟩ := x
              simp only at c0 c1 c3 c4 hx1 hx2 hx3 hmx hvw hvw'
              obtain ⟨Ak, nk, ck, rfl, -, -, -⟩ := hvw.form
              have hBn : Hid (Below w.heap.size w (wr.alloc (.cells #[.string nm, .int .i64 kd, .slice Ak nk ck, .string rx, .bool rq] 34))) := Lib.hid (hB.out.alloc hB.out.size _)
              have hcall := langMay_any mt kd (.slice Ak nk ck) ws rx P (wr.alloc (.cells #[.string nm, .int .i64 kd, .slice Ak nk ck, .string rx, .bool rq] 34)) (fun k hk => Nat.lt_of_lt_of_le (hP.out k hk) hBn.out.size) (hvw'.out.move (Stays.below hBn.out hP.out) (fun _ h => h)) hx2 hx3 (fun e W' hb => hmx e W' (hBn.out.trans (hb.mono hBn.out.size)))
              obtain ⟨cb, hcb⟩ : ∃ cb, conP mt kd ws rx = cb := ⟨_, rfl⟩
              rw [hcb] at hcall
              have hrul : Hid (rul2 mt ⟨nm, kd, ws, rx, rq⟩ = cb) := Lib.hid hcb
              rw [hrul.out] at hbad hgood
              clear hc hx h0 h1 h2 h3 h4 hvw hvw' hmem hx1 hx2 hx3 hmx hcb hrul
              cases cb with
              | false =>
                have e := hbad.out rfl
                subst e
                clear hbad hgood hr3
                go_wp2_with (go_at_call 93; refine hcall.mono ?_; rintro e5 w5 ⟨x, rfl, hx, hB5⟩; have hx0 : ¬ x = 0 := of_decide_eq_false hx; have hx1 : (x != 0) = true := by simpa [bne] using hx0)
                go_ret
                exact ⟨rfl, hBn.out.trans (hB5.mono hBn.out.size)⟩
              | true =>
                have g := Lib.hid (hgood.out rfl)
                clear hbad hgood
                go_wp2_with (go_at_call 93; refine hcall.mono ?_; rintro e5 w5 ⟨x, rfl, hx, hB5⟩; obtain rfl : x = 0 := of_decide_eq_true hx)
                exact ⟨⟨i + 1, by omega, by simp, g, Lib.hid (hBn.out.trans (hB5.mono hBn.out.size))⟩, by simp [RowKit.intOf]; omega⟩
            · have e : r = true := by rw [hr3.out]; exact all_of_at (fun j hj => hok.out j hj (by have := hn.out; omega))
              subst e
              clear hr3
              go_wp2
              go_ret
              exact ⟨rfl, hB.out⟩
end Go.Proofs.YtghlodpbbghcoaaGreatDoor
