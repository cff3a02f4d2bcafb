/- The law RegexMany, walked. -/
import Derived.Test.YtaefhfldgemcnaaR17
import Derived.Deep.RegionWith
import Derived.Deep.RegionHeld3
namespace Go.Proofs.Ytaefhfldgemcnaa
open Go.RowKit

theorem extract_list (s : ByteArray) (k i : Nat) : (s.extract k i).data.toList = (s.data.toList.take i).drop k := by
  simp [List.drop_take]

set_option maxRecDepth 8192 in
set_option maxHeartbeats 6400000 in
theorem regexMany_any (s t : ByteArray) (w : World) (_hs : s.size ≤ 9223372036854775807) (_ht : t.size ≤ 9223372036854775807) :
    Calls Try.prog 10 #[.string s, .string t] w (BoolPost true w) := by
  have HF1 := Lib.hid (fun (wx : World) => few2_is t 8 wx (by omega))
  have HF2 := Lib.hid (fun (wx : World) => few2_is s 30 wx (by omega))
  have hs1 := few2B_size s 30
  have hn8 := few2B_size t 8
  generalize few2B s 30 = s' at HF2 hs1
  generalize few2B t 8 = t' at HF1 hn8
  go_enter Try.func10, Try.ntmps10
  go_wp2_with fail
  refine (HF1.out _).mono ?_
  rintro e w0 ⟨rfl, rfl⟩
  go_wp2_with fail
  refine (HF2.out _).mono ?_
  rintro e w0 ⟨rfl, rfl⟩
  go_wp2_with fail
  cases hp : parseR s' with
  | none =>
    refine (parse_none hp w (by omega)).mono ?_
    rintro e w1 ⟨rfl, hb1⟩
    rw [if_neg (show ¬ 60 < s'.size by omega)]
    go_wp2_with fail
    refine (rxLives_any w1).mono ?_
    rintro e w2 ⟨rfl, hb2⟩
    have Hb2 := Lib.hid (hb1.out.trans (hb2.mono hb1.out.size))
    clear hb2
    go_wp2_with fail
    go_ret
    exact ⟨rfl, Hb2.out⟩
  | some tr =>
    have hts := parseR_size hp
    refine (parse_some hp w (by omega)).mono ?_
    rintro e w1 ⟨g, rfl, hR, hP1⟩
    obtain ⟨n, hn⟩ : ∃ n, t'.size = n := ⟨_, rfl⟩
    have hnl : t'.data.toList.length = n := by rw [← hn]; simp
    have hmk := run_make_row' (P := Try.prog) 51 4 (.bool false) 1 Try.underlying51 info4 rfl .i64 .i64 (n + 1) (by omega) (by omega)
    have hcast : ((n + 1 : Nat) : Int) = (n : Int) + 1 := by omega
    rw [hcast] at hmk
    obtain ⟨C, hC⟩ : ∃ C, w1.heap.size = C := ⟨_, rfl⟩
    have hwC : w.heap.size ≤ C := by rw [← hC]; exact hP1.out.size
    have Hnl := Lib.hid hnl
    have Hn := Lib.hid hn
    clear hp hnl hcast
    go_upto_region 6 with fail
    have hrow0 : (w1.alloc (.cells (madeCells #[.bool false] (n + 1)) 4)).rowIs C 4 (n + 1) (fun _ => .bool false) := by rw [← hC]; exact World.rowIs_made _ _ _ _
    have hb0 : Below C w1 (w1.alloc (.cells (madeCells #[.bool false] (n + 1)) 4)) := (Below.refl _ _).alloc (by omega) _
    rw [hC] at hR
    have HC := Lib.hid hC
    clear hmk hC
    generalize w1.alloc _ = W at hrow0 hb0 ⊢
    have a0 : W.cell? ⟨C, 0, none⟩ = some (.bool false) := hrow0.cell (by omega)
    have af := hrow0.frozen 0
    have hn0 : (0 : Int) < (n : Int) + 1 := by omega
    have Hrow0 := Lib.hid hrow0
    have Hb0 := Lib.hid hb0
    clear hrow0 hb0
    go_upto_region 7 with fail
    have hrow1 : Hid ((W.setCell ⟨C, 0, none⟩ (.bool true)).rowIs C 4 (n + 1) (fun x => .bool ((fun x => decide (x = 0) : Nat → Bool) x))) := by
      show World.rowIs _ _ _ _ _
      refine World.rowIs.congr (Hrow0.out.set 0 (.bool true)) ?_
      intro x _
      by_cases hx : x = 0 <;> simp [hx]
    have hb1 : Hid (Below C w1 (W.setCell ⟨C, 0, none⟩ (.bool true))) := Hb0.out.setCell (p := ⟨C, 0, none⟩) (Nat.le_refl _) _
    clear a0 af Hrow0 Hb0
    generalize World.setCell W _ _ = W2 at hrow1 hb1 ⊢
    have hst1 : Hid (∀ x, x < 1 → (((fun x => decide (x = 0) : Nat → Bool) x) = true ↔ Star (Lang tr) (t'.data.toList.take x))) := by
      intro x hx
      obtain rfl : x = 0 := by omega
      simp only [decide_true, true_iff, List.take_zero]
      exact .nil
    have hfa1 : Hid (∀ x, 1 ≤ x → ((fun x => decide (x = 0) : Nat → Bool) x) = false) := by
      intro x hx
      exact decide_eq_false (by omega)
    go_wp2_with fail
    go_loopg [8] n (fun q iv wr => ∃ (i : Nat) (cv : Nat → Bool), iv = .int .i64 i ∧ q = n + 1 - i ∧ 1 ≤ i ∧ i ≤ n + 1 ∧ Hid (wr.rowIs C 4 (n + 1) (fun x => .bool (cv x))) ∧ Hid (∀ x, x < i → (cv x = true ↔ Star (Lang tr) (t'.data.toList.take x))) ∧ Hid (∀ x, i ≤ x → cv x = false) ∧ Hid (Below C w1 wr))
    case atStart => exact ⟨1, _, rfl, by omega, Nat.le_refl _, by omega, hrow1, hst1, hfa1, hb1⟩
    case round =>
      clear hrow1 hst1 hfa1 hb1
      obtain ⟨i, cv, rfl, rfl, hi1, hi, hrow, hst, hfa, hb⟩ := hrel
      by_cases hlt : i ≤ n
      · have hlti : (i : Int) ≤ (n : Int) := by omega
        have hex0 : Hid (cv i = true ↔ ∃ k, k < 0 ∧ Star (Lang tr) (t'.data.toList.take k) ∧ Lang tr ((t'.data.toList.take i).drop k)) := by
          show _ ↔ _
          rw [hfa.out i (Nat.le_refl _)]
          simp
        have hfa0 : Hid (∀ x, i < x → cv x = false) := fun x hx => hfa.out x (by omega)
        go_wp2_with fail
        obtain ⟨wo, rfl⟩ : ∃ wo : World, wo = wr := ⟨_, rfl⟩
        go_loopg [9] i (fun q kv wr => ∃ (k : Nat) (cv : Nat → Bool), kv = .int .i64 k ∧ q = i - k ∧ k ≤ i ∧ Hid (wr.rowIs C 4 (n + 1) (fun x => .bool (cv x))) ∧ Hid (∀ x, x < i → (cv x = true ↔ Star (Lang tr) (t'.data.toList.take x))) ∧ Hid (∀ x, i < x → cv x = false) ∧
            Hid (cv i = true ↔ ∃ k', k' < k ∧ Star (Lang tr) (t'.data.toList.take k') ∧ Lang tr ((t'.data.toList.take i).drop k')) ∧ Hid (Below C w1 wr))
        case atStart => exact ⟨0, cv, rfl, rfl, Nat.zero_le _, hrow, hst, hfa0, hex0, hb⟩
        case round =>
          clear hrow hst hfa0 hex0 hb hfa
          obtain ⟨k, cv, rfl, rfl, hk, hrow, hst, hfa, hex, hb⟩ := hrel
          by_cases hkl : k < i
          · have hkli : (k : Int) < (i : Int) := by omega
            have hki : (k : Int) ≤ (i : Int) := by omega
            obtain ⟨own, hown⟩ : ∃ own, accB (netN tr) (t'.extract k i).data.toList = own := ⟨_, rfl⟩
            have hownL : own = true ↔ Lang tr ((t'.data.toList.take i).drop k) := by rw [← hown, acc_true, extract_list]
            have hCl : C < wr.heap.size := hrow.out.lt
            have HM := Lib.hid (match_rx g C tr (t'.extract k i) own wr (hR.out.below hb.out (Nat.le_refl _)) (by omega) (by omega) (by simp; omega) hown)
            have HownL := Lib.hid hownL
            clear hown hownL
            go_wp2_with fail
            refine HM.out.mono ?_
            rintro e w5 ⟨rfl, hb5⟩
            have hrow5 := hrow.out.of_block (hb5.block _ hrow.out.lt)
            have hB5 := Lib.hid (hb.out.trans (hb5.mono (by omega)))
            have c1 : w5.cell? ⟨C, i, none⟩ = some (.bool (cv i)) := hrow5.cell (by omega)
            have c2 : w5.cell? ⟨C, k, none⟩ = some (.bool (cv k)) := hrow5.cell (by omega)
            have cf := hrow5.frozen i
            have hcvk := hst.out k hkl
            have Hrow5 := Lib.hid hrow5
            have Hcvk := Lib.hid hcvk
            have hii : (i : Int) < (n : Int) + 1 := by omega
            have hkk : (k : Int) < (n : Int) + 1 := by omega
            clear hrow5 hcvk hb5 HM hrow hb
            obtain ⟨b1, hb1⟩ : ∃ b1, cv i = b1 := ⟨_, rfl⟩
            obtain ⟨b2, hb2⟩ : ∃ b2, cv k = b2 := ⟨_, rfl⟩
            rw [hb1] at c1
            rw [hb2] at c2
            have Hb1 := Lib.hid hb1
            have Hb2 := Lib.hid hb2
            clear hb1 hb2
            have HNX : Hid (∀ r, r = (b1 || (b2 && own)) → Hid ((w5.setCell ⟨C, i, none⟩ (.bool r)).rowIs C 4 (n + 1) (fun x => .bool ((fun x => if x = i then r else cv x : Nat → Bool) x))) ∧ Hid (∀ x, x < i → (((fun x => if x = i then r else cv x : Nat → Bool) x) = true ↔ Star (Lang tr) (t'.data.toList.take x))) ∧
                Hid (∀ x, i < x → ((fun x => if x = i then r else cv x : Nat → Bool) x) = false) ∧
                Hid (((fun x => if x = i then r else cv x : Nat → Bool) i) = true ↔ ∃ k', k' < k + 1 ∧ Star (Lang tr) (t'.data.toList.take k') ∧ Lang tr ((t'.data.toList.take i).drop k')) ∧ Hid (Below C w1 (w5.setCell ⟨C, i, none⟩ (.bool r)))) := fun r hr => by
              refine ⟨?_, ?_, ?_, ?_, ?_⟩
              · show World.rowIs _ _ _ _ _
                refine World.rowIs.congr (Hrow5.out.set i (.bool r)) ?_
                intro x _
                by_cases hx : x = i <;> simp [hx]
              · intro x hx
                simp only
                rw [if_neg (by omega)]
                exact hst.out x hx
              · intro x hx
                simp only
                rw [if_neg (by omega)]
                exact hfa.out x hx
              · show _ ↔ _
                simp only [if_true]
                rw [hr]
                simp only [Bool.or_eq_true, Bool.and_eq_true]
                rw [← Hb1.out, ← Hb2.out, hex.out, Hcvk.out, HownL.out]
                constructor
                · rintro (⟨k', h1, h2⟩ | ⟨h1, h2⟩)
                  · exact ⟨k', by omega, h2⟩
                  · exact ⟨k, by omega, h1, h2⟩
                · rintro ⟨k', h1, h2, h3⟩
                  by_cases hk' : k' = k
                  · subst hk'; exact .inr ⟨h2, h3⟩
                  · exact .inl ⟨k', by omega, h2, h3⟩
              · exact hB5.out.setCell (p := ⟨C, i, none⟩) (Nat.le_refl _) _
            have hms : i - (k + 1) < i - k := by omega
            have hk1 : k + 1 ≤ i := by omega
            cases b1 with
            | true =>
              go_wp2_with fail
              go_roundg (i - (k + 1))
              case rel =>
                obtain ⟨q1, q2, q3, q4, q5⟩ := HNX.out true (by simp)
                exact ⟨k + 1, _, by go_num, rfl, hk1, q1, q2, q3, (by have h4 := q4.out; show _ ↔ _; simpa using h4), q5⟩
              case measure => exact hms
            | false =>
              cases b2 with
              | false =>
                go_wp2_with fail
                go_roundg (i - (k + 1))
                case rel =>
                  obtain ⟨q1, q2, q3, q4, q5⟩ := HNX.out false (by simp)
                  exact ⟨k + 1, _, by go_num, rfl, hk1, q1, q2, q3, (by have h4 := q4.out; show _ ↔ _; simpa using h4), q5⟩
                case measure => exact hms
              | true =>
                go_wp2_with fail
                go_roundg (i - (k + 1))
                case rel =>
                  obtain ⟨q1, q2, q3, q4, q5⟩ := HNX.out own (by simp)
                  exact ⟨k + 1, _, by go_num, rfl, hk1, q1, q2, q3, (by have h4 := q4.out; show _ ↔ _; simpa using h4), q5⟩
                case measure => exact hms
          · have hkli : ¬ (k : Int) < (i : Int) := by omega
            obtain rfl : k = i := by omega
            have hst2 : Hid (∀ x, x < k + 1 → (cv x = true ↔ Star (Lang tr) (t'.data.toList.take x))) := fun x hx => by
              by_cases hxk : x = k
              · subst hxk
                rw [hex.out, star_take hi1 (by rw [Hnl.out]; omega)]
              · exact hst.out x (by omega)
            have hfa2 : Hid (∀ x, k + 1 ≤ x → cv x = false) := fun x hx => hfa.out x (by omega)
            go_wp2_with fail
            go_roundg (n + 1 - (k + 1))
            case rel => exact ⟨k + 1, cv, by go_num, rfl, by omega, by omega, hrow, hst2, hfa2, hb⟩
            case measure => omega
      · have hlti : ¬ (i : Int) ≤ (n : Int) := by omega
        obtain rfl : i = n + 1 := by omega
        have hCl : C < wr.heap.size := hrow.out.lt
        have HMy := Lib.hid (many_any g C tr wr (hR.out.below hb.out (Nat.le_refl _)) (by omega))
        obtain ⟨bn, hbn⟩ : ∃ bn, cv n = bn := ⟨_, rfl⟩
        have hacc : accB (netN (.rep tr 42)) t'.data.toList = bn := by
          rw [Bool.eq_iff_iff, acc_true, ← hbn, hst.out n (by omega), List.take_of_length_le (by rw [Hnl.out]; exact Nat.le_refl _), Lang]
          rfl
        have hemp : accB (netN (.rep tr 42)) (ByteArray.mk #[]).data.toList = true := by
          rw [acc_true, Lang]
          exact Star.nil
        have Hbn := Lib.hid hbn
        have Hacc := Lib.hid hacc
        have Hemp := Lib.hid hemp
        clear hbn hacc hemp hst hfa
        go_wp2_with fail
        refine HMy.out.mono ?_
        rintro e w6 ⟨g2, rfl, hR6, hB6⟩
        have hrow6 := hrow.out.of_block (hB6.out.block _ hrow.out.lt)
        have c1 : w6.cell? ⟨C, n, none⟩ = some (.bool bn) := by rw [← Hbn.out]; exact hrow6.cell (by omega)
        have hn1 : (n : Int) < (n : Int) + 1 := by omega
        have hCl6 := hrow6.lt
        have hB6' := Lib.hid (hb.out.trans (hB6.out.mono (by omega)))
        have hz6 := hB6'.out.size
        have hsz9 : (T.rep tr 42).size ≤ 1000 := by simp only [T.size]; omega
        have HM1 := Lib.hid (fun (wx : World) (hx : Below w6.heap.size w6 wx) => match_rx g2 w6.heap.size (.rep tr 42) t' bn wx (hR6.out.below hx (Nat.le_refl _)) hx.size hsz9 (by omega) Hacc.out)
        have HM2 := Lib.hid (fun (wx : World) (hx : Below w6.heap.size w6 wx) => match_rx g2 w6.heap.size (.rep tr 42) (ByteArray.mk #[]) true wx (hR6.out.below hx (Nat.le_refl _)) hx.size hsz9 (by decide) Hemp.out)
        clear hrow6 hrow hb HMy
        go_upto_region 18 with fail
        have hB := Lib.hid ((Below.refl w6.heap.size w6).drew)
        go_region_held3 (fun w' => w'.cell? ⟨C, n, none⟩ = some (.bool bn)) (exact (hB.out.cell (p := ⟨C, n, none⟩) hCl6).trans c1)
          (first
            | (go_at_call_of 32 t'; refine (HM1.out _ hB.out).mono ?_; rintro e w' ⟨rfl, hb'⟩; have hB := Lib.hid (hB.out.trans (hb'.mono hB.out.size)); clear hb')
            | (go_at_call 32; refine (HM2.out _ hB.out).mono ?_; rintro e w' ⟨rfl, hb'⟩; have hB := Lib.hid (hB.out.trans (hb'.mono hB.out.size)); clear hb')
            | (go_at_call 31; refine (rxLives_any _).mono ?_; rintro e w' ⟨rfl, hb'⟩; have hB := Lib.hid (hB.out.trans (hb'.mono hB.out.size)); clear hb'))
        all_goals go_wp2_with fail
        all_goals go_ret
        all_goals exact ⟨by simp, hP1.out.trans ((hB6'.out.mono hwC).trans (hB.out.mono (by omega)))⟩
end Go.Proofs.Ytaefhfldgemcnaa
