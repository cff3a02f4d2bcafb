/- The law RegexJoins, walked. -/
import Derived.Test.YtaefhfldgemcnaaR20
namespace Go.Proofs.Ytaefhfldgemcnaa
open Go.RowKit

theorem cells_two (w : World) (ga gb : Nat) (ta tb : T) (t : TypeId) : CellsAt (w.alloc (.cells #[.pointer (some ⟨ga, 0, none⟩), .pointer (some ⟨gb, 0, none⟩)] t)) (w.alloc (.cells #[.pointer (some ⟨ga, 0, none⟩), .pointer (some ⟨gb, 0, none⟩)] t)).heap.size (some ⟨w.heap.size, 0, none⟩) ([(ga, ta), (gb, tb)].map rxPtr) := by
  intro j hj
  refine ⟨w.heap.size, 0, rfl, by simp, ?_⟩
  rw [Nat.zero_add, blk_cell (blk_new w _)]
  have hj2 : j < 2 := by simpa using hj
  rcases (by omega : j = 0 ∨ j = 1) with rfl | rfl <;> rfl
/-- An expression, its matching known, in any later world. -/
theorem match_later {w wx : World} {g M : Nat} {t : T} {s : ByteArray} {b : Bool} (h : RxAt w g M t) (hM : M ≤ w.heap.size) (hx : Below M w wx) (hts : t.size ≤ 1000) (hs : s.size ≤ 1000) (hb : accB (netN t) s.data.toList = b) :
    Calls Try.prog 32 #[.pointer (some ⟨g, 0, none⟩), .string s] wx (BoolPost b wx) :=
  match_rx g M t s b wx (h.below hx (Nat.le_refl _)) (Nat.le_trans hM hx.size) hts hs hb
theorem RxAt.more {w : World} {g M M' : Nat} {t : T} (h : RxAt w g M t) (hM : M ≤ M') : RxAt w g M' t := by
  obtain ⟨ty, u, h1, h2⟩ := h.blk
  exact ⟨Nat.lt_of_lt_of_le h.lt hM, ty, u, h1, h2.move (fun x hx => ⟨Nat.lt_of_lt_of_le hx hM, rfl⟩)⟩
theorem or_two (w wx : World) (M ga gb : Nat) (ta tb : T) (ha : RxAt w ga M ta) (hb : RxAt w gb M tb) (hM : M ≤ w.heap.size) (hx : Below M w wx) :
    Calls Try.prog 36 #[.slice (some ⟨wx.heap.size, 0, none⟩) 2 2] (wx.alloc (.cells #[.pointer (some ⟨ga, 0, none⟩), .pointer (some ⟨gb, 0, none⟩)] 42)) (RxPost (eitherT [ta, tb]) (wx.alloc (.cells #[.pointer (some ⟨ga, 0, none⟩), .pointer (some ⟨gb, 0, none⟩)] 42))) := by
  have hz := hx.size
  refine or_any [(ga, ta), (gb, tb)] _ 2 2 _ rfl (by omega) (cells_two wx ga gb ta tb 42) ?_
  intro p hp
  simp only [List.mem_cons, List.not_mem_nil, or_false] at hp
  have hx2 := hx.alloc (by omega) (.cells #[.pointer (some ⟨ga, 0, none⟩), .pointer (some ⟨gb, 0, none⟩)] 42)
  rcases hp with rfl | rfl
  · exact (ha.below hx2 (Nat.le_refl _)).more (by simp; omega)
  · exact (hb.below hx2 (Nat.le_refl _)).more (by simp; omega)
theorem then_two (w wx : World) (M ga gb : Nat) (ta tb : T) (ha : RxAt w ga M ta) (hb : RxAt w gb M tb) (hM : M ≤ w.heap.size) (hx : Below M w wx) :
    Calls Try.prog 37 #[.slice (some ⟨wx.heap.size, 0, none⟩) 2 2] (wx.alloc (.cells #[.pointer (some ⟨ga, 0, none⟩), .pointer (some ⟨gb, 0, none⟩)] 42)) (RxPost (rowT [ta, tb]) (wx.alloc (.cells #[.pointer (some ⟨ga, 0, none⟩), .pointer (some ⟨gb, 0, none⟩)] 42))) := by
  have hz := hx.size
  refine then_any [(ga, ta), (gb, tb)] _ 2 2 _ rfl (by omega) (cells_two wx ga gb ta tb 42) ?_
  intro p hp
  simp only [List.mem_cons, List.not_mem_nil, or_false] at hp
  have hx2 := hx.alloc (by omega) (.cells #[.pointer (some ⟨ga, 0, none⟩), .pointer (some ⟨gb, 0, none⟩)] 42)
  rcases hp with rfl | rfl
  · exact (ha.below hx2 (Nat.le_refl _)).more (by simp; omega)
  · exact (hb.below hx2 (Nat.le_refl _)).more (by simp; omega)
theorem or_none (w : World) : Calls Try.prog 36 #[.slice none 0 0] w (RxPost (eitherT []) w) := or_any [] none 0 0 w rfl (by omega) CellsAt.nil (fun p hp => by simp at hp)
theorem then_none (w : World) : Calls Try.prog 37 #[.slice none 0 0] w (RxPost (rowT []) w) := then_any [] none 0 0 w rfl (by omega) CellsAt.nil (fun p hp => by simp at hp)

set_option maxRecDepth 16384 in
set_option maxHeartbeats 12800000 in
theorem regexJoins_any (s u l t : ByteArray) (w : World) (_hs : s.size ≤ 9223372036854775807) (_hu : u.size ≤ 9223372036854775807) (_hl : l.size ≤ 9223372036854775807) (_ht : t.size ≤ 9223372036854775807) :
    Calls Try.prog 11 #[.string s, .string u, .string l, .string t] w (BoolPost true w) := by
  have HF1 := Lib.hid (fun (wx : World) => few2_is s 30 wx (by omega))
  have HF2 := Lib.hid (fun (wx : World) => few2_is u 30 wx (by omega))
  have HF3 := Lib.hid (fun (wx : World) => few2_is t 12 wx (by omega))
  have HF4 := Lib.hid (fun (wx : World) => few2_is l 12 wx (by omega))
  have hs1 := few2B_size s 30
  have hu1 := few2B_size u 30
  have ht1 := few2B_size t 12
  have hl1 := few2B_size l 12
  generalize few2B s 30 = s' at HF1 hs1
  generalize few2B u 30 = u' at HF2 hu1
  generalize few2B t 12 = t' at HF3 ht1
  generalize few2B l 12 = l' at HF4 hl1
  go_enter Try.func11, Try.ntmps11
  go_wp2_with fail
  refine (HF1.out _).mono ?_
  rintro e w0 ⟨rfl, rfl⟩
  go_wp2_with fail
  refine (HF2.out _).mono ?_
  rintro e w0 ⟨rfl, rfl⟩
  go_wp2_with fail
  refine (HF3.out _).mono ?_
  rintro e w0 ⟨rfl, rfl⟩
  go_wp2_with fail
  refine (HF4.out _).mono ?_
  rintro e w0 ⟨rfl, rfl⟩
  go_wp2_with fail
  cases hp : parseR s' with
  | none =>
    refine (parse_none hp w (by omega)).mono ?_
    rintro e w1 ⟨rfl, hb1⟩
    rw [if_neg (show ¬ 60 < s'.size by omega)]
    go_wp2_with fail
    cases hq : parseR u' with
    | none =>
      refine (parse_none hq w1 (by omega)).mono ?_
      rintro e w2 ⟨rfl, hb2⟩
      rw [if_neg (show ¬ 60 < u'.size by omega)]
      have Hb2 := Lib.hid (hb1.out.trans (hb2.out.mono hb1.out.size))
      go_wp2_with fail
      refine (rxLives_any w2).mono ?_
      rintro e w3 ⟨rfl, hb3⟩
      have Hb3 := Lib.hid (Hb2.out.trans (hb3.mono Hb2.out.size))
      clear hb3
      go_wp2_with fail
      go_ret
      exact ⟨rfl, Hb3.out⟩
    | some tb =>
      refine (parse_some hq w1 (by omega)).mono ?_
      rintro e w2 ⟨gb, rfl, hRb, hb2⟩
      have Hb2 := Lib.hid (hb1.out.trans (hb2.out.mono hb1.out.size))
      go_wp2_with fail
      refine (rxLives_any w2).mono ?_
      rintro e w3 ⟨rfl, hb3⟩
      have Hb3 := Lib.hid (Hb2.out.trans (hb3.mono Hb2.out.size))
      clear hb3
      go_wp2_with fail
      go_ret
      exact ⟨rfl, Hb3.out⟩
  | some ta =>
    refine (parse_some hp w (by omega)).mono ?_
    rintro e w1 ⟨ga, rfl, hRa, hb1⟩
    go_wp2_with fail
    cases hq : parseR u' with
    | none =>
      refine (parse_none hq w1 (by omega)).mono ?_
      rintro e w2 ⟨rfl, hb2⟩
      rw [if_neg (show ¬ 60 < u'.size by omega)]
      have Hb2 := Lib.hid (hb1.out.trans (hb2.out.mono hb1.out.size))
      go_wp2_with fail
      refine (rxLives_any w2).mono ?_
      rintro e w3 ⟨rfl, hb3⟩
      have Hb3 := Lib.hid (Hb2.out.trans (hb3.mono Hb2.out.size))
      clear hb3
      go_wp2_with fail
      go_ret
      exact ⟨rfl, Hb3.out⟩
    | some tb =>
      have hta := parseR_size hp
      have htb := parseR_size hq
      refine (parse_some hq w1 (by omega)).mono ?_
      rintro e w2 ⟨gb, rfl, hRb, hb2⟩
      have Hb2 := Lib.hid (hb1.out.trans (hb2.out.mono hb1.out.size))
      obtain ⟨M, hM⟩ : ∃ M, w2.heap.size = M := ⟨_, rfl⟩
      have hRa2 : Hid (RxAt w2 ga M ta) := (hRa.out.below hb2.out (Nat.le_refl _)).more (by rw [← hM]; exact hb2.out.size)
      have hRb2 : Hid (RxAt w2 gb M tb) := by show RxAt _ _ _ _; rw [← hM]; exact hRb.out
      have hMw : Hid (M ≤ w2.heap.size) := by show _ ≤ _; omega
      have hwM : Hid (w.heap.size ≤ M) := by show _ ≤ _; rw [← hM]; exact Hb2.out.size
      have hX0 : Hid (Below M w2 w2) := Below.refl _ _
      obtain ⟨n, hn⟩ : ∃ n, t'.size = n := ⟨_, rfl⟩
      obtain ⟨k, hk⟩ : ∃ k, l'.size = k := ⟨_, rfl⟩
      have hnl : t'.data.toList.length = n := by rw [← hn]; simp
      have hkl : l'.data.toList.length = k := by rw [← hk]; simp
      have Hnl := Lib.hid hnl
      have Hkl := Lib.hid hkl
      clear hp hq hRa hRb hb1 hb2 hM hnl hkl
      go_wp2_with fail
      go_loopg [13, 14] k (fun q gv iv wr => ∃ (i : Nat) (sg : Bool), gv = .bool sg ∧ iv = .int .i64 i ∧ q = k - i ∧ i ≤ k ∧ Hid (sg = (l'.data.toList.take i).all isS) ∧ wr = w2)
      case atStart => exact ⟨0, true, rfl, rfl, rfl, Nat.zero_le _, rfl, rfl⟩
      case round =>
        obtain ⟨i, sg, rfl, rfl, rfl, hi, hsg, rfl⟩ := hrel
        obtain ⟨w2, rfl⟩ : ∃ w2 : World, w2 = wr := ⟨_, rfl⟩
        by_cases hlt : i < k
        · have hlti : (i : Int) < (k : Int) := by omega
          have hltz : i < l'.size := by omega
          obtain ⟨cb, hcb⟩ : ∃ cb : UInt8, l'[i] = cb := ⟨_, rfl⟩
          have hg : l'.data.toList[i]? = some cb := by rw [← hcb]; exact Lib.data_getElem? l' i hltz
          have hT : (l'.data.toList.take (i + 1)).all isS = (sg && isS cb) := by
            rw [take_snoc hg, List.all_append, ← hsg.out]
            simp
          have HT := Lib.hid hT
          clear hg hT
          cases sg with
          | false =>
            go_wp2_with fail
            go_roundg (k - (i + 1))
            case rel => exact ⟨i + 1, false, rfl, by go_num, rfl, by omega, by show _ = _; rw [HT.out]; rfl, rfl⟩
            case measure => omega
          | true =>
            by_cases h32 : (32 : Int) ≤ (cb.toNat : Int)
            · by_cases h126 : (cb.toNat : Int) ≤ 126
              · have hs : isS cb = true := by unfold isS; simp; omega
                go_wp2_with fail
                go_roundg (k - (i + 1))
                case rel => exact ⟨i + 1, true, rfl, by go_num, rfl, by omega, by show _ = _; rw [HT.out, hs]; rfl, rfl⟩
                case measure => omega
              · have hs : isS cb = false := by unfold isS; simp; omega
                go_wp2_with fail
                go_roundg (k - (i + 1))
                case rel => exact ⟨i + 1, false, rfl, by go_num, rfl, by omega, by show _ = _; rw [HT.out, hs]; rfl, rfl⟩
                case measure => omega
            · have hs : isS cb = false := by unfold isS; simp; omega
              go_wp2_with fail
              go_roundg (k - (i + 1))
              case rel => exact ⟨i + 1, false, rfl, by go_num, rfl, by omega, by show _ = _; rw [HT.out, hs]; rfl, rfl⟩
              case measure => omega
        · have hlti : ¬ (i : Int) < (k : Int) := by omega
          obtain rfl : i = k := by omega
          have hsg2 : Hid (sg = l'.data.toList.all isS) := by
            have := hsg.out
            rwa [List.take_of_length_le (by rw [Hkl.out]; exact Nat.le_refl _)] at this
          obtain ⟨one, hone⟩ : ∃ b, accB (netN ta) t'.data.toList = b := ⟨_, rfl⟩
          obtain ⟨two, htwo⟩ : ∃ b, accB (netN tb) t'.data.toList = b := ⟨_, rfl⟩
          have HMa := Lib.hid (match_later hRa2.out hMw.out hX0.out (by omega) (by omega) hone)
          have Hone := Lib.hid hone
          have Htwo := Lib.hid htwo
          clear hone htwo
          go_wp2_with fail
          refine HMa.out.mono ?_
          rintro e w3 ⟨rfl, hb3⟩
          have hX3 : Hid (Below M w2 w3) := hb3.mono hMw.out
          have HMb := Lib.hid (match_later hRb2.out hMw.out hX3.out (by omega) (by omega) Htwo.out)
          clear hb3 HMa
          go_wp2_with fail
          refine HMb.out.mono ?_
          rintro e w4 ⟨rfl, hb4⟩
          have hX4 := Lib.hid (hX3.out.trans (hb4.mono (Nat.le_trans hMw.out hX3.out.size)))
          clear hb4 HMb hX3
          go_wp2_with fail
          go_loopg [17, 18] (n + 1) (fun q tv iv wr => ∃ (i : Nat) (th : Bool), tv = .bool th ∧ iv = .int .i64 i ∧ q = n + 1 - i ∧ i ≤ n + 1 ∧ Hid (th = true ↔ ∃ j, j < i ∧ Lang ta (t'.data.toList.take j) ∧ Lang tb (t'.data.toList.drop j)) ∧ Hid (Below M w2 wr))
          case atStart => exact ⟨0, false, rfl, rfl, rfl, Nat.zero_le _, by show _ ↔ _; simp, hX4⟩
          case round =>
            clear hX4
            obtain ⟨i, th, rfl, rfl, rfl, hi, hth, hX⟩ := hrel
            by_cases hlt : i ≤ n
            · have hlti : (i : Int) ≤ (n : Int) := by omega
              obtain ⟨x, hx⟩ : ∃ x, accB (netN ta) (t'.extract 0 i).data.toList = x := ⟨_, rfl⟩
              obtain ⟨y, hy⟩ : ∃ y, accB (netN tb) (t'.extract i n).data.toList = y := ⟨_, rfl⟩
              have hxl : x = true ↔ Lang ta (t'.data.toList.take i) := by
                rw [← hx, acc_true]
                simp
              have hyl : y = true ↔ Lang tb (t'.data.toList.drop i) := by
                rw [← hy, acc_true]
                have : (t'.extract i n).data.toList = t'.data.toList.drop i := by
                  simp
                  rw [List.take_of_length_le (by simp; omega)]
                rw [this]
              have HMa := Lib.hid (match_later hRa2.out hMw.out hX.out (by omega) (by simp; omega) hx)
              have Hy := Lib.hid hy
              have HN : Hid (∀ th', th' = (th || (x && y)) → Hid (th' = true ↔ ∃ j, j < i + 1 ∧ Lang ta (t'.data.toList.take j) ∧ Lang tb (t'.data.toList.drop j))) := fun th' h => by
                show _ ↔ _
                rw [h]
                simp only [Bool.or_eq_true, Bool.and_eq_true]
                rw [hth.out, hxl, hyl]
                constructor
                · rintro (⟨j, h1, h2⟩ | ⟨h1, h2⟩)
                  · exact ⟨j, by omega, h2⟩
                  · exact ⟨i, by omega, h1, h2⟩
                · rintro ⟨j, h1, h2, h3⟩
                  by_cases hj : j = i
                  · subst hj; exact .inr ⟨h2, h3⟩
                  · exact .inl ⟨j, by omega, h2, h3⟩
              have hms : n + 1 - (i + 1) < n + 1 - i := by omega
              clear hx hy hxl hyl
              go_wp2_with fail
              refine HMa.out.mono ?_
              rintro e w5 ⟨rfl, hb5⟩
              have hX5 := Lib.hid (hX.out.trans (hb5.mono (Nat.le_trans hMw.out hX.out.size)))
              have HMb := Lib.hid (match_later hRb2.out hMw.out hX5.out (by omega) (by simp; omega) Hy.out)
              clear hb5 HMa hX
              go_wp2_with fail
              refine HMb.out.mono ?_
              rintro e w6 ⟨rfl, hb6⟩
              have hX6 := Lib.hid (hX5.out.trans (hb6.mono (Nat.le_trans hMw.out hX5.out.size)))
              clear hb6 HMb hX5
              cases th with
              | true =>
                go_wp2_with fail
                go_roundg (n + 1 - (i + 1))
                case rel => exact ⟨i + 1, true, rfl, by go_num, rfl, by omega, HN.out true (by simp), hX6⟩
                case measure => exact hms
              | false =>
                cases x with
                | false =>
                  go_wp2_with fail
                  go_roundg (n + 1 - (i + 1))
                  case rel => exact ⟨i + 1, false, rfl, by go_num, rfl, by omega, HN.out false (by simp), hX6⟩
                  case measure => exact hms
                | true =>
                  go_wp2_with fail
                  go_roundg (n + 1 - (i + 1))
                  case rel => exact ⟨i + 1, y, rfl, by go_num, rfl, by omega, HN.out y (by simp), hX6⟩
                  case measure => exact hms
            · have hlti : ¬ (i : Int) ≤ (n : Int) := by omega
              obtain rfl : i = n + 1 := by omega
              obtain ⟨qb, hqb⟩ : ∃ qb, (l'.toList == t'.toList) = qb := ⟨_, rfl⟩
              obtain ⟨q0, hq0⟩ : ∃ q0, t'.toList.isEmpty = q0 := ⟨_, rfl⟩
              have hqb2 : qb = true ↔ l'.data.toList = t'.data.toList := by rw [← hqb, ByteArray.toList_eq, ByteArray.toList_eq, beq_iff_eq]
              have hq02 : q0 = true ↔ t'.data.toList = [] := by rw [← hq0, ByteArray.toList_eq, List.isEmpty_iff]
              have hbl : accB (netN (litT l'.data.toList)) t'.data.toList = (sg && qb) := by
                rw [Bool.eq_iff_iff, acc_true, lit_lang, Bool.and_eq_true, hqb2, hsg2.out]
              have hor : accB (netN (eitherT [ta, tb])) t'.data.toList = (one || two) := by
                rw [Bool.eq_iff_iff, acc_true, or_lang, Bool.or_eq_true, ← Hone.out, ← Htwo.out, acc_true, acc_true]
              have hth2 : accB (netN (rowT [ta, tb])) t'.data.toList = th := by
                rw [Bool.eq_iff_iff, acc_true, then_lang, hth.out, Hnl.out]
              have ho0 : accB (netN (eitherT [])) t'.data.toList = false := by
                refine Bool.eq_false_iff.2 fun h => ?_
                rw [acc_true] at h
                exact or0_lang _ h
              have ht0 : accB (netN (rowT [])) t'.data.toList = q0 := by
                rw [Bool.eq_iff_iff, acc_true, then0_lang, hq02]
              have hls : (litT l'.data.toList).size ≤ 1000 := by
                have := litT_size l'.data.toList
                rw [Hkl.out] at this
                omega
              have hos : (eitherT [ta, tb]).size ≤ 1000 := by
                have := eitherT_size [ta, tb]
                simp only [sizes] at this
                omega
              have hrs : (rowT [ta, tb]).size ≤ 1000 := by
                have := rowT_size [ta, tb]
                simp only [sizes] at this
                omega
              have hos0 : (eitherT []).size ≤ 1000 := by decide
              have hrs0 : (rowT []).size ≤ 1000 := by decide
              have Hbl := Lib.hid hbl
              have Hor := Lib.hid hor
              have Hth2 := Lib.hid hth2
              have Ho0 := Lib.hid ho0
              have Ht0 := Lib.hid ht0
              have HL := Lib.hid (fun (wx : World) => literal_any l' wx (by omega))
              have htz : t'.size ≤ 1000 := by omega
              clear hqb2 hq02 hbl hor hth2 ho0 ht0 hth hsg2 hsg
              have hXz := Nat.le_trans hMw.out hX.out.size
              go_wp2_with fail
              refine (HL.out _).mono ?_
              rintro e w8 ⟨gl, rfl, hRl, hb8⟩
              have hX8 := Lib.hid (hX.out.trans (hb8.out.mono hXz))
              have hz8 := Nat.le_trans hMw.out hX8.out.size
              have hY8 : Hid (Below w8.heap.size w8 w8) := Below.refl _ _
              clear hb8 hX HL
              have HO9 := Lib.hid (or_two w2 w8 M ga gb ta tb hRa2.out hRb2.out hMw.out hX8.out)
              go_wp2_with fail
              refine HO9.out.mono ?_
              rintro e w9 ⟨g9, rfl, _, hb9⟩
              have hY9 := Lib.hid (((Below.refl w8.heap.size w8).alloc (Nat.le_refl _) (.cells #[.pointer (some ⟨ga, 0, none⟩), .pointer (some ⟨gb, 0, none⟩)] 42)).trans (hb9.out.mono (by simp)))
              have hX9 := Lib.hid (hX8.out.trans (hY9.out.mono hz8))
              clear hb9 HO9 hY8
              have HT10 := Lib.hid (then_two w2 w9 M ga gb ta tb hRa2.out hRb2.out hMw.out hX9.out)
              go_wp2_with fail
              refine HT10.out.mono ?_
              rintro e w10 ⟨g10, rfl, _, hb10⟩
              have hY10 := Lib.hid (hY9.out.trans ((((Below.refl w9.heap.size w9).alloc (Nat.le_refl _) (.cells #[.pointer (some ⟨ga, 0, none⟩), .pointer (some ⟨gb, 0, none⟩)] 42)).trans (hb10.out.mono (by simp))).mono hY9.out.size))
              clear hb10 HT10 hY9 hX9
              go_wp2_with fail
              refine (or_none w10).mono ?_
              rintro e w11 ⟨g11, rfl, _, hb11⟩
              have hY11 := Lib.hid (hY10.out.trans (hb11.out.mono hY10.out.size))
              clear hb11 hY10
              go_wp2_with fail
              refine (then_none w11).mono ?_
              rintro e w12 ⟨g12, rfl, _, hb12⟩
              have hY12 := Lib.hid (hY11.out.trans (hb12.out.mono hY11.out.size))
              have hX12 := Lib.hid (hX8.out.trans (hY12.out.mono hz8))
              clear hb12 hY11
              have HM1 := Lib.hid (match_later hRl.out (Nat.le_refl _) hY12.out hls htz Hbl.out)
              go_upto_region 26 with fail
              cases sg <;> cases one <;>
              (simp only [Bool.false_and, Bool.true_and] at HM1
               simp only [Bool.true_or, Bool.false_or] at Hor
               go_wp2_with fail
               refine HM1.out.mono ?_
               rintro e w13 ⟨rfl, hb13⟩
               have hX13 := Lib.hid (hX12.out.trans (hb13.mono (Nat.le_trans hMw.out hX12.out.size)))
               clear hb13
               have HO14 := Lib.hid (or_two w2 w13 M ga gb ta tb hRa2.out hRb2.out hMw.out hX13.out)
               go_wp2_with fail
               refine HO14.out.mono ?_
               rintro e w14 ⟨g14, rfl, hR14, hb14⟩
               have hX14 := Lib.hid (hX13.out.trans ((((Below.refl w13.heap.size w13).alloc (Nat.le_refl _) (.cells #[.pointer (some ⟨ga, 0, none⟩), .pointer (some ⟨gb, 0, none⟩)] 42)).trans (hb14.out.mono (by simp))).mono (Nat.le_trans hMw.out hX13.out.size)))
               clear hb14 HO14 hX13
               have HM15 := Lib.hid (match_later hR14.out (Nat.le_refl _) (Below.refl _ _) hos htz Hor.out)
               go_wp2_with fail
               refine HM15.out.mono ?_
               rintro e w15 ⟨rfl, hb15⟩
               have hX15 := Lib.hid (hX14.out.trans (hb15.mono (Nat.le_trans hMw.out hX14.out.size)))
               clear hb15 HM15 hX14
               have HT16 := Lib.hid (then_two w2 w15 M ga gb ta tb hRa2.out hRb2.out hMw.out hX15.out)
               go_wp2_with fail
               refine HT16.out.mono ?_
               rintro e w16 ⟨g16, rfl, hR16, hb16⟩
               have hX16 := Lib.hid (hX15.out.trans ((((Below.refl w15.heap.size w15).alloc (Nat.le_refl _) (.cells #[.pointer (some ⟨ga, 0, none⟩), .pointer (some ⟨gb, 0, none⟩)] 42)).trans (hb16.out.mono (by simp))).mono (Nat.le_trans hMw.out hX15.out.size)))
               clear hb16 HT16 hX15
               have HM17 := Lib.hid (match_later hR16.out (Nat.le_refl _) (Below.refl _ _) hrs htz Hth2.out)
               go_wp2_with fail
               refine HM17.out.mono ?_
               rintro e w17 ⟨rfl, hb17⟩
               have hX17 := Lib.hid (hX16.out.trans (hb17.mono (Nat.le_trans hMw.out hX16.out.size)))
               clear hb17 HM17 hX16
               go_wp2_with fail
               refine (or_none w17).mono ?_
               rintro e w18 ⟨g18, rfl, hR18, hb18⟩
               have hX18 := Lib.hid (hX17.out.trans (hb18.out.mono (Nat.le_trans hMw.out hX17.out.size)))
               clear hb18 hX17
               have HM19 := Lib.hid (match_later hR18.out (Nat.le_refl _) (Below.refl _ _) hos0 htz Ho0.out)
               go_wp2_with fail
               refine HM19.out.mono ?_
               rintro e w19 ⟨rfl, hb19⟩
               have hX19 := Lib.hid (hX18.out.trans (hb19.mono (Nat.le_trans hMw.out hX18.out.size)))
               clear hb19 HM19 hX18
               go_wp2_with fail
               refine (then_none w19).mono ?_
               rintro e w20 ⟨g20, rfl, hR20, hb20⟩
               have hX20 := Lib.hid (hX19.out.trans (hb20.out.mono (Nat.le_trans hMw.out hX19.out.size)))
               clear hb20 hX19
               have HM21 := Lib.hid (match_later hR20.out (Nat.le_refl _) (Below.refl _ _) hrs0 htz Ht0.out)
               go_wp2_with fail
               refine HM21.out.mono ?_
               rintro e w21 ⟨rfl, hb21⟩
               have hX21 := Lib.hid (hX20.out.trans (hb21.mono (Nat.le_trans hMw.out hX20.out.size)))
               clear hb21 HM21 hX20
               go_wp2_with fail
               refine (rxLives_any w21).mono ?_
               rintro e w22 ⟨rfl, hb22⟩
               have hX22 := Lib.hid (hX21.out.trans (hb22.mono (Nat.le_trans hMw.out hX21.out.size)))
               clear hb22 hX21
               go_wp2_with fail
               go_ret
               exact ⟨by simp, Hb2.out.trans (hX22.out.mono hwM.out)⟩)
end Go.Proofs.Ytaefhfldgemcnaa
