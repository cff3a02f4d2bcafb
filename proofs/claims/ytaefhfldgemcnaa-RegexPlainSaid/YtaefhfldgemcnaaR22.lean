/- The law RegexPlain, walked. -/
import Derived.Test.YtaefhfldgemcnaaR21
import Derived.Test.YtaefhfldgemcnaaP7
import Derived.Test.YtaefhfldgemcnaaW23
namespace Go.Proofs.Ytaefhfldgemcnaa
open Go.RowKit

theorem byteAt_list {v : ByteArray} {i : Nat} (h : i < v.data.toList.length) : byteAt v i = v.data.toList[i] := by
  have hs : i < v.size := by simpa using h
  unfold byteAt
  rw [dif_pos hs]
  have h1 := Lib.data_getElem? v i hs
  rw [List.getElem?_eq_getElem h] at h1
  exact (Option.some.inj h1).symm
theorem lets_of {v : ByteArray} (h : ∀ c ∈ v.data.toList, isLet c = true) : Lets v v.size :=
  ⟨Nat.le_refl _, fun i hi => by
    have hl : i < v.data.toList.length := by simpa using hi
    rw [byteAt_list hl]
    exact h _ (List.getElem_mem hl)⟩
theorem num_let {x : Int} (h1 : 97 ≤ x) (h2 : x ≤ 101) : isLet (UInt8.ofNat x.toNat) = true := by
  obtain ⟨k, hk⟩ : ∃ k, x.toNat = k := ⟨_, rfl⟩
  have : k = 97 ∨ k = 98 ∨ k = 99 ∨ k = 100 ∨ k = 101 := by omega
  rw [hk]
  rcases this with rfl | rfl | rfl | rfl | rfl <;> decide

/-- What a text of letters' expression, and the one with a star behind it, give. -/
theorem plain_facts {v : ByteArray} (h : ∀ c ∈ v.data.toList, isLet c = true) (hs : v.size ≤ 12) : parseR v = some (rowT (litTs v.data.toList)) := by
  unfold parseR
  rw [if_neg (by omega)]
  exact parse_let (lets_of h) (by omega)
theorem plain_match {l : List UInt8} (h : ∀ c ∈ l, isLet c = true) (s : List UInt8) : accB (netN (rowT (litTs l))) s = true ↔ s = l := by
  rw [acc_true, lang_rowT, lit_seq (fun c hc => (let_facts c (h c hc)).1)]
theorem byteAt_getD (v : ByteArray) (i : Nat) : byteAt v i = v.data.toList.getD i 0 := by
  by_cases h : i < v.data.toList.length
  · rw [byteAt_list h, List.getD_eq_getElem?_getD, List.getElem?_eq_getElem h]
    rfl
  · rw [List.getD_eq_getElem?_getD, List.getElem?_eq_none (by omega)]
    unfold byteAt
    rw [dif_neg (by simpa using h)]
    rfl
theorem star_facts {v : ByteArray} {m : Nat} (h : ∀ c ∈ v.data.toList, isLet c = true) (hv : v.size = m + 1) (hs : v.size ≤ 12) :
    parseR (v ++ ByteArray.mk #[42]) = some (rowT (litTs (v.data.toList.take m) ++ [.rep (.set (singleM (byteAt v m).toNat)) 42])) := by
  have hl : (v ++ ByteArray.mk #[42]).data.toList = v.data.toList ++ [42] := by simp
  have hvl : v.data.toList.length = m + 1 := by rw [← hv]; simp
  have hsz : (v ++ ByteArray.mk #[42]).size = m + 2 := by
    have hz : (v ++ ByteArray.mk #[42]).size = (v ++ ByteArray.mk #[42]).data.toList.length := by rw [Array.length_toList]; rfl
    rw [hz, hl, List.length_append, hvl]
    rfl
  generalize v ++ ByteArray.mk #[42] = x at hl hsz ⊢
  have hb : ∀ i, i < m + 1 → byteAt x i = byteAt v i := fun i hi => by
    rw [byteAt_getD, byteAt_getD, hl, List.getD_eq_getElem?_getD, List.getElem?_append_left (by omega), ← List.getD_eq_getElem?_getD]
  have hlet : Lets x (m + 1) := ⟨by omega, fun i hi => by
    rw [hb i hi]
    exact (lets_of h).2 i (by omega)⟩
  have hst : byteAt x (m + 1) = 42 := by
    rw [byteAt_getD, hl, List.getD_eq_getElem?_getD, List.getElem?_append_right (by omega), hvl]
    simp
  unfold parseR
  rw [if_neg (by omega), parse_star hlet hsz hst (by omega), hb m (by omega), hl, List.take_append_of_le_length (by omega)]
theorem star_match {l : List UInt8} {m : Nat} {c : UInt8} (h : ∀ d ∈ l, isLet d = true) (hc : isLet c = true) (j : Nat) :
    accB (netN (rowT (litTs (l.take m) ++ [.rep (.set (singleM c.toNat)) 42]))) (l.take m ++ List.replicate j c) = true := by
  rw [acc_true, lang_rowT]
  exact lit_star (star_rep (let_facts c hc).1 j) _ (fun d hd => (let_facts d (h d (List.mem_of_mem_take hd))).1)

set_option maxRecDepth 8192 in
set_option maxHeartbeats 6400000 in
theorem regexPlain_any (s t : ByteArray) (w : World) (_hs : s.size ≤ 9223372036854775807) (_ht : t.size ≤ 9223372036854775807) :
    Calls Try.prog 9 #[.string s, .string t] w (BoolPost true w) := by
  have HF1 := Lib.hid (fun (wx : World) => few2_is s 12 wx (by omega))
  have HF2 := Lib.hid (fun (wx : World) => few2_is t 14 wx (by omega))
  have hs1 := few2B_size s 12
  have ht1 := few2B_size t 14
  generalize few2B s 12 = s' at HF1 hs1
  generalize few2B t 14 = t' at HF2 ht1
  go_enter Try.func9, Try.ntmps9
  go_wp2_with fail
  refine (HF1.out _).mono ?_
  rintro e w0 ⟨rfl, rfl⟩
  go_wp2_with fail
  refine (HF2.out _).mono ?_
  rintro e w0 ⟨rfl, rfl⟩
  obtain ⟨n, hn⟩ : ∃ n, s'.size = n := ⟨_, rfl⟩
  go_wp2_with fail
  go_loopg [5, 6] n (fun q v iv wr => ∃ (i : Nat) (xs : List Int), iv = .int .i64 i ∧ q = n - i ∧ i ≤ n ∧ xs.length = i ∧ Hid (wr.ownsRow w.heap.size 5 1 v i (xs.map (Value.int .u8))) ∧ Hid (∀ x ∈ xs, 97 ≤ x ∧ x ≤ 101) ∧ Hid (Below w.heap.size w wr))
  case atStart => exact ⟨0, [], rfl, rfl, Nat.zero_le _, rfl, World.ownsRow_nil _ _ _ _, by intro x hx; simp at hx, Below.refl _ _⟩
  case round =>
    obtain ⟨i, xs, rfl, rfl, hi, hxl, hown, hrg, hb⟩ := hrel
    obtain ⟨A, c, rfl, hown'⟩ := own_form hown.out
    have hz := hb.out.size
    by_cases hlt : i < n
    · have hlti : (i : Int) < (n : Int) := by omega
      obtain ⟨cb, hcb⟩ : ∃ cb : UInt8, s'[i] = cb := ⟨_, rfl⟩
      have hcr : (0 : Int) ≤ (cb.toNat : Int) % 5 ∧ (cb.toNat : Int) % 5 < 5 := ⟨Int.emod_nonneg _ (by decide), Int.emod_lt_of_pos _ (by decide)⟩
      have htm : ((cb.toNat : Int)).tmod 5 = (cb.toNat : Int) % 5 := Int.tmod_eq_emod_of_nonneg (by omega)
      have HRG : Hid (∀ x ∈ xs ++ [97 + (cb.toNat : Int) % 5], 97 ≤ x ∧ x ≤ 101) := by
        intro x hx
        rcases List.mem_append.1 hx with hx | hx
        · exact hrg.out x hx
        · simp only [List.mem_singleton] at hx; omega
      go_wp2_with (at_builtin; refine wpList_append_new_at info5 Try.underlying32 rfl (by decide) (by decide) w.heap.size hown' 1 rfl _ _ rfl rfl rfl (by simp) rfl rfl (by omega) hz ?_; intro v' w' hown2 hbel hgt hgrow hnew)
      have Hown2 : Hid (w'.ownsRow w.heap.size 5 1 v' (i + 1) ((xs ++ [97 + (cb.toNat : Int) % 5]).map (Value.int .u8))) := by
        show World.ownsRow _ _ _ _ _ _ _
        rw [List.map_append]
        exact hown2
      have Hb2 := Lib.hid (hb.out.trans hbel)
      clear hown2 hbel hgrow hnew
      go_roundg (n - (i + 1))
      case rel => exact ⟨i + 1, xs ++ [97 + (cb.toNat : Int) % 5], by go_num, rfl, by omega, by simp; omega, Hown2, HRG, Hb2⟩
      case measure => omega
    · have hlti : ¬ (i : Int) < (n : Int) := by omega
      subst hxl
      have hcv := conv_bytes hown' wr (Below.refl _ _)
      have hvl : (strOfNums xs).data.toList = xs.map fun n => UInt8.ofNat n.toNat := strOfNums_data xs
      have hvs := strOfNums_size xs
      have hlet : ∀ c ∈ (strOfNums xs).data.toList, isLet c = true := by
        intro c hc
        rw [hvl, List.mem_map] at hc
        obtain ⟨x, hx, rfl⟩ := hc
        have := hrg.out x hx
        exact num_let this.1 this.2
      have Hlet := Lib.hid hlet
      clear hvl hlet hown hown'
      generalize strOfNums xs = V at hcv hvs Hlet
      have hV12 : V.size ≤ 12 := by omega
      have hp := plain_facts Hlet.out hV12
      obtain ⟨qb, hqb⟩ : ∃ qb, (t'.toList == V.toList) = qb := ⟨_, rfl⟩
      have hqb2 : accB (netN (rowT (litTs V.data.toList))) t'.data.toList = qb := by
        rw [Bool.eq_iff_iff, plain_match Hlet.out, ← hqb, ByteArray.toList_eq, ByteArray.toList_eq, beq_iff_eq]
      have hself : accB (netN (rowT (litTs V.data.toList))) V.data.toList = true := (plain_match Hlet.out _).2 rfl
      have Hqb2 := Lib.hid hqb2
      have Hself := Lib.hid hself
      have hsz := parseR_size hp
      have HP := Lib.hid (fun (wx : World) => parse_some hp wx (by omega))
      clear hqb2 hself hp
      go_wp2_with fail
      refine (HP.out _).mono ?_
      rintro e w1 ⟨g, rfl, hR, hB1⟩
      have hX1 := Lib.hid (hb.out.trans (hB1.out.mono hz))
      clear hcv
      go_wp2_with fail
      refine (match_later hR.out (Nat.le_refl _) (Below.refl _ _) (by omega) (by omega) Hself.out).mono ?_
      rintro e w2 ⟨rfl, hb2⟩
      have hX2 := Lib.hid (hX1.out.trans (hb2.mono hX1.out.size))
      have HM := Lib.hid (match_later hR.out (Nat.le_refl _) hb2 (by omega) (by omega) Hqb2.out)
      clear hb2
      go_wp2_with fail
      refine HM.out.mono ?_
      rintro e w3 ⟨rfl, hb3⟩
      have hX3 := Lib.hid (hX2.out.trans (hb3.mono hX2.out.size))
      clear hb3 HM
      go_upto_region 12 with fail
      rcases Nat.eq_zero_or_pos V.size with h0 | h0
      · have hem : V.toList.isEmpty = true := by
          rw [ByteArray.toList_eq, List.isEmpty_iff]
          exact List.eq_nil_of_length_eq_zero (by rw [Array.length_toList]; exact h0)
        go_wp2_with fail
        refine (rxLives_any w3).mono ?_
        rintro e w4 ⟨rfl, hb4⟩
        have hX4 := Lib.hid (hX3.out.trans (hb4.mono hX3.out.size))
        clear hb4
        go_wp2_with fail
        go_ret
        exact ⟨rfl, hX4.out⟩
      · obtain ⟨m, hm⟩ : ∃ m, V.size = m + 1 := ⟨V.size - 1, by omega⟩
        have hlen : V.data.toList.length = m + 1 := by rw [Array.length_toList]; exact hm
        have hem : V.toList.isEmpty = false := by
          rw [ByteArray.toList_eq]
          cases hV : V.data.toList with
          | nil => rw [hV] at hlen; simp at hlen
          | cons a l => rfl
        have hp2 := star_facts Hlet.out hm hV12
        obtain ⟨cc, hcc⟩ : ∃ cc, byteAt V m = cc := ⟨_, rfl⟩
        have hbc : V.data.toList[m]'(by omega) = cc := by rw [← hcc, byteAt_list (by omega)]
        have hlc : isLet cc = true := by rw [← hbc]; exact Hlet.out _ (List.getElem_mem _)
        have hdrop : V.data.toList.drop m = [cc] := by
          rw [List.drop_eq_getElem_cons (by omega), hbc, List.drop_of_length_le (by omega)]
        have hdec : V.data.toList = V.data.toList.take m ++ [cc] := by
          rw [← hdrop, List.take_append_drop]
        rw [hcc] at hp2
        have hsz2 := parseR_size hp2
        have hvz : (V ++ ByteArray.mk #[42]).size ≤ 1000 := by rw [ByteArray.size_append]; show V.size + 1 ≤ 1000; omega
        have HP2 := Lib.hid (fun (wx : World) => parse_some hp2 wx hvz)
        have Hdrop := Lib.hid hdrop
        have Hdec := Lib.hid hdec
        have hmt : Hid (∀ (w4 : World) (g2 : Nat), RxAt w4 g2 w4.heap.size (rowT (litTs (V.data.toList.take m) ++ [.rep (.set (singleM cc.toNat)) 42])) → ∀ (wx : World) (x : ByteArray), Below w4.heap.size w4 wx → (∃ j, x.data.toList = V.data.toList.take m ++ List.replicate j cc) → x.size ≤ 1000 →
            Calls Try.prog 32 #[.pointer (some ⟨g2, 0, none⟩), .string x] wx (BoolPost true wx)) := fun w4 g2 hr wx x hb ⟨j, hj⟩ hxs => by
          refine match_later hr (Nat.le_refl _) hb (by omega) hxs ?_
          rw [hj]
          exact star_match Hlet.out hlc j
        have hex : (V.extract m (m + 1)).data.toList = [cc] := by simp [Hdrop.out]
        have hcat : (V ++ V.extract m (m + 1) ++ V.extract m (m + 1)).data.toList = V.data.toList.take m ++ List.replicate 3 cc := by
          rw [ByteArray.data_append, ByteArray.data_append, Array.toList_append, Array.toList_append, hex]
          have h3 : V.data.toList ++ [cc] ++ [cc] = V.data.toList.take m ++ List.replicate 3 cc := by
            conv => lhs; rw [Hdec.out]
            simp [List.replicate]
          exact h3
        have hxm : xs.length = m + 1 := by omega
        have hxm1 : xs.length - 1 = m := by omega
        have Hcat := Lib.hid hcat
        have Hxm := Lib.hid hxm
        have Hxm1 := Lib.hid hxm1
        clear hp2 hdrop hdec hbc hlc hcc hlen hex hcat hxm hxm1
        go_wp2_with fail
        refine (HP2.out _).mono ?_
        rintro e w4 ⟨g2, rfl, hR4, hB4⟩
        have hX4 := Lib.hid (hX3.out.trans (hB4.out.mono hX3.out.size))
        have hmt4 := Lib.hid (hmt.out w4 g2 hR4.out)
        have hY4 : Hid (Below w4.heap.size w4 w4) := Below.refl _ _
        clear hmt hB4 HP2
        go_wp2_with fail
        refine (hmt4.out _ _ hY4.out ⟨1, Hdec.out⟩ (by omega)).mono ?_
        rintro e w5 ⟨rfl, hb5⟩
        have hY5 := Lib.hid hb5
        clear hb5 hY4
        go_wp2_with fail
        refine (hmt4.out _ _ hY5.out ⟨0, by rw [Hxm1.out]; simp⟩ (by simp; omega)).mono ?_
        rintro e w6 ⟨rfl, hb6⟩
        have hY6 := Lib.hid (hY5.out.trans (hb6.mono hY5.out.size))
        clear hb6 hY5
        go_wp2_with fail
        refine (hmt4.out _ _ hY6.out ⟨3, by rw [Hxm1.out, Hxm.out]; exact Hcat.out⟩ (by rw [Hxm1.out, Hxm.out, ByteArray.size_append, ByteArray.size_append, ByteArray.size_extract]; omega)).mono ?_
        rintro e w7 ⟨rfl, hb7⟩
        have hY7 := Lib.hid (hY6.out.trans (hb7.mono hY6.out.size))
        clear hb7 hY6
        go_wp2_with fail
        refine (rxLives_any w7).mono ?_
        rintro e w8 ⟨rfl, hb8⟩
        have hX8 := Lib.hid (hX4.out.trans ((hY7.out.trans (hb8.mono hY7.out.size)).mono hX4.out.size))
        clear hb8
        go_wp2_with fail
        go_ret
        exact ⟨rfl, hX8.out⟩
end Go.Proofs.Ytaefhfldgemcnaa
