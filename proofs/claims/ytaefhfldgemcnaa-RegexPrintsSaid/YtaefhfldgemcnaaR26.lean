/- Walks over expressions: printing a choice. -/
import Derived.Test.YtaefhfldgemcnaaR25
namespace Go.Proofs.Ytaefhfldgemcnaa
open Go.RowKit

set_option maxRecDepth 8192 in
set_option maxHeartbeats 3200000 in
theorem write_alt_low (B : Nat) (l : List T) (place : Nat) (hpl : place = 0) (ih : ∀ t ∈ l, WriteOk B t) : WriteAt 800001 B (.alt l) place := by
  intro pv v L w hp ho hB hlen
  rw [wr, if_pos hpl]
  have hd : ((place : Int) == 0) = true := by rw [hpl]; rfl
  have hd2 : ((place : Int) != 0) = false := by rw [bne, hd]; rfl
  clear hpl
  cases hp with
  | @alt A n c vs _ hc hn hcap hl hps =>
  have Hc := Lib.hid hc
  have Hp : Hid (PartsAt w (· < B) vs l) := ⟨hl, hps⟩
  have Hn := Lib.hid hn
  have Ho := Lib.hid ho
  have Ih := Lib.hid ih
  rw [T.size] at hlen
  have a1 := as_yes119
  have a2 := as_no96_119
  have a3 := as_no92_119
  have a4 := as_no118_119
  have hls := length_sizes l
  rw [← hl, hn] at hls
  clear hc hn hl hps ho ih
  go_enter Try.func63, Try.ntmps63
  go_upto_region 21 with fail
  have hS : Hid (St B v w v (w.alloc (.cells #[.slice A n c] 119)) L) := (St.refl Ho.out hB).alloc _
  have hG : (w.alloc (.cells #[.slice A n c] 119)).cell? ⟨w.heap.size, 0, none⟩ = some (.slice A n c) := blk_cell (blk_new _ _) 0
  generalize w.alloc _ = W at hS hG ⊢
  clear a1 a2 a3 a4
  go_wp2_with fail
  go_loopw [0, 73] (fun u x wr => ∃ i : Nat, x = .int .i64 i ∧ i ≤ n ∧ Hid (St B v w u wr (L ++ wrAlt (l.take i)))) (fun _ x _ => n - (intOf x).toNat)
  case atStart => exact ⟨0, rfl, Nat.zero_le _, by rw [List.take_zero, wrAlt, List.append_nil]; exact hS⟩
  case round =>
    clear hS hG
    obtain ⟨i, rfl, hi, hs⟩ := hrel
    by_cases hlt : i < n
    · have hlti : (i : Int) < (n : Int) := by omega
      obtain ⟨ty, u, t, hv, ht, hpt⟩ := Hp.out.get (i := i) (by rw [Hn.out]; exact hlt)
      obtain ⟨g, o, rfl, hg, hcell⟩ := (Hc.out.move (below_moves hs.out.below (Nat.le_refl _))).at_ hv.out
      have hlw := wrAlt_len (l.take i)
      have hst := sizes_take ht.out
      have HM := Lib.hid (fun (uv : Value) (wx : World) (X : List UInt8) (hx : St B v w uv wx X) (hX : X.length + 500 * t.size ≤ 800000) => Ih.out t (List.mem_of_getElem? ht.out) 1 (.iface ty u) uv X wx (by omega) (hpt.out.move (below_moves hx.below (Nat.le_refl _))) hx.own hx.le hX)
      have hli : (l.take i).length = i := by rw [List.length_take, ← Hp.out.1, Hn.out]; omega
      have Hts : Hid (wrAlt (l.take (i + 1)) = wrAlt (l.take i) ++ (if i = 0 then [] else [124]) ++ Ytaefhfldgemcnaa.wr t 1) := by show _ = _; rw [take_snoc ht.out, wrAlt_snoc, hli]
      rcases Nat.eq_zero_or_pos i with h0 | h0
      · have hi0 : ¬ (0 : Int) < (i : Int) := by omega
        have H0 := Lib.hid h0
        clear h0
        have HM2 := Lib.hid (HM.out _ _ _ hs.out (by rw [List.length_append]; omega))
        clear hv ht hpt hlw hst HM hli
        go_wp2_with fail
        refine HM2.out.mono ?_
        rintro e w2 ⟨v2, rfl, ho2, hb2, hk2⟩
        have HS2 : Hid (St B v w v2 w2 (L ++ wrAlt (l.take (i + 1)))) := by
          show St _ _ _ _ _ _
          rw [Hts.out, if_pos H0.out, List.append_nil, ← List.append_assoc]
          exact hs.out.step ho2 hb2 hk2
        clear ho2 hb2 hk2 HM2 hs
        go_wp2_with fail
        go_roundw
        case rel => exact ⟨i + 1, by go_num, by omega, HS2⟩
        case measure => simp [intOf]; omega
      · have hi0 : (0 : Int) < (i : Int) := by omega
        have hl2 : (L ++ wrAlt (l.take i)).length + 500 * t.size ≤ 799999 := by rw [List.length_append]; omega
        clear hv ht hpt hlw hst hli
        go_wp2_with (at_builtin; refine appendByte_any hs.out.own hs.out.le (by omega) 124 rfl _ _ rfl rfl rfl rfl rfl ?_; intro v5 w5 ho5 hb5 hk5)
        have hs5 := Lib.hid (hs.out.step ho5 hb5 hk5)
        have HM2 := Lib.hid (HM.out _ _ _ hs5.out (by rw [List.length_append, List.length_singleton]; omega))
        clear ho5 hb5 hk5 hs HM
        refine HM2.out.mono ?_
        rintro e w2 ⟨v2, rfl, ho2, hb2, hk2⟩
        have HS2 : Hid (St B v w v2 w2 (L ++ wrAlt (l.take (i + 1)))) := by
          show St _ _ _ _ _ _
          rw [Hts.out, if_neg (by omega)]
          have := hs5.out.step ho2 hb2 hk2
          simpa [List.append_assoc] using this
        clear ho2 hb2 hk2 HM2 hs5
        go_wp2_with fail
        go_roundw
        case rel => exact ⟨i + 1, by go_num, by omega, HS2⟩
        case measure => simp [intOf]; omega
    · have hlti : ¬ (i : Int) < (n : Int) := by omega
      go_wp2_with fail
      go_ret
      have h2 := hs.out
      rw [List.take_of_length_le (by rw [← Hp.out.1, Hn.out]; omega)] at h2
      exact h2.post

set_option maxRecDepth 8192 in
set_option maxHeartbeats 3200000 in
theorem write_alt_high (B : Nat) (l : List T) (place : Nat) (hp0 : 0 < place) (ih : WriteAt 800001 B (.alt l) 0) : WriteAt 800000 B (.alt l) place := by
  intro pv v L w hp ho hB hlen
  have h0 : wr (.alt l) 0 = wrAlt l := by rw [wr, if_pos rfl]
  have h2 : wr (.alt l) place = 40 :: (wrAlt l ++ [41]) := by rw [wr, if_neg (by omega)]; rfl
  have hd : ((place : Int) == 0) = false := beq_eq_false_iff_ne.2 (by omega)
  have hd2 : ((place : Int) != 0) = true := by rw [bne, hd]; rfl
  have hlw := wr_len (.alt l) 0
  have Hp := Lib.hid hp
  cases hp with
  | @alt A n c vs _ hc hn hcap hl hps =>
  have HI : Hid (∀ u wx, St B v w u wx (L ++ [40]) → Calls Try.prog 63 #[u, .iface 119 (.agg #[.slice A n c]), .int .i64 0] wx (WrPost B u (L ++ [40] ++ wr (.alt l) 0) wx)) :=
    fun u wx hs => ih _ u _ wx (Hp.out.move (below_moves hs.below (Nat.le_refl _))) hs.own hs.le (by rw [List.length_append, List.length_singleton]; omega)
  rw [h2]
  rw [h0] at HI hlw
  have Ho := Lib.hid ho
  have a1 := as_yes119
  have a2 := as_no96_119
  have a3 := as_no92_119
  have a4 := as_no118_119
  clear hc hn hl hps ho ih Hp h0 h2
  go_enter Try.func63, Try.ntmps63
  go_upto_region 20 with fail
  have hG : Hid ((w.alloc (.cells #[.slice A n c] 119)).heap[w.heap.size]? = some (.cells #[.slice A n c] 119 (0, 0))) := blk_new _ _
  have hS : Hid (St B v w v (w.alloc (.cells #[.slice A n c] 119)) L) := (St.refl Ho.out hB).alloc _
  generalize w.alloc _ = W at hG hS ⊢
  have hG := Lib.hid (blk_below hG.out ((Below.refl W.heap.size W).drew) (blk_lt hG.out))
  have hS := Lib.hid hS.out.drew
  clear a1 a2 a3 a4
  go_region_held3 (fun w' => w'.cell? ⟨w.heap.size, 0, none⟩ = some (.slice A n c)) (first | exact blk_cell hG.out 0 | exact blk_cell (blk_alloc hG.out _) 0 | exact blk_cell (blk_alloc (blk_alloc hG.out _) _) 0)
    (first
      | (go_at_call 63; refine (HI.out _ _ (by exact hS.out)).mono ?_; rintro e w' ⟨v1, rfl, ho1, hb1, hk1⟩; have hG := Lib.hid (hk1.blk hS.out.own hG.out (by decide)); (try have hT := Lib.hid (hT.out.step hk1)); have hS := Lib.hid (hS.out.step ho1 hb1 hk1); clear ho1 hb1 hk1)
      | (go_at_call 63; refine (HI.out _ _ (by exact hS.out.alloc _)).mono ?_; rintro e w' ⟨v1, rfl, ho1, hb1, hk1⟩; have hG := Lib.hid (hk1.blk (hS.out.alloc _).own (blk_alloc hG.out _) (by decide)); have hT := Lib.hid ((Blt.new hS.out.own 41).step hk1); have hS := Lib.hid ((hS.out.alloc _).step ho1 hb1 hk1); clear ho1 hb1 hk1)
      | (refine step_appendY (c := 40) (by rfl) _ _ (by rfl) (by rfl) (hS.out.alloc _).own (by rfl) (blk_new _ _) (hS.out.alloc _).le (by omega) ?_; intro v5 w5 ho5 hb5 hk5; have hG := Lib.hid (hk5.blk (hS.out.alloc _).own (blk_alloc hG.out _) (by decide)); have hS := Lib.hid ((hS.out.alloc _).step ho5 hb5 hk5); clear ho5 hb5 hk5)
      | (refine step_appendY (c := 40) (by rfl) _ _ (by rfl) (by rfl) ((hS.out.alloc _).alloc _).own (by rfl) (blk_alloc (blk_new _ _) _) ((hS.out.alloc _).alloc _).le (by omega) ?_; intro v5 w5 ho5 hb5 hk5; have hG := Lib.hid (hk5.blk ((hS.out.alloc _).alloc _).own (blk_alloc (blk_alloc hG.out _) _) (by decide)); have hT := Lib.hid ((Blt.new2 hS.out.own 41).step hk5); have hS := Lib.hid (((hS.out.alloc _).alloc _).step ho5 hb5 hk5); clear ho5 hb5 hk5)
      | (refine step_appendY (c := 40) (by rfl) _ _ (by rfl) (by rfl) ((hS.out.alloc _).alloc _).own (by rfl) (blk_new' (by simp)) ((hS.out.alloc _).alloc _).le (by omega) ?_; intro v5 w5 ho5 hb5 hk5; have hG := Lib.hid (hk5.blk ((hS.out.alloc _).alloc _).own (blk_alloc (blk_alloc hG.out _) _) (by decide)); have hT := Lib.hid (((Blt.new hS.out.own 41).alloc _).step hk5); have hS := Lib.hid (((hS.out.alloc _).alloc _).step ho5 hb5 hk5); clear ho5 hb5 hk5)
      | (refine step_appendY (c := 41) (by rfl) _ _ (by rfl) (by rfl) hS.out.own (by rfl) hT.out.1 hS.out.le (by rw [List.length_append, List.length_append, List.length_singleton]; omega) ?_; intro v6 w6 ho6 hb6 hk6; have hG := Lib.hid (hk6.blk hS.out.own hG.out (by decide)); have hS := Lib.hid (hS.out.step ho6 hb6 hk6); clear ho6 hb6 hk6)
      | (refine step_appendY (c := 41) (by rfl) _ _ (by rfl) (by rfl) (hS.out.alloc _).own (by rfl) (blk_new _ _) (hS.out.alloc _).le (by rw [List.length_append, List.length_append, List.length_singleton]; omega) ?_; intro v6 w6 ho6 hb6 hk6; have hG := Lib.hid (hk6.blk (hS.out.alloc _).own (blk_alloc hG.out _) (by decide)); have hS := Lib.hid ((hS.out.alloc _).step ho6 hb6 hk6); clear ho6 hb6 hk6))
  all_goals
    go_wp2_with fail
    go_ret
    have := hS.out.post
    simpa [List.append_assoc] using this
end Go.Proofs.Ytaefhfldgemcnaa
