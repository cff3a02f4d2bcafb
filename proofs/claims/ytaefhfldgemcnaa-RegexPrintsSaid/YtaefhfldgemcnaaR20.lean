/- Walks over expressions, twentieth part: Literal. -/
import Derived.Test.YtaefhfldgemcnaaR19
import Derived.Test.YtaefhfldgemcnaaP6
namespace Go.Proofs.Ytaefhfldgemcnaa
open Go.RowKit

theorem own_below {w w' : World} {base B : Nat} {e : TypeId} {size n : Nat} {v : Value} {xs : List Value} (h : w.ownsRow base e size v n xs) (hb : Below B w w') (hB : w.heap.size ≤ B) : w'.ownsRow base e size v n xs := by
  obtain ⟨h1, h2⟩ := h
  refine ⟨h1, ?_⟩
  rcases h2 with h2 | ⟨g, cap, cur, hv, hg, hh, r⟩
  · exact .inl h2
  · exact .inr ⟨g, cap, cur, hv, hg, blk_below hh hb (Nat.lt_of_lt_of_le (blk_lt hh) hB), r⟩
def litVs (l : List UInt8) : List Value := l.map (fun c => Value.iface 96 (.agg (bcells (singleM c.toNat))))
theorem lit_parts (w : World) (P : Nat → Prop) (l : List UInt8) : PartsAt w P (litVs l) (litTs l) := by
  refine ⟨by simp [litVs, litTs], ?_⟩
  intro i v t h1 h2
  unfold litVs at h1
  unfold litTs at h2
  rw [List.getElem?_map] at h1 h2
  cases hc : l[i]? with
  | none => rw [hc] at h1; cases h1
  | some c =>
    rw [hc] at h1 h2
    simp only [Option.map_some, Option.some.injEq] at h1 h2
    subst h1 h2
    exact .set (singleM_length _)

set_option maxHeartbeats 1600000 in
theorem literal_any (s : ByteArray) (w : World) (hs : s.size ≤ 1000) : Calls Try.prog 35 #[.string s] w (RxPost (litT s.data.toList) w) := by
  obtain ⟨n, hn⟩ : ∃ n, s.size = n := ⟨_, rfl⟩
  have hmk := run_make_room (P := Try.prog) 93 76 .nilIface 16 Try.underlying93 info76 rfl .i64 .i64 n (by omega) (by omega)
  have ho0 := Lib.hid (own_room w w.heap.size n .nilIface 76 (Nat.le_refl _) (by unfold maxLen; omega))
  have hb0 : Hid (Below w.heap.size w (w.alloc (.cells (madeCells #[.nilIface] n) 76))) := (Below.refl _ _).alloc (Nat.le_refl _) _
  have hlen : s.data.toList.length = n := by rw [← hn]; simp
  have Hlen := Lib.hid hlen
  clear hlen
  go_enter Try.func35, Try.ntmps35
  go_wp2_with fail
  clear hmk
  generalize w.alloc _ = W at ho0 hb0 ⊢
  go_loopg [3, 4] n (fun q v iv wr => ∃ (i : Nat), iv = .int .i64 i ∧ q = n - i ∧ i ≤ n ∧ Hid (wr.ownsRow w.heap.size 76 1 v i (litVs (s.data.toList.take i))) ∧ Hid ((s.data.toList.take i).all isS = true) ∧ Hid (Below w.heap.size w wr))
  case atStart => exact ⟨0, rfl, rfl, Nat.zero_le _, ho0, rfl, hb0⟩
  case round =>
    clear ho0 hb0
    obtain ⟨i, rfl, rfl, hi, hown, hall, hb⟩ := hrel
    obtain ⟨Av, cv, rfl, hown'⟩ := own_form hown.out
    have hz := hb.out.size
    by_cases hlt : i < n
    · have hlti : (i : Int) < (n : Int) := by omega
      have hltz : i < s.size := by omega
      obtain ⟨cb, hcb⟩ : ∃ cb : UInt8, s[i] = cb := ⟨_, rfl⟩
      have hg : s.data.toList[i]? = some cb := by rw [← hcb]; exact Lib.data_getElem? s i hltz
      have HS := Lib.hid (fun (wx : World) => isSign_b cb wx)
      have Hg := Lib.hid hg
      clear hg hown
      cases hsb : isS cb with
      | false =>
        have hlit : litT s.data.toList = .set noneM := by
          unfold litT
          rw [if_neg]
          intro h
          have := List.all_eq_true.1 h cb (List.mem_of_getElem? Hg.out)
          rw [hsb] at this
          cases this
        have Hp : Hid (PartAt wr (· < wr.heap.size) (.iface 96 (.agg Try.zeroCells96)) (.set noneM)) := by show PartAt _ _ _ _; rw [zero96]; exact .set noneM_length
        rw [hsb] at HS
        have Hx := Lib.hid (rx_box Hp.out)
        rw [hlit]
        clear hlit
        go_wp2_with fail
        refine (HS.out _).mono ?_
        rintro e w' ⟨rfl, rfl⟩
        go_wp2_with fail
        go_ret
        exact ⟨_, rfl, Hx, hb.out.alloc hz _⟩
      | true =>
        obtain ⟨j, hj, hj95⟩ := isS_form hsb
        have HJ := Lib.hid hj
        have HG := Lib.hid (fun (wx : World) => single_any j wx hj95)
        rw [hsb] at HS
        have hT := Lib.hid (take_snoc Hg.out)
        have Hall2 : Hid ((s.data.toList.take (i + 1)).all isS = true) := by
          show _ = _
          rw [hT.out, List.all_append, hall.out]
          simp [hsb]
        have Hown := Lib.hid hown'
        clear hj hown'
        go_wp2_with fail
        refine (HS.out _).mono ?_
        rintro e w' ⟨rfl, rfl⟩
        go_wp2_with fail
        rw [HJ.out]
        have HG' : Calls Try.prog 59 #[.int .u8 ((32 + j : Nat) : Int)] wr (SetPost (singleM (32 + j)) wr) := by
          have := HG.out wr
          simpa using this
        refine HG'.mono ?_
        rintro e w2 ⟨rfl, hb2⟩
        have hz2 := hb2.size
        have hown2 := own_below Hown.out hb2 (Nat.le_refl _)
        have Hb2 := Lib.hid (hb.out.trans (hb2.mono hz))
        clear hb2 HG'
        go_wp2_with (at_builtin; refine wpList_append_new_at info76 Try.underlying93 rfl (by decide) (by decide) w.heap.size hown2 1 rfl _ _ rfl rfl rfl (by simp) rfl rfl (by omega) (by omega) ?_; intro v' w' hown3 hbel hgt hgrow hnew)
        have Hown3 : Hid (w'.ownsRow w.heap.size 76 1 v' (i + 1) (litVs (s.data.toList.take (i + 1)))) := by
          show World.ownsRow _ _ _ _ _ _ _
          rw [hT.out, litVs, List.map_append]
          have := hown3
          simpa [litVs, HJ.out] using this
        have Hb3 := Lib.hid (Hb2.out.trans hbel)
        clear hown3 hbel hgrow hnew hown2
        go_roundg (n - (i + 1))
        case rel => exact ⟨i + 1, by go_num, rfl, by omega, Hown3, Hall2, Hb3⟩
        case measure => omega
    · have hlti : ¬ (i : Int) < (n : Int) := by omega
      obtain rfl : i = n := by omega
      have htk : s.data.toList.take i = s.data.toList := List.take_of_length_le (by rw [Hlen.out]; exact Nat.le_refl _)
      rw [htk] at hown' hall
      have hlit : litT s.data.toList = rowT (litTs s.data.toList) := by unfold litT; rw [if_pos hall.out]
      have HLit := Lib.hid hlit
      have HE := Lib.hid (row_any (· < wr.heap.size) _ (litTs s.data.toList) Av i cv wr (own_len hown') (own_cap hown') (cells_own' hown') (lit_parts _ _ _))
      clear hlit htk hown' hown hall
      go_wp2_with fail
      refine HE.out.mono ?_
      rintro e w2 ⟨⟨v, rfl, hv⟩, rfl⟩
      obtain ⟨ty, u, rfl⟩ := hv.form
      have Hx := Lib.hid (rx_box hv)
      clear hv
      go_wp2_with fail
      go_ret
      rw [HLit.out]
      exact ⟨_, rfl, Hx, hb.out.alloc hz _⟩
end Go.Proofs.Ytaefhfldgemcnaa
