/- Walks over expressions, nineteenth part: Or, Then, Literal. -/
import Derived.Test.YtaefhfldgemcnaaR17
namespace Go.Proofs.Ytaefhfldgemcnaa
open Go.RowKit

theorem run_make_room {P : Program} (t e : TypeId) (z : Value) (bytes : Nat) (ht : P.underlying t = some (.slice e)) (hinfo : (P.info? e).map (fun i => (i.zero, i.size, i.bytes)) = some (some z, 1, bytes)) (hz1 : z.cells = #[z])
    (kl kc : IntKind) (n : Nat) (hbytes : bytes * n ≤ 281474976710656) (h63 : n ≤ 9223372036854775807) (w : World) :
    (Instr.makeSlice t (.int kl 0) (.int kc (n : Int))).run P w = .ok (.slice (some ⟨w.heap.size, 0, none⟩) 0 n) (w.alloc (.cells (madeCells #[z] n) e)) := by
  obtain ⟨i, hi, hzz⟩ := Option.map_eq_some_iff.1 hinfo
  simp only [Prod.mk.injEq] at hzz
  obtain ⟨hz, hs, hb⟩ := hzz
  have hb' : (i.bytes : Int) * (n : Int) ≤ 281474976710656 := by
    have h : ((i.bytes * n : Nat) : Int) ≤ 281474976710656 := by rw [hb]; omega
    rwa [Int.natCast_mul] at h
  have hr := run_make (P := P) w t e i z ht hi hz kl kc 0 n (by omega) (by omega) hb' (by omega)
  simp only [Int.toNat_natCast, hs, Nat.mul_one, hz1, Int.toNat_zero] at hr
  exact hr
theorem made_size (z : Value) (n : Nat) : (madeCells #[z] n).size = n := by
  obtain ⟨c, hc, hn, _⟩ := World.rowIs_made (default : World) z n 0
  have h := (blk_new (default : World) (.cells (madeCells #[z] n) 0)).symm.trans hc
  simp only [Option.some.injEq, Obj.cells.injEq, and_true] at h
  rw [h]
  exact hn
theorem own_room (w : World) (base n : Nat) (z : Value) (e : TypeId) (hb : base ≤ w.heap.size) (hn : n ≤ maxLen) : (w.alloc (.cells (madeCells #[z] n) e)).ownsRow base e 1 (.slice (some ⟨w.heap.size, 0, none⟩) 0 n) 0 [] :=
  ⟨rfl, .inr ⟨w.heap.size, n, _, rfl, hb, blk_new _ _, Nat.zero_le _, hn, by rw [made_size, Nat.mul_one], by simp⟩⟩

def rxPtr (p : Nat × T) : Value := .pointer (some ⟨p.1, 0, none⟩)
def PartsPost (gs : List (Nat × T)) (n : Nat) (w : World) (e : Ending) (w' : World) : Prop :=
  (∃ A c vs, e = .returned (.slice A n c) ∧ Hid (w'.ownsRow w.heap.size 76 1 (.slice A n c) n vs) ∧ Hid (PartsAt w (· < w.heap.size) vs (gs.map (·.2)))) ∧ Hid (Below w.heap.size w w')
set_option maxHeartbeats 1600000 in
theorem parts_any (gs : List (Nat × T)) (A : Option Addr) (n c : Nat) (w : World) (hn : gs.length = n) (hn2 : n ≤ 1000) (hc : CellsAt w w.heap.size A (gs.map rxPtr)) (hg : ∀ p ∈ gs, RxAt w p.1 w.heap.size p.2) :
    Calls Try.prog 62 #[.slice A n c] w (PartsPost gs n w) := by
  have hmk := run_make_room (P := Try.prog) 93 76 .nilIface 16 Try.underlying93 info76 rfl .i64 .i64 n (by omega) (by omega)
  have Hc := Lib.hid hc
  have Hg := Lib.hid hg
  have Hn := Lib.hid hn
  have ho0 := Lib.hid (own_room w w.heap.size n .nilIface 76 (Nat.le_refl _) (by unfold maxLen; omega))
  have hb0 : Hid (Below w.heap.size w (w.alloc (.cells (madeCells #[.nilIface] n) 76))) := (Below.refl _ _).alloc (Nat.le_refl _) _
  clear hc hg hn
  go_enter Try.func62, Try.ntmps62
  go_wp2_with fail
  clear hmk
  generalize w.alloc _ = W at ho0 hb0 ⊢
  go_loopg [3, 11] n (fun q v jv wr => ∃ (j : Nat) (vs : List Value), jv = .int .i64 j ∧ q = n - j ∧ j ≤ n ∧ vs.length = j ∧ Hid (wr.ownsRow w.heap.size 76 1 v j vs) ∧ Hid (PartsAt w (· < w.heap.size) vs ((gs.take j).map (·.2))) ∧ Hid (Below w.heap.size w wr))
  case atStart => exact ⟨0, [], rfl, rfl, Nat.zero_le _, rfl, ho0, PartsAt.nil _ _, hb0⟩
  case round =>
    clear ho0 hb0
    obtain ⟨j, vs, rfl, rfl, hj, hvl, hown, hps, hb⟩ := hrel
    obtain ⟨Av, cv, rfl, hown'⟩ := own_form hown.out
    have hz := hb.out.size
    by_cases hlt : j < n
    · have hlti : (j : Int) < (n : Int) := by omega
      obtain ⟨p, hp⟩ : ∃ p, gs[j]? = some p := ⟨_, List.getElem?_eq_getElem (by rw [Hn.out]; exact hlt)⟩
      have hpc : (gs.map rxPtr)[j]? = some (.pointer (some ⟨p.1, 0, none⟩)) := by rw [List.getElem?_map, hp]; rfl
      obtain ⟨b, o, rfl, hbl, hcell⟩ := (Hc.out.below hb.out).at_ hpc
      have hrx := Hg.out p (List.mem_of_getElem? hp)
      obtain ⟨ty, u, hblk, hpt⟩ := hrx.blk
      have hblk' := blk_below hblk hb.out hrx.lt
      have Hps2 : Hid (PartsAt w (· < w.heap.size) (vs ++ [.iface ty u]) ((gs.take (j + 1)).map (·.2))) := by
        show PartsAt _ _ _ _
        rw [take_snoc hp, List.map_append]
        exact hps.out.snoc hpt
      have HI := Lib.hid (inner_any p.1 ty u wr hblk')
      clear hp hpc hrx hblk hblk' hpt hown
      go_wp2_with fail
      refine HI.out.mono ?_
      rintro e w' ⟨rfl, rfl⟩
      go_wp2_with (at_builtin; refine wpList_append_new_at info76 Try.underlying93 rfl (by decide) (by decide) w.heap.size hown' 1 rfl _ _ rfl rfl rfl (by simp) rfl rfl (by omega) hz ?_; intro v' w' hown2 hbel hgt hgrow hnew)
      have Hown2 := Lib.hid hown2
      have Hb2 := Lib.hid (hb.out.trans hbel)
      clear hown2 hbel hgrow hnew hown'
      go_roundg (n - (j + 1))
      case rel => exact ⟨j + 1, vs ++ [.iface ty u], by go_num, rfl, by omega, by simp; omega, Hown2, Hps2, Hb2⟩
      case measure => omega
    · have hlti : ¬ (j : Int) < (n : Int) := by omega
      obtain rfl : j = n := by omega
      have hps2 : Hid (PartsAt w (· < w.heap.size) vs (gs.map (·.2))) := by
        have := hps.out
        rwa [List.take_of_length_le (by rw [Hn.out]; exact Nat.le_refl _)] at this
      have Hown' := Lib.hid hown'
      clear hown' hown
      go_wp2_with fail
      go_ret
      exact ⟨⟨Av, cv, vs, rfl, Hown', hps2⟩, hb⟩

/-- A new expression. -/
def RxPost (t : T) (w : World) (e : Ending) (w' : World) : Prop := ∃ g, e = .returned (.pointer (some ⟨g, 0, none⟩)) ∧ Hid (RxAt w' g w'.heap.size t) ∧ Hid (Below w.heap.size w w')
theorem rx_box {w : World} {ty : TypeId} {u : Value} {t : T} (h : PartAt w (· < w.heap.size) (.iface ty u) t) : RxAt (w.alloc (.cells #[.iface ty u] 80)) w.heap.size (w.alloc (.cells #[.iface ty u] 80)).heap.size t :=
  ⟨by simp, ty, u, blk_new _ _, h.move (fun x hx => ⟨by have hx' : x < w.heap.size := hx; simp; omega, Below.block ((Below.refl w.heap.size w).alloc (Nat.le_refl _) _) x hx⟩)⟩
theorem cells_own' {w : World} {base : Nat} {A : Option Addr} {n c : Nat} {xs : List Value} (h : w.ownsRow base 76 1 (.slice A n c) n xs) : CellsIn w (· < w.heap.size) A xs := fun j hj => CellsAt.of_own h j hj

set_option maxHeartbeats 800000 in
theorem or_any (gs : List (Nat × T)) (A : Option Addr) (n c : Nat) (w : World) (hn : gs.length = n) (hn2 : n ≤ 1000) (hc : CellsAt w w.heap.size A (gs.map rxPtr)) (hg : ∀ p ∈ gs, RxAt w p.1 w.heap.size p.2) :
    Calls Try.prog 36 #[.slice A n c] w (RxPost (eitherT (gs.map (·.2))) w) := by
  have HP := Lib.hid (parts_any gs A n c w hn hn2 hc hg)
  clear hc hg
  go_enter Try.func36, Try.ntmps36
  go_wp2_with fail
  refine HP.out.mono ?_
  rintro e w1 ⟨⟨A1, c1, vs, rfl, hown, hps⟩, hb⟩
  have hz := hb.out.size
  have HE := Lib.hid (either_any (· < w1.heap.size) vs (gs.map (·.2)) A1 n c1 w1 (own_len hown.out) (own_cap hown.out) (cells_own' hown.out) (hps.out.move (fun x hx => ⟨Nat.lt_of_lt_of_le hx hz, hb.out.block x hx⟩)))
  clear hown hps
  go_wp2_with fail
  refine HE.out.mono ?_
  rintro e w2 ⟨⟨v, rfl, hv⟩, rfl⟩
  obtain ⟨ty, u, rfl⟩ := hv.form
  have Hx := Lib.hid (rx_box hv)
  clear hv
  go_wp2_with fail
  go_ret
  exact ⟨_, rfl, Hx, hb.out.alloc hz _⟩
set_option maxHeartbeats 800000 in
theorem then_any (gs : List (Nat × T)) (A : Option Addr) (n c : Nat) (w : World) (hn : gs.length = n) (hn2 : n ≤ 1000) (hc : CellsAt w w.heap.size A (gs.map rxPtr)) (hg : ∀ p ∈ gs, RxAt w p.1 w.heap.size p.2) :
    Calls Try.prog 37 #[.slice A n c] w (RxPost (rowT (gs.map (·.2))) w) := by
  have HP := Lib.hid (parts_any gs A n c w hn hn2 hc hg)
  clear hc hg
  go_enter Try.func37, Try.ntmps37
  go_wp2_with fail
  refine HP.out.mono ?_
  rintro e w1 ⟨⟨A1, c1, vs, rfl, hown, hps⟩, hb⟩
  have hz := hb.out.size
  have HE := Lib.hid (row_any (· < w1.heap.size) vs (gs.map (·.2)) A1 n c1 w1 (own_len hown.out) (own_cap hown.out) (cells_own' hown.out) (hps.out.move (fun x hx => ⟨Nat.lt_of_lt_of_le hx hz, hb.out.block x hx⟩)))
  clear hown hps
  go_wp2_with fail
  refine HE.out.mono ?_
  rintro e w2 ⟨⟨v, rfl, hv⟩, rfl⟩
  obtain ⟨ty, u, rfl⟩ := hv.form
  have Hx := Lib.hid (rx_box hv)
  clear hv
  go_wp2_with fail
  go_ret
  exact ⟨_, rfl, Hx, hb.out.alloc hz _⟩
end Go.Proofs.Ytaefhfldgemcnaa
