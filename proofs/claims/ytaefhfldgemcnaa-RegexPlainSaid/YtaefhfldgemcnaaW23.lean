/- The law NfaBack, walked. -/
import Derived.Test.YtaefhfldgemcnaaW18
import Derived.Test.YtaefhfldgemcnaaW20
import Derived.Deep.RegionHeld3
import Derived.Deep.RegionWith
import Derived.Deep.QuietTactic
import Derived.BigQuiet
import Derived.Laws.StructEq
namespace Go.Proofs.Ytaefhfldgemcnaa
open Go.RowKit

def BPost (b : Bool) (w : World) (e : Ending) (w' : World) : Prop := e = .returned (.bool b) ∧ Below w.heap.size w w'
theorem acc_rev (g : Net) (t : ByteArray) : accB g.back (strOfNums (t.data.toList.reverse.map fun b => (b.toNat : Int))).data.toList = accB g t.data.toList := by
  rw [strOfNums_data, List.map_map]
  have e : (List.map ((fun n : Int => UInt8.ofNat n.toNat) ∘ fun b : UInt8 => (b.toNat : Int)) t.data.toList.reverse) = t.data.toList.reverse := by
    conv => rhs; rw [← List.map_id t.data.toList.reverse]
    refine List.map_congr_left (fun b _ => ?_)
    simp
  rw [e]
  exact accB_iff AccP_back
theorem conv_bytes {w : World} {base : Nat} {xs : List Int} {A : Option Addr} {c : Nat} (h : w.ownsRow base 5 1 (.slice A xs.length c) xs.length (xs.map (Value.int .u8))) :
    ∀ wx, Below w.heap.size w wx → (convert 32 9 (.slice A xs.length c)).run Try.prog wx = .ok (.string (strOfNums xs)) wx := by
  intro wx hb
  have hc := (CellsAt.of_own h).below hb
  rcases Nat.eq_zero_or_pos xs.length with h0 | h0
  · have hx : xs = [] := List.eq_nil_of_length_eq_zero h0
    subst hx
    rcases h.2 with ⟨hv, _⟩ | ⟨g, cap, cur, hv, _, hh, _⟩
    · simp only [Value.slice.injEq] at hv
      obtain ⟨rfl, _, rfl⟩ := hv
      exact run_convert_bytes_nil wx 32 5 Try.underlying32 Try.underlying5 _ _ 9 Try.underlying9
    · simp only [Value.slice.injEq] at hv
      obtain ⟨rfl, _, rfl⟩ := hv
      exact run_convert_bytes_arg wx 32 5 Try.underlying32 Try.underlying5 g 0 0 c [] rfl (fun i hi => absurd hi (by omega)) 9 Try.underlying9
  · obtain ⟨b, o, rfl, _, _⟩ := hc 0 (by simpa using h0)
    refine run_convert_bytes_arg wx 32 5 Try.underlying32 Try.underlying5 b o xs.length c xs rfl (fun i hi => ?_) 9 Try.underlying9
    obtain ⟨b', o', he, _, hcell⟩ := hc i (by simpa using hi)
    simp only [Option.some.injEq, Addr.mk.injEq, and_true] at he
    obtain ⟨rfl, rfl⟩ := he
    rw [hcell]
    simp [List.getD, List.getElem?_eq_getElem hi]

set_option maxRecDepth 8192 in
set_option maxHeartbeats 6400000 in
theorem nfaBack_any (st start fin : Int) (es : List Edge) (A : Option Addr) (c : Nat) (s : ByteArray) (w : World) (h1 : I64 st) (h2 : I64 start) (h3 : I64 fin) (h4 : ∀ e ∈ es, I64 e.frm ∧ I64 e.to)
    (hs : s.size ≤ 9223372036854775807) (hE : EdgesAt w w.heap.size A es) :
    Calls Try.prog 6 #[.agg #[.int .i64 st, .int .i64 start, .int .i64 fin, .slice A es.length c], .string s] w fun e w' => e = .returned (.bool true) ∧ Below w.heap.size w w' := by
  have HG := Lib.hid (fun (wx : World) (hx : EdgesAt wx wx.heap.size A es) => (show Calls Try.prog 16 #[.agg #[.int .i64 st, .int .i64 start, .int .i64 fin, .slice A es.length c]] wx (GoodPost ⟨st, start, fin, es⟩ wx) from good_any ⟨st, start, fin, es⟩ A c wx h1 h2 h3 h4 hx))
  have HF := Lib.hid (fun (wx : World) => (show Calls Try.prog 18 #[.string s] wx (FewPost wx) from few_any s wx hs))
  clear h1 h2 h3 h4 hs
  have hE1 := (hE.alloc (Nat.le_refl _) (.cells #[.int .i64 st, .int .i64 start, .int .i64 fin, .slice A es.length c] 24)).more (B' := (w.alloc (.cells #[.int .i64 st, .int .i64 start, .int .i64 fin, .slice A es.length c] 24)).heap.size) (by simp)
  have hgm := good_may ⟨st, start, fin, es⟩
  have hgl := good_len ⟨st, start, fin, es⟩
  go_enter Try.func6, Try.ntmps6
  go_wp2_with fail
  refine (HG.out _ hE1).mono ?_
  rintro e w2 ⟨hg, hb2⟩
  generalize good ⟨st, start, fin, es⟩ = g at hgm hg hgl
  obtain ⟨A5, c5, rfl, hE5⟩ := hg
  simp only [World.size_alloc] at hb2
  have hbw : Below w.heap.size w w2 := ((Below.refl _ _).alloc (Nat.le_refl _) _).trans (hb2.mono (by omega))
  have hz := hbw.size
  have Hgm := Lib.hid hgm
  clear hgm hb2 hE1
  go_wp2_with fail
  refine (HF.out _).mono ?_
  rintro e w3 ⟨⟨t, rfl, ht⟩, rfl⟩
  have hE6 : EdgesAt (w2.alloc (.cells #[.int .i64 g.st, .int .i64 g.start, .int .i64 g.fin, .slice A5 g.edges.length c5] 24)) (w2.alloc (.cells #[.int .i64 g.st, .int .i64 g.start, .int .i64 g.fin, .slice A5 g.edges.length c5] 24)).heap.size A5 g.edges :=
    (hE5.alloc (Nat.le_refl _) _).more (by simp)
  have hbx := blk_new w2 (.cells #[.int .i64 g.st, .int .i64 g.start, .int .i64 g.fin, .slice A5 g.edges.length c5] 24)
  have hbw3 := hbw.alloc (by omega) (.cells #[.int .i64 g.st, .int .i64 g.start, .int .i64 g.fin, .slice A5 g.edges.length c5] 24)
  go_wp2_with fail
  refine (back_any g A5 c5 _ Hgm.out (by omega) hE6).mono ?_
  rintro e w4 ⟨⟨A7, c7, rfl, hE7⟩, hb4⟩
  have hbl := blk_lt hbx
  have hN := blk_below hbx hb4 hbl
  have hbw4 := hbw3.trans (hb4.mono hbw3.size)
  have hE8 := (hE6.below hb4).more hb4.size
  have hbe : g.back.edges.length = g.edges.length := by simp [Net.back]
  have q0 : g.back.st = g.st := rfl
  have q1 : g.back.start = g.fin := rfl
  have q2 : g.back.fin = g.start := rfl
  have hb4s := hb4.size
  clear hE5 hE6 hbx hbw3 hb4 hbw
  go_upto_region 4 with fail
  have hE9 := (hE7.alloc (Nat.le_refl _) (.cells #[.int .i64 g.st, .int .i64 g.fin, .int .i64 g.start, .slice A7 g.edges.length c7] 24)).more (B' := (w4.alloc (.cells #[.int .i64 g.st, .int .i64 g.fin, .int .i64 g.start, .slice A7 g.edges.length c7] 24)).heap.size) (by simp)
  have hE10 := (hE8.alloc (Nat.le_refl _) (.cells #[.int .i64 g.st, .int .i64 g.fin, .int .i64 g.start, .slice A7 g.edges.length c7] 24)).more (B' := (w4.alloc (.cells #[.int .i64 g.st, .int .i64 g.fin, .int .i64 g.start, .slice A7 g.edges.length c7] 24)).heap.size) (by simp)
  have hNb := blk_new w4 (.cells #[.int .i64 g.st, .int .i64 g.fin, .int .i64 g.start, .slice A7 g.edges.length c7] 24)
  have hNg := blk_alloc hN (.cells #[.int .i64 g.st, .int .i64 g.fin, .int .i64 g.start, .slice A7 g.edges.length c7] 24)
  have hbW := hbw4.alloc hbw4.size (.cells #[.int .i64 g.st, .int .i64 g.fin, .int .i64 g.start, .slice A7 g.edges.length c7] 24)
  generalize w4.alloc (.cells #[.int .i64 g.st, .int .i64 g.fin, .int .i64 g.start, .slice A7 g.edges.length c7] 24) = W at hE9 hE10 hNb hNg hbW ⊢
  clear hE7 hE8 hN hbw4 hbe q0 q1 q2
  have l1 := blk_lt hNb
  have l2 := blk_lt hNg
  have hzW := hbW.size
  have x0 : W.cell? ⟨w4.heap.size, 0, none⟩ = some (.int .i64 g.st) := blk_cell hNb 0
  have x1 : W.cell? ⟨w4.heap.size, 1, none⟩ = some (.int .i64 g.fin) := blk_cell hNb 1
  have x2 : W.cell? ⟨w4.heap.size, 2, none⟩ = some (.int .i64 g.start) := blk_cell hNb 2
  have x3 : W.cell? ⟨w4.heap.size, 3, none⟩ = some (.slice A7 g.edges.length c7) := blk_cell hNb 3
  have y0 : W.cell? ⟨w2.heap.size, 0, none⟩ = some (.int .i64 g.st) := blk_cell hNg 0
  have y1 : W.cell? ⟨w2.heap.size, 1, none⟩ = some (.int .i64 g.start) := blk_cell hNg 1
  have y2 : W.cell? ⟨w2.heap.size, 2, none⟩ = some (.int .i64 g.fin) := blk_cell hNg 2
  have y3 : W.cell? ⟨w2.heap.size, 3, none⟩ = some (.slice A5 g.edges.length c5) := blk_cell hNg 3
  go_wp2_with fail
  go_loopw [7] (fun i wr => ∃ k : Nat, i = .int .i64 k ∧ k ≤ g.edges.length ∧ Below W.heap.size W wr) (fun i _ => g.edges.length - (intOf i).toNat)
  case atStart => exact ⟨0, rfl, Nat.zero_le _, Below.refl _ _⟩
  case round =>
    clear x0 x1 x2 x3 y0 y1 y2 y3
    obtain ⟨k, rfl, hk, hb⟩ := hrel
    have hNb' := blk_below hNb hb l1
    have hNg' := blk_below hNg hb l2
    have x0 : wr.cell? ⟨w4.heap.size, 0, none⟩ = some (.int .i64 g.st) := blk_cell hNb' 0
    have x1 : wr.cell? ⟨w4.heap.size, 1, none⟩ = some (.int .i64 g.fin) := blk_cell hNb' 1
    have x2 : wr.cell? ⟨w4.heap.size, 2, none⟩ = some (.int .i64 g.start) := blk_cell hNb' 2
    have x3 : wr.cell? ⟨w4.heap.size, 3, none⟩ = some (.slice A7 g.edges.length c7) := blk_cell hNb' 3
    have y0 : wr.cell? ⟨w2.heap.size, 0, none⟩ = some (.int .i64 g.st) := blk_cell hNg' 0
    have y1 : wr.cell? ⟨w2.heap.size, 1, none⟩ = some (.int .i64 g.start) := blk_cell hNg' 1
    have y2 : wr.cell? ⟨w2.heap.size, 2, none⟩ = some (.int .i64 g.fin) := blk_cell hNg' 2
    have y3 : wr.cell? ⟨w2.heap.size, 3, none⟩ = some (.slice A5 g.edges.length c5) := blk_cell hNg' 3
    by_cases hlt : k < g.edges.length
    · obtain ⟨bb, o, e, rfl, hbb, he, e0, e1, e2, e3⟩ := edge_at hE10 hb hlt
      obtain ⟨bb', o', e', rfl, hbb', he', f0, f1, f2, f3⟩ := edge_at hE9 hb (k := k) (by simpa [Net.back] using hlt)
      have hee : e' = e.swap := by
        have h1 := he'.out
        have h2 : g.back.edges[k]? = some e.swap := by
          show (g.edges.map Edge.swap)[k]? = _
          rw [List.getElem?_map, he.out]
          rfl
        rw [h2] at h1
        exact (Option.some.inj h1).symm
      subst hee
      have k0 : wr.cell? ⟨bb', o' + k * 4, none⟩ = some (.int .i64 e.to) := f0
      have k1 : wr.cell? ⟨bb', o' + k * 4 + 1, none⟩ = some (.int .i64 e.frm) := f1
      have k2 : wr.cell? ⟨bb', o' + k * 4 + 2, none⟩ = some (.int .u8 e.low) := f2
      have k3 : wr.cell? ⟨bb', o' + k * 4 + 3, none⟩ = some (.int .u8 e.high) := f3
      clear f0 f1 f2 f3
      have hi0 : (0 : Int) ≤ (k : Int) := by omega
      have hi1 : (k : Int) < (g.edges.length : Int) := by omega
      clear he he'
      go_wp2_with fail
      go_quiet (fail)
      go_wp2_with fail
      go_roundw
      case rel => exact ⟨k + 1, by go_num, by omega, below_drewN hb _⟩
      case measure => simp [intOf]; omega
    · go_wp2_with fail
      clear x0 x1 x2 x3 y0 y1 y2 y3 hlt hk
      obtain ⟨wo, rfl⟩ : ∃ wo : World, wo = wr := ⟨_, rfl⟩
      have hzo := hb.size
      go_loopw [8, 9] (fun v i wi => ∃ (m : Nat) (xs : List Int), i = .int .i64 ((m : Int) - 1) ∧ m ≤ t.size ∧ xs.length ≤ t.size ∧ OwnB wi wo.heap.size xs v ∧ Hid (xs = ((t.data.toList.drop m).reverse.map fun b => (b.toNat : Int))) ∧ Below wo.heap.size wo wi) (fun _ i _ => (intOf i + 1).toNat)
      case atStart =>
        refine ⟨t.size, [], rfl, Nat.le_refl _, by simp, ⟨none, 0, rfl, World.ownsRow_nil _ _ _ _⟩, ?_, Below.refl _ _⟩
        show _ = _
        rw [List.drop_of_length_le (by simp [Array.length_toList])]
        rfl
      case round =>
        obtain ⟨m, xs, rfl, hm, hxl, ⟨A8, c8, rfl, hown⟩, hxs, hb8⟩ := hrel
        have hz8 := hb8.size
        rcases m with _ | k'
        · have hN1 := blk_below hNb (hb.trans (hb8.mono hzo)) l1
          have hN2 := blk_below hNg (hb.trans (hb8.mono hzo)) l2
          have x0 : wr.cell? ⟨w4.heap.size, 0, none⟩ = some (.int .i64 g.st) := blk_cell hN1 0
          have x1 : wr.cell? ⟨w4.heap.size, 1, none⟩ = some (.int .i64 g.fin) := blk_cell hN1 1
          have x2 : wr.cell? ⟨w4.heap.size, 2, none⟩ = some (.int .i64 g.start) := blk_cell hN1 2
          have x3 : wr.cell? ⟨w4.heap.size, 3, none⟩ = some (.slice A7 g.edges.length c7) := blk_cell hN1 3
          have y0 : wr.cell? ⟨w2.heap.size, 0, none⟩ = some (.int .i64 g.st) := blk_cell hN2 0
          have y1 : wr.cell? ⟨w2.heap.size, 1, none⟩ = some (.int .i64 g.start) := blk_cell hN2 1
          have y2 : wr.cell? ⟨w2.heap.size, 2, none⟩ = some (.int .i64 g.fin) := blk_cell hN2 2
          have y3 : wr.cell? ⟨w2.heap.size, 3, none⟩ = some (.slice A5 g.edges.length c5) := blk_cell hN2 3
          go_upto_region 16 with fail
          have hbWr := hb.trans (hb8.mono hzo)
          have m1 := blk_lt hN1
          have m2 := blk_lt hN2
          have hbe : g.back.edges.length = g.edges.length := by simp [Net.back]
          obtain ⟨ab, hab⟩ : ∃ ab, ab = accB g t.data.toList := ⟨_, rfl⟩
          have hrev : accB g.back (strOfNums xs).data.toList = ab := by
            rw [hab, hxs.out, List.drop_zero]
            exact acc_rev g t
          have H1 : Hid (∀ wx, Below wr.heap.size wr wx → Calls Try.prog 19 #[.agg #[.int .i64 g.st, .int .i64 g.fin, .int .i64 g.start, .slice A7 g.edges.length c7], .string (strOfNums xs)] wx (BPost ab wx)) := by
            intro wx hx
            have hx' := hbWr.trans (hx.mono hbWr.size)
            have := accepts_any g.back (strOfNums xs) A7 c7 wx (back_may Hgm.out) (by rw [hbe]; omega) (by rw [strOfNums_size]; omega) ((hE9.below hx').more hx'.size)
            rw [hbe, hrev] at this
            exact this
          have H2 : Hid (∀ wx, Below wr.heap.size wr wx → Calls Try.prog 19 #[.agg #[.int .i64 g.st, .int .i64 g.start, .int .i64 g.fin, .slice A5 g.edges.length c5], .string t] wx (BPost ab wx)) := by
            intro wx hx
            have hx' := hbWr.trans (hx.mono hbWr.size)
            have := accepts_any g t A5 c5 wx Hgm.out (by omega) (by omega) ((hE10.below hx').more hx'.size)
            rw [← hab] at this
            exact this
          have HCV := conv_bytes hown
          have hB := Lib.hid ((Below.refl wr.heap.size wr).drew)
          clear hE9 hE10 hown hab hrev hbe hxs hNb hNg hN1 hN2
          go_region_held3 (fun w' => w'.cell? ⟨w4.heap.size, 0, none⟩ = some (.int .i64 g.st) ∧ w'.cell? ⟨w4.heap.size, 1, none⟩ = some (.int .i64 g.fin) ∧ w'.cell? ⟨w4.heap.size, 2, none⟩ = some (.int .i64 g.start) ∧ w'.cell? ⟨w4.heap.size, 3, none⟩ = some (.slice A7 g.edges.length c7) ∧ w'.cell? ⟨w2.heap.size, 0, none⟩ = some (.int .i64 g.st) ∧ w'.cell? ⟨w2.heap.size, 1, none⟩ = some (.int .i64 g.start) ∧ w'.cell? ⟨w2.heap.size, 2, none⟩ = some (.int .i64 g.fin) ∧ w'.cell? ⟨w2.heap.size, 3, none⟩ = some (.slice A5 g.edges.length c5) ∧ Below wr.heap.size wr w')
            (exact ⟨(hB.out.cell (p := ⟨w4.heap.size, 0, none⟩) m1).trans x0, (hB.out.cell (p := ⟨w4.heap.size, 1, none⟩) m1).trans x1, (hB.out.cell (p := ⟨w4.heap.size, 2, none⟩) m1).trans x2, (hB.out.cell (p := ⟨w4.heap.size, 3, none⟩) m1).trans x3, (hB.out.cell (p := ⟨w2.heap.size, 0, none⟩) m2).trans y0, (hB.out.cell (p := ⟨w2.heap.size, 1, none⟩) m2).trans y1, (hB.out.cell (p := ⟨w2.heap.size, 2, none⟩) m2).trans y2, (hB.out.cell (p := ⟨w2.heap.size, 3, none⟩) m2).trans y3, hB.out⟩)
            (first
              | (go_at_call_of 19 (strOfNums xs); refine (H1.out _ hB.out).mono ?_; rintro e w' ⟨rfl, hb'⟩; have hB := Lib.hid (hB.out.trans (hb'.mono hB.out.size)); clear hb')
              | (go_at_call_of 19 t; refine (H2.out _ hB.out).mono ?_; rintro e w' ⟨rfl, hb'⟩; have hB := Lib.hid (hB.out.trans (hb'.mono hB.out.size)); clear hb')
              | (go_at_call 17; refine (lives_any _).mono ?_; rintro e w' ⟨rfl, hb'⟩; have hB := Lib.hid (hB.out.trans (hb'.mono hB.out.size)); clear hb'))
          all_goals go_wp2_with fail
          all_goals go_ret
          all_goals exact ⟨rfl, hbW.trans ((hbWr.trans (hB.out.mono hbWr.size)).mono (by omega))⟩
        · rw [show ((k' + 1 : Nat) : Int) - 1 = (k' : Int) from by omega]
          have hkt : k' < t.size := by omega
          obtain ⟨cb, hcb⟩ : ∃ cb : UInt8, t[k'] = cb := ⟨_, rfl⟩
          have hd : Hid (t.data.toList.drop k' = cb :: t.data.toList.drop (k' + 1)) := by
            show _ = _
            rw [← hcb]
            exact List.drop_eq_getElem_cons (by simpa [Array.length_toList] using hkt)
          have hxl' : xs.length < t.size := by
            rw [hxs.out, List.length_map, List.length_reverse, List.length_drop]
            have : t.data.toList.length = t.size := by simp [Array.length_toList]
            omega
          go_wp2_with (at_builtin; refine wpList_append_new info5 Try.underlying32 rfl (by decide) (by decide) _ hown 1 rfl _ _ rfl rfl rfl (by simp) rfl rfl (by omega) ?_ ?_; (omega); intro v' w' hown' hbel hgt hgrow)
          go_roundw
          case rel =>
            refine ⟨k', xs ++ [(cb.toNat : Int)], rfl, by omega, by simp; omega, ?_, ?_, hb8.trans (hbel.mono (by omega))⟩
            · obtain ⟨A3, c3, rfl, h3⟩ := own_form hown'
              exact ⟨A3, c3, by simp, by simpa using h3⟩
            · show _ = _
              rw [hd.out, List.reverse_cons, List.map_append, hxs.out]
              try rfl
          case measure => simp [intOf]
end Go.Proofs.Ytaefhfldgemcnaa
