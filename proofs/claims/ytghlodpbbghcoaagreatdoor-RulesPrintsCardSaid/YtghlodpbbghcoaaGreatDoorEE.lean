/- (*met[int]).add of package dfa: walked. -/
import Derived.Test.YtghlodpbbghcoaaGreatDoorEC
namespace Go.Proofs.YtghlodpbbghcoaaGreatDoor
open Go.RowKit Go.Maps
def klI (q : Nat) : Lit := .int .i64 (q : Int)
/-- What has been met of numbers below B. -/
structure MetInt (w : World) (M : Nat) (O : Nat → Prop) (B : Nat) (l : List Nat) : Prop where
  met : ∃ Mb A c D, w.heap[M]? = some (.cells #[.map (some Mb), .slice A l.length c] 219 (0, 0)) ∧ O M ∧ O Mb ∧ w.ownsMap Tryz.prog 3 (plainElem Tryz.prog 3) Mb l.length D ∧
    w.ownsRow 0 3 1 (.slice A l.length c) l.length (l.map fun q : Nat => Value.int .i64 (q : Int)) ∧ (∀ k, (Value.slice A l.length c).ownBlock = some k → O k) ∧ MetD klI (· < B) D l
theorem cells_one_new (w : World) (v : Value) : ∀ (j : Nat) (u : Value), [v][j]? = some u → (w.alloc (.cells #[v] 3)).cell? ((⟨w.heap.size, 0, none⟩ : Addr).add j) = some u := cells_blk (blk_new w (.cells #[v] 3))

set_option maxRecDepth 8192 in
set_option maxHeartbeats 3200000 in
theorem add152_any (M B x : Nat) (O : Nat → Prop) (l : List Nat) (w : World) (hB : B ≤ 1000) (hx : x < B) (hl : l.length ≤ 1000) (hm : MetInt w M O B l) :
    Calls Tryz.prog 152 #[.pointer (some ⟨M, 0, none⟩), .int .i64 x] w fun e w' => (∃ (l' : List Nat) (j : Nat), e = .returned (.int .i64 j) ∧ j < l'.length ∧ l <+: l' ∧ MetInt w' M (fun g => O g ∨ (w.heap.size ≤ g ∧ g < w'.heap.size)) B l') ∧ KeepO O w w' := by
  obtain ⟨Mb, A, c, D, hM, hbM, hbb, hmap, hrow, hAO, hD⟩ := hm.met
  clear hm
  have hwf : (Lit.int .i64 (x : Int)).wf = true := by simp [Lit.wf, IntKind.min, IntKind.max, IntKind.signed, IntKind.bits]; omega
  have hkx := Lib.hid (keyOf_int_mk Tryz.underlying3 hwf)
  have hML := blk_lt hM
  have c0 : w.cell? ⟨M, 0, none⟩ = some (.map (some Mb)) := blk_cell hM 0
  have c1 : w.cell? ⟨M, 1, none⟩ = some (.slice A l.length c) := blk_cell hM 1
  have Hmap := Lib.hid hmap
  have Hrow := Lib.hid hrow
  have HM := Lib.hid hM
  have hhas := hD.has x hx
  clear hmap hrow hM
  by_cases hin : x ∈ l
  · have hyes : Maps.has D (.int .i64 (x : Int)) = true := hhas.2 hin
    obtain ⟨j, hj, hatj⟩ := hD.at_ x hx hin
    have Hatj := Lib.hid hatj
    clear hhas hatj
    go_enter Tryz.func152, Tryz.ntmps152
    go_wp2_with (at_lookup; refine wpList_lookup_own_ok_int _ rfl _ _ 217 rfl 3 3 .i64 (int_keyed Tryz.underlying3) Tryz.underlying217 Tryz.underlying3 (zeroE3 _) Mb l.length D rfl Hmap.out _ _ rfl hkx.out ?_; intro cc hat hwc; have Hat := Lib.hid hat; clear hat)
    go_ret
    have hcj : cc = (j : Int) := by
      have := Hat.out.symm.trans Hatj.out
      simpa using this
    subst hcj
    exact ⟨⟨l, j, rfl, hj, List.prefix_rfl, ⟨Mb, A, c, D, HM.out, Or.inl hbM, Or.inl hbb, Hmap.out, Hrow.out, fun k hk => Or.inl (hAO k hk), hD⟩⟩, KeepO.of_below (Below.refl _ _)⟩
  · have hno : Maps.has D (.int .i64 (x : Int)) = false := by
      cases h : Maps.has D (.int .i64 (x : Int))
      · rfl
      · exact absurd (hhas.1 h) hin
    clear hhas
    obtain ⟨i0, hi, hz0, hz1, hz2⟩ := info_parts Rx.info3
    go_enter Tryz.func152, Tryz.ntmps152
    go_wp2_with (first
      | (at_lookup; refine wpList_lookup_own_ok_int _ rfl _ _ 217 rfl 3 3 .i64 (int_keyed Tryz.underlying3) Tryz.underlying217 Tryz.underlying3 (zeroE3 _) Mb l.length D rfl Hmap.out _ _ rfl hkx.out ?_; intro cc hat hwc; clear hat)
      | (at_mapUpdate; refine wpList_mapUpdate_own _ rfl _ _ _ 217 rfl 3 3 (int_keyed Tryz.underlying3) Tryz.underlying217 (plainElem Tryz.prog 3) Mb l.length D rfl Hmap.out (by unfold maxLen; omega) _ _ _ rfl rfl hkx.out _ _ (plainElem_int Tryz.underlying3 (by simp [Lit.wf, IntKind.min, IntKind.max, IntKind.signed, IntKind.bits]; omega)) ?_; intro w5 hmap5 hg5; obtain ⟨es, ck, hMb, _⟩ := Hmap.out; have hne : ∀ (g : Nat) (cs : Array Value) (T : TypeId), w.heap[g]? = some (.cells cs T (0, 0)) → w5.heap[g]? = w.heap[g]? := (fun g cs T hg => hg5.block g (blk_lt hg) (fun e => by have e2 : Mb = g := (by simp at e; exact e.symm); rw [e2, hg] at hMb; cases hMb)); have hM5 : w5.heap[M]? = some (.cells #[.map (some Mb), .slice A l.length c] 219 (0, 0)) := (hne _ _ _ HM.out).trans HM.out; have HM5 := Lib.hid hM5; have c5 : w5.cell? ⟨M, 1, none⟩ = some (.slice A l.length c) := blk_cell hM5 1; have Hrow5 := Lib.hid (row_keep Hrow.out (fun g cs hg => hne g cs _ hg)); have HB5 := Lib.hid ((KeepO.of_below (O := O) (Below.refl _ w)).grown hg5 (fun k hk => by have e : Mb = k := (by simpa using hk); rw [← e]; exact hbb)); have Hmap5 := Lib.hid hmap5; have HrowA : Hid ((w5.alloc (.cells #[.int .i64 (x : Int)] 3)).ownsRow 0 3 1 (.slice A l.length c) l.length (l.map fun q : Nat => Value.int .i64 (q : Int))) := Hrow5.out.alloc _; have HMA : Hid ((w5.alloc (.cells #[.int .i64 (x : Int)] 3)).heap[M]? = some (.cells #[.map (some Mb), .slice A l.length c] 219 (0, 0))) := blk_alloc hM5 _; have HneA := Lib.hid (own_ne HrowA.out HMA.out (by decide)); clear hM5 hne hMb hg5 hmap5)
      | (at_builtin; refine wpList_append_own_at _ rfl _ _ 168 rfl 0 3 i0 (.int .i64 0) 1 8 Tryz.underlying168 hi hz0 hz1 hz2 rfl (by decide) (.slice A l.length c) l.length _ rfl HrowA.out ⟨w5.heap.size, 0, none⟩ 1 1 [.int .i64 (x : Int)] rfl rfl (cells_one_new w5 _) (by intro u hu; simp at hu; subst hu; rfl) (by unfold maxLen; omega) (by omega) (Nat.zero_le _) ?_; intro v7 w7 hown7 hg7 hnil7 hloc7; have hM7 : w7.heap[M]? = some (.cells #[.map (some Mb), .slice A l.length c] 219 (0, 0)) := blk_grown HMA.out hg7 HneA.out; have c7 : w7.cell? ⟨M, 1, none⟩ = some (.slice A l.length c) := blk_cell hM7 1; have f7 := blk_frozen hM7 1; have HM7 := Lib.hid hM7; clear hM7; obtain ⟨A7, c8, rfl, hown8⟩ := own_form hown7))
    go_ret
    have hlen : (l ++ [x]).length = l.length + 1 := by simp
    obtain ⟨es, ck, hMb, _⟩ := Hmap5.out
    have hMbl : Mb < w5.heap.size := blk_lt hMb
    have hMb7 : w7.heap[Mb]? = w5.heap[Mb]? := (hg7.block Mb (by simp; omega) (own_ne_map Hrow5.out hMb).symm).trans (Below.heap_alloc w5 _ Mb hMbl)
    have hM5' := HM5.out
    have hMMb : M ≠ Mb := fun e => by rw [e, hMb] at hM5'; cases hM5'
    have hB7 : KeepO O w w7 := (HB5.out.alloc _).grown hg7 hAO
    have hw5 := HB5.out.size
    have hw7 := hg7.size
    refine ⟨⟨l ++ [x], l.length, rfl, by simp, List.prefix_append _ _, ⟨Mb, A7, c8, _, ?_, Or.inl hbM, Or.inl hbb, ?_, ?_, ?_, hD.push (fun a ha => trivial) (fun a b ha hb h => by simp [klI] at h; omega) hx hin⟩⟩, ?_⟩
    · rw [hlen]
      exact blk_set_self HM7.out 1 _
    · rw [hlen]
      exact map_keep Hmap5.out ((Below.heap_setCell w7 ⟨M, 1, none⟩ _ Mb (fun e => hMMb e.symm)).trans hMb7)
    · rw [hlen, List.map_append]
      refine row_keep hown8 (fun g cs hg => Below.heap_setCell w7 ⟨M, 1, none⟩ _ g (fun e => ?_))
      simp only at e
      rw [e, HM7.out] at hg
      simp at hg
    · intro k hk
      rw [hlen] at hk
      rcases hloc7 with h | h
      · exact Or.inl (hAO k (h ▸ hk))
      · have e : k = (w5.alloc (.cells #[.int .i64 (x : Int)] 3)).heap.size := Option.some.inj (hk.symm.trans h)
        have hkl : k < w7.heap.size := (hown8.lt k hk).2
        refine Or.inr ⟨?_, by simpa using hkl⟩
        simp at e
        omega
    · exact hB7.setCell (p := ⟨M, 1, none⟩) hbM _
end Go.Proofs.YtghlodpbbghcoaaGreatDoor

/- meet[int] of package dfa at one number: walked. -/
namespace Go.Proofs.YtghlodpbbghcoaaGreatDoor
open Go.RowKit Go.Maps
theorem makeMap217 (w : World) : (Instr.makeMap 217 none).run Tryz.prog w = .ok (.map (some w.heap.size)) (w.alloc (.map #[] 0)) := by
  simp [Instr.makeMap, Result.andThen]
theorem MetInt.keep {w w' : World} {M B : Nat} {O O' : Nat → Prop} {l : List Nat} (h : MetInt w M O B l) (hk : ∀ g, O g → w'.heap[g]? = w.heap[g]?) (hO : ∀ g, O g → O' g) : MetInt w' M O' B l := by
  obtain ⟨Mb, A, c, D, hM, h1, h2, hmap, hrow, hA, hD⟩ := h.met
  exact ⟨Mb, A, c, D, (hk M h1).trans hM, hO _ h1, hO _ h2, map_keep hmap (hk Mb h2), row_keep_own hrow (fun g hg => hk g (hA g hg)), fun k hk => hO k (hA k hk), hD⟩
theorem MetInt.alloc {w : World} {M B : Nat} {O : Nat → Prop} {l : List Nat} (h : MetInt w M O B l) (o : Obj) : MetInt (w.alloc o) M O B l := by
  obtain ⟨Mb, A, c, D, hM, h1, h2, hmap, hrow, hA, hD⟩ := h.met
  exact ⟨Mb, A, c, D, blk_alloc hM _, h1, h2, hmap.alloc _, hrow.alloc _, hA, hD⟩
theorem MetInt.len {w : World} {M B : Nat} {O : Nat → Prop} {l : List Nat} (h : MetInt w M O B l) : l.length ≤ B := by
  obtain ⟨Mb, A, c, D, hM, h1, h2, hmap, hrow, hA, hD⟩ := h.met
  have := Rx.nodup_range (l := l.map Int.ofNat) B (by
    rw [List.nodup_iff_pairwise_ne, List.pairwise_map]
    exact hD.nodup.imp (fun h e => h (by have e2 : (Int.ofNat _ : Int) = Int.ofNat _ := e; exact Int.ofNat.inj e2))) (by
    intro q hq
    obtain ⟨a, ha, rfl⟩ := List.mem_map.1 hq
    have := hD.all a ha
    exact ⟨by simp, by simpa using this⟩)
  simpa using this

set_option maxRecDepth 8192 in
set_option maxHeartbeats 3200000 in
theorem meet151_any (S B x : Nat) (w : World) (hB : B ≤ 1000) (hx : x < B) (hS : w.heap[S]? = some (.cells #[.int .i64 (x : Int)] 3 (0, 0))) :
    Calls Tryz.prog 151 #[.slice (some ⟨S, 0, none⟩) 1 1] w fun e w' => (∃ (l' : List Nat) (M : Nat), e = .returned (.pointer (some ⟨M, 0, none⟩)) ∧ 0 < l'.length ∧ MetInt w' M (fun g => w.heap.size ≤ g ∧ g < w'.heap.size) B l') ∧ Below w.heap.size w w' := by
  have hSl := blk_lt hS
  have HS := Lib.hid hS
  have hmm := makeMap217
  have hown0 := World.ownsMap_made w Tryz.prog 3 (plainElem Tryz.prog 3 : Value → Option (DataW Unit × List MemPlace))
  have hmet0 : MetInt ((w.alloc (.map #[] 0)).alloc (.cells #[.map (some w.heap.size), .slice none 0 0] 219)) (w.heap.size + 1) (fun g => w.heap.size ≤ g ∧ g < w.heap.size + 2) B [] :=
    ⟨w.heap.size, none, 0, .map [], blk_new' (by simp), by omega, by omega, hown0.alloc _, World.ownsRow_nil _ _ _ _, fun k hk => by simp [Value.ownBlock] at hk, MetD.nil _ _⟩
  have hb0 : Below w.heap.size w ((w.alloc (.map #[] 0)).alloc (.cells #[.map (some w.heap.size), .slice none 0 0] 219)) := ((Below.refl _ _).alloc (Nat.le_refl _) _).alloc (by simp) _
  have HM : Hid (MetInt ((w.alloc (.map #[] 0)).alloc (.cells #[.map (some w.heap.size), .slice none 0 0] 219)) (w.heap.size + 1) (fun g => w.heap.size ≤ g ∧ g < ((w.alloc (.map #[] 0)).alloc (.cells #[.map (some w.heap.size), .slice none 0 0] 219)).heap.size) B []) := hmet0.keep (fun _ _ => rfl) (fun g hg => ⟨hg.1, by simp; omega⟩)
  have HB := Lib.hid hb0
  clear hmet0 hb0 hown0 hS
  go_enter Tryz.func151, Tryz.ntmps151
  go_upto_region 2 with fail
  generalize (w.alloc (.map #[] 0)).alloc (.cells #[.map (some w.heap.size), .slice none 0 0] 219) = w1 at HM HB ⊢
  go_wp2_with fail
  go_loopw [11] (fun i wr => ∃ (k : Nat) (l' : List Nat), i = .int .i64 k ∧ k ≤ 1 ∧ (k = 1 → 0 < l'.length) ∧ (k = 0 → l' = []) ∧ Hid (MetInt wr (w.heap.size + 1) (fun g => w.heap.size ≤ g ∧ g < wr.heap.size) B l') ∧ Hid (Below w.heap.size w wr)) (fun i _ => 1 - (intOf i).toNat)
  case atStart => exact ⟨0, [], rfl, by omega, by omega, fun _ => rfl, HM, HB⟩
  case round =>
    clear HM HB hmm
    obtain ⟨k, l', rfl, hk, hk1, hk0, hm, hb⟩ := hrel
    by_cases hlt : k < 1
    · have hk00 : k = 0 := by omega
      subst hk00
      have hl0 := hk0 rfl
      subst hl0
      have b0 : wr.cell? ⟨S, 0, none⟩ = some (.int .i64 (x : Int)) := (blk_cell ((hb.out.block S hSl).trans HS.out) 0).trans rfl
      go_wp2_with (go_at_call 152; refine (add152_any (w.heap.size + 1) B x (fun g => w.heap.size ≤ g ∧ g < wr.heap.size) [] wr hB hx (by simp) hm.out).mono ?_; rintro e w4 ⟨⟨l2, j2, rfl, hj2, hp2, hm4⟩, hb4⟩)
      go_roundw
      case rel => exact ⟨1, l2, by go_num, by omega, fun _ => by omega, fun h => by omega, hm4.keep (fun _ _ => rfl) (fun g hg => by have h1 := hb.out.size; have h2 := hb4.size; rcases hg with hg | hg <;> omega), hb.out.trans ⟨hb4.os, hb4.tape, hb4.output, hb4.size, fun g hg => hb4.block g (Nat.lt_of_lt_of_le hg hb.out.size) (fun h => by have := h.1; omega)⟩⟩
      case measure => simp [intOf]
    · have hk00 : k = 1 := by omega
      subst hk00
      go_wp2_with fail
      go_ret
      exact ⟨⟨l', _, rfl, by simpa using hk1, hm.out⟩, hb.out⟩
end Go.Proofs.YtghlodpbbghcoaaGreatDoor

/- form's steps (the literals form$1, form$2 of package dfa): walked. -/
namespace Go.Proofs.YtghlodpbbghcoaaGreatDoor
open Go.RowKit
/-- Rows of 95 numbers below m, n of them, to be read. -/
def NextAt (w : World) (A : Option Addr) (n m : Nat) : Prop :=
  ∀ q, q < n → ∃ b o R, A = some ⟨b, o, none⟩ ∧ w.cell? ⟨b, o + q, none⟩ = some (.slice (some ⟨R, 0, none⟩) 95 95) ∧ ∀ j, j < 95 → ∃ z : Nat, z < m ∧ w.cell? ⟨R, j, none⟩ = some (.int .i64 (z : Int))
/-- Numbers below m, n of them, to be read. -/
def NumsAt (w : World) (A : Option Addr) (n m : Nat) : Prop :=
  ∀ q, q < n → ∃ b o, A = some ⟨b, o, none⟩ ∧ ∃ z : Nat, z < m ∧ w.cell? ⟨b, o + q, none⟩ = some (.int .i64 (z : Int))
theorem form1_any (q s n m Bn c : Nat) (A : Option Addr) (w : World) (hq : q < n) (hs : s < 95) (hB : w.cell? ⟨Bn, 0, none⟩ = some (.slice A n c)) (hA : NextAt w A n m) :
    Calls Tryz.prog 144 #[.int .i64 q, .int .i64 s, .pointer (some ⟨Bn, 0, none⟩)] w fun e w' => (∃ z : Nat, z < m ∧ e = .returned (.int .i64 z)) ∧ w = w' := by
  obtain ⟨b, o, R, rfl, hc, hr⟩ := hA q hq
  obtain ⟨z, hz, hcz⟩ := hr s hs
  clear hA hr
  go_enter Tryz.func144, Tryz.ntmps144
  go_wp2_with fail
  go_ret
  exact ⟨⟨z, hz, rfl⟩, rfl⟩
theorem form2_any (q s n m Bc Bn Bo cc cn co : Nat) (Ac An Ao : Option Addr) (w : World) (hq : q < n) (hs : s < 95) (hBc : w.cell? ⟨Bc, 0, none⟩ = some (.slice Ac n cc)) (hBn : w.cell? ⟨Bn, 0, none⟩ = some (.slice An n cn)) (hBo : w.cell? ⟨Bo, 0, none⟩ = some (.slice Ao n co))
    (hc : NumsAt w Ac n m) (hA : NextAt w An n n) (ho : NumsAt w Ao n n) :
    Calls Tryz.prog 146 #[.int .i64 q, .int .i64 s, .pointer (some ⟨Bc, 0, none⟩), .pointer (some ⟨Bn, 0, none⟩), .pointer (some ⟨Bo, 0, none⟩)] w fun e w' => (∃ z : Nat, z < m ∧ e = .returned (.int .i64 z)) ∧ Below w.heap.size w w' := by
  obtain ⟨b1, o1, rfl, z1, hz1, h1⟩ := ho q hq
  obtain ⟨b2, o2, R, rfl, h2, hr⟩ := hA z1 hz1
  obtain ⟨z2, hz2, h3⟩ := hr s hs
  obtain ⟨b4, o4, rfl, z4, hz4, h4⟩ := hc z2 hz2
  clear hA hr hc ho
  go_enter Tryz.func146, Tryz.ntmps146
  go_upto_region 1 with fail
  go_region
  go_wp2_with fail
  go_ret
  exact ⟨⟨z4, hz4, rfl⟩, (Below.refl _ _).drew⟩
end Go.Proofs.YtghlodpbbghcoaaGreatDoor

/- Keys of classes: 96 small numbers. -/
namespace Go.Proofs.YtghlodpbbghcoaaGreatDoor
open Go.RowKit Go.Maps
def keyV (f : Nat → Nat) : Array Value := (Array.range 96).map fun k => .int .u16 ((f k : Nat) : Int)
theorem keyV_size (f : Nat → Nat) : (keyV f).size = 96 := by simp [keyV]
theorem keyV_get (f : Nat → Nat) {k : Nat} (h : k < 96) : (keyV f)[k]? = some (.int .u16 ((f k : Nat) : Int)) := by
  unfold keyV
  rw [Array.getElem?_map, Array.getElem?_range, if_pos h]
  rfl
theorem keyV_set (f : Nat → Nat) {i : Nat} (x : Nat) : (keyV f).setIfInBounds i (.int .u16 (x : Int)) = keyV (upd f i x) := by
  apply Array.ext_getElem?
  intro k
  rw [Array.getElem?_setIfInBounds]
  by_cases hk : k < 96
  · rw [keyV_get _ hk, keyV_get _ hk]
    by_cases e : i = k
    · subst e
      rw [if_pos rfl, if_pos (by rw [keyV_size]; exact hk)]
      simp [upd]
    · rw [if_neg e]
      have : k ≠ i := fun h => e h.symm
      simp [upd, this]
  · rw [Array.getElem?_eq_none (by rw [keyV_size]; omega), Array.getElem?_eq_none (by rw [keyV_size]; omega)]
    split
    · rw [if_neg (by rw [keyV_size]; omega)]
    · rfl
theorem law225 : Keyed Tryz.prog 225 := Keyed.of_law (deep_law_laid Tryz.laidOut (m := 2) (by omega) (of_decide_eq_true (by kernel_rfl)) (by kernel_rfl) (by rw [Tryz.underlying225]))
theorem key225 (f : Nat → Nat) (hf : ∀ i, i < 96 → f i < 65536) : ∃ l, keyOf Tryz.prog 225 (.agg (keyV f)) = some l := by
  refine arr_key (d := 254) Tryz.underlying225 Tryz.underlying223 (by kernel_rfl) (by kernel_rfl) (by kernel_rfl) (by kernel_rfl) (keyV f) (keyV_size f) (by simp [Value.formed, Tryz.underlying225, show Tryz.prog.cellsOf 225 = 96 by kernel_rfl, keyV_size]) ?_
  intro i hi
  have := hf i hi
  exact ⟨_, keyV_get f hi, by simp [Lit.wf, IntKind.min, IntKind.max, IntKind.signed, IntKind.bits]; omega⟩
end Go.Proofs.YtghlodpbbghcoaaGreatDoor
