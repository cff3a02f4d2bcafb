/- classes of package dfa: walked. -/
import Derived.Test.YtghlodpbbghcoaaGreatDoorEG
import Derived.Test.YtghlodpbbghcoaaGreatDoorZA
namespace Go.Proofs.YtghlodpbbghcoaaGreatDoor
open Go.RowKit Go.Maps
/-- n numbers, as they are made and stored. -/
def numsN (n : Nat) (f : Nat → Nat) : Array Value := (Array.range n).map fun j => .int .i64 ((f j : Nat) : Int)
theorem numsN_size (n : Nat) (f : Nat → Nat) : (numsN n f).size = n := by simp [numsN]
theorem numsN_get {n : Nat} (f : Nat → Nat) {k : Nat} (h : k < n) : (numsN n f)[k]? = some (.int .i64 ((f k : Nat) : Int)) := by
  unfold numsN
  rw [Array.getElem?_map, Array.getElem?_range, if_pos h]
  rfl
theorem numsN_set (n : Nat) (f : Nat → Nat) (i x : Nat) : (numsN n f).setIfInBounds i (.int .i64 (x : Int)) = numsN n (upd f i x) := by
  apply Array.ext_getElem?
  intro k
  rw [Array.getElem?_setIfInBounds]
  by_cases hk : k < n
  · rw [numsN_get _ hk, numsN_get _ hk]
    by_cases e : i = k
    · subst e
      rw [if_pos rfl, if_pos (by rw [numsN_size]; exact hk)]
      simp [upd]
    · rw [if_neg e]
      have : k ≠ i := fun h => e h.symm
      simp [upd, this]
  · rw [Array.getElem?_eq_none (by rw [numsN_size]; omega), Array.getElem?_eq_none (by rw [numsN_size]; omega)]
    split
    · rw [if_neg (by rw [numsN_size]; omega)]
    · rfl
theorem makeN (n : Nat) (hn : 0 < n) (hn5 : n ≤ 1000) (w : World) : (Instr.makeSlice 168 (.int .i64 (n : Int)) (.int .i64 (n : Int))).run Tryz.prog w = .ok (.slice (some ⟨w.heap.size, 0, none⟩) n n) (w.alloc (.cells (numsN n fun _ => 0) 3)) := by
  obtain ⟨i, hi, hz, hs, hb⟩ := info_parts Rx.info3
  have h := run_make (P := Tryz.prog) (w := w) 168 3 i _ Tryz.underlying168 hi hz .i64 .i64 (n : Int) (n : Int) (by omega) (by omega) (by rw [hb]; omega) (by omega)
  rw [h, hs]
  have e : madeCells (Value.int .i64 0).cells ((n : Int).toNat * 1) = numsN n fun _ => 0 := by
    apply Array.ext_getElem?
    intro k
    by_cases hk : k < n
    · rw [numsN_get _ hk]
      unfold madeCells
      rw [Array.getElem?_map, Array.getElem?_range, if_pos (by simp; omega)]
      simp [Value.cells, Nat.mod_one]
    · rw [Array.getElem?_eq_none (by rw [size_madeCells]; simp; omega), Array.getElem?_eq_none (by rw [numsN_size]; omega)]
  rw [e]
  rfl
/-- n truths, to be read. -/
def BoolsAt (w : World) (A : Option Addr) (n : Nat) : Prop := ∀ q, q < n → ∃ b o, A = some ⟨b, o, none⟩ ∧ ∃ v, w.cell? ⟨b, o + q, none⟩ = some (.bool v)
theorem BoolsAt.below {w w' : World} {A : Option Addr} {n : Nat} (h : BoolsAt w A n) (hb : Below w.heap.size w w') : BoolsAt w' A n := fun q hq => by
  obtain ⟨b, o, e, v, hv⟩ := h q hq
  obtain ⟨x, hx⟩ := blk_of_cell hv
  exact ⟨b, o, e, v, (hb.cell (p := ⟨b, o + q, none⟩) (blk_lt hx)).trans hv⟩
theorem NumsAt.below {w w' : World} {A : Option Addr} {n m : Nat} (h : NumsAt w A n m) (hb : Below w.heap.size w w') : NumsAt w' A n m := fun q hq => by
  obtain ⟨b, o, e, z, hz, hv⟩ := h q hq
  obtain ⟨x, hx⟩ := blk_of_cell hv
  exact ⟨b, o, e, z, hz, (hb.cell (p := ⟨b, o + q, none⟩) (blk_lt hx)).trans hv⟩
theorem NextAt.below {w w' : World} {A : Option Addr} {n m : Nat} (h : NextAt w A n m) (hb : Below w.heap.size w w') : NextAt w' A n m := fun q hq => by
  obtain ⟨b, o, R, e, hv, hr⟩ := h q hq
  obtain ⟨x, hx⟩ := blk_of_cell hv
  refine ⟨b, o, R, e, (hb.cell (p := ⟨b, o + q, none⟩) (blk_lt hx)).trans hv, fun j hj => ?_⟩
  obtain ⟨z, hz, hc⟩ := hr j hj
  obtain ⟨y, hy⟩ := blk_of_cell hc
  exact ⟨z, hz, (hb.cell (p := ⟨R, j, none⟩) (blk_lt hy)).trans hc⟩
theorem NumsAt.of_blk {w : World} {C n m : Nat} {f : Nat → Nat} (h : w.heap[C]? = some (.cells (numsN n f) 3 (0, 0))) (hf : ∀ q, q < n → f q < m) : NumsAt w (some ⟨C, 0, none⟩) n m := fun q hq =>
  ⟨C, 0, rfl, f q, hf q hq, by rw [Nat.zero_add, blk_cell h q, numsN_get f hq]⟩
theorem key_build (x : Nat) (w : World) : (Instr.build 225 #[(0, .int .u16 (x : Int))]).run Tryz.prog w = .ok (.agg (keyV (upd (fun _ => 0) 0 x))) w := by
  obtain ⟨i, hi, hz, hz1, hz2⟩ := info_parts made225
  refine run_build w 225 _ _ ?_
  have h3 : (Tryz.prog.info? 223).map (·.size) = some 1 := by kernel_rfl
  cases hq : Tryz.prog.info? 223 with
  | none => rw [hq] at h3; cases h3
  | some j =>
    have hj : j.size = 1 := by rw [hq] at h3; simpa using h3
    unfold Program.built
    simp only [hi, hz, Tryz.underlying225, hq, hj]
    have := keyV_set (fun _ => 0) (i := 0) x
    simp only [Instr.fill, Value.cells, Nat.mul_one]
    rw [← this]
    simp [keyV_size]
theorem key_there {w : World} {E : Nat} {f : Nat → Nat} (h : w.heap[E]? = some (.cells (keyV f) 225 (0, 0))) : w.there E 0 96 := by
  intro j hj
  rw [Nat.zero_add]
  refine ⟨?_, blk_frozen h j⟩
  rw [blk_cell h j, keyV_get f hj]
  rfl
theorem key_stored {w : World} {E : Nat} {f : Nat → Nat} (h : w.heap[E]? = some (.cells (keyV f) 225 (0, 0))) (cs : Array Value) (hs : cs.size = 96) : (w.setCells E 0 cs.toList).heap[E]? = some (.cells cs 225 (0, 0)) := by
  have := Rx.blk_setCellsAll cs.toList (keyV f).toList [] w (by rw [Array.length_toList, Array.length_toList, keyV_size, hs]) (by simpa using h)
  simpa using this
theorem keyV_one (f : Nat → Nat) : (keyV f).all (·.oneCell') = true := by
  rw [Array.all_eq_true_iff_forall_mem]
  intro v hv
  simp only [keyV, Array.mem_map] at hv
  obtain ⟨k, _, rfl⟩ := hv
  rfl
theorem u16_wrap (x : Nat) (h : x < 65536) : IntKind.u16.wrap (x : Int) = (x : Int) := by
  simp [IntKind.wrap, IntKind.signed, IntKind.bits]
  omega

set_option maxRecDepth 8192 in
set_option maxHeartbeats 6400000 in
theorem classes145_any (n cn cf : Nat) (An Af : Option Addr) (w : World) (hn : 0 < n) (hn5 : n ≤ 500) (hA : NextAt w An n n) (hF : BoolsAt w Af n) :
    Calls Tryz.prog 145 #[.slice An n cn, .slice Af n cf] w fun e w' => (∃ (C : Nat) (f : Nat → Nat), e = .returned (.slice (some ⟨C, 0, none⟩) n n) ∧ w.heap.size ≤ C ∧ w'.heap[C]? = some (.cells (numsN n f) 3 (0, 0)) ∧ ∀ q, q < n → f q < n) ∧ Below w.heap.size w w' := by
  have hmk := makeN n hn (by omega)
  have HA := Lib.hid hA
  have HF := Lib.hid hF
  clear hA hF
  go_enter Tryz.func145, Tryz.ntmps145
  go_upto_region 2 with fail
  obtain ⟨w1, hw1⟩ : ∃ w1, w1 = w.alloc (.cells (numsN n fun _ => 0) 3) := ⟨_, rfl⟩
  have g0 : Hid (w1.heap[w.heap.size]? = some (.cells (numsN n fun _ => 0) 3 (0, 0))) := by subst hw1; exact blk_new _ _
  have hB1 : Hid (Below w.heap.size w w1) := by subst hw1; exact (Below.refl _ _).alloc (Nat.le_refl _) _
  rw [← hw1]
  clear hw1
  go_wp2_with fail
  go_loopw [21] (fun s21 wr => ∃ (k : Nat) (f : Nat → Nat), s21 = .int .i64 k ∧ k ≤ n ∧ Hid (∀ j, f j < 2) ∧ Hid (wr.heap[w.heap.size]? = some (.cells (numsN n f) 3 (0, 0))) ∧ Hid (Below w.heap.size w wr)) (fun s21 _ => n - (intOf s21).toNat)
  case atStart => exact ⟨0, fun _ => 0, rfl, by omega, fun _ => (by show 0 < 2; decide), g0, hB1⟩
  case round =>
    clear g0 hB1
    obtain ⟨k, f, rfl, hk, hf, hC, hB⟩ := hrel
    by_cases hlt : k < n
    · obtain ⟨b, o, rfl, v, hv⟩ := (HF.out.below hB.out) k hlt
      have r0 : wr.cell? ⟨w.heap.size, k, none⟩ = some (.int .i64 ((f k : Nat) : Int)) := (blk_cell hC.out k).trans (numsN_get f hlt)
      have q0 : wr.frozen? ⟨w.heap.size, k, none⟩ = false := blk_frozen hC.out k
      have i1 : (k : Int) < (n : Int) := by omega
      clear hmk
      cases v with
      | true =>
        go_wp2_with fail
        go_roundw
        case rel =>
          refine ⟨k + 1, upd f k 1, by go_num, by omega, fun j => ?_, ?_, hB.out.setCell (p := ⟨w.heap.size, k, none⟩) (Nat.le_refl _) _⟩
          · unfold upd
            split
            · decide
            · exact hf.out j
          · have := blk_set_self hC.out k (.int .i64 ((1 : Nat) : Int))
            rwa [numsN_set] at this
        case measure => simp [intOf]; omega
      | false =>
        go_wp2_with fail
        go_roundw
        case rel => exact ⟨k + 1, f, by go_num, by omega, hf, hC, hB⟩
        case measure => simp [intOf]; omega
    · have hkn : k = n := by omega
      subst hkn
      go_wp2_with fail
      go_loopw [5, 8] (fun s5 s8 wr => ∃ (C count : Nat) (f : Nat → Nat), s5 = .slice (some ⟨C, 0, none⟩) k k ∧ s8 = .int .i64 count ∧ count ≤ k ∧ Hid (∀ j, j < k → f j < 1000) ∧ Hid (count = 0 ∨ ∀ j, j < count → ∃ q, q < k ∧ f q = j) ∧ Hid (w.heap.size ≤ C) ∧ Hid (wr.heap[C]? = some (.cells (numsN k f) 3 (0, 0))) ∧ Hid (Below w.heap.size w wr)) (fun _ s8 _ => k + 1 - (intOf s8).toNat)
      case atStart => exact ⟨w.heap.size, 0, f, rfl, rfl, by omega, fun j _ => by have := hf.out j; omega, .inl rfl, Nat.le_refl _, hC, hB⟩
      case round =>
        clear hf hC hB
        obtain ⟨C, count, f, rfl, rfl, hcn, hf, hcov, hCl, hC, hB⟩ := hrel
        obtain ⟨wo, rfl⟩ : ∃ wo : World, wo = wr := ⟨_, rfl⟩
        have hCs : Hid (C < wo.heap.size) := blk_lt hC.out
        have hBs := Lib.hid hB.out.size
        go_upto_region 11 with (go_at_call 153; refine (meet153_any wo).mono ?_; rintro e w2 ⟨⟨M, rfl, hm2⟩, hb2⟩; have Hm2 := Lib.hid hm2; have Hb2 := Lib.hid hb2; clear hm2 hb2)
        obtain ⟨F, hF⟩ : ∃ F, F = w2.heap.size := ⟨_, rfl⟩
        have k1 : Hid (MetKey (w2.alloc (.cells (numsN k fun _ => 0) 3)) M (fun g => wo.heap.size ≤ g ∧ g < w2.heap.size) []) := Hm2.out.alloc _
        have k2 : Hid ((w2.alloc (.cells (numsN k fun _ => 0) 3)).heap[w2.heap.size]? = some (.cells (numsN k fun _ => 0) 3 (0, 0))) := blk_new _ _
        have k3 : Hid (Below wo.heap.size wo (w2.alloc (.cells (numsN k fun _ => 0) 3))) := Hb2.out.alloc Hb2.out.size _
        have k4 : Hid (w2.heap.size < (w2.alloc (.cells (numsN k fun _ => 0) 3)).heap.size) := Lib.hid (by simp)
        have k5 : Hid (wo.heap.size ≤ F) := Lib.hid (by rw [hF]; exact Hb2.out.size)
        rw [← hF] at k1 k2 k4 ⊢
        generalize w2.alloc (.cells (numsN k fun _ => 0) 3) = w3 at k1 k2 k3 k4 ⊢
        clear hF Hm2 Hb2
        clear w2
        go_wp2_with fail
        go_loopw [37] (fun s37 wr => ∃ (q : Nat) (l : List (Array Value)) (O : Nat → Prop) (g : Nat → Nat), s37 = .int .i64 q ∧ q ≤ k ∧ l.length ≤ q ∧ Hid (MetKey wr M O l) ∧ Hid (∀ h, O h → wo.heap.size ≤ h ∧ h ≠ F ∧ h < wr.heap.size) ∧ Hid (wr.heap[F]? = some (.cells (numsN k g) 3 (0, 0))) ∧
          Hid (∀ q', q' < q → ∃ cs, l[g q']? = some cs ∧ cs[0]? = some (.int .u16 ((f q' : Nat) : Int))) ∧ Hid (∀ j, j < l.length → ∃ q', q' < q ∧ g q' = j) ∧ Hid (Below wo.heap.size wo wr)) (fun s37 _ => k - (intOf s37).toNat)
        case atStart => exact ⟨0, [], _, fun _ => 0, rfl, by omega, by simp, k1, fun h hh => ⟨hh.1, by omega, by have := k4.out; omega⟩, k2, fun q' h => absurd h (by omega), fun j h => absurd h (by simp), k3⟩
        case round =>
          clear k1 k2 k3 k4
          obtain ⟨q, l, O, g, rfl, hq, hlq, hm, hO, hFb, hkey, hcv, hbo⟩ := hrel
          by_cases hqn : q < k
          · obtain ⟨b, o, R, rfl, hv, hr⟩ := HA.out q hqn
            obtain ⟨x1, hx1⟩ := blk_of_cell hv
            have hB2 : Below w.heap.size w wr := hB.out.trans (hbo.out.mono hBs.out)
            have x0 : wr.cell? ⟨b, o + q, none⟩ = some (.slice (some ⟨R, 0, none⟩) 95 95) := (hB2.cell (p := ⟨b, o + q, none⟩) (blk_lt hx1)).trans hv
            have hC2 : Hid (wr.heap[C]? = some (.cells (numsN k f) 3 (0, 0))) := (hbo.out.block C hCs.out).trans hC.out
            have r1 : wr.cell? ⟨C, q, none⟩ = some (.int .i64 ((f q : Nat) : Int)) := (blk_cell hC2.out q).trans (numsN_get f hqn)
            have hfq := hf.out q hqn
            have hw := u16_wrap (f q) (by omega)
            obtain ⟨cz, hcz⟩ : ∃ cz, cz = Tryz.zeroCells225.setIfInBounds 0 (.int .u16 ((f q : Nat) : Int)) := ⟨_, rfl⟩
            have hzz : Tryz.zeroCells225 = keyV fun _ => 0 := by kernel_rfl
            have hck : cz = keyV (upd (fun _ => 0) 0 (f q)) := by rw [hcz, hzz, keyV_set]
            have hczs : cz.size = 96 := by rw [hck]; exact keyV_size _
            have hi := Lib.hid (info225 hczs)
            have h1 : Hid (cz.all (·.oneCell') = true) := by rw [hck]; exact keyV_one _
            have hE0 : (wr.alloc (.cells Tryz.zeroCells225 225)).heap[wr.heap.size]? = some (.cells (keyV fun _ => 0) 225 (0, 0)) := by rw [hzz]; exact blk_new _ _
            have hth : Hid ((wr.alloc (.cells Tryz.zeroCells225 225)).there wr.heap.size 0 cz.size) := by rw [hczs]; exact key_there hE0
            have HE := Lib.hid (key_stored hE0 cz hczs)
            have Hb4 := Lib.hid (Rx.below_setCells (Nat.le_refl _) cz.toList _ 0 ((Below.refl wr.heap.size wr).alloc (Nat.le_refl _) (.cells Tryz.zeroCells225 225)))
            have hs4 : Hid (((wr.alloc (.cells Tryz.zeroCells225 225)).setCells wr.heap.size 0 cz.toList).heap.size = wr.heap.size + 1) := Lib.hid (by rw [setCells_size]; simp)
            replace HE := Lib.hid (HE.out.trans (congrArg (fun c => some (Obj.cells c 225 (0, 0))) hck))
            rw [hcz] at hi h1 hth HE Hb4 hs4
            have Hr := Lib.hid hr
            have i1 : (q : Int) < (k : Int) := by omega
            have HB2 := Lib.hid hB2
            clear hr hv hx1 hmk hE0 hzz hczs hck hcz hB2
            clear cz
            go_upto_region 15 with ((with_reducible show wpList _ _ _ (⟨none, _, _, _, _, _⟩ :: _) _ _); refine wpList_store_mid rfl 225 _ _ rfl wr.heap.size 0 _ rfl rfl hth.out hi.out h1.out ?_)
            generalize (wr.alloc (.cells Tryz.zeroCells225 225)).setCells wr.heap.size 0 (Tryz.zeroCells225.setIfInBounds 0 (.int .u16 ((f q : Nat) : Int))).toList = w4 at HE Hb4 hs4 ⊢
            obtain ⟨E, hE⟩ : ∃ E, E = wr.heap.size := ⟨_, rfl⟩
            rw [← hE] at HE hs4 ⊢
            have HEe := Lib.hid hE
            obtain ⟨wq, rfl⟩ : ∃ wq : World, wq = wr := ⟨_, rfl⟩
            clear hE x0 r1 hi h1 hth hw
            go_wp2_with fail
            go_loopw [50] (fun s50 wx => ∃ (s : Nat) (fk : Nat → Nat), s50 = .int .i64 s ∧ s ≤ 95 ∧ Hid (wx.heap[E]? = some (.cells (keyV fk) 225 (0, 0))) ∧ Hid (∀ i, i < 96 → fk i < 1000) ∧ Hid (fk 0 = f q) ∧ Hid (Rx.Keep E w4 wx)) (fun s50 _ => 95 - (intOf s50).toNat)
            case atStart => exact ⟨0, _, rfl, by omega, HE, fun i hi => by show (if i = 0 then f q else 0) < 1000; split <;> omega, by show upd _ 0 (f q) 0 = f q; simp [upd], Rx.Keep.refl _ _⟩
            case round =>
              obtain ⟨s, fk, rfl, hs, hEb, hfk, hfk0, hKp⟩ := hrel
              have hbx : Below wq.heap.size wq wr := ⟨hKp.out.os.trans Hb4.out.os, hKp.out.tape.trans Hb4.out.tape, hKp.out.output.trans Hb4.out.output, Nat.le_trans Hb4.out.size hKp.out.size, fun h hh => (hKp.out.block h (by have := hs4.out; have := HEe.out; omega) (by have := HEe.out; omega)).trans (Hb4.out.block h hh)⟩
              have Hbx := Lib.hid hbx
              have HBx : Hid (Below w.heap.size w wr) := HB2.out.trans (hbx.mono HB2.out.size)
              clear hbx
              by_cases hs95 : s < 95
              · obtain ⟨z, hz, hzc⟩ := Hr.out s hs95
                obtain ⟨y1, hy1⟩ := blk_of_cell hzc
                have x0 : wr.cell? ⟨R, s, none⟩ = some (.int .i64 (z : Int)) := (HBx.out.cell (p := ⟨R, s, none⟩) (blk_lt hy1)).trans hzc
                have hCx : Hid (wr.heap[C]? = some (.cells (numsN k f) 3 (0, 0))) := (Hbx.out.block C (by have := blk_lt hC2.out; exact this)).trans hC2.out
                have r1 : wr.cell? ⟨C, z, none⟩ = some (.int .i64 ((f z : Nat) : Int)) := (blk_cell hCx.out z).trans (numsN_get f hz)
                have hfz := hf.out z hz
                have hw := u16_wrap (f z) (by omega)
                have r2 : wr.cell? ⟨E, 1 + s, none⟩ = some (.int .u16 ((fk (1 + s) : Nat) : Int)) := (blk_cell hEb.out (1 + s)).trans (keyV_get fk (by omega))
                have q2 : wr.frozen? ⟨E, 1 + s, none⟩ = false := blk_frozen hEb.out (1 + s)
                have i2 : (s : Int) < 95 := by omega
                have i3 : (z : Int) < (k : Int) := by omega
                clear hzc hy1
                go_wp2_with fail
                go_roundw
                case rel =>
                  refine ⟨s + 1, upd fk (1 + s) (f z), by go_num, by omega, ?_, fun i hi => ?_, ?_, hKp.out.set (1 + s) _⟩
                  · have := blk_set_self hEb.out (1 + s) (.int .u16 ((f z : Nat) : Int))
                    rwa [keyV_set] at this
                  · have := hfk.out i hi
                    show (if i = 1 + s then f z else fk i) < 1000
                    split <;> omega
                  · show (if 0 = 1 + s then f z else fk 0) = f q
                    rw [if_neg (by omega)]
                    exact hfk0.out
                case measure => simp [intOf]; omega
              · have hs9 : s = 95 := by omega
                subst hs9
                obtain ⟨cs, hcs⟩ : ∃ cs, cs = keyV fk := ⟨_, rfl⟩
                have hok : Hid (KeyOk cs) := ⟨fk, hcs, fun i hi => by have := hfk.out i hi; omega⟩
                have hcs0 : Hid (cs[0]? = some (.int .u16 ((f q : Nat) : Int))) := by show _ = _; rw [hcs, keyV_get fk (by decide), hfk0.out]
                have hbE : Hid (wr.heap[E]? = some (.cells cs 225 (0, 0))) := by rw [hcs]; exact hEb.out
                have hi := Lib.hid (info225 hok.out.size)
                have hmw : MetKey wr M O l := hm.out.keep (fun h hh => Hbx.out.block h (hO.out h hh).2.2) (fun _ hh => hh)
                have HC := Lib.hid (add154_any M cs O l wr hok.out (by omega) hmw)
                have hFw : Hid (wr.heap[F]? = some (.cells (numsN k g) 3 (0, 0))) := (Hbx.out.block F (blk_lt hFb.out)).trans hFb.out
                have i4 : (q : Int) < (k : Int) := by omega
                clear hmw hcs hEb hfk hfk0 HE
                go_wp2_with (first
                  | ((with_reducible show wpList _ _ _ (⟨some 67, _, _, _, _, _⟩ :: _) _ _); refine wpList_load_row rfl 225 _ rfl E rfl 225 cs (0, 0) _ hbE.out Tryz.underlying225 rfl hi.out ?_)
                  | (go_at_call 154; refine HC.out.mono ?_; rintro e w6 ⟨⟨l', j, rfl, hko, hm6⟩, hk6⟩
                     have hF6 : w6.heap[F]? = some (.cells (numsN k g) 3 (0, 0)) := (hk6.block F (blk_lt hFw.out) (fun e => (hO.out F e).2.1 rfl)).trans hFw.out
                     have r6 : w6.cell? ⟨F, q, none⟩ = some (.int .i64 ((g q : Nat) : Int)) := (blk_cell hF6 q).trans (numsN_get g hqn)
                     have q6 : w6.frozen? ⟨F, q, none⟩ = false := blk_frozen hF6 q
                     have Hko := Lib.hid hko
                     have Hm6 := Lib.hid hm6
                     have Hk6 := Lib.hid hk6
                     have HF6 := Lib.hid hF6
                     clear hko hm6 hk6 hF6))
                go_roundw
                case rel =>
                  have hFl := blk_lt hFw.out
                  have e6 := Hk6.out.size
                  have ex := Hbx.out.size
                  have hwo : wo.heap.size ≤ wq.heap.size := hbo.out.size
                  have hO' : ∀ h, (O h ∨ (wr.heap.size ≤ h ∧ h < w6.heap.size)) → wo.heap.size ≤ h ∧ h ≠ F ∧ h < w6.heap.size := fun h hh => by
                    rcases hh with hh | hh
                    · have := hO.out h hh
                      omega
                    · omega
                  refine ⟨q + 1, l', fun h => O h ∨ (wr.heap.size ≤ h ∧ h < w6.heap.size), upd g q j, by go_num, by omega, ?_, ?_, ?_, ?_, ?_, ?_, ?_⟩
                  · rcases Hko.out.2 with h | ⟨h, _⟩
                    · rw [h]; omega
                    · rw [h]; simp; omega
                  · exact Hm6.out.keep (fun h hh => Below.heap_setCell w6 ⟨F, q, none⟩ _ h (hO' h hh).2.1) (fun _ hh => hh)
                  · intro h hh
                    have := hO' h hh
                    simpa using this
                  · have := blk_set_self HF6.out q (.int .i64 ((j : Nat) : Int))
                    rwa [numsN_set] at this
                  · intro q' hq'
                    by_cases e : q' = q
                    · subst e
                      exact ⟨cs, by show l'[if q' = q' then j else g q']? = _; rw [if_pos rfl]; exact Hko.out.1, hcs0.out⟩
                    · obtain ⟨cs', h1, h2⟩ := hkey.out q' (by omega)
                      refine ⟨cs', ?_, h2⟩
                      show l'[if q' = q then j else g q']? = _
                      rw [if_neg e]
                      rcases Hko.out.2 with h | ⟨h, _⟩
                      · rw [h]; exact h1
                      · rw [h, List.getElem?_append_left (List.getElem?_eq_some_iff.1 h1).1]; exact h1
                  · intro j' hj'
                    have hold : j' < l.length → ∃ q', q' < q + 1 ∧ upd g q j q' = j' := fun hl => by
                      obtain ⟨q', h1, h2⟩ := hcv.out j' hl
                      exact ⟨q', by omega, by show (if q' = q then j else g q') = j'; rw [if_neg (by omega)]; exact h2⟩
                    rcases Hko.out.2 with h | ⟨h, hj⟩
                    · rw [h] at hj'
                      exact hold hj'
                    · rw [h] at hj'
                      simp only [List.length_append, List.length_cons, List.length_nil] at hj'
                      by_cases e : j' < l.length
                      · exact hold e
                      · exact ⟨q, by omega, by show (if q = q then j else g q) = j'; rw [if_pos rfl]; omega⟩
                  · have hkb : Below wo.heap.size wo w6 := ⟨Hk6.out.os.trans (Hbx.out.os.trans hbo.out.os), Hk6.out.tape.trans (Hbx.out.tape.trans hbo.out.tape), Hk6.out.output.trans (Hbx.out.output.trans hbo.out.output), by omega, fun h hh =>
                      (Hk6.out.block h (by omega) (fun e => by have := (hO.out h e).1; omega)).trans ((Hbx.out.block h (by omega)).trans (hbo.out.block h hh))⟩
                    exact hkb.setCell (p := ⟨F, q, none⟩) k5.out _
                case measure => simp [intOf]; omega
          · have hqk : q = k := by omega
            subst hqk
            obtain ⟨A, c, cM, hMl⟩ := hm.out.len
            have hcl := classes_le f g q count l.length hcov.out (fun q' hq' => by
              obtain ⟨cs, h1, _⟩ := hkey.out q' hq'
              exact (List.getElem?_eq_some_iff.1 h1).1) (fun q' q'' h1 h2 e => by
              obtain ⟨c1, a1, b1⟩ := hkey.out q' h1
              obtain ⟨c2, a2, b2⟩ := hkey.out q'' h2
              rw [e] at a1
              have e2 : c1 = c2 := Option.some.inj (a1.symm.trans a2)
              rw [e2] at b1
              have := b1.symm.trans b2
              simp at this
              omega)
            have hglt : Hid (∀ q', q' < q → g q' < l.length) := fun q' hq' => by
              obtain ⟨cs, h1, _⟩ := hkey.out q' hq'
              exact (List.getElem?_eq_some_iff.1 h1).1
            have hB3 : Hid (Below w.heap.size w wr) := hB.out.trans (hbo.out.mono hBs.out)
            clear hmk
            by_cases hlc : (l.length : Int) = (count : Int)
            · go_wp2_with fail
              go_ret
              exact ⟨⟨F, g, rfl, by have := k5.out; have := hBs.out; omega, hFb.out, fun q' hq' => by have := hglt.out q' hq'; omega⟩, hB3.out⟩
            · go_upto_region 24 with fail
              go_region
              go_wp2_with fail
              go_roundw
              case rel => exact ⟨F, l.length, g, rfl, rfl, hlq, fun j hj => by have := hglt.out j hj; omega, .inr hcv.out, by have := k5.out; have := hBs.out; show _ ≤ _; omega, hFb.out, hB3.out.drew⟩
              case measure => simp [intOf]; omega
end Go.Proofs.YtghlodpbbghcoaaGreatDoor

/- form of package dfa: walked. -/
namespace Go.Proofs.YtghlodpbbghcoaaGreatDoor
open Go.RowKit Go.Maps
theorem made4 : (Tryz.prog.info? 4).map (fun i => (i.zero, i.size, i.bytes)) = some (some (.bool false), 1, 1) := by kernel_rfl
theorem info138 : (Tryz.prog.info? 138).map (·.size) = some 2 := by kernel_rfl
theorem make51 (n : Nat) (hn : 0 < n) (hn5 : n ≤ 1000) (w : World) : (Instr.makeSlice 51 (.int .i64 (n : Int)) (.int .i64 (n : Int))).run Tryz.prog w = .ok (.slice (some ⟨w.heap.size, 0, none⟩) n n) (w.alloc (.cells (Rx.bcells (List.replicate n false)) 4)) := by
  obtain ⟨i, hi, hz, hs, hb⟩ := info_parts made4
  have h := run_make (P := Tryz.prog) (w := w) 51 4 i _ Tryz.underlying51 hi hz .i64 .i64 (n : Int) (n : Int) (by omega) (by omega) (by rw [hb]; omega) (by omega)
  rw [h, hs]
  have e : madeCells (Value.bool false).cells ((n : Int).toNat * 1) = Rx.bcells (List.replicate n false) := by
    apply Array.ext_getElem?
    intro k
    by_cases hk : k < n
    · rw [Rx.bcells_get (by simpa using hk)]
      unfold madeCells
      rw [Array.getElem?_map, Array.getElem?_range, if_pos (by simp; omega)]
      simp [Value.cells, Nat.mod_one, hk]
    · rw [Array.getElem?_eq_none (by rw [size_madeCells]; simp; omega), Array.getElem?_eq_none (by rw [Rx.bcells_size]; simp; omega)]
  rw [e]
  rfl
theorem BoolsAt.of_blk {w : World} {T n : Nat} {m : List Bool} (h : w.heap[T]? = some (.cells (Rx.bcells m) 4 (0, 0))) (hm : m.length = n) : BoolsAt w (some ⟨T, 0, none⟩) n := fun q hq =>
  ⟨T, 0, rfl, m.getD q false, by rw [Nat.zero_add, blk_cell h q, Rx.bcells_get (by omega)]⟩
theorem nextAt_rows {w : World} {A2 : Option Addr} {m c2 : Nat} {rows : List Value} {O : Nat → Prop} (hrow : w.ownsRow 0 168 1 (.slice A2 m c2) m rows) (hr : ∀ v ∈ rows, RowOk w O m v) : NextAt w A2 m m := fun q hq => by
  have hl := hrow.1
  have hq' : q < rows.length := by omega
  obtain ⟨b, o, e, _, hc⟩ := CellsAt.of_own hrow q hq'
  obtain ⟨R, f, hv, _, hb, hf⟩ := hr _ (List.getElem_mem hq')
  refine ⟨b, o, R, e, by rw [hc, hv], fun j hj => ⟨f j, hf j hj, ?_⟩⟩
  rw [blk_cell hb j]
  exact nums95_get f hj
theorem numsAt_own {w : World} {A : Option Addr} {m c B : Nat} {l : List Nat} (h : w.ownsRow 0 3 1 (.slice A m c) m (l.map fun q : Nat => Value.int .i64 (q : Int))) (hl : ∀ x ∈ l, x < B) : NumsAt w A m B := fun q hq => by
  have h1 := h.1
  have hq' : q < (l.map fun q : Nat => Value.int .i64 (q : Int)).length := by omega
  obtain ⟨b, o, e, _, hc⟩ := CellsAt.of_own h q hq'
  rw [List.length_map] at hq'
  exact ⟨b, o, e, l[q], hl _ (List.getElem_mem hq'), by rw [hc]; simp⟩
theorem below_keep {B b : Nat} {a w w' : World} (h : Below B a w) (hk : Rx.Keep b w w') (hb : B ≤ b) (ha : B ≤ a.heap.size) : Below B a w' :=
  ⟨hk.os.trans h.os, hk.tape.trans h.tape, hk.output.trans h.output, Nat.le_trans h.size hk.size, fun g hg => (hk.block g (by have := h.size; omega) (by omega)).trans (h.block g hg)⟩
/-- form's result: two slices. -/
def FormOut (w : World) (e : Ending) (w' : World) : Prop := (∃ (A : Option Addr) (n c : Nat) (A2 : Option Addr) (n2 c2 : Nat), e = .returned (.agg #[.slice A n c, .slice A2 n2 c2])) ∧ Below w.heap.size w w'

set_option maxRecDepth 8192 in
set_option maxHeartbeats 6400000 in
theorem form129_any (n cn cf : Nat) (An Af : Option Addr) (w : World) (hn : 0 < n) (hn5 : n ≤ 500) (hA : NextAt w An n n) (hF : BoolsAt w Af n) :
    Calls Tryz.prog 129 #[.slice An n cn, .slice Af n cf] w (FormOut w) := by
  have HA := Lib.hid hA
  have HF := Lib.hid hF
  clear hA hF
  go_enter Tryz.func129, Tryz.ntmps129
  go_upto_region 1 with fail
  obtain ⟨w1, hw1⟩ : ∃ w1, w1 = (w.alloc (.cells #[.slice An n cn] 136)).alloc (.cells #[.slice none 0 0, .slice none 0 0] 138) := ⟨_, rfl⟩
  have hP1 : Hid (w1.heap[w.heap.size]? = some (.cells #[.slice An n cn] 136 (0, 0))) := by subst hw1; exact blk_alloc (blk_new _ _) _
  have hQ1 : Hid (w1.heap[w.heap.size + 1]? = some (.cells #[.slice none 0 0, .slice none 0 0] 138 (0, 0))) := by subst hw1; exact blk_new' (by simp)
  have hB1 : Hid (Below w.heap.size w w1) := by subst hw1; exact ((Below.refl _ _).alloc (Nat.le_refl _) _).alloc (by simp) _
  have hs1 : Hid (w1.heap.size = w.heap.size + 2) := Lib.hid (by subst hw1; simp)
  rw [← hw1]
  clear hw1
  obtain ⟨P, hPe⟩ : ∃ P, P = w.heap.size := ⟨_, rfl⟩
  rw [← hPe] at hP1 hQ1 hs1 ⊢
  have HPe := Lib.hid hPe
  have hstep1 : ∀ (q s : Nat) (wr : World), Below w1.heap.size w1 wr → q < n → s < 95 → Calls Tryz.prog 144 #[.int .i64 q, .int .i64 s, .pointer (some ⟨P, 0, none⟩)] wr fun e w' => (∃ z : Nat, z < n ∧ e = .returned (.int .i64 z)) ∧ Below wr.heap.size wr w' := fun q s wr hb hq hs =>
    (form1_any q s n n P cn An wr hq hs (blk_cell (blk_below hP1.out hb (blk_lt hP1.out)) 0) ((HA.out.below hB1.out).below hb)).mono fun e w' ⟨h, h2⟩ => ⟨h, by subst h2; exact Below.refl _ _⟩
  have hwalk : Calls Tryz.prog 143 #[.int .i64 0, .func (.func 144) #[] #[.pointer (some ⟨P, 0, none⟩)], .int .i64 n] w1 fun e w' => WalkInts n w1 e w' ∧ Below w1.heap.size w1 w' := walk143_144 n n 0 P w1 hn5 (Nat.le_refl _) hn hstep1
  replace hwalk := Lib.hid hwalk
  have d0 : w1.cell? ⟨P, 0, none⟩ = some (.slice An n cn) := blk_cell hP1.out 0
  clear hPe hstep1
  go_upto_region 2 with (go_at_call 143; refine hwalk.out.mono ?_; rintro e w2 ⟨⟨l, A, c, A2, c2, rows, rfl, hl0, hln, hlx, hown, hAo, hrow, hA2o, hrows⟩, hb2⟩; have e0 : w2.cell? ⟨P, 0, none⟩ = some (.slice An n cn) := blk_cell (blk_below hP1.out hb2 (blk_lt hP1.out)) 0; have f0 : w2.frozen? ⟨P, 0, none⟩ = false := blk_frozen (blk_below hP1.out hb2 (blk_lt hP1.out)) 0; have Hlx := Lib.hid hlx; have Hown := Lib.hid hown; have HAo := Lib.hid hAo; have Hrow := Lib.hid hrow; have HA2o := Lib.hid hA2o; have Hrows := Lib.hid hrows; have Hb2 := Lib.hid hb2; clear hlx hown hAo hrow hA2o hrows hb2)
  clear d0 e0 f0
  obtain ⟨m, hm⟩ : ∃ m, m = l.length := ⟨_, rfl⟩
  rw [← hm] at hl0 hln Hown HAo Hrow HA2o Hrows ⊢
  have hml := Lib.hid hm
  clear hm
  have hP2 : Hid (w2.heap[P]? = some (.cells #[.slice An n cn] 136 (0, 0))) := blk_below hP1.out Hb2.out (blk_lt hP1.out)
  have hP3 : Hid ((w2.setCell ⟨P, 0, none⟩ (.slice A2 m c2)).heap[P]? = some (.cells #[.slice A2 m c2] 136 (0, 0))) := Lib.hid (by have := blk_set_self hP2.out 0 (.slice A2 m c2); simpa using this)
  have hPl : P < w1.heap.size := blk_lt hP1.out
  have hne : ∀ g, w1.heap.size ≤ g → (w2.setCell ⟨P, 0, none⟩ (.slice A2 m c2)).heap[g]? = w2.heap[g]? := fun g hg => Below.heap_setCell w2 ⟨P, 0, none⟩ _ g (by show g ≠ P; omega)
  have hNl : Hid (NumsAt (w2.setCell ⟨P, 0, none⟩ (.slice A2 m c2)) A m n) := numsAt_own (row_keep_own Hown.out (fun g hg => hne g (HAo.out g hg))) Hlx.out
  have hNx : Hid (NextAt (w2.setCell ⟨P, 0, none⟩ (.slice A2 m c2)) A2 m m) := nextAt_rows (row_keep_own Hrow.out (fun g hg => hne g (HA2o.out g hg))) (fun v hv => by
    obtain ⟨R, f, h1, h2, h3, h4⟩ := Hrows.out v hv
    exact ⟨R, f, h1, h2, (hne R h2).trans h3, h4⟩)
  have hB3 : Hid (Below w.heap.size w (w2.setCell ⟨P, 0, none⟩ (.slice A2 m c2))) := (hB1.out.trans (Hb2.out.mono hB1.out.size)).setCell (p := ⟨P, 0, none⟩) (by show _ ≤ P; have := HPe.out; omega) _
  have hQ3 : Hid ((w2.setCell ⟨P, 0, none⟩ (.slice A2 m c2)).heap[P + 1]? = some (.cells #[.slice none 0 0, .slice none 0 0] 138 (0, 0))) := blk_set (blk_below hQ1.out Hb2.out (blk_lt hQ1.out)) (by simp) _
  generalize w2.setCell ⟨P, 0, none⟩ (.slice A2 m c2) = w3 at hP3 hNl hNx hB3 hQ3 ⊢
  clear hP2 hne hPl Hown HAo Hrow HA2o Hrows Hlx Hb2 hwalk hP1 hQ1 hB1 hs1
  clear w2
  clear w1
  have hmk := make51 m hl0 (by omega)
  go_upto_region 3 with fail
  obtain ⟨T, hT⟩ : ∃ T, T = w3.heap.size := ⟨_, rfl⟩
  have k1 : Hid ((w3.alloc (.cells (Rx.bcells (List.replicate m false)) 4)).heap[w3.heap.size]? = some (.cells (Rx.bcells (List.replicate m false)) 4 (0, 0))) := blk_new _ _
  have k2 : Hid (Below w3.heap.size w3 (w3.alloc (.cells (Rx.bcells (List.replicate m false)) 4))) := (Below.refl _ _).alloc (Nat.le_refl _) _
  rw [← hT] at k1 ⊢
  generalize w3.alloc (.cells (Rx.bcells (List.replicate m false)) 4) = w4 at k1 k2 ⊢
  have HTe := Lib.hid hT
  clear hT hmk
  go_wp2_with fail
  go_loopw [32] (fun s32 wr => ∃ (k : Nat) (ms : List Bool), s32 = .int .i64 k ∧ k ≤ m ∧ Hid (ms.length = m) ∧ Hid (wr.heap[T]? = some (.cells (Rx.bcells ms) 4 (0, 0))) ∧ Hid (Below w3.heap.size w3 wr)) (fun s32 _ => m - (intOf s32).toNat)
  case atStart => exact ⟨0, _, rfl, by omega, Lib.hid (by simp), k1, k2⟩
  case round =>
    clear k1 k2
    obtain ⟨k, ms, rfl, hk, hms, hTb, hB⟩ := hrel
    by_cases hlt : k < m
    · obtain ⟨b, o, rfl, z, hz, hzc⟩ := (hNl.out.below hB.out) k hlt
      obtain ⟨b2, o2, rfl, v, hv⟩ := ((HF.out.below hB3.out).below hB.out) z hz
      have r0 : wr.cell? ⟨T, k, none⟩ = some (.bool (ms.getD k false)) := (blk_cell hTb.out k).trans (Rx.bcells_get (by rw [hms.out]; exact hlt))
      have q0 : wr.frozen? ⟨T, k, none⟩ = false := blk_frozen hTb.out k
      have i1 : (k : Int) < (m : Int) := by omega
      have i2 : (z : Int) < (n : Int) := by omega
      go_wp2_with fail
      go_roundw
      case rel =>
        refine ⟨k + 1, ms.set k v, by go_num, by omega, Lib.hid (by rw [List.length_set]; exact hms.out), ?_, hB.out.setCell (p := ⟨T, k, none⟩) (by have := HTe.out; show _ ≤ T; omega) _⟩
        have := blk_set_self hTb.out k (.bool v)
        rwa [Rx.bcells_set] at this
      case measure => simp [intOf]; omega
    · have hkm : k = m := by omega
      subst hkm
      obtain ⟨w5, rfl⟩ : ∃ w5 : World, w5 = wr := ⟨_, rfl⟩
      have hNx5 := Lib.hid (hNx.out.below hB.out)
      have hNl5 := Lib.hid (hNl.out.below hB.out)
      have hP5 : Hid (w5.heap[P]? = some (.cells #[.slice A2 k c2] 136 (0, 0))) := blk_below hP3.out hB.out (blk_lt hP3.out)
      have hQ5 : Hid (w5.heap[P + 1]? = some (.cells #[.slice none 0 0, .slice none 0 0] 138 (0, 0))) := blk_below hQ3.out hB.out (blk_lt hQ3.out)
      have hB5 : Hid (Below w.heap.size w w5) := hB3.out.trans (hB.out.mono hB3.out.size)
      have hTs5 := Lib.hid (BoolsAt.of_blk hTb.out hms.out)
      clear hNx hNl hP3 hQ3 hB3 hTb hB HTe HA HF hms
      have p0 : w5.cell? ⟨P, 0, none⟩ = some (.slice A2 k c2) := blk_cell hP5.out 0
      have hmk := makeN k hl0 (by omega)
      have hcl := Lib.hid (classes145_any k c2 k A2 (some ⟨T, 0, none⟩) w5 hl0 (by omega) hNx5.out hTs5.out)
      go_upto_region 10 with (go_at_call 145; refine hcl.out.mono ?_; rintro e w6 ⟨⟨C, f, rfl, hC5, hCb, hf⟩, hb6⟩; have HC5 := Lib.hid hC5; have HCb := Lib.hid hCb; have Hf := Lib.hid hf; have Hb6 := Lib.hid hb6; clear hC5 hCb hf hb6)
      obtain ⟨X, hX⟩ : ∃ X, X = w6.heap.size := ⟨_, rfl⟩
      obtain ⟨w7, hw7⟩ : ∃ w7, w7 = ((w6.alloc (.cells #[.slice (some ⟨C, 0, none⟩) k k] 168)).alloc (.cells (numsN k fun _ => 0) 3)).alloc (.cells #[.slice (some ⟨w6.heap.size + 1, 0, none⟩) k k] 168) := ⟨_, rfl⟩
      have kX : Hid (w7.heap[X]? = some (.cells #[.slice (some ⟨C, 0, none⟩) k k] 168 (0, 0))) := by rw [hw7, hX]; exact blk_alloc (blk_alloc (blk_new _ _) _) _
      have kG : Hid (w7.heap[X + 1]? = some (.cells (numsN k fun _ => 0) 3 (0, 0))) := by rw [hw7, hX]; exact blk_alloc (blk_new' (by simp)) _
      have kY : Hid (w7.heap[X + 1 + 1]? = some (.cells #[.slice (some ⟨X + 1, 0, none⟩) k k] 168 (0, 0))) := by rw [hw7, hX]; exact blk_new' (by simp)
      have kB : Hid (Below w6.heap.size w6 w7) := by rw [hw7]; exact (((Below.refl _ _).alloc (Nat.le_refl _) _).alloc (by simp) _).alloc (by simp; omega) _
      rw [← hw7]
      rw [← hX]
      have hB57 : Hid (Below w5.heap.size w5 w7) := Hb6.out.trans (kB.out.mono Hb6.out.size)
      have hX5 : Hid (w5.heap.size ≤ X) := Lib.hid (by rw [hX]; exact Hb6.out.size)
      have kC : Hid (w7.heap[C]? = some (.cells (numsN k f) 3 (0, 0))) := blk_below HCb.out kB.out (blk_lt HCb.out)
      have hCX : Hid (C < X) := Lib.hid (by rw [hX]; exact blk_lt HCb.out)
      clear hX hw7 hmk hcl p0 kB HCb Hb6
      have x0 : w7.cell? ⟨X, 0, none⟩ = some (.slice (some ⟨C, 0, none⟩) k k) := blk_cell kX.out 0
      go_wp2_with fail
      go_loopw [53] (fun s53 wr => ∃ (j : Nat) (h : Nat → Nat), s53 = .int .i64 j ∧ j ≤ k ∧ Hid (∀ i, h i < k) ∧ Hid (wr.heap[X + 1]? = some (.cells (numsN k h) 3 (0, 0))) ∧ Hid (Rx.Keep (X + 1) w7 wr)) (fun s53 _ => k - (intOf s53).toNat)
      case atStart => exact ⟨0, fun _ => 0, rfl, by omega, fun _ => hl0, kG, Rx.Keep.refl _ _⟩
      case round =>
        clear kG x0
        obtain ⟨j, h, rfl, hj, hh, hG, hKp⟩ := hrel
        have hXr : Hid (wr.heap[X]? = some (.cells #[.slice (some ⟨C, 0, none⟩) k k] 168 (0, 0))) := (hKp.out.block X (blk_lt kX.out) (by omega)).trans kX.out
        have hYr : Hid (wr.heap[X + 1 + 1]? = some (.cells #[.slice (some ⟨X + 1, 0, none⟩) k k] 168 (0, 0))) := (hKp.out.block (X + 1 + 1) (blk_lt kY.out) (by omega)).trans kY.out
        have hCr : Hid (wr.heap[C]? = some (.cells (numsN k f) 3 (0, 0))) := (hKp.out.block C (blk_lt kC.out) (by have := hCX.out; omega)).trans kC.out
        by_cases hjk : j < k
        · have hfj := Hf.out j hjk
          have y0 : wr.cell? ⟨X + 1 + 1, 0, none⟩ = some (.slice (some ⟨X + 1, 0, none⟩) k k) := blk_cell hYr.out 0
          have r1 : wr.cell? ⟨C, j, none⟩ = some (.int .i64 ((f j : Nat) : Int)) := (blk_cell hCr.out j).trans (numsN_get f hjk)
          have r0 : wr.cell? ⟨X + 1, f j, none⟩ = some (.int .i64 ((h (f j) : Nat) : Int)) := (blk_cell hG.out (f j)).trans (numsN_get h hfj)
          have q0 : wr.frozen? ⟨X + 1, f j, none⟩ = false := blk_frozen hG.out (f j)
          have i1 : (j : Int) < (k : Int) := by omega
          have i2 : ((f j : Nat) : Int) < (k : Int) := by omega
          go_wp2_with fail
          go_roundw
          case rel =>
            refine ⟨j + 1, upd h (f j) j, by go_num, by omega, fun i => ?_, ?_, hKp.out.set (f j) _⟩
            · show (if i = f j then j else h i) < k
              split
              · exact hjk
              · exact hh.out i
            · have := blk_set_self hG.out (f j) (.int .i64 ((j : Nat) : Int))
              rwa [numsN_set] at this
          case measure => simp [intOf]; omega
        · have hjk2 : j = k := by omega
          subst hjk2
          have hB5r : Hid (Below w5.heap.size w5 wr) := below_keep hB57.out hKp.out (by have := hX5.out; omega) (Nat.le_refl _)
          have hPr : Hid (wr.heap[P]? = some (.cells #[.slice A2 j c2] 136 (0, 0))) := blk_below hP5.out hB5r.out (blk_lt hP5.out)
          have hwalk2 : Hid (∀ wx, Below wr.heap.size wr wx → Calls Tryz.prog 143 #[.int .i64 ((f 0 : Nat) : Int), .func (.func 146) #[] #[.pointer (some ⟨X, 0, none⟩), .pointer (some ⟨P, 0, none⟩), .pointer (some ⟨X + 1 + 1, 0, none⟩)], .int .i64 (j : Int)] wx fun e w' => WalkInts j wx e w' ∧ Below wx.heap.size wx w') := fun wx hx =>
            walk143_146 j j (f 0) X P (X + 1 + 1) wx (by omega) (Nat.le_refl _) (Hf.out 0 hl0) (fun q s wy hy hq hs => by
              have hxy : Below wr.heap.size wr wy := hx.trans (hy.mono hx.size)
              exact form2_any q s j j X P (X + 1 + 1) j c2 j (some ⟨C, 0, none⟩) A2 (some ⟨X + 1, 0, none⟩) wy hq hs (blk_cell (blk_below hXr.out hxy (blk_lt hXr.out)) 0) (blk_cell (blk_below hPr.out hxy (blk_lt hPr.out)) 0) (blk_cell (blk_below hYr.out hxy (blk_lt hYr.out)) 0)
                ((NumsAt.of_blk hCr.out Hf.out).below hxy) ((hNx5.out.below hB5r.out).below hxy) ((NumsAt.of_blk hG.out (fun i _ => hh.out i)).below hxy))
          have x0 : wr.cell? ⟨X, 0, none⟩ = some (.slice (some ⟨C, 0, none⟩) j j) := blk_cell hXr.out 0
          have y0 : wr.cell? ⟨X + 1 + 1, 0, none⟩ = some (.slice (some ⟨X + 1, 0, none⟩) j j) := blk_cell hYr.out 0
          have c0 : wr.cell? ⟨C, 0, none⟩ = some (.int .i64 ((f 0 : Nat) : Int)) := (blk_cell hCr.out 0).trans (numsN_get f hl0)
          have i1 : (0 : Int) < (j : Int) := by omega
          go_upto_region 15 with fail
          have hK : ∀ w8, Below wr.heap.size wr w8 → w8.cell? ⟨X, 0, none⟩ = some (.slice (some ⟨C, 0, none⟩) j j) ∧ w8.cell? ⟨X + 1 + 1, 0, none⟩ = some (.slice (some ⟨X + 1, 0, none⟩) j j) ∧ w8.cell? ⟨C, 0, none⟩ = some (.int .i64 ((f 0 : Nat) : Int)) := fun w8 hb =>
            ⟨(hb.cell (p := ⟨X, 0, none⟩) (blk_lt hXr.out)).trans x0, (hb.cell (p := ⟨X + 1 + 1, 0, none⟩) (blk_lt hYr.out)).trans y0, (hb.cell (p := ⟨C, 0, none⟩) (blk_lt hCr.out)).trans c0⟩
          have HK := Lib.hid hK
          clear hK
          have hS0 := HK.out wr (Below.refl _ _)
          go_region_held3 (fun W => W.cell? ⟨X, 0, none⟩ = some (.slice (some ⟨C, 0, none⟩) j j) ∧ W.cell? ⟨X + 1 + 1, 0, none⟩ = some (.slice (some ⟨X + 1, 0, none⟩) j j) ∧ W.cell? ⟨C, 0, none⟩ = some (.int .i64 ((f 0 : Nat) : Int)))
            (first | with_reducible exact hS8.out | exact hS0)
            (first | (go_at_call 143; refine (hwalk2.out _ ((Below.refl _ _).drew)).mono ?_; rintro e w8 ⟨⟨l2, A3, c3, A4, c4, rows2, rfl, hl20, hl2n, hl2x, hown2, hA3, hrow4, hA4, hrows4⟩, hb8⟩; have Hl2x := Lib.hid hl2x; have Hown2 := Lib.hid hown2; have Hb8 : Hid (Below wr.heap.size wr w8) := Lib.hid (((Below.refl wr.heap.size wr).drew).trans hb8); have hS8 := Lib.hid (HK.out w8 Hb8.out); clear hl2x hown2 hA3 hrow4 hA4 hrows4 hb8))
          clear hS8 hS0 HK x0 y0 c0 hwalk2
          obtain ⟨m2, hm2⟩ : ∃ m2, m2 = l2.length := ⟨_, rfl⟩
          rw [← hm2] at hl20 hl2n Hown2 ⊢
          clear hm2
          have hN2 : Hid (NumsAt w8 A3 m2 j) := numsAt_own Hown2.out Hl2x.out
          have hY8 : Hid (w8.heap[X + 1 + 1]? = some (.cells #[.slice (some ⟨X + 1, 0, none⟩) j j] 168 (0, 0))) := blk_below hYr.out Hb8.out (blk_lt hYr.out)
          have hG8 : Hid (w8.heap[X + 1]? = some (.cells (numsN j h) 3 (0, 0))) := blk_below hG.out Hb8.out (blk_lt hG.out)
          have hB58 : Hid (Below w5.heap.size w5 w8) := hB5r.out.trans (Hb8.out.mono hB5r.out.size)
          have hT8 := Lib.hid (hTs5.out.below hB58.out)
          have hQ8 : Hid (w8.heap[P + 1]? = some (.cells #[.slice none 0 0, .slice none 0 0] 138 (0, 0))) := blk_below hQ5.out hB58.out (blk_lt hQ5.out)
          have hB08 : Hid (Below w.heap.size w w8) := hB5.out.trans (hB58.out.mono hB5.out.size)
          clear hXr hYr hCr hG hKp hB5r hPr hB58 hTs5 hQ5 hB5 Hown2 Hl2x Hb8 hNx5 hNl5 hP5 kX kY kC hB57
          go_upto_region 17 with fail
          obtain ⟨Z, hZ⟩ : ∃ Z, Z = w8.heap.size := ⟨_, rfl⟩
          have kZ : Hid ((w8.alloc (.cells #[.slice A4 m2 c4, .slice none 0 0] 138)).heap[w8.heap.size]? = some (.cells #[.slice A4 m2 c4, .slice none 0 0] 138 (0, 0))) := blk_new _ _
          have kB : Hid (Below w8.heap.size w8 (w8.alloc (.cells #[.slice A4 m2 c4, .slice none 0 0] 138))) := (Below.refl _ _).alloc (Nat.le_refl _) _
          rw [← hZ] at kZ kB ⊢
          generalize w8.alloc (.cells #[.slice A4 m2 c4, .slice none 0 0] 138) = w9 at kZ kB ⊢
          have HZ := Lib.hid hZ
          clear hZ
          go_wp2_with fail
          go_loopw [78] (fun s78 wr => ∃ (i : Nat) (A5 : Option Addr) (c5 : Nat) (vs : List Value), s78 = .int .i64 i ∧ i ≤ m2 ∧ Hid (wr.heap[Z]? = some (.cells #[.slice A4 m2 c4, .slice A5 i c5] 138 (0, 0))) ∧ Hid (wr.ownsRow 0 4 1 (.slice A5 i c5) i vs) ∧ Hid (∀ g, (Value.slice A5 i c5).ownBlock = some g → Z < g) ∧ Hid (Below Z w8 wr)) (fun s78 _ => m2 - (intOf s78).toNat)
          case atStart => exact ⟨0, none, 0, [], rfl, by omega, kZ, World.ownsRow_nil _ _ _ _, fun g hg => by simp [Value.ownBlock] at hg, kB⟩
          case round =>
            clear kZ kB
            obtain ⟨i, A5, c5, vs, rfl, hi, hZb, hrow, hown, hB⟩ := hrel
            have hBr : Hid (Below w8.heap.size w8 wr) := by rw [← HZ.out]; exact hB
            by_cases hlt : i < m2
            · obtain ⟨b, o, rfl, z, hz, hzc⟩ := (hN2.out.below hBr.out) i hlt
              have hhz := hh.out z
              obtain ⟨b2, o2, e2, v, hv⟩ := (hT8.out.below hBr.out) (h z) hhz
              simp only [Option.some.injEq, Addr.mk.injEq, and_true] at e2
              obtain ⟨rfl, rfl⟩ := e2
              rw [Nat.zero_add] at hv
              have hYr : wr.heap[X + 1 + 1]? = some (.cells #[.slice (some ⟨X + 1, 0, none⟩) j j] 168 (0, 0)) := blk_below hY8.out hBr.out (blk_lt hY8.out)
              have hGr : wr.heap[X + 1]? = some (.cells (numsN j h) 3 (0, 0)) := blk_below hG8.out hBr.out (blk_lt hG8.out)
              have i1 : (i : Int) < (m2 : Int) := by omega
              have i2 : (z : Int) < (j : Int) := by omega
              have i3 : ((h z : Nat) : Int) < (j : Int) := by omega
              go_upto_region 20 with fail
              have y0 : wr.cell? ⟨X + 1 + 1, 0, none⟩ = some (.slice (some ⟨X + 1, 0, none⟩) j j) := blk_cell hYr 0
              have r1 : wr.cell? ⟨X + 1, z, none⟩ = some (.int .i64 ((h z : Nat) : Int)) := (blk_cell hGr z).trans (numsN_get h hz)
              have z1 : wr.cell? ⟨Z, 1, none⟩ = some (.slice A5 i c5) := blk_cell hZb.out 1
              have hZl : Z < wr.heap.size := blk_lt hZb.out
              clear hzc hYr hGr
              obtain ⟨i0, hi4, hz0, hz1, hz2⟩ := info_parts made4
              have HrowA : Hid (((wr.alloc (.cells #[.bool v] 4)).drew).ownsRow 0 4 1 (.slice A5 i c5) i vs) := hrow.out.alloc _
              have HblkA : Hid (((wr.alloc (.cells #[.bool v] 4)).drew).heap[wr.heap.size]? = some (.cells #[.bool v] 4 (0, 0))) := blk_new _ _
              have HZA : Hid (((wr.alloc (.cells #[.bool v] 4)).drew).heap[Z]? = some (.cells #[.slice A4 m2 c4, .slice A5 i c5] 138 (0, 0))) := blk_alloc hZb.out _
              have HbA : Hid (0 ≤ ((wr.alloc (.cells #[.bool v] 4)).drew).heap.size) := Nat.zero_le _
              have hm2l : m2 ≤ 500 := by omega
              have z1A : (wr.alloc (.cells #[.bool v] 4)).cell? ⟨Z, 1, none⟩ = some (.slice A5 i c5) := blk_cell HZA.out 1
              go_region_law (first
                | (refine step_append_lies ((wr.alloc (.cells #[.bool v] 4)).drew) rfl (.tmp 83) (.tmp 91) 51 rfl 0 4 i0 _ 1 1 Tryz.underlying51 hi4 hz0 hz1 hz2 rfl (by decide) (.slice A5 i c5) i vs rfl HrowA.out ⟨wr.heap.size, 0, none⟩ 1 1 [.bool v] rfl rfl (cells_blk HblkA.out) (by intro u hu; simp at hu; subst hu; rfl) (by omega) (by unfold maxLen; omega) (by omega) HbA.out _ rfl ?_
                   intro g7 c7 w7 hown7 hg7 hat7 hlt7
                   have hM7 : w7.heap[Z]? = some (.cells #[.slice A4 m2 c4, .slice A5 i c5] 138 (0, 0)) := blk_grown HZA.out hg7 (own_ne HrowA.out HZA.out (by decide))
                   have c7' : w7.cell? ⟨Z, 1, none⟩ = some (.slice A5 i c5) := blk_cell hM7 1
                   have f7 := blk_frozen hM7 1
                   have HM7 := Lib.hid hM7
                   clear hM7))
              all_goals go_wp2_with fail
              all_goals
                have hg7s : Z ≤ (wr.alloc (.cells #[.bool v] 4)).drew.heap.size := Nat.le_of_lt (blk_lt HZA.out)
                refine ⟨⟨i + 1, some ⟨g7, 0, none⟩, c7, vs ++ [.bool v], by go_num, by omega, blk_set_self HM7.out 1 _, ?_, ?_, ?_⟩, by simp [intOf]; omega⟩
                · refine row_keep hown7 (fun g cs hg => Below.heap_setCell w7 ⟨Z, 1, none⟩ _ g (fun e => ?_))
                  simp only at e
                  rw [e, HM7.out] at hg
                  simp at hg
                · intro k hk
                  have hk7 : g7 = k := by simpa [Value.ownBlock] using hk
                  subst hk7
                  rcases hat7 with h | h
                  · exact hown.out _ h
                  · have : g7 = (wr.alloc (.cells #[.bool v] 4)).heap.size := h
                    simp at this
                    omega
                · exact ((((hB.out.alloc (Nat.le_of_lt hZl) _).drew).grown hg7 hg7s (fun k e => Nat.le_of_lt (hown.out k e))).setCell (p := ⟨Z, 1, none⟩) (Nat.le_refl _) _)
            · have him : i = m2 := by omega
              subst him
              have hQr : Hid (wr.heap[P + 1]? = some (.cells #[.slice none 0 0, .slice none 0 0] 138 (0, 0))) := blk_below hQ8.out hBr.out (blk_lt hQ8.out)
              have z0 : wr.cell? ⟨Z, 0, none⟩ = some (.slice A4 i c4) := blk_cell hZb.out 0
              have z1 : wr.cell? ⟨Z, 1, none⟩ = some (.slice A5 i c5) := blk_cell hZb.out 1
              have p0 : wr.cell? ⟨P + 1, 0, none⟩ = some (.slice none 0 0) := blk_cell hQr.out 0
              have p1 : wr.cell? ⟨P + 1, 1, none⟩ = some (.slice none 0 0) := blk_cell hQr.out 1
              have q0 : wr.frozen? ⟨P + 1, 0, none⟩ = false := blk_frozen hQr.out 0
              have q1 : wr.frozen? ⟨P + 1, 1, none⟩ = false := blk_frozen hQr.out 1
              have hst : Hid (((wr.setCell ⟨P + 1, 0, none⟩ (.slice A4 i c4)).setCell ⟨P + 1, 1, none⟩ (.slice A5 i c5)).heap[P + 1]? = some (.cells #[.slice A4 i c4, .slice A5 i c5] 138 (0, 0))) := blk_set_self (blk_set_self hQr.out 0 _) 1 _
              have hBe : Hid (Below w.heap.size w ((wr.setCell ⟨P + 1, 0, none⟩ (.slice A4 i c4)).setCell ⟨P + 1, 1, none⟩ (.slice A5 i c5))) := by
                have hp : w.heap.size ≤ P + 1 := by have := HPe.out; omega
                exact ((hB08.out.trans (hBr.out.mono hB08.out.size)).setCell (p := ⟨P + 1, 0, none⟩) hp _).setCell (p := ⟨P + 1, 1, none⟩) hp _
              go_wp2_with fail
              exact bodyPost_ret (results_cell_row rfl _ _ (P + 1) 138 _ _ _ rfl hst.out Tryz.underlying138 rfl info138) rfl ⟨⟨_, _, _, _, _, _, rfl⟩, hBe.out⟩
end Go.Proofs.YtghlodpbbghcoaaGreatDoor
