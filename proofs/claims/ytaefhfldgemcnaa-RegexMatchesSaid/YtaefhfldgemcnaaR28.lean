/- Walks over the document's parser: its small tests. -/
import Derived.Test.YtaefhfldgemcnaaR17
import Derived.Test.YtaefhfldgemcnaaP11
namespace Go.Proofs.Ytaefhfldgemcnaa
open Go.RowKit

/-- What is parsed, as a value. -/
abbrev pvOf (A : Option Addr) (n c : Nat) (s : ByteArray) (k : Nat) (bad : Bool) : Value := .agg #[.slice A n c, .string s, .int .i64 k, .bool bad]

set_option maxHeartbeats 800000 in
theorem refIs_any (A : Option Addr) (n c : Nat) (s : ByteArray) (k : Nat) (bad : Bool) (ch : UInt8) (w : World) :
    Calls Try.prog 70 #[pvOf A n c s k bad, .int .u8 ch.toNat] w fun e w' => e = .returned (.bool (atL s k [ch])) ∧ Below w.heap.size w w' := by
  by_cases hlt : k < s.size
  · obtain ⟨cb, hcb⟩ : ∃ cb : UInt8, s[k] = cb := ⟨_, rfl⟩
    have hv : Hid (atL s k [ch] = ((cb.toNat : Int) == (ch.toNat : Int))) := by
      show _ = _
      unfold atL inL byteAt
      rw [dif_pos hlt, hcb, decide_eq_true hlt, Bool.true_and, Bool.eq_iff_iff]
      simp only [List.contains_cons, List.contains_nil, Bool.or_false, beq_iff_eq]
      constructor
      · rintro rfl; rfl
      · intro h; exact UInt8.toNat_inj.1 (by omega)
    have hi0 : (0 : Int) ≤ (k : Int) := by omega
    have hi1 : (k : Int) < (s.size : Int) := by omega
    have hd : decide ((k : Int) < (s.size : Int)) = true := decide_eq_true hi1
    go_enter Try.func70, Try.ntmps70
    go_wp2_with fail
    go_ret
    rw [hv.out]
    exact ⟨rfl, (Below.refl _ _).alloc (Nat.le_refl _) _⟩
  · have hv : Hid (atL s k [ch] = false) := by show _ = _; unfold atL; rw [decide_eq_false hlt, Bool.false_and]
    have hd : decide ((k : Int) < (s.size : Int)) = false := decide_eq_false (by omega)
    have hd' : ¬ ((k : Int) < (s.size : Int)) := by omega
    go_enter Try.func70, Try.ntmps70
    go_wp2_with fail
    go_ret
    rw [hv.out]
    exact ⟨rfl, (Below.refl _ _).alloc (Nat.le_refl _) _⟩

theorem refSign_any (c : UInt8) (w : World) : Calls Try.prog 71 #[.int .u8 c.toNat] w fun e w' => e = .returned (.bool (isS c)) ∧ w = w' := by
  have hv : Hid (isS c = (decide ((32 : Int) ≤ (c.toNat : Int)) && decide ((c.toNat : Int) ≤ 126))) := by
    show _ = _
    unfold isS
    rw [Bool.eq_iff_iff]
    simp only [Bool.and_eq_true, decide_eq_true_eq]
    omega
  by_cases h : (32 : Int) ≤ (c.toNat : Int)
  · have d1 : decide ((32 : Int) ≤ (c.toNat : Int)) = true := decide_eq_true h
    go_enter Try.func71, Try.ntmps71
    go_wp2_with fail
    go_ret
    rw [hv.out]
    simp [h]
  · have d1 : decide ((32 : Int) ≤ (c.toNat : Int)) = false := decide_eq_false h
    go_enter Try.func71, Try.ntmps71
    go_wp2_with fail
    go_ret
    rw [hv.out]
    simp
    omega

theorem contains_at (l : ByteArray) (c : UInt8) : l.data.toList.contains c = true ↔ ∃ i, i < l.size ∧ byteAt l i = c := by
  rw [List.contains_iff_mem, List.mem_iff_getElem?]
  constructor
  · rintro ⟨i, hi⟩
    obtain ⟨h1, h2⟩ := List.getElem?_eq_some_iff.1 hi
    have hs : i < l.size := by simpa using h1
    refine ⟨i, hs, ?_⟩
    unfold byteAt
    rw [dif_pos hs]
    have h3 := Lib.data_getElem? l i hs
    rw [hi] at h3
    exact (Option.some.inj h3).symm
  · rintro ⟨i, hs, rfl⟩
    refine ⟨i, ?_⟩
    unfold byteAt
    rw [dif_pos hs]
    exact Lib.data_getElem? l i hs

set_option maxHeartbeats 800000 in
theorem refAmong_any (c : UInt8) (l : ByteArray) (w : World) (hl : l.size ≤ 1000) : Calls Try.prog 67 #[.int .u8 c.toNat, .string l] w fun e w' => e = .returned (.bool (l.data.toList.contains c)) ∧ w = w' := by
  obtain ⟨res, hres⟩ : ∃ res, res = l.data.toList.contains c := ⟨_, rfl⟩
  rw [← hres]
  have Hres := Lib.hid hres
  clear hres
  go_enter Try.func67, Try.ntmps67
  go_wp2_with fail
  go_loop [5] (fun x => ∃ i : Nat, x = .int .i64 i ∧ i ≤ l.size ∧ Hid (∀ j, j < i → byteAt l j ≠ c)) (fun x => l.size - (intOf x).toNat)
  case atStart => exact ⟨0, rfl, Nat.zero_le _, fun j hj => absurd hj (by omega)⟩
  case round =>
    obtain ⟨i, rfl, hi, hno⟩ := hrel
    by_cases hlt : i < l.size
    · have hi0 : (0 : Int) ≤ (i : Int) := by omega
      have hi1 : (i : Int) < (l.size : Int) := by omega
      obtain ⟨cb, hcb⟩ : ∃ cb : UInt8, l[i] = cb := ⟨_, rfl⟩
      have hb : Hid (byteAt l i = cb) := by show _ = _; unfold byteAt; rw [dif_pos hlt]; exact hcb
      by_cases hc : cb = c
      · have hv : Hid (l.data.toList.contains c = true) := (contains_at l c).2 ⟨i, hlt, hb.out.trans hc⟩
        have he : ((cb.toNat : Int) == (c.toNat : Int)) = true := by rw [hc]; simp
        clear hc
        go_wp2_with fail
        go_ret
        rw [Hres.out, hv.out]
        exact ⟨rfl, rfl⟩
      · have hno2 : Hid (∀ j, j < i + 1 → byteAt l j ≠ c) := by
          intro j hj
          by_cases hji : j = i
          · rw [hji, hb.out]; exact hc
          · exact hno.out j (by omega)
        have he : ((cb.toNat : Int) == (c.toNat : Int)) = false := beq_eq_false_iff_ne.2 (fun h => hc (UInt8.toNat_inj.1 (by omega)))
        clear hc hno
        go_wp2_with fail
        go_round
        case rel => exact ⟨i + 1, by go_num, by omega, hno2⟩
        case measure => simp [intOf]; omega
    · have hi1 : ¬ (i : Int) < (l.size : Int) := by omega
      have hv : Hid (l.data.toList.contains c = false) := by
        show _ = _
        rw [Bool.eq_false_iff]
        intro h
        obtain ⟨j, hj, hjc⟩ := (contains_at l c).1 h
        exact hno.out j (by omega) hjc
      clear hno
      go_wp2_with fail
      go_ret
      rw [Hres.out, hv.out]
      exact ⟨rfl, rfl⟩

/-- What is parsed lies in block g. -/
def BoxP (w : World) (g : Nat) (A : Option Addr) (n c : Nat) (s : ByteArray) (k : Nat) (bad : Bool) : Prop := w.heap[g]? = some (.cells #[.slice A n c, .string s, .int .i64 k, .bool bad] 82 (0, 0))
/-- Block g is there for what is parsed. -/
def RoomP (w : World) (g : Nat) : Prop := ∃ a b c d, w.heap[g]? = some (.cells #[a, b, c, d] 82 (0, 0))
theorem BoxP.room {w : World} {g : Nat} {A : Option Addr} {n c : Nat} {s : ByteArray} {k : Nat} {bad : Bool} (h : BoxP w g A n c s k bad) : RoomP w g := ⟨_, _, _, _, h⟩
theorem info82 : (Try.prog.info? 82).map (·.size) = some 4 := by kernel_rfl
theorem RoomP.there {w : World} {g : Nat} (h : RoomP w g) : w.there g 0 4 := by
  obtain ⟨a, b, c, d, h⟩ := h
  intro j hj
  rw [Nat.zero_add]
  refine ⟨?_, blk_frozen h j⟩
  rw [blk_cell h j]
  have : j = 0 ∨ j = 1 ∨ j = 2 ∨ j = 3 := by omega
  rcases this with rfl | rfl | rfl | rfl <;> rfl
theorem RoomP.stored {w : World} {g : Nat} (h : RoomP w g) (A : Option Addr) (n c : Nat) (s : ByteArray) (k : Nat) (bad : Bool) :
    BoxP (w.setCells g 0 [.slice A n c, .string s, .int .i64 k, .bool bad]) g A n c s k bad := by
  obtain ⟨x, y, z, u, h⟩ := h
  exact blk_setCellsAll [.slice A n c, .string s, .int .i64 k, .bool bad] [x, y, z, u] [] w rfl h
theorem BoxP.at_ {w : World} {g : Nat} {A : Option Addr} {n c : Nat} {s : ByteArray} {k : Nat} {bad : Bool} (h : BoxP w g A n c s k bad) : BoxP (w.setCell ⟨g, 2, none⟩ (.int .i64 ((k : Int) + 1))) g A n c s (k + 1) bad := by
  have := blk_set_self h 2 (.int .i64 ((k : Int) + 1))
  show _ = _
  rw [this]
  simp
theorem BoxP.bad {w : World} {g : Nat} {A : Option Addr} {n c : Nat} {s : ByteArray} {k : Nat} {bad : Bool} (h : BoxP w g A n c s k bad) : BoxP (w.setCell ⟨g, 3, none⟩ (.bool true)) g A n c s k true := by
  have := blk_set_self h 3 (.bool true)
  show _ = _
  rw [this]
  simp
theorem BoxP.below {w w' : World} {g N : Nat} {A : Option Addr} {n c : Nat} {s : ByteArray} {k : Nat} {bad : Bool} (h : BoxP w g A n c s k bad) (hb : Below N w w') (hg : g < N) : BoxP w' g A n c s k bad := blk_below h hb hg
theorem RoomP.below {w w' : World} {g N : Nat} (h : RoomP w g) (hb : Below N w w') (hg : g < N) : RoomP w' g := by
  obtain ⟨a, b, c, d, h⟩ := h
  exact ⟨a, b, c, d, blk_below h hb hg⟩
theorem RoomP.set {w : World} {g : Nat} (h : RoomP w g) {p : Addr} (hne : p.block ≠ g) (v : Value) : RoomP (w.setCell p v) g := by
  obtain ⟨a, b, c, d, h⟩ := h
  exact ⟨a, b, c, d, blk_set h (Ne.symm hne) v⟩
theorem one82 (A : Option Addr) (n c : Nat) (s : ByteArray) (k : Nat) (bad : Bool) : (#[.slice A n c, .string s, .int .i64 k, .bool bad] : Array Value).all (·.oneCell') = true := by simp [Value.oneCell']
theorem results_pv {fn : Func} {p u : Tmp} (h : fn.results = #[.cell p 82, .tmp u]) (tmps : Array Value) (w : World) {g : Nat} {A : Option Addr} {n c : Nat} {s : ByteArray} {k : Nat} {bad : Bool}
    (hp : tmps.getD p undef = .pointer (some ⟨g, 0, none⟩)) (hb : BoxP w g A n c s k bad) : (results fn tmps).run Try.prog w = .ok (.tuple #[pvOf A n c s k bad, tmps.getD u undef]) w := by
  have hp' : tmps[p]?.getD undef = .pointer (some ⟨g, 0, none⟩) := by simpa using hp
  rw [results_cell_tmp h]
  have hl := run_loadVar_row (P := Try.prog) w g 82 82 _ (0, 0) _ hb Try.underlying82 rfl info82
  simp [asAddr, hp', hl]

/-- A sign as the document reads it. -/
def PlainPost (A : Option Addr) (n c : Nat) (s : ByteArray) (bad : Bool) (r : Option (UInt8 × Nat)) (w : World) (e : Ending) (w' : World) : Prop :=
  (match r with
  | some (ch, k') => e = .returned (.tuple #[pvOf A n c s k' bad, .int .u8 ch.toNat])
  | none => ∃ k', k' ≤ s.size ∧ e = .returned (.tuple #[pvOf A n c s k' true, .int .u8 32])) ∧ Below w.heap.size w w'

set_option maxRecDepth 8192 in
set_option maxHeartbeats 3200000 in
theorem refPlain_any (A : Option Addr) (n c : Nat) (s odd : ByteArray) (ol : List UInt8) (ho : odd.data.toList = ol) (hod : odd.size ≤ 1000) (k : Nat) (bad : Bool) (w : World) (hk : k ≤ s.size) (hs : s.size ≤ 1000) :
    Calls Try.prog 86 #[pvOf A n c s k bad, .string odd] w (PlainPost A n c s bad (signF s k ol) w) := by
  obtain ⟨res, hres⟩ : ∃ res, res = signF s k ol := ⟨_, rfl⟩
  rw [← hres]
  unfold signF at hres
  have HIS := Lib.hid (fun (wx : World) => refIs_any A n c s k bad 92 wx)
  have HSG : Hid (∀ (cb : UInt8) (wx : World), Calls Try.prog 71 #[.int .u8 cb.toNat] wx fun e w' => e = .returned (.bool (isS cb)) ∧ wx = w') := refSign_any
  have HAM : Hid (∀ (cb : UInt8) (wx : World), Calls Try.prog 67 #[.int .u8 cb.toNat, .string odd] wx fun e w' => e = .returned (.bool (inL ol cb)) ∧ wx = w') := fun cb wx => by
    have := refAmong_any cb odd wx hod
    rw [ho] at this
    exact this
  have Hres := Lib.hid hres
  clear hres
  go_enter Try.func86, Try.ntmps86
  go_upto_region 1 with fail
  generalize hW : (w.alloc _).alloc _ = W
  have hX : Hid (BoxP W w.heap.size A n c s k bad) := by subst hW; exact blk_alloc (blk_new _ _) _
  have hY : Hid (RoomP W (w.heap.size + 1)) := by subst hW; exact ⟨_, _, _, _, blk_new' (by simp)⟩
  have hB : Hid (Below w.heap.size w W) := by subst hW; exact ((Below.refl _ _).alloc (Nat.le_refl _) _).alloc (by simp) _
  have hz : w.heap.size + 2 ≤ W.heap.size := by subst hW; simp
  clear hW
  go_wp2_with ((with_reducible show wpList _ _ _ (⟨some 8, _, _, _, _, _⟩ :: _) _ _); refine wpList_load_row rfl 82 _ rfl w.heap.size rfl 82 _ (0, 0) _ hX.out Try.underlying82 rfl info82 ?_)
  refine (HIS.out _).mono ?_
  rintro e w1 ⟨rfl, hb1⟩
  have hX1 := Lib.hid (hX.out.below hb1 (by omega))
  have hY1 := Lib.hid (hY.out.below hb1 (by omega))
  have hB1 := Lib.hid (hB.out.trans (hb1.mono hB.out.size))
  have hz1 : w.heap.size + 2 ≤ w1.heap.size := by have := hb1.size; omega
  obtain ⟨bar, hbar⟩ : ∃ bar, atL s k [92] = bar := ⟨_, rfl⟩
  have Hbar := Lib.hid hbar
  rw [hbar]
  clear hX hY hB hb1 hbar HIS
  go_upto_if 10 with fail
  go_cut [] (fun wx => ∃ K, K ≤ s.size ∧ Hid (res = if decide (K < s.size) && isS (byteAt s K) && (bar || !inL ol (byteAt s K)) then some (byteAt s K, K + 1) else none) ∧ Hid (BoxP wx w.heap.size A n c s K bad) ∧ Hid (RoomP wx (w.heap.size + 1)) ∧ Hid (Below w.heap.size w wx) ∧ w.heap.size + 2 ≤ wx.heap.size)
  case first =>
    cases bar with
    | true =>
      have hlt := atL_lt Hbar.out
      have c2 : w1.cell? ⟨w.heap.size, 2, none⟩ = some (.int .i64 k) := blk_cell hX1.out 2
      have f2 : w1.frozen? ⟨w.heap.size, 2, none⟩ = false := blk_frozen hX1.out 2
      go_wp2_with fail
      go_meet
      refine ⟨k + 1, by omega, ?_, hX1.out.at_, hY1.out.set (by simp) _, hB1.out.setCell (p := ⟨w.heap.size, 2, none⟩) (Nat.le_refl _) _, by simpa using hz1⟩
      have := Hres.out
      rw [Hbar.out, if_pos rfl] at this
      show _ = _
      rw [this, Bool.true_or, Bool.and_true]
    | false =>
      go_wp2_with fail
      go_meet
      refine ⟨k, hk, ?_, hX1, hY1, hB1, hz1⟩
      have := Hres.out
      rw [Hbar.out, if_neg (by decide)] at this
      show _ = _
      rw [this, Bool.false_or]
  case rest =>
  clear hX1 hY1 hB1 hz1 Hres Hbar
  obtain ⟨K, hK, hres, hX, hY, hB, hz⟩ := hcut
  have c1 : wc.cell? ⟨w.heap.size, 1, none⟩ = some (.string s) := blk_cell hX.out 1
  have c2 : wc.cell? ⟨w.heap.size, 2, none⟩ = some (.int .i64 K) := blk_cell hX.out 2
  have c3 : wc.cell? ⟨w.heap.size, 3, none⟩ = some (.bool bad) := blk_cell hX.out 3
  have f2 : wc.frozen? ⟨w.heap.size, 2, none⟩ = false := blk_frozen hX.out 2
  have f3 : wc.frozen? ⟨w.heap.size, 3, none⟩ = false := blk_frozen hX.out 3
  obtain ⟨wo, rfl⟩ : ∃ wo : World, wo = wc := ⟨_, rfl⟩
  obtain ⟨ok, hok⟩ : ∃ ok, (decide (K < s.size) && isS (byteAt s K) && (bar || !inL ol (byteAt s K))) = ok := ⟨_, rfl⟩
  rw [hok] at hres
  have Hok := Lib.hid hok
  clear hok
  go_upto_region 4 with fail
  go_cut [42] (fun x wx => x = .bool (!ok) ∧ wx = wo)
  case first =>
    by_cases hlt : K < s.size
    · obtain ⟨cb, hcb⟩ : ∃ cb : UInt8, s[K] = cb := ⟨_, rfl⟩
      have hi0 : (0 : Int) ≤ (K : Int) := by omega
      have hi1 : (K : Int) < (s.size : Int) := by omega
      have hd : decide ((s.size : Int) ≤ (K : Int)) = false := decide_eq_false (by omega)
      have hok := Hok.out
      rw [decide_eq_true hlt, Bool.true_and, ← byteAt_eq hlt, hcb] at hok
      have HSGc := Lib.hid (HSG.out cb)
      have HAMc := Lib.hid (HAM.out cb)
      cases hsb : isS cb with
      | false =>
        rw [hsb] at HSGc hok
        have Ho := Lib.hid hok
        clear hok hsb
        go_wp2_with fail
        refine (HSGc.out _).mono ?_
        rintro e w0 ⟨rfl, rfl⟩
        go_wp2_with fail
        go_meet
        have := Ho.out
        rw [Bool.false_and] at this
        subst this
        exact ⟨rfl, rfl⟩
      | true =>
        rw [hsb, Bool.true_and] at hok
        rw [hsb] at HSGc
        have Ho := Lib.hid hok
        clear hok hsb
        cases bar with
        | true =>
          go_wp2_with fail
          refine (HSGc.out _).mono ?_
          rintro e w0 ⟨rfl, rfl⟩
          go_wp2_with fail
          go_meet
          have := Ho.out
          rw [Bool.true_or] at this
          subst this
          exact ⟨by simp; omega, rfl⟩
        | false =>
          obtain ⟨am, ham⟩ : ∃ am, inL ol cb = am := ⟨_, rfl⟩
          rw [ham] at HAMc Ho
          clear ham
          go_wp2_with fail
          refine (HSGc.out _).mono ?_
          rintro e w0 ⟨rfl, rfl⟩
          go_wp2_with fail
          refine (HAMc.out _).mono ?_
          rintro e w0 ⟨rfl, rfl⟩
          go_wp2_with fail
          go_meet
          have := Ho.out
          rw [Bool.false_or] at this
          subst this
          exact ⟨by simp; omega, rfl⟩
    · have hd : decide ((s.size : Int) ≤ (K : Int)) = true := decide_eq_true (by omega)
      have hd2 : ¬ ((K : Int) < (s.size : Int)) := by omega
      have hok := Hok.out
      rw [decide_eq_false hlt, Bool.false_and, Bool.false_and] at hok
      subst hok
      go_wp2_with fail
      go_meet
      exact ⟨rfl, rfl⟩
  case rest =>
  obtain ⟨rfl, rfl⟩ := hcut
  cases ok with
  | false =>
    have hres := hres.out
    rw [if_neg (by decide)] at hres
    subst hres
    go_upto_region 6 with fail
    have hX2 := Lib.hid hX.out.bad
    have hY2 := Lib.hid (hY.out.set (p := ⟨w.heap.size, 3, none⟩) (by simp) (.bool true))
    have hB2 := Lib.hid (hB.out.setCell (p := ⟨w.heap.size, 3, none⟩) (Nat.le_refl _) (.bool true))
    generalize World.setCell _ _ _ = W2 at hX2 hY2 hB2 ⊢
    clear hX hY hB c1 c2 c3 f2 f3
    go_wp2_with (first
      | ((with_reducible show wpList _ _ _ (⟨some 44, _, _, _, _, _⟩ :: _) _ _); refine wpList_load_row rfl 82 _ rfl w.heap.size rfl 82 _ (0, 0) _ hX2.out Try.underlying82 rfl info82 ?_)
      | ((with_reducible show wpList _ _ _ (⟨none, _, _, _, _, _⟩ :: _) _ _); refine wpList_store_mid rfl 82 _ _ rfl (w.heap.size + 1) 0 _ rfl rfl hY2.out.there info82 (one82 _ _ _ _ _ _) ?_))
    refine bodyPost_ret (results_pv rfl _ _ rfl (hY2.out.stored _ _ _ _ _ _)) rfl ⟨⟨K, hK, rfl⟩, below_setCells (by omega) _ _ _ hB2.out⟩
  | true =>
    have hlt : K < s.size := by
      have := Hok.out
      simp only [Bool.and_eq_true, decide_eq_true_eq] at this
      exact this.1.1
    have hres := hres.out
    rw [if_pos rfl] at hres
    obtain ⟨cb, hcb⟩ : ∃ cb : UInt8, s[K] = cb := ⟨_, rfl⟩
    rw [← byteAt_eq hlt, hcb] at hres
    subst hres
    have hi0 : (0 : Int) ≤ (K : Int) := by omega
    have hi1 : (K : Int) < (s.size : Int) := by omega
    go_upto_region 9 with fail
    have hX2 := Lib.hid hX.out.at_
    have hY2 := Lib.hid (hY.out.set (p := ⟨w.heap.size, 2, none⟩) (by simp) (.int .i64 ((K : Int) + 1)))
    have hB2 := Lib.hid (hB.out.setCell (p := ⟨w.heap.size, 2, none⟩) (Nat.le_refl _) (.int .i64 ((K : Int) + 1)))
    generalize World.setCell _ _ _ = W2 at hX2 hY2 hB2 ⊢
    clear hX hY hB c1 c2 c3 f2 f3
    go_wp2_with (first
      | ((with_reducible show wpList _ _ _ (⟨some 54, _, _, _, _, _⟩ :: _) _ _); refine wpList_load_row rfl 82 _ rfl w.heap.size rfl 82 _ (0, 0) _ hX2.out Try.underlying82 rfl info82 ?_)
      | ((with_reducible show wpList _ _ _ (⟨none, _, _, _, _, _⟩ :: _) _ _); refine wpList_store_mid rfl 82 _ _ rfl (w.heap.size + 1) 0 _ rfl rfl hY2.out.there info82 (one82 _ _ _ _ _ _) ?_))
    exact bodyPost_ret (results_pv rfl _ _ rfl (hY2.out.stored _ _ _ _ _ _)) rfl ⟨rfl, below_setCells (by omega) _ _ _ hB2.out⟩
end Go.Proofs.Ytaefhfldgemcnaa
