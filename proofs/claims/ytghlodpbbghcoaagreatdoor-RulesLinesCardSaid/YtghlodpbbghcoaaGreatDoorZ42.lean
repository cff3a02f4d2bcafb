/- Rules that may be, made of any, by the document: walked. -/
import Derived.Test.YtghlodpbbghcoaaGreatDoorAM
import Derived.Test.YtghlodpbbghcoaaGreatDoorZ32
import Derived.Test.YtghlodpbbghcoaaGreatDoorZG
import Derived.Test.YtghlodpbbghcoaaGreatDoorZB
import Derived.Deep.RegionHeld3
namespace Go.Proofs.YtghlodpbbghcoaaGreatDoor
open Go.Lib Go.RowKit Go.Maps
theorem info34f : (Tryz.prog.info? 34).map (fun i => (i.zero, i.size, i.bytes)) = some (some (.agg #[.string ⟨#[]⟩, .int .i64 0, .slice none 0 0, .string ⟨#[]⟩, .bool false]), 5, 72) := by kernel_rfl
/-- A rule that may be. -/
def RulOk (r : Rul) : Prop := rul1 r = true ∧ ConOk r.kind r.words r.regex
def Rul.In (r : Rul) : Prop := r.Fit ∧ r.regex.size ≤ 140737488355328 ∧ -9223372036854775808 ≤ r.kind ∧ r.kind ≤ 9223372036854775807
def RulesPost (w : World) (e : Ending) (w' : World) : Prop := ∃ (v : Value) (cs : List RulC), e = .returned v ∧ RowI rulK 34 (fun k => w.heap.size ≤ k) w' v cs ∧ cs.length ≤ 3 ∧ (∀ c ∈ cs, RulOk c.rul) ∧ (cs.map RulC.name).Nodup ∧ Below w.heap.size w w'
def pool3 (i : Nat) : ByteArray := if i = 0 then ⟨#[105, 100]⟩ else if i = 1 then ⟨#[104, 114, 101, 102]⟩ else ⟨#[100, 97, 116, 97, 45, 42]⟩
theorem pool3_ok (i : Nat) (hi : i < 3) : plainP (stemP (pool3 i)) = true ∧ manyP (pool3 i) = decide (i = 2) := by
  obtain rfl | rfl | rfl : i = 0 ∨ i = 1 ∨ i = 2 := by omega
  all_goals exact ⟨by kernel_rfl, by kernel_rfl⟩
/-- What a box of a rule that is being made is. -/
structure RBox (w : World) (wx : World) (x : Value) (nm : ByteArray) (q : Bool) (g : Nat) (k : Int) (vw : Value) (ws : List ByteArray) (rx : ByteArray) : Prop where
  val : x = .pointer (some ⟨g, 0, none⟩)
  new : w.heap.size ≤ g
  blk : wx.heap[g]? = some (.cells #[.string nm, .int .i64 k, vw, .string rx, .bool q] 34)
  words : StrsAt wx (fun b => w.heap.size ≤ b ∧ b < wx.heap.size ∧ b ≠ g) vw ws
  ok : ConOk k ws rx
  below : Below w.heap.size w wx

theorem RBox.name {w wx : World} {x : Value} {nm : ByteArray} {q : Bool} {g : Nat} {k : Int} {vw : Value} {ws : List ByteArray} {rx : ByteArray} (h : RBox w wx x nm q g k vw ws rx) (nm' : ByteArray) : RBox w (wx.setCell ⟨g, 0, none⟩ (.string nm')) x nm' q g k vw ws rx :=
  ⟨h.val, h.new, blk_set_self h.blk 0 _, h.words.move (Stays.set (fun hk => hk.2.2 rfl) _) (fun b hb => by rw [szSet]; exact hb), h.ok, h.below.setCell (p := ⟨g, 0, none⟩) h.new _⟩
theorem RBox.req {w wx : World} {x : Value} {nm : ByteArray} {q : Bool} {g : Nat} {k : Int} {vw : Value} {ws : List ByteArray} {rx : ByteArray} (h : RBox w wx x nm q g k vw ws rx) (q' : Bool) : RBox w (wx.setCell ⟨g, 4, none⟩ (.bool q')) x nm q' g k vw ws rx :=
  ⟨h.val, h.new, blk_set_self h.blk 4 _, h.words.move (Stays.set (fun hk => hk.2.2 rfl) _) (fun b hb => by rw [szSet]; exact hb), h.ok, h.below.setCell (p := ⟨g, 4, none⟩) h.new _⟩
theorem RBox.alloc {w wx : World} {x : Value} {nm : ByteArray} {q : Bool} {g : Nat} {k : Int} {vw : Value} {ws : List ByteArray} {rx : ByteArray} (h : RBox w wx x nm q g k vw ws rx) (o : Obj) : RBox w (wx.alloc o) x nm q g k vw ws rx :=
  ⟨h.val, h.new, blk_alloc h.blk o, h.words.move (Stays.alloc (fun _ hk => hk.2.1) o) (fun b hb => ⟨hb.1, by simp; omega, hb.2.2⟩), h.ok, h.below.alloc h.below.size o⟩
theorem RBox.made {wr w5 : World} (xn : ByteArray) (q : Bool) (k : Int) {vw : Value} {ws : List ByteArray} (rx : ByteArray) (hB : Below wr.heap.size wr w5) (hs : StrsAt w5 (fun b => wr.heap.size ≤ b ∧ b < w5.heap.size) vw ws) (hok : ConOk k ws rx) :
    RBox wr (w5.alloc (.cells #[.string xn, .int .i64 k, vw, .string rx, .bool q] 34)) (.pointer (some ⟨w5.heap.size, 0, none⟩)) xn q w5.heap.size k vw ws rx :=
  ⟨rfl, hB.size, blk_new _ _, hs.move (Stays.alloc (fun _ hk => hk.2) _) (fun b hb => ⟨hb.1, by simp; omega, by omega⟩), hok, hB.alloc hB.size _⟩
theorem RBox.filled {wr w5 : World} {a b c d e : Value} (xn : ByteArray) (q : Bool) (k : Int) {vw : Value} {ws : List ByteArray} (rx : ByteArray) (hX : w5.heap[wr.heap.size]? = some (.cells #[a, b, c, d, e] 34)) (hB : Below wr.heap.size wr w5) (hs : StrsAt w5 (fun b => wr.heap.size + 1 ≤ b ∧ b < w5.heap.size) vw ws) (hok : ConOk k ws rx) :
    RBox wr (((((w5.setCell ⟨wr.heap.size, 0, none⟩ (.string xn)).setCell ⟨wr.heap.size, 1, none⟩ (.int .i64 k)).setCell ⟨wr.heap.size, 2, none⟩ vw).setCell ⟨wr.heap.size, 3, none⟩ (.string rx)).setCell ⟨wr.heap.size, 4, none⟩ (.bool q)) (.pointer (some ⟨wr.heap.size, 0, none⟩)) xn q wr.heap.size k vw ws rx := by
  have hst : ∀ (W : World) (j : Nat) (u : Value), Stays (fun b => wr.heap.size + 1 ≤ b ∧ b < w5.heap.size) W (W.setCell ⟨wr.heap.size, j, none⟩ u) := fun W j u => Stays.set (fun hk => by have := hk.1; simp at this; omega) u
  refine ⟨rfl, Nat.le_refl _, blk_set_self (blk_set_self (blk_set_self (blk_set_self (blk_set_self hX 0 _) 1 _) 2 _) 3 _) 4 _, ?_, hok, ?_⟩
  · exact hs.move ((((((hst _ _ _).trans (hst _ _ _)).trans (hst _ _ _)).trans (hst _ _ _)).trans (hst _ _ _))) (fun b hb => ⟨by omega, by simp only [szSet]; exact hb.2, by omega⟩)
  · exact ((((hB.setCell (p := ⟨wr.heap.size, 0, none⟩) (Nat.le_refl _) _).setCell (p := ⟨wr.heap.size, 1, none⟩) (Nat.le_refl _) _).setCell (p := ⟨wr.heap.size, 2, none⟩) (Nat.le_refl _) _).setCell (p := ⟨wr.heap.size, 3, none⟩) (Nat.le_refl _) _).setCell (p := ⟨wr.heap.size, 4, none⟩) (Nat.le_refl _) _
theorem stemP_pool : ∀ (k : Nat) (xn : ByteArray), k < 3 → plainP (stemP (if plainP (stemP xn) then xn else pool3 k)) = true ∧ manyP (if plainP (stemP xn) then xn else pool3 k) = (if plainP (stemP xn) then manyP xn else decide (k = 2)) := by
  intro k xn hk
  cases h : plainP (stemP xn) with
  | true => simp [h]
  | false => simpa using pool3_ok k hk

set_option maxRecDepth 8192 in
set_option maxHeartbeats 6400000 in
theorem rules31_any (vr : Value) (l : List Rul) (P : Nat → Prop) (w : World) (hP : ∀ k, P k → k < w.heap.size) (h : RulsAt w P vr l) (hl : l.length ≤ 140737488355328) (hin : ∀ r ∈ l, r.In) : Calls Tryz.prog 31 #[vr] w (RulesPost w) := by
  obtain ⟨A, n, cap, rfl, hn, hcap, hat⟩ := h.form
  have hn6 : n ≤ 140737488355328 := by omega
  replace hn := Lib.hid hn
  replace hat := Lib.hid hat
  replace hP := Lib.hid hP
  replace hin := Lib.hid hin
  clear h hl
  go_enter Tryz.func31, Tryz.ntmps31
  go_wp2
  go_loopw [3, 4, 5] (fun x3 x4 x5 wr => ∃ (k : Nat) (cs : List RulC), k ≤ n ∧ k ≤ 3 ∧ x5 = .int .i64 k ∧ cs.length ≤ k ∧ Hid (RowI rulK 34 (fun b => w.heap.size ≤ b ∧ x4.ownBlock ≠ some b) wr x3 cs) ∧ Hid (OwnS wr w.heap.size x4 (cs.map RulC.name)) ∧ Hid (∀ c ∈ cs, RulOk c.rul) ∧ Hid ((cs.map RulC.name).Nodup) ∧ Hid (Below w.heap.size w wr)) (fun _ _ x5 _ => n - (RowKit.intOf x5).toNat)
  case atStart => exact ⟨0, [], Nat.zero_le _, by decide, rfl, Nat.le_refl _, Lib.hid (RowI.nil _), Lib.hid (OwnS.nil _ _), Lib.hid (by simp), Lib.hid (by simp), Lib.hid (Below.refl _ _)⟩
  case round =>
    obtain ⟨k, cs, hk, hk3, rfl, hcl, hrow, hnames, hok, hnd, hB⟩ := hrel
    by_cases hlt : k < n ∧ k < 3
    · obtain ⟨hl1, hl2⟩ := hlt
      have hkl : k < l.length := by have := hn.out; omega
      obtain ⟨b, o, rfl, hPb, hc⟩ := hat.out (by omega)
      obtain ⟨vw, h0, h1, h2, h3, h4, hvw⟩ := hc k hkl
      have hbw := hP.out b hPb
      have hbl : b < wr.heap.size := Nat.lt_of_lt_of_le hbw hB.out.size
      have c0 := (hB.out.cell (p := ⟨b, o + k * 5, none⟩) hbw).trans h0
      have c1 := (hB.out.cell (p := ⟨b, o + k * 5 + 1, none⟩) hbw).trans h1
      have c2 := (hB.out.cell (p := ⟨b, o + k * 5 + 2, none⟩) hbw).trans h2
      have c3 := (hB.out.cell (p := ⟨b, o + k * 5 + 3, none⟩) hbw).trans h3
      have c4 := (hB.out.cell (p := ⟨b, o + k * 5 + 4, none⟩) hbw).trans h4
      obtain ⟨x, hx⟩ : ∃ x, l[k] = x := ⟨_, rfl⟩
      rw [hx] at c0 c1 c3 c4 hvw
      obtain ⟨⟨hx1, hx2, hx3⟩, hx4, hx5, hx6⟩ := hin.out x (by rw [← hx]; exact List.getElem_mem hkl)
      obtain ⟨xn, hxn⟩ : ∃ y, x.name = y := ⟨_, rfl⟩
      obtain ⟨xk, hxk⟩ : ∃ y, x.kind = y := ⟨_, rfl⟩
      obtain ⟨xr, hxr⟩ : ∃ y, x.regex = y := ⟨_, rfl⟩
      obtain ⟨xq, hxq⟩ : ∃ y, x.req = y := ⟨_, rfl⟩
      obtain ⟨xw, hxw⟩ : ∃ y, x.words = y := ⟨_, rfl⟩
      rw [hxn] at c0 hx1
      rw [hxk] at c1 hx5 hx6
      rw [hxr] at c3 hx4
      rw [hxq] at c4
      rw [hxw] at hvw hx2 hx3
      clear hx hxn hxk hxr hxq hxw hc h0 h1 h2 h3 h4
      have hcon : Hid (∀ wx, Below w.heap.size w wx → Calls Tryz.prog 52 #[.agg #[.int .i64 xk, vw, .string xr]] wx (ConPost wx)) := Lib.hid (fun wx hb => con_any xk vw xw xr P wx (fun k hk => Nat.lt_of_lt_of_le (hP.out k hk) hb.size) (hvw.move (Stays.below hb hP.out) (fun _ h => h)) hx2 hx3 hx4 hx5 hx6)
      obtain ⟨Aw, nw, cw, rfl, -, -, -⟩ := hvw.form
      have hi0 : (0 : Int) ≤ (k : Int) := by omega
      have hi1 : (k : Int) < (n : Int) := by omega
      have hi3 : (k : Int) < 3 := by omega
      clear hvw hx2 hx3 hx4 hx5 hx6
      go_upto_region 6 with fail
      go_cut [6] (fun x wx => ∃ (g : Nat) (kd : Int) (Av : Option Addr) (nv cv : Nat) (ws : List ByteArray) (rx : ByteArray), x = .pointer (some ⟨g, 0, none⟩) ∧ Hid (RBox wr wx x xn xq g kd (.slice Av nv cv) ws rx))
      case first =>
        have hBd : Hid (Below w.heap.size w wr.drew) := Lib.hid hB.out.drew
        have hBe : Hid (Below w.heap.size w (wr.alloc (.cells #[.string ⟨#[]⟩, .int .i64 0, .slice none 0 0, .string ⟨#[]⟩, .bool false] 34)).drew) := Lib.hid (hB.out.alloc hB.out.size _).drew
        have hS : Hid (∀ W, Below wr.heap.size wr W → W.cell? ⟨b, o + k * 5, none⟩ = some (.string xn) ∧ W.cell? ⟨b, o + k * 5 + 1, none⟩ = some (.int .i64 xk) ∧ W.cell? ⟨b, o + k * 5 + 2, none⟩ = some (.slice Aw nw cw) ∧ W.cell? ⟨b, o + k * 5 + 3, none⟩ = some (.string xr) ∧ W.cell? ⟨b, o + k * 5 + 4, none⟩ = some (.bool xq)) := Lib.hid (fun W hW =>
          ⟨(hW.cell (p := ⟨b, _, none⟩) hbl).trans c0, (hW.cell (p := ⟨b, _, none⟩) hbl).trans c1, (hW.cell (p := ⟨b, _, none⟩) hbl).trans c2, (hW.cell (p := ⟨b, _, none⟩) hbl).trans c3, (hW.cell (p := ⟨b, _, none⟩) hbl).trans c4⟩)
        clear hbl
        go_region_held3 (fun W => W.cell? ⟨b, o + k * 5, none⟩ = some (.string xn) ∧ W.cell? ⟨b, o + k * 5 + 1, none⟩ = some (.int .i64 xk) ∧ W.cell? ⟨b, o + k * 5 + 2, none⟩ = some (.slice Aw nw cw) ∧ W.cell? ⟨b, o + k * 5 + 3, none⟩ = some (.string xr) ∧ W.cell? ⟨b, o + k * 5 + 4, none⟩ = some (.bool xq)) (first | with_reducible exact hS.out _ (Below.refl _ _).drew | with_reducible exact hS.out _ (((Below.refl _ _).alloc (Nat.le_refl _) _).drew) | with_reducible exact hS.out _ hB5.out | with_reducible exact hS.out _ hB5.out.drew | with_reducible exact hS.out _ (hB5.out.alloc hB5.out.size _) | with_reducible exact hS.out _ ((hB5.out.alloc hB5.out.size _).drew) | exact hS.out _ (((((hB5.out.setCell (p := ⟨wr.heap.size, 0, none⟩) (Nat.le_refl _) _).setCell (p := ⟨wr.heap.size, 1, none⟩) (Nat.le_refl _) _).setCell (p := ⟨wr.heap.size, 2, none⟩) (Nat.le_refl _) _).setCell (p := ⟨wr.heap.size, 3, none⟩) (Nat.le_refl _) _).setCell (p := ⟨wr.heap.size, 4, none⟩) (Nat.le_refl _) _) | fail)
          (first
          | (go_at_call 52; refine Calls.mono (hcon.out _ ?_) ?_; exact hBd.out; rintro e5 w5 ⟨kd, vv, ws, rx, rfl, hok5, hws5, hB5'⟩; obtain ⟨Av, nv, cv, rfl, -, -, -⟩ := hws5.form; replace hok5 := Lib.hid hok5; replace hws5 := Lib.hid hws5; have hB5 : Hid (Below wr.heap.size wr w5) := Lib.hid ((Below.refl wr.heap.size wr).drew.trans hB5'); clear hB5')
          | (go_at_call 52; refine Calls.mono (hcon.out _ ?_) ?_; exact hBe.out; rintro e5 w5 ⟨kd, vv, ws, rx, rfl, hok5, hws5, hB5'⟩; obtain ⟨Av, nv, cv, rfl, -, -, -⟩ := hws5.form; replace hok5 := Lib.hid hok5; replace hws5 := Lib.hid hws5; have hX : w5.heap[wr.heap.size]? = some (.cells #[.string ⟨#[]⟩, .int .i64 0, .slice none 0 0, .string ⟨#[]⟩, .bool false] 34) := blk_below (blk_drew (blk_new wr _)) hB5' (by simp); have r0 := blk_cell hX 0; have r1 := blk_cell hX 1; have r2 := blk_cell hX 2; have r3 := blk_cell hX 3; have r4 := blk_cell hX 4; have f0 := blk_frozen hX 0; have f1 := blk_frozen hX 1; have f2 := blk_frozen hX 2; have f3 := blk_frozen hX 3; have f4 := blk_frozen hX 4; replace hX := Lib.hid hX; have hB5 : Hid (Below wr.heap.size wr w5) := Lib.hid (((Below.refl _ _).alloc (Nat.le_refl _) _).drew.trans (hB5'.mono (by simp))); replace hB5' := Lib.hid hB5'))
        all_goals go_wp2_with fail
        all_goals go_meet
        · exact ⟨_, kd, Av, nv, cv, ws, rx, rfl, Lib.hid (RBox.made xn xq kd rx hB5.out hws5.out hok5.out)⟩
        · exact ⟨_, kd, Av, nv, cv, ws, rx, rfl, Lib.hid (RBox.filled xn xq kd rx hX.out hB5.out (hws5.out.move (Stays.refl _ _) (fun b hb => ⟨by have := hb.1; simpa using this, hb.2⟩)) hok5.out)⟩
      case rest =>
      obtain ⟨g, kd, Av, nv, cv, ws, rx, rfl, hbox⟩ := hcut
      obtain ⟨ok, hokp⟩ : ∃ ok, plainP (stemP xn) = ok := ⟨_, rfl⟩
      obtain ⟨mn, hmn⟩ : ∃ mn, manyP xn = mn := ⟨_, rfl⟩
      obtain ⟨nm, hnm⟩ : ∃ nm, (if plainP (stemP xn) then xn else pool3 k) = nm := ⟨_, rfl⟩
      obtain ⟨my, hmy⟩ : ∃ my, (if plainP (stemP xn) then manyP xn else decide (k = 2)) = my := ⟨_, rfl⟩
      have hpool := stemP_pool k xn hl2
      rw [hnm, hmy] at hpool
      rw [hokp] at hnm hmy
      rw [hmn] at hmy
      replace hpool := Lib.hid hpool
      have hst := stem_any xn hx1 wc
      have hpl := plain13_any (stemP xn) (by have := stemP_size xn; unfold maxLen; omega) wc
      obtain ⟨st, hst2⟩ : ∃ st, stemP xn = st := ⟨_, rfl⟩
      rw [hokp] at hpl
      rw [hmn] at hst
      rw [hst2] at hst hpl
      clear hokp hmn hst2 c0 c1 c2 c3 c4 hcon hat
      have e0 := blk_cell hbox.out.blk 0
      have f0 := blk_frozen hbox.out.blk 0
      go_upto_if 48 with (first
        | (go_at_call 53; refine hst.mono ?_; rintro e7 w7 ⟨rfl, e6⟩; obtain rfl := e6.symm)
        | (go_at_call 29; refine hpl.mono ?_; rintro e7 w7 ⟨rfl, e6⟩; obtain rfl := e6.symm))
      clear hst hpl
      go_cut [8] (fun x wx => x = .bool my ∧ Hid (RBox wr wx (.pointer (some ⟨g, 0, none⟩)) nm xq g kd (.slice Av nv cv) ws rx))
      case first =>
        cases ok with
        | true =>
          obtain rfl : xn = nm := hnm
          obtain rfl : mn = my := hmy
          go_wp2
          go_meet
          exact ⟨rfl, hbox⟩
        | false =>
          have hnm2 : pool3 k = nm := hnm
          have hmy2 : decide (k = 2) = my := hmy
          clear hnm hmy hpool
          replace hnm2 := Lib.hid hnm2
          replace hmy2 := Lib.hid hmy2
          go_upto_region 11 with fail
          obtain ⟨w4, hw4⟩ : ∃ w4, wc.alloc (.cells #[.string ⟨#[105, 100]⟩, .string ⟨#[104, 114, 101, 102]⟩, .string ⟨#[100, 97, 116, 97, 45, 42]⟩] 9) = w4 := ⟨_, rfl⟩
          have hb4 : Hid (RBox wr w4 (.pointer (some ⟨g, 0, none⟩)) xn xq g kd (.slice Av nv cv) ws rx) := Lib.hid (by rw [← hw4]; exact hbox.out.alloc _)
          have ht : w4.cell? ⟨wc.heap.size, k, none⟩ = some (.string nm) := by
            rw [← hnm2.out, ← hw4, blk_cell (blk_new _ _)]
            obtain rfl | rfl | rfl : k = 0 ∨ k = 1 ∨ k = 2 := by omega
            all_goals rfl
          rw [hw4]
          clear hw4 e0 f0 hbox
          have e0 := blk_cell hb4.out.blk 0
          have f0 := blk_frozen hb4.out.blk 0
          have hk2 : ((k : Int) == 2) = my := by
            rw [← hmy2.out]
            by_cases h : k = 2
            · subst h; rfl
            · rw [decide_eq_false h]; simp; omega
          go_wp2
          go_meet
          exact ⟨rfl, Lib.hid (hb4.out.name _)⟩
      case rest =>
      obtain ⟨rfl, hbx2⟩ := hcut
      clear e0 f0 hbox hnm hmy
      have e4 := blk_cell hbx2.out.blk 4
      have f4 := blk_frozen hbx2.out.blk 4
      obtain ⟨q, hq⟩ : ∃ q, (if my then false else xq) = q := ⟨_, rfl⟩
      have hrul : Hid (∀ vw, rul1 (RulC.rul ⟨nm, kd, vw, ws, rx, q⟩) = true) := Lib.hid (fun vw => by
        obtain ⟨h1, h2⟩ := hpool.out
        show (plainP (stemP nm) && !(manyP nm && q)) = true
        rw [h1, h2, ← hq]
        cases my <;> simp)
      clear hpool
      go_upto_if 57 with fail
      go_cut [8] (fun x wx => Hid (RBox wr wx (.pointer (some ⟨g, 0, none⟩)) nm q g kd (.slice Av nv cv) ws rx))
      case first =>
        cases my with
        | true =>
          obtain rfl : false = q := hq
          go_wp2
          go_meet
          exact Lib.hid (hbx2.out.req false)
        | false =>
          obtain rfl : xq = q := hq
          go_wp2
          go_meet
          exact hbx2
      case rest =>
      replace hcut := hcut.out
      clear e4 f4 hbx2 hq
      obtain ⟨wd, hwd⟩ : ∃ wd : World, wd = wc := ⟨_, rfl⟩
      rw [← hwd] at hcut ⊢
      clear hwd
      have hbd : Hid (wd.heap[g]? = some (.cells #[.string nm, .int .i64 kd, .slice Av nv cv, .string rx, .bool q] 34)) := Lib.hid hcut.blk
      have hBd : Hid (Below wr.heap.size wr wd) := Lib.hid hcut.below
      have hgn : Hid (wr.heap.size ≤ g) := Lib.hid hcut.new
      have hws : Hid (StrsAt wd (fun b => wr.heap.size ≤ b ∧ b < wd.heap.size ∧ b ≠ g) (.slice Av nv cv) ws) := Lib.hid hcut.words
      have hcok : Hid (ConOk kd ws rx) := Lib.hid hcut.ok
      have hnd2 : Hid (OwnS wd w.heap.size u4 (cs.map RulC.name)) := Lib.hid (own_below hnames.out hBd.out (Nat.le_refl _))
      have hrd : Hid (RowI rulK 34 (fun b => w.heap.size ≤ b ∧ u4.ownBlock ≠ some b) wd u3 cs) := Lib.hid (hrow.out.carry hBd.out)
      have e0 := blk_cell hbd.out 0
      have hha := has_any u4 (cs.map RulC.name) nm (fun k => u4.ownBlock = some k) wd hnd2.out.strs (by rw [List.length_map]; omega)
      have hBw : Hid (Below w.heap.size w wd) := Lib.hid (hB.out.trans (hBd.out.mono hB.out.size))
      have hbase : w.heap.size ≤ wd.heap.size := hBw.out.size
      obtain ⟨had, hhad⟩ : ∃ had, Lib.containsS (cs.map RulC.name) nm = had := ⟨_, rfl⟩
      rw [hhad] at hha
      replace hhad := Lib.hid hhad
      clear hcut
      cases had with
      | true =>
        go_wp2_with (go_at_call 33; refine hha.mono ?_; rintro e7 w7 ⟨rfl, e6⟩; obtain rfl := e6.symm)
        exact ⟨⟨k + 1, cs, by omega, by omega, by simp, by omega, hrd, hnd2, hok, hnd, hBw⟩, by simp [RowKit.intOf]; omega⟩
      | false =>
        have hni : Hid (nm ∉ cs.map RulC.name) := Lib.hid (fun h => by have := (Lib.containsS_iff _ _).2 h; rw [hhad.out] at this; cases this)
        go_upto_region 17 with (go_at_call 33; refine hha.mono ?_; rintro e7 w7 ⟨rfl, e6⟩; obtain rfl := e6.symm)
        clear hha
        have hlen : Hid (u4.ownBlock = none ∨ u4.ownBlock ≠ some g) := Lib.hid (.inr (own_ne hnd2.out hbd.out (by decide)))
        go_upto_region 18 with (at_builtin; refine wpList_append_new_at info9 Tryz.underlying22 rfl (by decide) (by decide) w.heap.size hnd2.out 1 rfl _ _ rfl rfl rfl (by simp) rfl rfl (by rw [List.length_map]; omega) hbase ?_; intro v6 w6 hown6 hbel6 hgt6 hgrow6 hnew6; replace hown6 := Lib.hid hown6; replace hbel6 := Lib.hid hbel6; replace hgrow6 := Lib.hid hgrow6; replace hnew6 := Lib.hid hnew6)
        have hb6 : Hid (w6.heap[g]? = some (.cells #[.string nm, .int .i64 kd, .slice Av nv cv, .string rx, .bool q] 34)) := Lib.hid (blk_grown hbd.out hgrow6.out (by rcases hlen.out with h | h; rw [h]; simp; exact h))
        have y0 := blk_cell hb6.out 0
        have y1 := blk_cell hb6.out 1
        have y2 := blk_cell hb6.out 2
        have y3 := blk_cell hb6.out 3
        have y4 := blk_cell hb6.out 4
        have hrA : Hid (RowI rulK 34 (fun b => w.heap.size ≤ b ∧ v6.ownBlock ≠ some b) w6 u3 cs) := Lib.hid (((hrd.out.allow (A' := fun b => (w.heap.size ≤ b ∧ u4.ownBlock ≠ some b) ∧ v6.ownBlock ≠ some b) (fun b hb hbl => ⟨hb, fun e => by rcases hnew6.out b e with h | h; exact hb.2 h; omega⟩)).grown hgrow6.out (fun b hb => hb.1.2)).allow (fun b hb _ => ⟨hb.1.1, hb.2⟩))
        have hlt3 : Hid (∀ b, u3.ownBlock = some b → b < wr.heap.size) := Lib.hid (fun b hb => (hrow.out.own.lt b hb).2)
        have hlt4 : Hid (∀ b, u4.ownBlock = some b → b < wr.heap.size) := Lib.hid (fun b hb => (World.ownsRow.lt hnames.out b hb).2)
        clear e0 hrd
        go_wp2_with (at_builtin; refine wpList_append_new_at info34f Tryz.underlying28 rfl (by decide) (by decide) 0 hrA.out.own 1 rfl _ _ rfl rfl rfl (by simp) rfl rfl (by omega) (Nat.zero_le _) ?_; intro v8 w8 hown8 hbel8 hgt8 hgrow8 hnew8)
        refine ⟨⟨k + 1, cs ++ [⟨nm, kd, .slice Av nv cv, ws, rx, q⟩], by omega, by omega, by simp, by rw [List.length_append]; simp; omega, Lib.hid ?_, Lib.hid ?_, Lib.hid ?_, Lib.hid ?_, Lib.hid ?_⟩, by simp [RowKit.intOf]; omega⟩
        · have hz6 := hgrow6.out.size
          have hz6' : wd.heap.size ≤ w6.heap.size := by simpa using hz6
          refine hrA.out.push (R := fun b => wr.heap.size ≤ b ∧ b < wd.heap.size ∧ b ≠ g) (hws.out.move (Stays.grown hgrow6.out (fun b hb => ⟨hb.2.1, fun e => by have := hlt4.out b e; omega⟩)) (fun _ h => h)) ?_ ?_ hown8 hgrow8 (fun b hb => (hnew8 b hb).imp id Nat.le_of_lt)
          · intro b hb
            refine ⟨⟨Nat.le_trans hB.out.size hb.1, fun e => ?_⟩, Nat.lt_of_lt_of_le hb.2.1 hz6', fun e => by have := hlt3.out b e; omega⟩
            rcases hnew6.out b e with h | h
            · have := hlt4.out b h; omega
            · omega
          · intro b hb
            refine ⟨by omega, fun e => ?_⟩
            have := (hown6.out.lt b e).2
            omega
        · have h9 := hown6.out.kept hgrow8 (own_apart hown6.out hrA.out.own (by decide))
          unfold OwnS
          rw [List.map_append, List.length_append, List.map_singleton, strV_snoc]
          exact h9
        · intro c hc
          rcases List.mem_append.1 hc with hc | hc
          · exact hok.out c hc
          · rw [List.mem_singleton.1 hc]
            exact ⟨hrul.out _, hcok.out⟩
        · rw [List.map_append, List.map_singleton]
          exact List.nodup_append.2 ⟨hnd.out, by simp, fun a ha b hb e => hni.out (by have e2 : a = nm := e.trans (List.mem_singleton.1 hb); rw [← e2]; exact ha)⟩
        · exact (hBw.out.trans hbel6.out).grown hgrow8 (Nat.le_trans hbase (by have := hgrow6.out.size; simpa using this)) (fun b hb => (hrA.out.mine b hb).1)
    · have hfin : Hid (RulesPost w (.returned u3) wr) := Lib.hid ⟨u3, cs, rfl, hrow.out.allow (fun b hb _ => hb.1), by omega, hok.out, hnd.out, hB.out⟩
      by_cases h1 : k < n
      · have i1 : (k : Int) < (n : Int) := by omega
        have i2 : ¬ (k : Int) < 3 := by omega
        clear hat
        go_wp2
        go_ret
        exact hfin.out
      · have i1 : ¬ (k : Int) < (n : Int) := by omega
        clear hat
        go_wp2
        go_ret
        exact hfin.out
end Go.Proofs.YtghlodpbbghcoaaGreatDoor
