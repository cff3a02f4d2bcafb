/- Does a pattern fit a name: walked. -/
import Derived.Test.YtghlodpbbghcoaaGreatDoorZC
import Derived.Test.YtghlodpbbghcoaaGreatDoorZA
import Derived.Test.YtghlodpbbghcoaaGreatDoorShelf
import Derived.Deep.RegionWith
namespace Go.Proofs.YtghlodpbbghcoaaGreatDoor
open Go.Lib Go.RowKit Go.Maps
def fitsP (p nm : ByteArray) : Bool := plainP (stemP p) && (nm.toList == (stemP p).toList || (manyP p && Lib.hasPrefix nm.data.toList (stemP p).data.toList))
set_option maxRecDepth 8192 in
set_option maxHeartbeats 1600000 in
theorem fits_any (p nm : ByteArray) (hp : p.size ≤ 140737488355328) (w : World) : Calls Tryz.prog 13 #[.string p, .string nm] w fun e w' => e = .returned (.bool (fitsP p nm)) ∧ w' = w := by
  have hpa := pattern_any p hp w
  have hpx := Tryz.strings_HasPrefix nm (stemP p) w
  unfold fitsP
  obtain ⟨st, hst⟩ : ∃ st, stemP p = st := ⟨_, rfl⟩
  rw [hst] at hpa hpx ⊢
  obtain ⟨ok, hok⟩ : ∃ b, plainP st = b := ⟨_, rfl⟩
  obtain ⟨eq, heq⟩ : ∃ b, (nm.toList == st.toList) = b := ⟨_, rfl⟩
  obtain ⟨many, hmany⟩ : ∃ b, manyP p = b := ⟨_, rfl⟩
  obtain ⟨px, hpx0⟩ : ∃ b, Lib.hasPrefix nm.data.toList st.data.toList = b := ⟨_, rfl⟩
  rw [hok, hmany] at hpa
  rw [hpx0] at hpx
  rw [hok, heq, hmany, hpx0]
  clear hok hmany hpx0 hst
  cases ok
  all_goals cases eq
  all_goals cases many
  all_goals go_enter Tryz.func13, Tryz.ntmps13
  all_goals go_wp2_with (first
    | (go_at_call 34; refine hpa.mono ?_; rintro e5 w5 ⟨rfl, e6⟩; obtain rfl := e6.symm)
    | (go_at_call 35; refine hpx.mono ?_; rintro e5 w5 ⟨rfl, e6⟩; obtain rfl := e6.symm))
  all_goals go_ret
  all_goals exact ⟨by simp, rfl⟩
end Go.Proofs.YtghlodpbbghcoaaGreatDoor

/- The rule of an attribute: walked. -/
namespace Go.Proofs.YtghlodpbbghcoaaGreatDoor
open Go.Lib Go.RowKit Go.Maps
def ruleP (l : List Rul) (nm : ByteArray) : Option Rul := l.find? fun r => fitsP r.name nm
theorem ruleP_some {l : List Rul} {nm : ByteArray} {k : Nat} (hk : k < l.length) (h : ∀ j (hj : j < l.length), j < k → fitsP l[j].name nm = false) (he : fitsP l[k].name nm = true) : ruleP l nm = some l[k] := by
  unfold ruleP
  rw [List.find?_eq_some_iff_getElem]
  exact ⟨he, k, hk, rfl, fun j hj => by simpa using h j (by omega) hj⟩
theorem ruleP_none {l : List Rul} {nm : ByteArray} (h : ∀ j (hj : j < l.length), fitsP l[j].name nm = false) : ruleP l nm = none := by
  unfold ruleP
  rw [List.find?_eq_none]
  intro x hx
  obtain ⟨j, hj, rfl⟩ := List.getElem_of_mem hx
  simpa using h j hj
theorem info34 : (Tryz.prog.info? 34).map (·.size) = some 5 := by kernel_rfl
theorem results_rul {fn : Func} {p u : Tmp} (h : fn.results = #[.cell p 34, .tmp u]) (tmps : Array Value) (w : World) {g : Nat} {a b c d f : Value}
    (hp : tmps.getD p undef = .pointer (some ⟨g, 0, none⟩)) (hb : w.heap[g]? = some (.cells #[a, b, c, d, f] 34 (0, 0))) : (results fn tmps).run Tryz.prog w = .ok (.tuple #[.agg #[a, b, c, d, f], tmps.getD u undef]) w := by
  have hp' : tmps[p]?.getD undef = .pointer (some ⟨g, 0, none⟩) := by simpa using hp
  rw [results_cell_tmp h]
  have hl := run_loadVar_row (P := Tryz.prog) w g 34 34 _ (0, 0) _ hb Tryz.underlying34 rfl info34
  simp [asAddr, hp', hl]
def RulePost (r : Option Rul) (w : World) (e : Ending) (w' : World) : Prop :=
  (match r with
   | none => e = .returned (.tuple #[.agg #[.string ⟨#[]⟩, .int .i64 0, .slice none 0 0, .string ⟨#[]⟩, .bool false], .bool false])
   | some x => ∃ A n c, e = .returned (.tuple #[.agg #[.string x.name, .int .i64 x.kind, .slice A n c, .string x.regex, .bool x.req], .bool true])) ∧ Below w.heap.size w w'

set_option maxRecDepth 8192 in
set_option maxHeartbeats 3200000 in
theorem polRule_any (vk vr : Value) (en nm : ByteArray) (l : List Rul) (P : Nat → Prop) (w : World) (hP : ∀ k, P k → k < w.heap.size) (h : RulsAt w P vr l) (hk : ∃ A n c, vk = .slice A n c) (hl : l.length ≤ 140737488355328) (hsz : ∀ x ∈ l, x.name.size ≤ 140737488355328) :
    Calls Tryz.prog 12 #[.agg #[.string en, vk, vr], .string nm] w (RulePost (ruleP l nm) w) := by
  obtain ⟨Ak, nk, ck, rfl⟩ := hk
  obtain ⟨A, n, cap, rfl, hn, hcap, hat⟩ := h.form
  have hn6 : n ≤ 140737488355328 := by omega
  obtain ⟨r, hr⟩ : ∃ r, ruleP l nm = r := ⟨_, rfl⟩
  rw [hr]
  replace hr := Lib.hid hr
  replace hn := Lib.hid hn
  replace hat := Lib.hid hat
  replace hP := Lib.hid hP
  replace hsz := Lib.hid hsz
  clear h hl
  obtain ⟨w2, hw2⟩ : ∃ w2, (w.alloc (.cells #[.string en, .slice Ak nk ck, .slice A n cap] 30)).alloc (.cells #[.string ⟨#[]⟩, .int .i64 0, .slice none 0 0, .string ⟨#[]⟩, .bool false] 34) = w2 := ⟨_, rfl⟩
  have hB2 : Hid (Below w.heap.size w w2) := Lib.hid (by rw [← hw2]; exact ((Below.refl _ _).alloc (Nat.le_refl _) _).alloc (by simp) _)
  have hR2 : Hid (w2.heap[w.heap.size + 1]? = some (.cells #[.string ⟨#[]⟩, .int .i64 0, .slice none 0 0, .string ⟨#[]⟩, .bool false] 34)) := Lib.hid (by rw [← hw2]; exact blk_new' (by simp))
  have hS2 : Hid (w2.heap.size = w.heap.size + 2) := Lib.hid (by rw [← hw2]; simp)
  have hbx : Hid (w2.heap[w.heap.size]? = some (.cells #[.string en, .slice Ak nk ck, .slice A n cap] 30)) := Lib.hid (by rw [← hw2]; exact blk_alloc (blk_new _ _) _)
  go_enter Tryz.func12, Tryz.ntmps12
  go_upto_region 1 with fail
  have d1 : w2.cell? ⟨w.heap.size, 2, none⟩ = some (.slice A n cap) := blk_cell hbx.out 2
  clear hw2
  go_wp2
  go_loopw [11] (fun x11 wr => ∃ k : Nat, k ≤ n ∧ x11 = .int .i64 k ∧ Hid (∀ j (hj : j < l.length), j < k → fitsP l[j].name nm = false) ∧ Hid (Below w2.heap.size w2 wr)) (fun x11 _ => n - (RowKit.intOf x11).toNat)
  case atStart => exact ⟨0, Nat.zero_le _, rfl, Lib.hid (fun j _ h => absurd h (Nat.not_lt_zero _)), Lib.hid (Below.refl _ _)⟩
  case round =>
    obtain ⟨k, hk, rfl, hno, hB⟩ := hrel
    clear d1
    have hBw : Hid (Below w.heap.size w wr) := Lib.hid (hB2.out.trans (hB.out.mono hB2.out.size))
    have hRr : Hid (wr.heap[w.heap.size + 1]? = some (.cells #[.string ⟨#[]⟩, .int .i64 0, .slice none 0 0, .string ⟨#[]⟩, .bool false] 34)) := Lib.hid (blk_below hR2.out hB.out (by rw [hS2.out]; omega))
    have hlr : Hid (w.heap.size + 1 < wr.heap.size) := Lib.hid (blk_lt hRr.out)
    by_cases hlt : k < n
    · have hkl : k < l.length := by have := hn.out; omega
      obtain ⟨b, o, rfl, hPb, hc⟩ := hat.out (by omega)
      obtain ⟨vw, h0, h1, h2, h3, h4, hvw⟩ := hc k hkl
      have hbw := hP.out b hPb
      have c0 := (hBw.out.cell (p := ⟨b, o + k * 5, none⟩) hbw).trans h0
      have c1 := (hBw.out.cell (p := ⟨b, o + k * 5 + 1, none⟩) hbw).trans h1
      have c2 := (hBw.out.cell (p := ⟨b, o + k * 5 + 2, none⟩) hbw).trans h2
      have c3 := (hBw.out.cell (p := ⟨b, o + k * 5 + 3, none⟩) hbw).trans h3
      have c4 := (hBw.out.cell (p := ⟨b, o + k * 5 + 4, none⟩) hbw).trans h4
      obtain ⟨Aw, nw, cw, rfl, -, -, -⟩ := hvw.form
      obtain ⟨x, hx⟩ : ∃ x, l[k] = x := ⟨_, rfl⟩
      rw [hx] at c0 c1 c3 c4
      have hxs := hsz.out x (by rw [← hx]; exact List.getElem_mem hkl)
      have hi0 : (0 : Int) ≤ (k : Int) := by omega
      have hi1 : (k : Int) < (n : Int) := by omega
      obtain ⟨ft, hft⟩ : ∃ ft, fitsP x.name nm = ft := ⟨_, rfl⟩
      have hyes : Hid (ft = true → r = some x) := Lib.hid (fun e => by rw [← hr.out, ← hx]; exact ruleP_some hkl hno.out (by rw [hx, hft, e]))
      have hnext : Hid (ft = false → ∀ j (hj : j < l.length), j < k + 1 → fitsP l[j].name nm = false) := Lib.hid (fun e j hj hjk => by
        by_cases e2 : j = k
        · subst e2; rw [hx, hft, e]
        · exact hno.out j hj (by omega))
      have hcall := fun wx => fits_any x.name nm hxs wx
      rw [hft] at hcall
      obtain ⟨xn, hxn⟩ : ∃ y, x.name = y := ⟨_, rfl⟩
      obtain ⟨xk, hxk⟩ : ∃ y, x.kind = y := ⟨_, rfl⟩
      obtain ⟨xr, hxr⟩ : ∃ y, x.regex = y := ⟨_, rfl⟩
      obtain ⟨xq, hxq⟩ : ∃ y, x.req = y := ⟨_, rfl⟩
      have hxe : Hid (x.name = xn ∧ x.kind = xk ∧ x.regex = xr ∧ x.req = xq) := Lib.hid ⟨hxn, hxk, hxr, hxq⟩
      rw [hxn] at c0 hcall
      rw [hxk] at c1
      rw [hxr] at c3
      rw [hxq] at c4
      obtain ⟨w3, hw3⟩ : ∃ w3, wr.alloc (.cells #[.string xn, .int .i64 xk, .slice Aw nw cw, .string xr, .bool xq] 34) = w3 := ⟨_, rfl⟩
      have hW3 : Hid (Below w2.heap.size w2 w3) := Lib.hid (by rw [← hw3]; exact hB.out.alloc hB.out.size _)
      have hR3 : Hid (w3.heap[w.heap.size + 1]? = some (.cells #[.string ⟨#[]⟩, .int .i64 0, .slice none 0 0, .string ⟨#[]⟩, .bool false] 34)) := Lib.hid (by rw [← hw3]; exact blk_alloc hRr.out _)
      have hb3 : Hid (w3.heap[wr.heap.size]? = some (.cells #[.string xn, .int .i64 xk, .slice Aw nw cw, .string xr, .bool xq] 34)) := Lib.hid (by rw [← hw3]; exact blk_new _ _)
      have e0 : w3.cell? ⟨wr.heap.size, 0, none⟩ = some (.string xn) := blk_cell hb3.out 0
      have e1 : w3.cell? ⟨wr.heap.size, 1, none⟩ = some (.int .i64 xk) := blk_cell hb3.out 1
      have e2 : w3.cell? ⟨wr.heap.size, 2, none⟩ = some (.slice Aw nw cw) := blk_cell hb3.out 2
      have e3 : w3.cell? ⟨wr.heap.size, 3, none⟩ = some (.string xr) := blk_cell hb3.out 3
      have e4 : w3.cell? ⟨wr.heap.size, 4, none⟩ = some (.bool xq) := blk_cell hb3.out 4
      have hca := hcall w3
      clear hc h0 h1 h2 h3 h4 hx hxn hxk hxr hxq hft hcall
      go_upto_region 4 with fail
      try rw [hw3]
      clear hw3 c0 c1 c2 c3 c4
      cases ft with
      | true =>
        have e := hyes.out rfl
        subst e
        clear hyes hnext
        go_wp2_with (first
          | (go_at_call 13; refine hca.mono ?_; rintro e5 w5 ⟨rfl, e6⟩; obtain rfl := e6.symm)
          | ((with_reducible show wpList _ _ _ (⟨none, _, _, _, _, _⟩ :: _) _ _); refine wpList_store_mid rfl 34 _ _ rfl (w.heap.size + 1) 0 #[.string xn, .int .i64 xk, .slice Aw nw cw, .string xr, .bool xq] rfl rfl (there_of (cs := [.string ⟨#[]⟩, .int .i64 0, .slice none 0 0, .string ⟨#[]⟩, .bool false]) hR3.out) info34 (by simp [Value.oneCell']) ?_))
        try simp only [Exit.inBlock, Exit.then]
        refine bodyPost_ret (results_rul rfl _ _ rfl (blk_stored hR3.out [.string xn, .int .i64 xk, .slice Aw nw cw, .string xr, .bool xq] rfl)) rfl ⟨⟨Aw, nw, cw, by obtain ⟨e1, e2, e3, e4⟩ := hxe.out; rw [e1, e2, e3, e4]; rfl⟩, ?_⟩
        exact below_setCells (B := w.heap.size) (b := w.heap.size + 1) (by omega) _ _ 0 (hB2.out.trans (hW3.out.mono hB2.out.size))
      | false =>
        have g := Lib.hid (hnext.out rfl)
        clear hyes hnext
        go_wp2_with (go_at_call 13; refine hca.mono ?_; rintro e5 w5 ⟨rfl, e6⟩; obtain rfl := e6.symm)
        exact ⟨⟨k + 1, by omega, by simp, g, hW3⟩, by simp [RowKit.intOf]; omega⟩
    · have hkn : k = n := by omega
      have hr1 : r = none := by rw [← hr.out]; exact ruleP_none (fun j hj => hno.out j hj (by have := hn.out; omega))
      subst hr1
      go_wp2_with ((with_reducible show wpList _ _ _ (⟨none, _, _, _, _, _⟩ :: _) _ _); refine wpList_store_mid rfl 34 _ _ rfl (w.heap.size + 1) 0 #[.string ⟨#[]⟩, .int .i64 0, .slice none 0 0, .string ⟨#[]⟩, .bool false] rfl rfl (there_of (cs := [.string ⟨#[]⟩, .int .i64 0, .slice none 0 0, .string ⟨#[]⟩, .bool false]) hRr.out) info34 (by simp [Value.oneCell']) ?_)
      try simp only [Exit.inBlock, Exit.then]
      refine bodyPost_ret (results_rul rfl _ _ rfl (blk_stored hRr.out [.string ⟨#[]⟩, .int .i64 0, .slice none 0 0, .string ⟨#[]⟩, .bool false] rfl)) rfl ⟨rfl, ?_⟩
      exact below_setCells (B := w.heap.size) (b := w.heap.size + 1) (by omega) _ _ 0 hBw.out
end Go.Proofs.YtghlodpbbghcoaaGreatDoor

/- few; the document's example of layer 13: walked. -/
namespace Go.Proofs.YtghlodpbbghcoaaGreatDoor
open Go.Lib Go.RowKit Go.Maps
def cut30 (s : ByteArray) : ByteArray := if 30 < s.size then s.extract 0 30 else s
set_option maxRecDepth 8192 in
theorem few30_any (s : ByteArray) (w : World) : Calls Tryz.prog 11 #[.string s] w fun e w' => e = .returned (.string (cut30 s)) ∧ w' = w := by
  go_enter Tryz.func11, Tryz.ntmps11
  by_cases h : 30 < s.size
  · go_wp2
    go_ret
    exact ⟨by rw [cut30, if_pos h]; rfl, rfl⟩
  · go_wp2
    go_ret
    exact ⟨by rw [cut30, if_neg h]; rfl, rfl⟩
set_option maxRecDepth 8192 in
theorem equalNil_any (w : World) (f : Value) : Calls Tryz.prog 65 #[.slice none 0 0, .slice none 0 0, f] w fun e w' => e = .returned (.bool true) ∧ w' = w := by
  go_enter Tryz.func65, Tryz.ntmps65
  go_wp2
  go_loop [17] (fun x => x = .int .i64 0) (fun _ => 0)
  case atStart => exact rfl
  case round =>
    subst hrel
    go_wp2
    go_ret
    exact ⟨rfl, rfl⟩
set_option maxRecDepth 8192 in
theorem sameNil_any (w : World) : Calls Tryz.prog 37 #[.agg #[.slice none 0 0, .slice none 0 0, .slice none 0 0], .agg #[.slice none 0 0, .slice none 0 0, .slice none 0 0]] w fun e w' => e = .returned (.bool true) ∧ Below w.heap.size w w' := by
  have h1 := fun wx => Tryz.slices_Equal_string_empty none none 0 0 0 wx (by decide)
  go_enter Tryz.func37, Tryz.ntmps37
  go_wp2_with (first
    | (go_at_call 64; refine (h1 _).mono ?_; rintro e5 w5 ⟨rfl, e6⟩; obtain rfl := e6.symm)
    | (go_at_call 65; refine (equalNil_any _ _).mono ?_; rintro e5 w5 ⟨rfl, e6⟩; obtain rfl := e6.symm))
  go_ret
  exact ⟨rfl, ((Below.refl _ _).alloc (Nat.le_refl _) _).alloc (by simp) _⟩
set_option maxRecDepth 8192 in
set_option maxHeartbeats 1600000 in
theorem lives_any (w : World) : Calls Tryz.prog 14 #[] w fun e w' => e = .returned (.bool true) ∧ Below w.heap.size w w' := by
  have f1 := fun wx => fits_any ⟨#[100, 97, 116, 97, 45, 42]⟩ ⟨#[100, 97, 116, 97, 45, 97]⟩ (by decide) wx
  have f2 := fun wx => fits_any ⟨#[100, 97, 116, 97, 45, 42]⟩ ⟨#[100, 97, 116, 97]⟩ (by decide) wx
  rw [show fitsP ⟨#[100, 97, 116, 97, 45, 42]⟩ ⟨#[100, 97, 116, 97, 45, 97]⟩ = true by kernel_rfl] at f1
  rw [show fitsP ⟨#[100, 97, 116, 97, 45, 42]⟩ ⟨#[100, 97, 116, 97]⟩ = false by kernel_rfl] at f2
  have hnil : ∀ wx, PolAt wx (fun _ => False) (.slice none 0 0) (.slice none 0 0) (.slice none 0 0) ⟨[], [], []⟩ := fun wx => ⟨CRow.nil _ _ _, ⟨[], rfl, by simp, CRow.nil _ _ _⟩, CRow.nil _ _ _⟩
  have hfit : Pol.Fit ⟨[], [], []⟩ := ⟨⟨Nat.zero_le _, by simp⟩, ⟨Nat.zero_le _, by simp⟩, ⟨Nat.zero_le _, by simp⟩⟩
  have hmay : mayP (fun _ => false) ⟨[], [], []⟩ = true := by kernel_rfl
  have f3 : ∀ wx, Calls Tryz.prog 36 #[.agg #[.slice none 0 0, .slice none 0 0, .slice none 0 0]] wx fun e w' => e = .returned (.int .i64 0) ∧ Below wx.heap.size wx w' := fun wx =>
    (polMay_any (fun _ => false) (.slice none 0 0) (.slice none 0 0) (.slice none 0 0) ⟨[], [], []⟩ (fun _ => False) wx (fun _ h => False.elim h) (hnil wx) hfit (fun e he => absurd he (List.not_mem_nil))).mono (by
      rintro e w' ⟨x, rfl, hx, hB⟩
      rw [hmay] at hx
      exact ⟨by rw [of_decide_eq_true hx], hB⟩)
  clear hfit hmay hnil
  go_enter Tryz.func14, Tryz.ntmps14
  go_wp2_with (first
    | (go_at_call_of 13 (Value.string ⟨#[100, 97, 116, 97, 45, 97]⟩); refine (f1 _).mono ?_; rintro e5 w5 ⟨rfl, e6⟩; obtain rfl := e6.symm)
    | (go_at_call_of 13 (Value.string ⟨#[100, 97, 116, 97]⟩); refine (f2 _).mono ?_; rintro e5 w5 ⟨rfl, e6⟩; obtain rfl := e6.symm)
    | (go_at_call 36; refine (f3 _).mono ?_; rintro e5 w5 ⟨rfl, hB5⟩)
    | (go_at_call 37; refine (sameNil_any _).mono ?_; rintro e6 w6 ⟨rfl, hB6⟩))
  go_ret
  exact ⟨rfl, hB5.trans (hB6.mono hB5.size)⟩
end Go.Proofs.YtghlodpbbghcoaaGreatDoor
