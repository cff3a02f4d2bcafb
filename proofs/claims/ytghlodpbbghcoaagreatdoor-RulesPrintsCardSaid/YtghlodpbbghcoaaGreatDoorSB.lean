/- What may stand in an element, by the document: walked. -/
import Derived.Test.YtghlodpbbghcoaaGreatDoorZE
import Derived.Test.YtghlodpbbghcoaaGreatDoorZA
import Derived.Test.YtghlodpbbghcoaaGreatDoorZC
import Derived.Test.YtghlodpbbghcoaaGreatDoorShelf
import Derived.Deep.DeepCutAuto
namespace Go.Proofs.YtghlodpbbghcoaaGreatDoor
open Go.Lib Go.RowKit Go.Maps
def listP (p : Pol) (nm : ByteArray) : List ByteArray := if nm.toList = [] then p.top else match findP p.elts nm with | some x => x.kids | none => []
def ListPost (r : List ByteArray) (P : Nat → Prop) (w : World) (e : Ending) (w' : World) : Prop := ∃ v, e = .returned v ∧ StrsAt w' P v r ∧ Below w.heap.size w w'
set_option maxRecDepth 8192 in
set_option maxHeartbeats 1600000 in
theorem list13_any (vt ve vu : Value) (p : Pol) (nm : ByteArray) (P : Nat → Prop) (w : World) (hP : ∀ k, P k → k < w.heap.size) (h : PolAt w P vt ve vu p) (hl : p.elts.length ≤ 140737488355328) :
    Calls Tryz.prog 41 #[.agg #[vt, ve, vu], .string nm] w (ListPost (listP p nm) P w) := by
  obtain ⟨At, nt, ct, rfl, -, -, -⟩ := h.top.form
  obtain ⟨Ae, ne, ce, rfl, -, -, -⟩ := h.elts.form
  obtain ⟨Au, nu, cu, rfl, -, -, -⟩ := h.unwrap.form
  obtain ⟨w1, hw1⟩ : ∃ w1, w.alloc (.cells #[.slice At nt ct, .slice Ae ne ce, .slice Au nu cu] 25) = w1 := ⟨_, rfl⟩
  have hB1 : Hid (Below w.heap.size w w1) := Lib.hid (by rw [← hw1]; exact (Below.refl _ _).alloc (Nat.le_refl _) _)
  have hbx : Hid (w1.heap[w.heap.size]? = some (.cells #[.slice At nt ct, .slice Ae ne ce, .slice Au nu cu] 25)) := Lib.hid (by rw [← hw1]; exact blk_new _ _)
  have hfi := find13_any (.slice At nt ct) (.slice Ae ne ce) (.slice Au nu cu) p.elts nm P w1 (fun k hk => Nat.lt_of_lt_of_le (hP k hk) hB1.out.size) (h.elts.move (Stays.below hB1.out hP) (fun _ h => h)) ⟨_, _, _, rfl⟩ ⟨_, _, _, rfl⟩ hl
  have htop : Hid (StrsAt w1 P (.slice At nt ct) p.top) := Lib.hid (h.top.move (Stays.below hB1.out hP) (fun _ h => h))
  go_enter Tryz.func41, Tryz.ntmps41
  go_upto_region 1 with fail
  have d0 : w1.cell? ⟨w.heap.size, 0, none⟩ = some (.slice At nt ct) := blk_cell hbx.out 0
  have d1 : w1.cell? ⟨w.heap.size, 1, none⟩ = some (.slice Ae ne ce) := blk_cell hbx.out 1
  have d2 : w1.cell? ⟨w.heap.size, 2, none⟩ = some (.slice Au nu cu) := blk_cell hbx.out 2
  clear hw1
  by_cases hn : nm.toList = []
  · have el : Hid (listP p nm = p.top) := Lib.hid (by unfold listP; rw [if_pos hn])
    have hn2 : (nm.toList == []) = true := by rw [hn]; rfl
    clear hfi h
    go_wp2
    go_ret
    exact ⟨.slice At nt ct, rfl, by rw [el.out]; exact htop.out, hB1.out⟩
  · have hn2 : (nm.toList == []) = false := by simpa using hn
    cases hf : findP p.elts nm with
    | none =>
      have el : Hid (listP p nm = []) := Lib.hid (by unfold listP; rw [if_neg hn, hf])
      rw [hf] at hfi
      clear h hf htop
      go_wp2_with (go_at_call 30; refine hfi.mono ?_; rintro e5 w5 ⟨rfl, hB5⟩)
      go_ret
      exact ⟨.slice none 0 0, rfl, by rw [el.out]; exact CRow.nil _ _ _, (hB1.out.trans (hB5.mono hB1.out.size)).alloc (Nat.le_trans hB1.out.size hB5.size) _⟩
    | some x =>
      have el : Hid (listP p nm = x.kids) := Lib.hid (by unfold listP; rw [if_neg hn, hf])
      rw [hf] at hfi
      clear h hf htop
      go_wp2_with (go_at_call 30; refine hfi.mono ?_; rintro e5 w5 ⟨⟨vk, vr, rfl, hk, hr⟩, hB5⟩; obtain ⟨Ak, nk, ck, rfl, -, -, -⟩ := hk.form; obtain ⟨Ar, nr, cr, rfl, -, -, -⟩ := hr.form)
      go_ret
      have hBw := hB1.out.trans (hB5.mono hB1.out.size)
      exact ⟨.slice Ak nk ck, rfl, by rw [el.out]; exact hk.move (Stays.alloc (fun k hk => Nat.lt_of_lt_of_le (hP k hk) hBw.size) _) (fun _ h => h), hBw.alloc hBw.size _⟩
end Go.Proofs.YtghlodpbbghcoaaGreatDoor

/- May a node stand in an element, by the document: walked. -/
namespace Go.Proofs.YtghlodpbbghcoaaGreatDoor
open Go.Lib Go.RowKit Go.Maps
/-- What a node is called in a list. -/
def kindN (kd : Int) (nm : ByteArray) : ByteArray := if kd = 2 then ⟨#[35, 116, 101, 120, 116]⟩ else if kd = 3 then ⟨#[35, 99, 111, 109, 109, 101, 110, 116]⟩ else nm
theorem listP_len {p : Pol} (hf : p.Fit) (nm : ByteArray) : (listP p nm).length ≤ 140737488355328 := by
  unfold listP
  split
  · exact hf.top.1
  · cases h : findP p.elts nm with
    | none => simp
    | some x => exact (hf.elts.2 x (List.mem_of_find?_eq_some h)).2.1
set_option maxRecDepth 8192 in
set_option maxHeartbeats 1600000 in
theorem inside18_any (vt ve vu : Value) (p : Pol) (par nm tx : ByteArray) (kd : Int) (Aa Ak : Option Addr) (na ca nk ck : Nat) (P : Nat → Prop) (w : World) (hP : ∀ k, P k → k < w.heap.size) (h : PolAt w P vt ve vu p) (hf : p.Fit) (hkd : kd = 1 ∨ kd = 2 ∨ kd = 3) :
    Calls Tryz.prog 18 #[.agg #[vt, ve, vu], .string par, .agg #[.int .i64 kd, .string nm, .slice Aa na ca, .string tx, .slice Ak nk ck]] w (IsB (Lib.containsS (listP p par) (kindN kd nm)) w) := by
  obtain ⟨At, nt, ct, rfl, -, -, -⟩ := h.top.form
  obtain ⟨Ae, ne, ce, rfl, -, -, -⟩ := h.elts.form
  obtain ⟨Au, nu, cu, rfl, -, -, -⟩ := h.unwrap.form
  obtain ⟨w1, hw1⟩ : ∃ w1, (w.alloc (.cells #[.slice At nt ct, .slice Ae ne ce, .slice Au nu cu] 25)).alloc (.cells #[.int .i64 kd, .string nm, .slice Aa na ca, .string tx, .slice Ak nk ck] 44) = w1 := ⟨_, rfl⟩
  have hB1 : Hid (Below w.heap.size w w1) := Lib.hid (by rw [← hw1]; exact ((Below.refl _ _).alloc (Nat.le_refl _) _).alloc (by simp) _)
  have hbx : Hid (w1.heap[w.heap.size]? = some (.cells #[.slice At nt ct, .slice Ae ne ce, .slice Au nu cu] 25)) := Lib.hid (by rw [← hw1]; exact blk_alloc (blk_new _ _) _)
  have hby : Hid (w1.heap[w.heap.size + 1]? = some (.cells #[.int .i64 kd, .string nm, .slice Aa na ca, .string tx, .slice Ak nk ck] 44)) := Lib.hid (by rw [← hw1]; exact blk_new' (by simp))
  have hli := list13_any (.slice At nt ct) (.slice Ae ne ce) (.slice Au nu cu) p par P w1 (fun k hk => Nat.lt_of_lt_of_le (hP k hk) hB1.out.size) (h.move (Stays.below hB1.out hP) (fun _ h => h)) hf.elts.1
  have hll := listP_len hf par
  obtain ⟨L, hL⟩ : ∃ L, listP p par = L := ⟨_, rfl⟩
  rw [hL] at hli hll ⊢
  clear h hf hL
  have hha : Hid (∀ (v : Value) (x : ByteArray) (wx : World), StrsAt wx P v L → Calls Tryz.prog 33 #[v, .string x] wx fun e w' => e = .returned (.bool (Lib.containsS L x)) ∧ w' = wx) := Lib.hid (fun v x wx hv => has_any v L x P wx hv hll)
  obtain ⟨b, hb⟩ : ∃ b, Lib.containsS L (kindN kd nm) = b := ⟨_, rfl⟩
  rw [hb]
  replace hb := Lib.hid hb
  go_enter Tryz.func18, Tryz.ntmps18
  go_upto_region 1 with fail
  have d0 : w1.cell? ⟨w.heap.size, 0, none⟩ = some (.slice At nt ct) := blk_cell hbx.out 0
  have d1 : w1.cell? ⟨w.heap.size, 1, none⟩ = some (.slice Ae ne ce) := blk_cell hbx.out 1
  have d2 : w1.cell? ⟨w.heap.size, 2, none⟩ = some (.slice Au nu cu) := blk_cell hbx.out 2
  clear hw1
  go_upto_region 2 with (go_at_call 41; refine hli.mono ?_; rintro e5 w5 ⟨v5, rfl, hv5, hB5⟩; replace hv5 := Lib.hid hv5; replace hB5 := Lib.hid hB5)
  have hby5 : Hid (w5.heap[w.heap.size + 1]? = some (.cells #[.int .i64 kd, .string nm, .slice Aa na ca, .string tx, .slice Ak nk ck] 44)) := Lib.hid (blk_below hby.out hB5.out (blk_lt hby.out))
  have e0 : w5.cell? ⟨w.heap.size + 1, 0, none⟩ = some (.int .i64 kd) := blk_cell hby5.out 0
  have e1 : w5.cell? ⟨w.heap.size + 1, 1, none⟩ = some (.string nm) := blk_cell hby5.out 1
  have hB6 : Hid (Below w.heap.size w w5) := Lib.hid (hB1.out.trans (hB5.out.mono hB1.out.size))
  have hc := hha.out v5 (kindN kd nm) w5 hv5.out
  rw [hb.out] at hc
  clear d0 d1 d2 hli hha hb
  rcases hkd with rfl | rfl | rfl
  all_goals go_wp2_with (go_at_call 33; refine hc.mono ?_; rintro e7 w7 ⟨rfl, e6⟩; obtain rfl := e6.symm)
  all_goals go_ret
  all_goals exact ⟨rfl, hB6.out⟩
end Go.Proofs.YtghlodpbbghcoaaGreatDoor

/- slices.Contains of texts by a list as it lies. -/
namespace Go.Proofs.YtghlodpbbghcoaaGreatDoor
open Go.Lib Go.RowKit Go.Maps
theorem contains_strs (v : Value) (l : List ByteArray) (x : ByteArray) (P : Nat → Prop) (w : World) (h : StrsAt w P v l) (hl : l.length ≤ 140737488355328) : Calls Tryz.prog 40 #[v, .string x] w fun e w' => e = .returned (.bool (Lib.containsS l x)) ∧ w' = w := by
  obtain ⟨A, n, cap, rfl, hn, hcap, hat⟩ := h.form
  by_cases h0 : n = 0
  · subst h0
    have : l = [] := List.eq_nil_of_length_eq_zero hn.symm
    subst this
    have := Tryz.slices_Contains_string_empty A cap x w
    rw [show Lib.containsS [] x = false from rfl]
    exact this
  · obtain ⟨b, o, rfl, _, hc⟩ := hat (by omega)
    have := Tryz.slices_Contains_string b o n cap l x w (by omega) (by omega) (fun j hj => by rw [hc j hj]; simp [List.getD_eq_getElem?_getD, hj])
    rw [hn, List.take_length] at this
    rw [hn]
    exact this
end Go.Proofs.YtghlodpbbghcoaaGreatDoor

/- May a node stand in an element: walked. -/
namespace Go.Proofs.YtghlodpbbghcoaaGreatDoor
open Go.Lib Go.RowKit Go.Maps
def elemP (p : Pol) (kd : Int) (nm : ByteArray) : Bool := !decide (kd = 1) || (findP p.elts nm).isSome
def insideP (p : Pol) (par : ByteArray) (kd : Int) (nm : ByteArray) : Bool := (decide (par.toList = []) || (findP p.elts par).isSome) && (elemP p kd nm && Lib.containsS (listP p par) (kindN kd nm))
/-- Find's answer: what it is, and where its kids lie. -/
def FoundK (p : Pol) (nm : ByteArray) (P : Nat → Prop) (w : World) (e : Ending) (w' : World) : Prop :=
  ∃ x A n c A' n' c', e = .returned (.tuple #[.agg #[.string x, .slice A n c, .slice A' n' c'], .bool (findP p.elts nm).isSome]) ∧ (nm.toList ≠ [] → StrsAt w' P (.slice A n c) (listP p nm)) ∧ Below w.heap.size w w'
theorem find_kids (vt ve vu : Value) (p : Pol) (nm : ByteArray) (P : Nat → Prop) (w : World) (hP : ∀ k, P k → k < w.heap.size) (h : EltsAt w P ve p.elts) (ht : ∃ A n c, vt = .slice A n c) (hu : ∃ A n c, vu = .slice A n c) (hl : p.elts.length ≤ 140737488355328) :
    Calls Tryz.prog 17 #[.agg #[vt, ve, vu], .string nm] w (FoundK p nm P w) := by
  refine (find_any vt ve vu p.elts nm P w hP h ht hu hl).mono ?_
  rintro e w' ⟨hm, hB⟩
  cases hf : findP p.elts nm with
  | none =>
    rw [hf] at hm
    exact ⟨_, none, 0, 0, none, 0, 0, by rw [hf]; exact hm, fun hn => by unfold listP; rw [if_neg hn, hf]; exact CRow.nil _ _ _, hB⟩
  | some x =>
    rw [hf] at hm
    obtain ⟨vk, vr, he, h1, h2⟩ := hm
    obtain ⟨Ak, nk, ck, rfl, -, -, -⟩ := h1.form
    obtain ⟨Ar, nr, cr, rfl, -, -, -⟩ := h2.form
    exact ⟨_, Ak, nk, ck, Ar, nr, cr, by rw [hf]; exact he, fun hn => by unfold listP; rw [if_neg hn, hf]; exact h1, hB⟩
end Go.Proofs.YtghlodpbbghcoaaGreatDoor

/- May a node stand in an element: walked (policy.Inside). -/
namespace Go.Proofs.YtghlodpbbghcoaaGreatDoor
open Go.Lib Go.RowKit Go.Maps
set_option maxRecDepth 8192 in
set_option maxHeartbeats 3200000 in
theorem inside16_any (vt ve vu : Value) (p : Pol) (par nm tx : ByteArray) (kd : Int) (Aa Ak : Option Addr) (na ca nk ck : Nat) (P : Nat → Prop) (w : World) (hP : ∀ k, P k → k < w.heap.size) (h : PolAt w P vt ve vu p) (hf : p.Fit) (hkd : kd = 1 ∨ kd = 2 ∨ kd = 3) :
    Calls Tryz.prog 16 #[.agg #[vt, ve, vu], .string par, .agg #[.int .i64 kd, .string nm, .slice Aa na ca, .string tx, .slice Ak nk ck]] w (IsB (insideP p par kd nm) w) := by
  have hfn : Hid (∀ (x : ByteArray) (wx : World), Below w.heap.size w wx → Calls Tryz.prog 17 #[.agg #[vt, ve, vu], .string x] wx (FoundK p x P wx)) := Lib.hid (fun x wx hb =>
    find_kids vt ve vu p x P wx (fun k hk => Nat.lt_of_lt_of_le (hP k hk) hb.size) (h.elts.move (Stays.below hb hP) (fun _ h => h)) (by obtain ⟨A, n, c, e, -⟩ := h.top.form; exact ⟨A, n, c, e⟩) (by obtain ⟨A, n, c, e, -⟩ := h.unwrap.form; exact ⟨A, n, c, e⟩) hf.elts.1)
  obtain ⟨At, nt, ct, rfl, -, -, -⟩ := h.top.form
  obtain ⟨Ae, ne, ce, rfl, -, -, -⟩ := h.elts.form
  obtain ⟨Au, nu, cu, rfl, -, -, -⟩ := h.unwrap.form
  obtain ⟨w1, hw1⟩ : ∃ w1, (w.alloc (.cells #[.slice At nt ct, .slice Ae ne ce, .slice Au nu cu] 25)).alloc (.cells #[.int .i64 kd, .string nm, .slice Aa na ca, .string tx, .slice Ak nk ck] 44) = w1 := ⟨_, rfl⟩
  have hB1 : Hid (Below w.heap.size w w1) := Lib.hid (by rw [← hw1]; exact ((Below.refl _ _).alloc (Nat.le_refl _) _).alloc (by simp) _)
  have hbx : Hid (w1.heap[w.heap.size]? = some (.cells #[.slice At nt ct, .slice Ae ne ce, .slice Au nu cu] 25)) := Lib.hid (by rw [← hw1]; exact blk_alloc (blk_new _ _) _)
  have hby : Hid (w1.heap[w.heap.size + 1]? = some (.cells #[.int .i64 kd, .string nm, .slice Aa na ca, .string tx, .slice Ak nk ck] 44)) := Lib.hid (by rw [← hw1]; exact blk_new' (by simp))
  have htop : Hid (StrsAt w1 P (.slice At nt ct) p.top) := Lib.hid (h.top.move (Stays.below hB1.out hP) (fun _ h => h))
  have hll := listP_len hf par
  have hcn : Hid (∀ (v : Value) (wx : World), StrsAt wx P v (listP p par) → Calls Tryz.prog 40 #[v, .string (kindN kd nm)] wx fun e w' => e = .returned (.bool (Lib.containsS (listP p par) (kindN kd nm))) ∧ w' = wx) := Lib.hid (fun v wx hv => contains_strs v _ _ P wx hv hll)
  obtain ⟨cb, hcb⟩ : ∃ cb, Lib.containsS (listP p par) (kindN kd nm) = cb := ⟨_, rfl⟩
  rw [hcb] at hcn
  obtain ⟨r, hr⟩ : ∃ r, insideP p par kd nm = r := ⟨_, rfl⟩
  have hrv : Hid (r = ((decide (par.toList = []) || (findP p.elts par).isSome) && (elemP p kd nm && cb))) := Lib.hid (by rw [← hr, insideP, hcb])
  rw [hr]
  replace hP := Lib.hid hP
  clear h hf hll hr hcb
  go_enter Tryz.func16, Tryz.ntmps16
  go_upto_region 1 with fail
  have d0 : w1.cell? ⟨w.heap.size, 0, none⟩ = some (.slice At nt ct) := blk_cell hbx.out 0
  have d1 : w1.cell? ⟨w.heap.size, 1, none⟩ = some (.slice Ae ne ce) := blk_cell hbx.out 1
  have d2 : w1.cell? ⟨w.heap.size, 2, none⟩ = some (.slice Au nu cu) := blk_cell hbx.out 2
  clear hw1
  obtain ⟨hPx, hPx0⟩ : ∃ hPx, hPx = (decide (par.toList = []) || (findP p.elts par).isSome) := ⟨_, rfl⟩
  obtain ⟨bn, hbn⟩ : ∃ bn, (par.toList != []) = bn := ⟨_, rfl⟩
  have hbn2 : par.toList.isEmpty = !bn := by rw [← hbn]; cases par.toList <;> rfl
  go_upto_if 15 with fail
  go_cut [7] (fun x wx => ∃ A n c, x = .slice A n c ∧ Hid (StrsAt wx P (.slice A n c) (listP p par)) ∧ Hid (Below w1.heap.size w1 wx) ∧ Hid (r = (elemP p kd nm && cb)))
  case first =>
    replace hbn := Lib.hid hbn
    clear hbn2
    by_cases hn : par.toList = []
    · have hn2 : (par.toList != []) = false := by rw [hn]; rfl
      obtain rfl : false = bn := by rw [← hbn.out, hn2]
      have el : Hid (listP p par = p.top) := Lib.hid (by unfold listP; rw [if_pos hn])
      have hr2 : Hid (r = (elemP p kd nm && cb)) := Lib.hid (by rw [hrv.out, decide_eq_true hn]; simp)
      clear hrv
      go_wp2
      go_meet
      exact ⟨At, nt, ct, rfl, Lib.hid (by rw [el.out]; exact htop.out), Lib.hid (Below.refl _ _), hr2⟩
    · have hn2 : (par.toList != []) = true := by simpa using hn
      obtain rfl : true = bn := by rw [← hbn.out, hn2]
      have hf0 := hfn.out par w1 hB1.out
      obtain ⟨fp, hfp⟩ : ∃ fp, (findP p.elts par).isSome = fp := ⟨_, rfl⟩
      have hr2 : Hid (r = (fp && (elemP p kd nm && cb))) := Lib.hid (by rw [hrv.out, hfp, decide_eq_false hn]; simp)
      unfold FoundK at hf0
      rw [hfp] at hf0
      clear hrv hfp htop hPx0
      cases fp with
      | false =>
        have e : r = false := by rw [hr2.out]; rfl
        subst e
        go_wp2_with (go_at_call 17; refine hf0.mono ?_; rintro e5 w5 ⟨x5, A5, n5, c5, A6, n6, c6, rfl, -, hB5⟩)
        go_ret
        exact ⟨rfl, (hB1.out.trans (hB5.mono hB1.out.size)).alloc (Nat.le_trans hB1.out.size hB5.size) _⟩
      | true =>
        have hr3 : Hid (r = (elemP p kd nm && cb)) := Lib.hid (by rw [hr2.out]; rfl)
        clear hr2
        go_wp2_with (go_at_call 17; refine hf0.mono ?_; rintro e5 w5 ⟨x5, A5, n5, c5, A6, n6, c6, rfl, hk5, hB5⟩)
        go_meet
        have hBw := hB1.out.trans (hB5.mono hB1.out.size)
        exact ⟨A5, n5, c5, rfl, Lib.hid ((hk5 hn).move (Stays.alloc (fun k hk => Nat.lt_of_lt_of_le (hP.out k hk) hBw.size) _) (fun _ h => h)), Lib.hid (hB5.alloc hB5.size _), hr3⟩
  case rest =>
  obtain ⟨A7, n7, c7, rfl, hv, hBc, hr2⟩ := hcut
  clear hrv htop hPx0 d0 d1 d2 hbn hbn2
  have hBz : Hid (Below w.heap.size w wc) := Lib.hid (hB1.out.trans (hBc.out.mono hB1.out.size))
  have hyz : Hid (wc.heap[w.heap.size + 1]? = some (.cells #[.int .i64 kd, .string nm, .slice Aa na ca, .string tx, .slice Ak nk ck] 44)) := Lib.hid (blk_below hby.out hBc.out (blk_lt hby.out))
  have hxz : Hid (wc.heap[w.heap.size]? = some (.cells #[.slice At nt ct, .slice Ae ne ce, .slice Au nu cu] 25)) := Lib.hid (blk_below hbx.out hBc.out (blk_lt hbx.out))
  have e0 : wc.cell? ⟨w.heap.size + 1, 0, none⟩ = some (.int .i64 kd) := blk_cell hyz.out 0
  have e1 : wc.cell? ⟨w.heap.size + 1, 1, none⟩ = some (.string nm) := blk_cell hyz.out 1
  have z0 : wc.cell? ⟨w.heap.size, 0, none⟩ = some (.slice At nt ct) := blk_cell hxz.out 0
  have z1 : wc.cell? ⟨w.heap.size, 1, none⟩ = some (.slice Ae ne ce) := blk_cell hxz.out 1
  have z2 : wc.cell? ⟨w.heap.size, 2, none⟩ = some (.slice Au nu cu) := blk_cell hxz.out 2
  have hc := hcn.out _ wc hv.out
  have hf1 := hfn.out nm wc hBz.out
  rcases hkd with rfl | rfl | rfl
  · obtain ⟨fd, hfd⟩ : ∃ fd, (findP p.elts nm).isSome = fd := ⟨_, rfl⟩
    have hr3 : Hid (r = (fd && cb)) := Lib.hid (by rw [hr2.out, elemP, hfd]; simp)
    unfold FoundK at hf1
    rw [hfd] at hf1
    clear hr2 hfd hc
    cases fd with
    | false =>
      have e : r = false := by rw [hr3.out]; rfl
      subst e
      go_wp2_with (go_at_call 17; refine hf1.mono ?_; rintro e5 w5 ⟨x5, A5, n5, c5, A6, n6, c6, rfl, -, hB5⟩)
      go_ret
      exact ⟨rfl, (hBz.out.trans (hB5.mono hBz.out.size)).alloc (Nat.le_trans hBz.out.size hB5.size) _⟩
    | true =>
      have e : r = cb := by rw [hr3.out]; rfl
      subst e
      go_upto_region 14 with (go_at_call 17; refine hf1.mono ?_; rintro e5 w5 ⟨x5, A5, n5, c5, A6, n6, c6, rfl, -, hB5⟩)
      have hBw := hBz.out.trans (hB5.mono hBz.out.size)
      have hBy := hBw.alloc hBw.size (.cells #[.string x5, .slice A5 n5 c5, .slice A6 n6 c6] 30)
      have hc9 := hcn.out (.slice A7 n7 c7) (w5.alloc (.cells #[.string x5, .slice A5 n5 c5, .slice A6 n6 c6] 30)) (hv.out.move ((Stays.below hB5 (fun k hk => Nat.lt_of_lt_of_le (hP.out k hk) hBz.out.size)).trans (Stays.alloc (fun k hk => Nat.lt_of_lt_of_le (hP.out k hk) hBw.size) _)) (fun _ h => h))
      have e9 : (w5.alloc (.cells #[.string x5, .slice A5 n5 c5, .slice A6 n6 c6] 30)).cell? ⟨w.heap.size + 1, 1, none⟩ = some (.string nm) := blk_cell (blk_alloc (blk_below hyz.out hB5 (blk_lt hyz.out)) _) 1
      go_wp2_with (go_at_call 40; refine hc9.mono ?_; rintro e7 w7 ⟨rfl, e6⟩; subst e6)
      go_ret
      exact ⟨rfl, hBy⟩
  all_goals
    have e : r = cb := by rw [hr2.out, elemP]; simp
    subst e
    clear hr2
    go_wp2_with (go_at_call 40; refine hc.mono ?_; rintro e7 w7 ⟨rfl, e6⟩; obtain rfl := e6.symm)
    go_ret
    exact ⟨rfl, hBz.out⟩
end Go.Proofs.YtghlodpbbghcoaaGreatDoor
