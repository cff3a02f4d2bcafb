/- The policy that is made of any, by the document: plain. -/
import Derived.Test.YtghlodpbbghcoaaGreatDoorZ42
import Derived.Test.YtghlodpbbghcoaaGreatDoorProg
import Derived.Deep.RegionLaw
import Derived.Deep.AppendLies
import Derived.WalkKit
import Derived.Test.YtghlodpbbghcoaaGreatDoorZD
import Derived.Deep.RegionHeld3
namespace Go.Proofs.YtghlodpbbghcoaaGreatDoor
open Go.Lib Go.RowKit Go.Maps
def pool5 (i : Nat) : ByteArray := if i = 0 then ⟨#[97]⟩ else if i = 1 then ⟨#[98]⟩ else if i = 2 then ⟨#[112]⟩ else if i = 3 then ⟨#[98, 114]⟩ else ⟨#[115, 116, 121, 108, 101]⟩
def gname (i : Nat) (s : ByteArray) : ByteArray := if plainP s then s else pool5 i
theorem gname_plain (i : Nat) (s : ByteArray) : plainP (gname i s) = true := by
  unfold gname
  split
  · assumption
  · unfold pool5
    split
    · kernel_rfl
    · split
      · kernel_rfl
      · split
        · kernel_rfl
        · split <;> kernel_rfl
/-- The names of the elements that are made of the first ones. -/
def gNm (l : List Elt) : Nat → List ByteArray
  | 0 => []
  | k + 1 => match l[k]? with
    | none => gNm l k
    | some e => if Lib.containsS (gNm l k) (gname k e.name) then gNm l k else gNm l k ++ [gname k e.name]
theorem gNm_step {l : List Elt} {k : Nat} (hk : k < l.length) : gNm l (k + 1) = if Lib.containsS (gNm l k) (gname k l[k].name) then gNm l k else gNm l k ++ [gname k l[k].name] := by
  rw [gNm, List.getElem?_eq_getElem hk]
theorem gNm_stop {l : List Elt} : ∀ {k m : Nat}, l.length ≤ k → k ≤ m → gNm l m = gNm l k := by
  intro k m h1 h2
  induction m with
  | zero => obtain rfl : k = 0 := by omega
            rfl
  | succ m ih =>
    rcases Nat.lt_or_ge m k with h | h
    · obtain rfl : k = m + 1 := by omega
      rfl
    · rw [gNm, List.getElem?_eq_none (by omega)]
      exact ih h
theorem gNm_len (l : List Elt) : ∀ k, (gNm l k).length ≤ k ∧ (gNm l k).length ≤ l.length := by
  intro k
  induction k with
  | zero => exact ⟨Nat.le_refl _, Nat.zero_le _⟩
  | succ k ih =>
    rcases Nat.lt_or_ge k l.length with h | h
    · rw [gNm_step h]
      split
      · omega
      · rw [List.length_append]
        simp
        constructor
        · omega
        · have := ih.1; omega
    · rw [gNm, List.getElem?_eq_none h]
      show (gNm l k).length ≤ k + 1 ∧ (gNm l k).length ≤ l.length
      omega
theorem gNm_nodup (l : List Elt) : ∀ k, (gNm l k).Nodup := by
  intro k
  induction k with
  | zero => simp [gNm]
  | succ k ih =>
    rcases Nat.lt_or_ge k l.length with h | h
    · rw [gNm_step h]
      split
      · exact ih
      · next hc =>
        exact List.nodup_append.2 ⟨ih, by simp, fun a ha b hb e => hc ((Lib.containsS_iff _ _).2 (by have e2 : a = gname k l[k].name := e.trans (List.mem_singleton.1 hb); rw [← e2]; exact ha))⟩
    · rw [gNm, List.getElem?_eq_none h]
      exact ih
theorem gNm_plain (l : List Elt) : ∀ k, ∀ s ∈ gNm l k, plainP s = true := by
  intro k
  induction k with
  | zero => simp [gNm]
  | succ k ih =>
    rcases Nat.lt_or_ge k l.length with h | h
    · rw [gNm_step h]
      split
      · exact ih
      · intro s hs
        rcases List.mem_append.1 hs with hs | hs
        · exact ih s hs
        · rw [List.mem_singleton.1 hs]
          exact gname_plain _ _
    · rw [gNm, List.getElem?_eq_none h]
      exact ih
/-- Elements of which the names alone matter. -/
def nEl (l : List ByteArray) : List Elt := l.map fun s => ⟨s, [], []⟩
theorem findP_isSome (el : List Elt) (s : ByteArray) : (findP el s).isSome = Lib.containsS (el.map Elt.name) s := by
  unfold findP
  rw [Bool.eq_iff_iff, List.find?_isSome, Lib.containsS_iff, List.mem_map]
  constructor
  · rintro ⟨x, hx, he⟩
    exact ⟨x, hx, by simpa using he⟩
  · rintro ⟨x, hx, he⟩
    exact ⟨x, hx, by simpa using he⟩
theorem names_nEl (l : List ByteArray) : (nEl l).map Elt.name = l := by
  unfold nEl
  rw [List.map_map]
  exact List.map_id' l
theorem fittingP_names (el : List Elt) (nm : ByteArray) (l : List ByteArray) : fittingP el nm l = fittingP (nEl (el.map Elt.name)) nm l := by
  have h1 : ∀ s, kid13Bad el nm s = kid13Bad (nEl (el.map Elt.name)) nm s := fun s => by
    unfold kid13Bad
    rw [findP_isSome, findP_isSome, names_nEl]
  have h2 : ∀ l, kids13P el nm l = kids13P (nEl (el.map Elt.name)) nm l := fun l => by
    unfold kids13P
    simp only [h1]
  have h3 : fitStep el nm = fitStep (nEl (el.map Elt.name)) nm := by
    funext o s
    unfold fitStep
    rw [h2]
  unfold fittingP
  rw [h3]
/-- What the rules of an element are that is made of any. -/
structure RulsOk (l : List Rul) : Prop where
  len : l.length ≤ 3
  ok : ∀ r ∈ l, RulOk r
  nodup : (l.map Rul.name).Nodup
/-- What the policy is that is made of another one. -/
structure GoodOk (p q : Pol) : Prop where
  names : q.elts.map Elt.name = gNm p.elts 5
  kids : ∀ i (hi : i < q.elts.length), ∃ hp : i < p.elts.length, q.elts[i].kids = fittingP (nEl (gNm p.elts 5)) q.elts[i].name p.elts[i].kids
  top : q.top = fittingP (nEl (gNm p.elts 5)) ⟨#[]⟩ p.top
  rules : ∀ e ∈ q.elts, RulsOk e.rules
  unlen : q.unwrap.length ≤ 4
  unplain : ∀ s ∈ q.unwrap, plainP s = true
  unnodup : q.unwrap.Nodup
def GoodPost (p : Pol) (w : World) (e : Ending) (w' : World) : Prop := ∃ (vt ve vu : Value) (q : Pol), e = .returned (.agg #[vt, ve, vu]) ∧ PolAt w' (fun k => w.heap.size ≤ k ∧ k < w'.heap.size) vt ve vu q ∧ GoodOk p q ∧ Below w.heap.size w w'
/-- A policy that is handed in. -/
structure Pol.In (p : Pol) : Prop where
  top : p.top.length ≤ 140737488355328 ∧ ∀ s ∈ p.top, s.size ≤ 140737488355328
  unwrap : p.unwrap.length ≤ 140737488355328 ∧ ∀ s ∈ p.unwrap, s.size ≤ 140737488355328
  elts : p.elts.length ≤ 140737488355328 ∧ ∀ e ∈ p.elts, e.name.size ≤ 140737488355328 ∧ e.kids.length ≤ 140737488355328 ∧ (∀ s ∈ e.kids, s.size ≤ 140737488355328) ∧ e.rules.length ≤ 140737488355328 ∧ ∀ r ∈ e.rules, r.In
end Go.Proofs.YtghlodpbbghcoaaGreatDoor

/- A call of a Go function as one step of a region that draws its order, for 'go_region_law'. -/
namespace Go.Proofs.YtghlodpbbghcoaaGreatDoor
open Go.RowKit
theorem step_call31 {ops : Array Oper} {o : Oper} {a : Act} {w : World} {K : Act → World → Prop} {Q : Exit → Act → World → Prop} {E : Prop} (hgd : o.guard = none) (x : Operand) (t : TypeId)
    (ho : o.op = .call { callee := .value (.func 31), args := #[x], argTypes := #[t] }) (v : Value) (hx : a.eval x = v) {Post : Ending → World → Prop} (hc : Calls Tryz.prog 31 #[v] w Post)
    (h : ∀ e w', Post e w' → ∃ r, e = .returned r ∧ K (a.put o.dst r) w') : if Region.wanted o (yielded ops a.tmps) = true then Oper.wp Tryz.prog o a w K Q else E := by
  have hw : Region.wanted o (yielded ops a.tmps) = true := by simp [Region.wanted, hgd]
  rw [if_pos hw]
  unfold Oper.wp
  have hr : (execOp a.eval o).run Tryz.prog w = .ok (.enter 31 #[v]) w := by
    subst hx
    simp [execOp, ho, resolve, go_sem]
  rw [hr, Oper.upon_enter]
  refine hc.mono ?_
  intro e w' hp
  obtain ⟨r, rfl, hk⟩ := h e w' hp
  exact hk
end Go.Proofs.YtghlodpbbghcoaaGreatDoor

/- The policy that is made of any, by the document: walked. -/
namespace Go.Proofs.YtghlodpbbghcoaaGreatDoor
open Go.Lib Go.RowKit Go.Maps
theorem info30f : (Tryz.prog.info? 30).map (fun i => (i.zero, i.size, i.bytes)) = some (some (.agg #[.string ⟨#[]⟩, .slice none 0 0, .slice none 0 0]), 3, 64) := by kernel_rfl
theorem info25 : (Tryz.prog.info? 25).map (·.size) = some 3 := by kernel_rfl
/-- An element whose kids are not told yet. -/
def Bare (c : EltC) : Prop := c.vk = .slice none 0 0 ∧ c.kids = [] ∧ RulsOk c.rules
abbrev RowE (X : Nat) (w : World) (v : Value) (l : List EltC) : Prop := RowI eltK 30 (fun b => X < b) w v l
theorem RowE.row {X : Nat} {w : World} {v : Value} {l : List EltC} (h : RowE X w v l) : EltsAt w (fun k => k < w.heap.size) v (l.map EltC.elt) := h.elts.move (Stays.refl _ _) (fun _ hk => hk.2)
theorem grown_alloc {w w' : World} {o : Obj} {row : Option Nat} (hg : (w.alloc o).grownBy w' row) : w.grownBy w' row :=
  ⟨hg.os, hg.tape, hg.output, by have := hg.size; simp at this; omega, fun k hk hne => (hg.block k (by simp; omega) hne).trans (Below.heap_alloc w o k hk)⟩
theorem grown_alloc2 {w w' : World} {o : Obj} {row : Option Nat} (hg : (w.alloc o).drew.grownBy w' row) : w.drew.grownBy w' row :=
  ⟨hg.os, hg.tape, hg.output, by have := hg.size; simp at this; simp; omega, fun k hk hne => (hg.block k (by simp; simp at hk; omega) hne).trans (Below.heap_alloc w o k hk)⟩
theorem RowI.some1 {α : Type} {K : Kind α} {e : TypeId} {A : Nat → Prop} {w : World} {v : Value} {l : List α} (h : RowI K e A w v l) {g n cap : Nat} (hv : v = .slice (some ⟨g, 0, none⟩) n cap) {i : Nat} (hi : i < l.length) {j : Nat} (hj : j < K.m) : (w.cell? ⟨g, i * K.m + j, none⟩).isSome = true := by
  rw [h.cell hv hi hj, List.getElem?_eq_getElem (by rw [K.len]; exact hj)]
  rfl
theorem RowI.froz {α : Type} {K : Kind α} {e : TypeId} {A : Nat → Prop} {w : World} {v : Value} {l : List α} (h : RowI K e A w v l) {g n cap : Nat} (hv : v = .slice (some ⟨g, 0, none⟩) n cap) (j : Nat) : w.frozen? ⟨g, j, none⟩ = false := by
  have hn : n = l.length := by
    rcases h.own.2 with ⟨h0, _⟩ | ⟨g', cap', cur, h0, _⟩
    · rw [hv] at h0; simp at h0
    · rw [hv] at h0
      simp only [Value.slice.injEq] at h0
      exact h0.2.1
  subst hn
  subst hv
  exact h.own.frozenAt j
/-- What an append of one element leaves. -/
theorem RowE.pushed {X : Nat} {wd w6 w7 : World} {A1 : Option Addr} {c1 : Nat} {cs : List EltC} {nm : ByteArray} {vr : Value} {cr : List RulC} {ga ca : Nat} {o : Obj} (hX : X < wd.heap.size) (hrd : RowE X wd (.slice A1 cs.length c1) cs) (hbel : Below wd.heap.size wd w6)
    (hr : RowI rulK 34 (fun k => wd.heap.size ≤ k) w6 vr cr) (hown : w7.ownsRow 0 30 3 (.slice (some ⟨ga, 0, none⟩) (cs.length + 1) ca) (cs.length + 1) (flat eltK.enc cs ++ [.string nm, .slice none 0 0, vr]))
    (hg : (w6.alloc o).grownBy w7 (Value.slice A1 cs.length c1).ownBlock) (hat : (Value.slice A1 cs.length c1).ownBlock = some ga ∨ ga = (w6.alloc o).heap.size) :
    RowE X w7 (.slice (some ⟨ga, 0, none⟩) (cs.length + 1) ca) (cs ++ [⟨nm, .slice none 0 0, [], vr, cr.map RulC.rul⟩]) := by
  have h6 := hrd.carry hbel
  have hc : EltC.Fine w6 (fun k => wd.heap.size ≤ k ∧ k < w6.heap.size) ⟨nm, .slice none 0 0, [], vr, cr.map RulC.rul⟩ := ⟨show StrsAt w6 _ (.slice none 0 0) [] from CRow.nil _ _ _, hr.ruls⟩
  refine h6.push (c := (⟨nm, .slice none 0 0, [], vr, cr.map RulC.rul⟩ : EltC)) (R := fun k => wd.heap.size ≤ k ∧ k < w6.heap.size) hc ?_ ?_ hown (grown_alloc hg) ?_
  · intro k hk
    refine ⟨by omega, hk.2, fun e => ?_⟩
    have := (hrd.own.lt k e).2
    omega
  · intro k hk
    have := hbel.size
    omega
  · intro k hk
    have e : ga = k := by simpa [Value.ownBlock] using hk
    subst e
    rcases hat with h | h
    · exact .inl h
    · refine .inr ?_
      rw [h]
      simp
/-- Find of what is being made. -/
def FoundB (el : List Elt) (nm : ByteArray) (w : World) (e : Ending) (w' : World) : Prop :=
  ∃ x A n c A' n' c', e = .returned (.tuple #[.agg #[.string x, .slice A n c, .slice A' n' c'], .bool (Lib.containsS (el.map Elt.name) nm)]) ∧ Below w.heap.size w w'
theorem find13_b (vt ve vu : Value) (el : List Elt) (s : ByteArray) (w : World) (he : EltsAt w (fun k => k < w.heap.size) ve el) (ht : ∃ A n c, vt = .slice A n c) (hu : ∃ A n c, vu = .slice A n c) (hel : el.length ≤ 140737488355328) :
    Calls Tryz.prog 30 #[.agg #[vt, ve, vu], .string s] w (FoundB el s w) :=
  (find13_any vt ve vu el s _ w (fun _ hk => hk) he ht hu hel).mono (by
    rintro e w' ⟨h, hB⟩
    have hc := findP_isSome el s
    cases hf : findP el s with
    | none =>
      rw [hf] at h hc
      exact ⟨_, none, 0, 0, none, 0, 0, by rw [← hc]; exact h, hB⟩
    | some x =>
      rw [hf] at h hc
      obtain ⟨vk, vr, h, h1, h2⟩ := h
      obtain ⟨Ak, nk, ck, rfl, -, -, -⟩ := h1.form
      obtain ⟨Ar, nr, cr, rfl, -, -, -⟩ := h2.form
      exact ⟨_, Ak, nk, ck, Ar, nr, cr, by rw [← hc]; exact h, hB⟩)

set_option maxRecDepth 16384 in
set_option maxHeartbeats 12800000 in
theorem good10_any (vt ve vu : Value) (p : Pol) (P : Nat → Prop) (w : World) (hP : ∀ k, P k → k < w.heap.size) (h : PolAt w P vt ve vu p) (hin : p.In) :
    Calls Tryz.prog 10 #[.agg #[vt, ve, vu]] w (GoodPost p w) := by
  obtain ⟨At, nt, ct, rfl, hnt, -, -⟩ := h.top.form
  obtain ⟨Ae, n, ce, rfl, hn, hce, hat⟩ := h.elts.form
  obtain ⟨Au, nu, cu, rfl, hnu, hcu, hau⟩ := h.unwrap.form
  have hn6 : n ≤ 140737488355328 := by have := hin.elts.1; omega
  have hnu6 : nu ≤ 140737488355328 := by have := hin.unwrap.1; omega
  replace hn := Lib.hid hn
  replace hnu := Lib.hid hnu
  replace hat := Lib.hid hat
  replace hau := Lib.hid hau
  replace hP := Lib.hid hP
  replace hin := Lib.hid hin
  replace h := Lib.hid h
  clear hnt
  obtain ⟨w3, hw3⟩ : ∃ w3, ((w.alloc (.cells #[.slice At nt ct, .slice Ae n ce, .slice Au nu cu] 25)).alloc (.cells #[.slice none 0 0, .slice none 0 0, .slice none 0 0] 25)).alloc (.cells #[.slice none 0 0, .slice none 0 0, .slice none 0 0] 25) = w3 := ⟨_, rfl⟩
  have hB3 : Hid (Below w.heap.size w w3) := Lib.hid (by rw [← hw3]; exact (((Below.refl _ _).alloc (Nat.le_refl _) _).alloc (by simp) _).alloc (by simp; omega) _)
  obtain ⟨X, hX⟩ : ∃ X, w.heap.size + 2 = X := ⟨_, rfl⟩
  have hb3 : Hid (w3.heap[w.heap.size]? = some (.cells #[.slice At nt ct, .slice Ae n ce, .slice Au nu cu] 25)) := Lib.hid (by rw [← hw3]; exact blk_alloc (blk_alloc (blk_new _ _) _) _)
  have hr3 : Hid (w3.heap[w.heap.size + 1]? = some (.cells #[.slice none 0 0, .slice none 0 0, .slice none 0 0] 25)) := Lib.hid (by rw [← hw3]; exact blk_alloc (blk_new' (by simp)) _)
  have hx3 : Hid (w3.heap[X]? = some (.cells #[.slice none 0 0, .slice none 0 0, .slice none 0 0] 25)) := Lib.hid (by rw [← hw3, ← hX]; exact blk_new' (by simp))
  go_enter Tryz.func10, Tryz.ntmps10
  go_upto_region 2 with fail
  clear hw3
  have hXw : Hid (X = w.heap.size + 2) := Lib.hid hX.symm
  clear hX
  go_wp2
  go_loopw [4] (fun x4 wr => ∃ (k : Nat) (cs : List EltC) (v : Value), x4 = .int .i64 k ∧ k ≤ n ∧ k ≤ 5 ∧ Hid (cs.map EltC.name = gNm p.elts k) ∧ Hid (∀ c ∈ cs, Bare c) ∧ Hid (RowE X wr v cs) ∧ Hid (wr.heap[X]? = some (.cells #[.slice none 0 0, v, .slice none 0 0] 25)) ∧ Hid (Below X w3 wr)) (fun x4 _ => n - (RowKit.intOf x4).toNat)
  case atStart => exact ⟨0, [], .slice none 0 0, rfl, Nat.zero_le _, by decide, Lib.hid rfl, Lib.hid (by simp), Lib.hid (RowI.nil _), hx3, Lib.hid (Below.refl _ _)⟩
  case round =>
    obtain ⟨k, cs, v, rfl, hk, hk5, hnames, hbare, hrow, hxb, hB⟩ := hrel
    have hBw : Hid (Below w.heap.size w wr) := Lib.hid (hB3.out.trans (hB.out.mono (by have := hXw.out; omega)))
    have hb1 : Hid (wr.heap[w.heap.size]? = some (.cells #[.slice At nt ct, .slice Ae n ce, .slice Au nu cu] 25)) := Lib.hid (blk_below hb3.out hB.out (by have := hXw.out; omega))
    have d1 : wr.cell? ⟨w.heap.size, 1, none⟩ = some (.slice Ae n ce) := blk_cell hb1.out 1
    have hcl : cs.length ≤ k := by
      have h1 := congrArg List.length hnames.out
      rw [List.length_map] at h1
      have := gNm_len p.elts k
      omega
    obtain ⟨go, hgo⟩ : ∃ go, (decide (k < n) && decide (k < 5)) = go := ⟨_, rfl⟩
    replace hgo := Lib.hid hgo
    go_upto_region 3 with fail
    go_cut [23] (fun x wx => x = .bool go ∧ wx = wr)
    case first =>
      by_cases h1 : k < n
      · have i1 : (k : Int) < (n : Int) := by omega
        by_cases h2 : k < 5
        · have i2 : (k : Int) < 5 := by omega
          obtain rfl : true = go := by rw [← hgo.out]; simp [h1, h2]
          go_wp2
          go_meet
          exact ⟨rfl, rfl⟩
        · have i2 : ¬ (k : Int) < 5 := by omega
          obtain rfl : false = go := by rw [← hgo.out]; simp [h2]
          go_wp2
          go_meet
          exact ⟨rfl, rfl⟩
      · have i1 : ¬ (k : Int) < (n : Int) := by omega
        obtain rfl : false = go := by rw [← hgo.out]; simp [h1]
        go_wp2
        go_meet
        exact ⟨rfl, rfl⟩
    case rest =>
    obtain ⟨rfl, e6⟩ := hcut
    obtain rfl := e6.symm
    clear e6
    cases go with
    | true =>
      obtain ⟨hl1, hl2⟩ : k < n ∧ k < 5 := by have := hgo.out; simpa using this
      have hkl : k < p.elts.length := by have := hn.out; omega
      obtain ⟨b, o, rfl, hPb, hc⟩ := hat.out (by omega)
      obtain ⟨vk, vr, h0, h1, h2, hvk, hvr⟩ := hc k hkl
      have hbw := hP.out b hPb
      obtain ⟨xn, hxn⟩ : ∃ y, p.elts[k].name = y := ⟨_, rfl⟩
      rw [hxn] at h0
      have hx1 := (hin.out.elts.2 _ (List.getElem_mem hkl)).1
      have hrl := (hin.out.elts.2 _ (List.getElem_mem hkl)).2.2.2
      rw [hxn] at hx1
      have hcell : Hid (∀ W, Below w.heap.size w W → W.cell? ⟨b, o + k * 3, none⟩ = some (.string xn) ∧ W.cell? ⟨b, o + k * 3 + 2, none⟩ = some vr) := Lib.hid (fun W hW => ⟨(hW.cell (p := ⟨b, _, none⟩) hbw).trans h0, (hW.cell (p := ⟨b, _, none⟩) hbw).trans h2⟩)
      have hrules : Hid (∀ W, Below w.heap.size w W → Calls Tryz.prog 31 #[vr] W (RulesPost W)) := Lib.hid (fun W hW => rules31_any vr _ P W (fun k hk => Nat.lt_of_lt_of_le (hP.out k hk) hW.size) (hvr.move (Stays.below hW hP.out) (fun _ h => h)) hrl.1 hrl.2)
      obtain ⟨Ar, nr, cr, rfl, -, -, -⟩ := hvr.form
      have hi0 : (0 : Int) ≤ (k : Int) := by omega
      have hi1 : (k : Int) < (n : Int) := by omega
      have hi5 : (k : Int) < 5 := by omega
      obtain ⟨nm, hnm⟩ : ∃ nm, gname k xn = nm := ⟨_, rfl⟩
      have hstep := gNm_step hkl
      rw [hxn, hnm, ← hnames.out] at hstep
      replace hstep := Lib.hid hstep
      have hpl := plain13_any xn (by unfold maxLen; omega) wr
      obtain ⟨ok, hok⟩ : ∃ ok, plainP xn = ok := ⟨_, rfl⟩
      rw [hok] at hpl
      have hnm2 : Hid ((if ok then xn else pool5 k) = nm) := Lib.hid (by rw [← hnm, gname, hok])
      have c0 := (hcell.out wr hBw.out).1
      clear hc h0 h1 h2 hvk hvr hxn hnm hok hrl
      go_upto_if 35 with (go_at_call 29; refine hpl.mono ?_; rintro e7 w7 ⟨rfl, e6⟩; obtain rfl := e6.symm)
      go_cut [5] (fun x wx => x = .string nm ∧ Hid (Below wr.heap.size wr wx))
      case first =>
        cases ok with
        | true =>
          obtain rfl : xn = nm := hnm2.out
          go_wp2
          go_meet
          exact ⟨rfl, Lib.hid (Below.refl _ _)⟩
        | false =>
          have hnm3 : pool5 k = nm := hnm2.out
          replace hnm3 := Lib.hid hnm3
          have ht : (wr.alloc (.cells #[.string ⟨#[97]⟩, .string ⟨#[98]⟩, .string ⟨#[112]⟩, .string ⟨#[98, 114]⟩, .string ⟨#[115, 116, 121, 108, 101]⟩] 9)).cell? ⟨wr.heap.size, k, none⟩ = some (.string nm) := by
            rw [← hnm3.out, blk_cell (blk_new _ _)]
            obtain rfl | rfl | rfl | rfl | rfl : k = 0 ∨ k = 1 ∨ k = 2 ∨ k = 3 ∨ k = 4 := by omega
            all_goals rfl
          go_wp2
          go_meet
          exact ⟨rfl, Lib.hid ((Below.refl _ _).alloc (Nat.le_refl _) _)⟩
      case rest =>
      obtain ⟨rfl, hBc⟩ := hcut
      clear d1 c0 hpl hnm2
      have hxr := blk_lt hxb.out
      have hxc : Hid (wc.heap[X]? = some (.cells #[.slice none 0 0, v, .slice none 0 0] 25)) := Lib.hid (blk_below hxb.out hBc.out hxr)
      have hrc : Hid (RowE X wc v cs) := Lib.hid (hrow.out.carry hBc.out)
      obtain ⟨A1, c1, hv, -⟩ := own_form hrc.out.own
      subst hv
      have g0 := blk_cell hxc.out 0
      have g1 := blk_cell hxc.out 1
      have g2 := blk_cell hxc.out 2
      have hfi := find13_b (.slice none 0 0) (.slice A1 cs.length c1) (.slice none 0 0) (cs.map EltC.elt) nm wc hrc.out.row ⟨_, _, _, rfl⟩ ⟨_, _, _, rfl⟩ (by rw [List.length_map]; omega)
      have hmm : (cs.map EltC.elt).map Elt.name = cs.map EltC.name := by rw [List.map_map]; rfl
      unfold FoundB at hfi
      rw [hmm] at hfi
      obtain ⟨had, hhad⟩ : ∃ had, Lib.containsS (cs.map EltC.name) nm = had := ⟨_, rfl⟩
      rw [hhad] at hfi
      have hstep2 : Hid (gNm p.elts (k + 1) = if had then cs.map EltC.name else cs.map EltC.name ++ [nm]) := Lib.hid (by rw [hstep.out, hhad])
      clear hmm hhad hstep
      go_upto_if 48 with (go_at_call 30; refine hfi.mono ?_; rintro e5 w5 ⟨x5, A5, n5, c5, A6, n6, c6, rfl, hB5⟩; replace hB5 := Lib.hid hB5)
      obtain ⟨wd, hwd⟩ : ∃ wd, w5.alloc (.cells #[.string x5, .slice A5 n5 c5, .slice A6 n6 c6] 30) = wd := ⟨_, rfl⟩
      have hBd : Hid (Below wr.heap.size wr wd) := Lib.hid (by rw [← hwd]; have := hBc.out.trans (hB5.out.mono hBc.out.size); exact this.alloc this.size _)
      rw [hwd]
      clear hwd hB5 hfi g0 g1 g2 hxc hrc hBc
      have hxd : Hid (wd.heap[X]? = some (.cells #[.slice none 0 0, .slice A1 cs.length c1, .slice none 0 0] 25)) := Lib.hid (blk_below hxb.out hBd.out hxr)
      have hrd : Hid (RowE X wd (.slice A1 cs.length c1) cs) := Lib.hid (hrow.out.carry hBd.out)
      have hBX : Hid (Below X w3 wd) := Lib.hid (hB.out.trans (hBd.out.mono (Nat.le_of_lt hxr)))
      clear hrow hxb hBd
      cases had with
      | true =>
        go_wp2
        exact ⟨⟨k + 1, cs, .slice A1 cs.length c1, by simp, by omega, by omega, Lib.hid (by rw [hstep2.out]; rfl), hbare, hrd, hxd, hBX⟩, by simp [RowKit.intOf]; omega⟩
      | false =>
        have hXw2 := hXw.out
        have hS : Hid (∀ W, Below X w3 W → W.cell? ⟨w.heap.size, 1, none⟩ = some (.slice (some ⟨b, o, none⟩) n ce) ∧ W.cell? ⟨b, o + k * 3 + 2, none⟩ = some (.slice Ar nr cr)) := Lib.hid (fun W hW =>
          ⟨blk_cell (blk_below hb3.out hW (by omega)) 1, (hcell.out W (hB3.out.trans (hW.mono (by omega)))).2⟩)
        have hrl : Hid (∀ W, Below X w3 W → Calls Tryz.prog 31 #[.slice Ar nr cr] W (RulesPost W)) := Lib.hid (fun W hW => hrules.out W (hB3.out.trans (hW.mono (by omega))))
        have hzX : Hid (∀ W, Below X w3 W → X ≤ W.heap.size) := Lib.hid (fun W hW => Nat.le_trans (Nat.le_of_lt (blk_lt hx3.out)) (by have := hW.size; omega))
        have x1 : wd.cell? ⟨X, 1, none⟩ = some (.slice A1 cs.length c1) := blk_cell hxd.out 1
        obtain ⟨i0, hi, hz0, hz1, hz2⟩ := info_parts info30f
        clear hXw2 hcell hrules hb1
        go_upto_region 12 with fail
        have hs1 := (hS.out _ hBX.out).1
        have hs2 := (hS.out _ hBX.out).2
        go_region_law (first
            | (refine step_call31 rfl (.tmp 57) 28 rfl (.slice Ar nr cr) rfl (hrl.out _ hBX.out.drew) ?_; rintro e6 w6 ⟨v6, cr6, rfl, hrow6, hlen6, hok6, hnd6, hbel6⟩; obtain ⟨A6, c6, hv6, -⟩ := own_form hrow6.own; subst hv6; have y1 : w6.cell? ⟨X, 1, none⟩ = some (.slice A1 cs.length c1) := blk_cell (blk_below (blk_drew hxd.out) hbel6 (blk_lt hxd.out)) 1; have z1 : ∀ oo, (w6.alloc oo).cell? ⟨X, 1, none⟩ = some (.slice A1 cs.length c1) := fun oo => blk_cell (blk_alloc (blk_below (blk_drew hxd.out) hbel6 (blk_lt hxd.out)) oo) 1; have hB6 : Hid (Below X w3 w6) := Lib.hid (hBX.out.trans (((Below.refl wd.heap.size wd).drew.trans hbel6).mono (hzX.out wd hBX.out))); replace hrow6 := Lib.hid hrow6; replace hbel6 := Lib.hid hbel6; replace hok6 := Lib.hid hok6; replace hnd6 := Lib.hid hnd6; replace hlen6 := Lib.hid hlen6; refine ⟨_, rfl, ?_⟩)
            | (refine step_append_lies (w6.alloc (.cells #[.string nm, .slice none 0 0, .slice A6 cr6.length c6] 30)) rfl (.tmp 50) (.tmp 60) 23 rfl 0 30 i0 _ 3 64 Tryz.underlying23 hi hz0 hz1 hz2 rfl (by decide) (.slice A1 cs.length c1) cs.length (flat eltK.enc cs) rfl ((hrd.out.carry ((Below.refl _ _).drew.trans hbel6.out)).own.alloc _) ⟨_, 0, none⟩ 1 1 [.string nm, .slice none 0 0, .slice A6 cr6.length c6] rfl rfl (cells_new _ _ _) (by intro u hu; simp at hu; rcases hu with rfl | rfl | rfl <;> rfl) (by omega) (by unfold maxLen; omega) (by omega) (Nat.zero_le _) _ rfl ?_
               intro ga ca w7 hown7 hg7 hat7 hlt7
               have hx7 : Hid (w7.heap[X]? = some (.cells #[.slice none 0 0, .slice A1 cs.length c1, .slice none 0 0] 25)) := Lib.hid (blk_grown (blk_below (blk_drew hxd.out) hbel6.out (blk_lt hxd.out)) (grown_alloc hg7) (own_ne hrd.out.own hxd.out (by decide)))
               have y7 : w7.cell? ⟨X, 1, none⟩ = some (.slice A1 cs.length c1) := blk_cell hx7.out 1
               have f7 : w7.frozen? ⟨X, 1, none⟩ = false := blk_frozen hx7.out 1
               have hrow7 : Hid (RowE X w7 (.slice (some ⟨ga, 0, none⟩) (cs.length + 1) ca) (cs ++ [⟨nm, .slice none 0 0, [], .slice A6 cr6.length c6, cr6.map RulC.rul⟩])) := Lib.hid (RowE.pushed (blk_lt hxd.out) hrd.out ((Below.refl wd.heap.size wd).drew.trans hbel6.out) hrow6.out hown7 hg7 hat7)
               have hB7 : Hid (Below X w3 w7) := Lib.hid (hB6.out.grown (grown_alloc hg7) (hzX.out _ hB6.out) (fun j hj => Nat.le_of_lt (hrd.out.mine j hj)))
               replace hown7 := Lib.hid hown7
               replace hg7 := Lib.hid hg7
               replace hat7 := Lib.hid hat7))
        all_goals go_wp2_with fail
        all_goals
          refine ⟨⟨k + 1, cs ++ [⟨nm, .slice none 0 0, [], .slice A6 cr6.length c6, cr6.map RulC.rul⟩], .slice (some ⟨ga, 0, none⟩) (cs.length + 1) ca, by simp, by omega, by omega, Lib.hid (by rw [hstep2.out, List.map_append]; rfl), Lib.hid ?_, Lib.hid (hrow7.out.other (p := ⟨X, 1, none⟩) (Nat.lt_irrefl _) _), Lib.hid (blk_set_self hx7.out 1 _), Lib.hid (hB7.out.setCell (p := ⟨X, 1, none⟩) (Nat.le_refl _) _)⟩, by simp [RowKit.intOf]; omega⟩
          intro c hc
          rcases List.mem_append.1 hc with hc | hc
          · exact hbare.out c hc
          · rw [List.mem_singleton.1 hc]
            refine ⟨rfl, rfl, by rw [List.length_map]; exact hlen6.out, ?_, ?_⟩
            · intro r hr
              obtain ⟨c0, hc0, rfl⟩ := List.mem_map.1 hr
              exact hok6.out c0 hc0
            · rw [List.map_map]
              exact hnd6.out
    | false =>
      have hno : ¬ (k < n ∧ k < 5) := by have := hgo.out; simp at this; omega
      have hN5 : gNm p.elts 5 = gNm p.elts k := by
        rcases Nat.lt_or_ge k 5 with h | h
        · exact gNm_stop (by have := hn.out; omega) (by omega)
        · obtain rfl : k = 5 := by omega
          rfl
      have hN : Hid (cs.map EltC.name = gNm p.elts 5) := Lib.hid (by rw [hN5]; exact hnames.out)
      have hcn : cs.length ≤ n := by
        have h1 := congrArg List.length hnames.out
        rw [List.length_map] at h1
        have := gNm_len p.elts k
        have := hn.out
        omega
      have hru : Hid (∀ c ∈ cs, RulsOk c.rules) := Lib.hid (fun c hc => (hbare.out c hc).2.2)
      clear hno hN5 hnames hbare d1 hgo hk hk5 hcl
      obtain ⟨N, hNl⟩ : ∃ N, cs.length = N := ⟨_, rfl⟩
      rw [hNl] at hcn
      have hN1 : N ≤ 140737488355328 := by omega
      obtain ⟨A1, c1, hv, -⟩ := own_form hrow.out.own
      rw [hNl] at hv
      subst hv
      replace hNl := Lib.hid hNl
      obtain ⟨wo, hwo⟩ : ∃ wo : World, wo = wr := ⟨_, rfl⟩
      rw [← hwo] at hrow hxb hB hBw hb1 ⊢
      clear hwo
      go_wp2
      go_loopw [10] (fun x10 wr => ∃ (j : Nat) (cs : List EltC), x10 = .int .i64 j ∧ j ≤ N ∧ Hid (cs.length = N) ∧ Hid (cs.map EltC.name = gNm p.elts 5) ∧ Hid (∀ c ∈ cs, RulsOk c.rules) ∧ Hid (∀ i (hi : i < cs.length), i < j → ∃ hp : i < p.elts.length, cs[i].kids = fittingP (nEl (gNm p.elts 5)) cs[i].name p.elts[i].kids) ∧ Hid (RowE X wr (.slice A1 N c1) cs) ∧ Hid (wr.heap[X]? = some (.cells #[.slice none 0 0, .slice A1 N c1, .slice none 0 0] 25)) ∧ Hid (Below X w3 wr)) (fun x10 _ => N - (RowKit.intOf x10).toNat)
      case atStart => exact ⟨0, cs, rfl, Nat.zero_le _, hNl, hN, hru, Lib.hid (fun i hi h => absurd h (Nat.not_lt_zero _)), hrow, hxb, hB⟩
      case round =>
        clear hN hru hrow hxb hBw hb1 hNl
        obtain ⟨j, cs, rfl, hj, hNl, hN, hru, hkids, hrow, hxb, hB⟩ := hrel
        have hBw : Hid (Below w.heap.size w wr) := Lib.hid (hB3.out.trans (hB.out.mono (by have := hXw.out; omega)))
        have hb1 : Hid (wr.heap[w.heap.size]? = some (.cells #[.slice At nt ct, .slice Ae n ce, .slice Au nu cu] 25)) := Lib.hid (blk_below hb3.out hB.out (by have := hXw.out; omega))
        have d1 : wr.cell? ⟨w.heap.size, 1, none⟩ = some (.slice Ae n ce) := blk_cell hb1.out 1
        have x0 : wr.cell? ⟨X, 0, none⟩ = some (.slice none 0 0) := blk_cell hxb.out 0
        have x1 : wr.cell? ⟨X, 1, none⟩ = some (.slice A1 N c1) := blk_cell hxb.out 1
        have x2 : wr.cell? ⟨X, 2, none⟩ = some (.slice none 0 0) := blk_cell hxb.out 2
        by_cases hlt : j < N
        · have hjn : j < n := by omega
          have hjl : j < p.elts.length := by have := hn.out; omega
          obtain ⟨b, o, rfl, hPb, hc⟩ := hat.out (by omega)
          obtain ⟨vk, vr, h0, h1, h2, hvk, hvr⟩ := hc j hjl
          have c1' := (hBw.out.cell (p := ⟨b, o + j * 3 + 1, none⟩) (hP.out b hPb)).trans h1
          have hkl := (hin.out.elts.2 _ (List.getElem_mem hjl)).2.1
          have hjc : j < cs.length := by have := hNl.out; omega
          obtain ⟨g, hA1, hgX⟩ : ∃ g, A1 = some ⟨g, 0, none⟩ ∧ X < g := by
            rcases hrow.out.form with ⟨e, -⟩ | ⟨g, cap, hv, hg, -⟩
            · rw [e] at hjc; simp at hjc
            · simp only [Value.slice.injEq] at hv
              exact ⟨g, hv.1, hg⟩
          subst hA1
          obtain ⟨nm, hnm⟩ : ∃ nm, cs[j].name = nm := ⟨_, rfl⟩
          have y0 : wr.cell? ⟨g, j * 3, none⟩ = some (.string nm) := by rw [← hnm]; exact hrow.out.cell rfl hjc (j := 0) (by decide)
          have hfit := fun (W : World) (hW : Below wr.heap.size wr W) => fitting_any (.slice none 0 0) (.slice (some ⟨g, 0, none⟩) N c1) (.slice none 0 0) vk nm (cs.map EltC.elt) p.elts[j].kids (fun k => k < W.heap.size) W (fun _ hk => hk) (RowE.row (hrow.out.carry hW)) ⟨_, _, _, rfl⟩ ⟨_, _, _, rfl⟩ ((hvk.move (Stays.below hBw.out hP.out) (fun k hk => Nat.lt_of_lt_of_le (hP.out k hk) hBw.out.size)).move (Stays.below hW (fun k hk => hk)) (fun k hk => Nat.lt_of_lt_of_le hk hW.size)) (by rw [List.length_map]; have := hNl.out; omega) hkl
          have hmm : (cs.map EltC.elt).map Elt.name = gNm p.elts 5 := by rw [List.map_map]; exact hN.out
          rw [fittingP_names, hmm] at hfit
          obtain ⟨fl, hfl⟩ : ∃ fl, fittingP (nEl (gNm p.elts 5)) nm p.elts[j].kids = fl := ⟨_, rfl⟩
          rw [hfl] at hfit
          have hflH : Hid (∃ hp : j < p.elts.length, fl = fittingP (nEl (gNm p.elts 5)) nm p.elts[j].kids) := Lib.hid ⟨hjl, hfl.symm⟩
          obtain ⟨Ak, nk, ck, rfl, -, -, -⟩ := hvk.form
          have hfitH := Lib.hid hfit
          replace hnm := Lib.hid hnm
          have hj0 : (0 : Int) ≤ (j : Int) := by omega
          have hj1 : (j : Int) < (n : Int) := by omega
          have hj2 : (j : Int) < (N : Int) := by omega
          have hXr := blk_lt hxb.out
          have hgr : g < wr.heap.size := (hrow.out.own.lt g rfl).2
          have hS : Hid (∀ W, Below wr.heap.size wr W → W.cell? ⟨X, 0, none⟩ = some (.slice none 0 0) ∧ W.cell? ⟨X, 1, none⟩ = some (.slice (some ⟨g, 0, none⟩) N c1) ∧ W.cell? ⟨X, 2, none⟩ = some (.slice none 0 0) ∧ W.cell? ⟨g, j * 3, none⟩ = some (.string nm)) := Lib.hid (fun W hW =>
            ⟨(hW.cell (p := ⟨X, 0, none⟩) hXr).trans x0, (hW.cell (p := ⟨X, 1, none⟩) hXr).trans x1, (hW.cell (p := ⟨X, 2, none⟩) hXr).trans x2, (hW.cell (p := ⟨g, j * 3, none⟩) hgr).trans y0⟩)
          have hSs : Hid (∀ (W : World) (u : Value), Below wr.heap.size wr W → (W.setCell ⟨g, j * 3 + 1, none⟩ u).cell? ⟨X, 0, none⟩ = some (.slice none 0 0) ∧ (W.setCell ⟨g, j * 3 + 1, none⟩ u).cell? ⟨X, 1, none⟩ = some (.slice (some ⟨g, 0, none⟩) N c1) ∧ (W.setCell ⟨g, j * 3 + 1, none⟩ u).cell? ⟨X, 2, none⟩ = some (.slice none 0 0) ∧ (W.setCell ⟨g, j * 3 + 1, none⟩ u).cell? ⟨g, j * 3, none⟩ = some (.string nm)) := Lib.hid (fun W u hW => by
            obtain ⟨s0, s1, s2, s3⟩ := hS.out W hW
            refine ⟨?_, ?_, ?_, ?_⟩
            · exact (World.cell?_setCell_other _ _ _ _ (by simp)).trans s0
            · exact (World.cell?_setCell_other _ _ _ _ (by simp)).trans s1
            · exact (World.cell?_setCell_other _ _ _ _ (by simp)).trans s2
            · exact (World.cell?_setCell_other _ _ _ _ (by simp)).trans s3)
          clear hfit hc h0 h1 h2 hvk hvr hmm hfl hkl
          go_upto_region 17 with fail
          go_region_held3 (fun W => W.cell? ⟨X, 0, none⟩ = some (.slice none 0 0) ∧ W.cell? ⟨X, 1, none⟩ = some (.slice (some ⟨g, 0, none⟩) N c1) ∧ W.cell? ⟨X, 2, none⟩ = some (.slice none 0 0) ∧ W.cell? ⟨g, j * 3, none⟩ = some (.string nm))
            (first | with_reducible exact hS.out _ (Below.refl _ _).drew | with_reducible exact hS.out _ hB6.out | exact hSs.out _ _ hB6.out | fail)
            (first | (go_at_call 32; refine Calls.mono (hfitH.out _ (Below.refl _ _).drew) ?_; rintro e6 w6 ⟨v6, rfl, hown6, hbel6⟩; obtain ⟨A6, c6, hv6, -⟩ := own_form hown6; subst hv6; have hB6 : Hid (Below wr.heap.size wr w6) := Lib.hid ((Below.refl wr.heap.size wr).drew.trans hbel6); have hrow6 : Hid (RowE X w6 (.slice (some ⟨g, 0, none⟩) N c1) cs) := Lib.hid (hrow.out.carry hB6.out); obtain ⟨old, q1⟩ : ∃ old, w6.cell? ⟨g, j * 3 + 1, none⟩ = some old := Option.isSome_iff_exists.1 (hrow6.out.some1 rfl hjc (j := 1) (by decide)); have f1 : w6.frozen? ⟨g, j * 3 + 1, none⟩ = false := (hrow6.out.froz rfl _); replace hown6 := Lib.hid hown6; replace hbel6 := Lib.hid hbel6))
          obtain ⟨P2, hk1, hk2, hk3⟩ := hrow6.out.kids
          have hfi6 : eltK.fine (⟨cs[j].name, .slice A6 fl.length c6, fl, cs[j].vr, cs[j].rules⟩ : EltC) w6 (fun b => P2 b ∨ (wr.heap.size ≤ b ∧ b < w6.heap.size)) := ⟨(OwnS.fresh hown6.out).move (Stays.refl _ _) (fun b hb => .inr hb), (hk1 _ (List.getElem_mem hjc)).2.move (Stays.refl _ _) (fun b hb => .inl hb)⟩
          have hrow7 : Hid (RowE X (w6.setCell ⟨g, j * 3 + 1, none⟩ (.slice A6 fl.length c6)) (.slice (some ⟨g, 0, none⟩) N c1) (cs.set j ⟨cs[j].name, .slice A6 fl.length c6, fl, cs[j].vr, cs[j].rules⟩)) := Lib.hid (hrow6.out.turn (j := 1) rfl hjc rfl (by decide) hfi6 (by
            rintro b (hb | hb)
            · exact ⟨(hk2 b hb).1, (hk2 b hb).2, hk3 b hb⟩
            · refine ⟨by omega, hb.2, fun e => ?_⟩
              have e2 : g = b := by simpa [Value.ownBlock] using e
              omega))
          have hx7 : Hid ((w6.setCell ⟨g, j * 3 + 1, none⟩ (.slice A6 fl.length c6)).heap[X]? = some (.cells #[.slice none 0 0, .slice (some ⟨g, 0, none⟩) N c1, .slice none 0 0] 25)) := Lib.hid (blk_set (blk_below hxb.out hB6.out hXr) (by simp; omega) _)
          have hB7 : Hid (Below X w3 (w6.setCell ⟨g, j * 3 + 1, none⟩ (.slice A6 fl.length c6))) := Lib.hid ((hB.out.trans (hB6.out.mono (Nat.le_of_lt hXr))).setCell (p := ⟨g, j * 3 + 1, none⟩) (Nat.le_of_lt hgX) _)
          go_wp2
          refine ⟨⟨j + 1, cs.set j ⟨cs[j].name, .slice A6 fl.length c6, fl, cs[j].vr, cs[j].rules⟩, by simp, by omega, Lib.hid (by rw [List.length_set]; exact hNl.out), Lib.hid ?_, Lib.hid ?_, Lib.hid ?_, hrow7, hx7, hB7⟩, by simp [RowKit.intOf]; omega⟩
          · rw [List.map_set, ← hN.out]
            have : (cs.map EltC.name).set j ((cs.map EltC.name)[j]'(by rw [List.length_map]; exact hjc)) = cs.map EltC.name := List.set_getElem_self _
            rw [List.getElem_map] at this
            exact this
          · intro c hc
            rcases List.mem_or_eq_of_mem_set hc with hc | rfl
            · exact hru.out c hc
            · exact hru.out cs[j] (List.getElem_mem hjc)
          · intro i hi hij
            rw [List.length_set] at hi
            by_cases e : i = j
            · subst e
              obtain ⟨hp, he⟩ := hflH.out
              refine ⟨hp, ?_⟩
              rw [List.getElem_set_self]
              show fl = fittingP _ cs[i].name _
              rw [hnm.out]
              exact he
            · obtain ⟨hp, he⟩ := hkids.out i hi (by omega)
              refine ⟨hp, ?_⟩
              rw [List.getElem_set_ne (by omega)]
              exact he
        · have hjN : j = N := by omega
          subst hjN
          have hel : Hid (∃ el : List Elt, el = cs.map EltC.elt) := Lib.hid ⟨_, rfl⟩
          have d0 : wr.cell? ⟨w.heap.size, 0, none⟩ = some (.slice At nt ct) := blk_cell hb1.out 0
          have hXr := blk_lt hxb.out
          have hmm : (cs.map EltC.elt).map Elt.name = gNm p.elts 5 := by rw [List.map_map]; exact hN.out
          have hfit := fitting_any (.slice none 0 0) (.slice A1 j c1) (.slice none 0 0) (.slice At nt ct) ⟨#[]⟩ (cs.map EltC.elt) p.top (fun k => k < wr.heap.size) wr (fun _ hk => hk) (RowE.row hrow.out) ⟨_, _, _, rfl⟩ ⟨_, _, _, rfl⟩ (h.out.top.move (Stays.below hBw.out hP.out) (fun k hk => Nat.lt_of_lt_of_le (hP.out k hk) hBw.out.size)) (by rw [List.length_map]; have := hNl.out; omega) hin.out.top.1
          rw [fittingP_names, hmm] at hfit
          obtain ⟨tl, htl⟩ : ∃ tl, fittingP (nEl (gNm p.elts 5)) ⟨#[]⟩ p.top = tl := ⟨_, rfl⟩
          rw [htl] at hfit
          replace htl := Lib.hid htl
          clear hmm hel d1
          go_upto_region 19 with (go_at_call 32; refine Calls.mono hfit ?_; rintro e6 w6 ⟨v6, rfl, hown6, hbel6⟩; obtain ⟨A6, c6, hv6, -⟩ := own_form hown6; subst hv6; have q0 : w6.cell? ⟨X, 0, none⟩ = some (.slice none 0 0) := blk_cell (blk_below hxb.out hbel6 hXr) 0; have f0 : w6.frozen? ⟨X, 0, none⟩ = false := blk_frozen (blk_below hxb.out hbel6 hXr) 0; replace hown6 := Lib.hid hown6; replace hbel6 := Lib.hid hbel6)
          obtain ⟨wm, hwm⟩ : ∃ wm, w6.setCell ⟨X, 0, none⟩ (.slice A6 tl.length c6) = wm := ⟨_, rfl⟩
          have hxm : Hid (wm.heap[X]? = some (.cells #[.slice A6 tl.length c6, .slice A1 j c1, .slice none 0 0] 25)) := Lib.hid (by rw [← hwm]; exact blk_set_self (blk_below hxb.out hbel6.out hXr) 0 _)
          have hem : Hid (EltsAt wm (fun b => X < b ∧ b < wm.heap.size) (.slice A1 j c1) (cs.map EltC.elt)) := Lib.hid (by rw [← hwm]; exact ((hrow.out.carry hbel6.out).other (p := ⟨X, 0, none⟩) (Nat.lt_irrefl _) _).elts)
          have htm : Hid (StrsAt wm (fun b => X < b ∧ b < wm.heap.size) (.slice A6 tl.length c6) tl) := Lib.hid (by
            rw [← hwm]
            exact (OwnS.fresh hown6.out).move (Stays.set (fun hb => by have := hb.1; simp at this; omega) _) (fun b hb => ⟨by omega, by rw [szSet]; exact hb.2⟩))
          have hBm : Hid (Below X w3 wm) := Lib.hid (by rw [← hwm]; exact (hB.out.trans (hbel6.out.mono (Nat.le_of_lt hXr))).setCell (p := ⟨X, 0, none⟩) (Nat.le_refl _) _)
          rw [hwm]
          clear hwm hown6 hbel6 q0 f0 x0 x1 x2 d0 hrow hxb hB hBw hb1 hfit hXr
          obtain ⟨tn, htn⟩ : ∃ tn, tl.length = tn := ⟨_, rfl⟩
          rw [htn] at hxm htm
          clear htn
          go_wp2
          go_loopw [12] (fun x12 wr => ∃ (k : Nat) (ul : List ByteArray) (v : Value), x12 = .int .i64 k ∧ k ≤ nu ∧ k ≤ 4 ∧ ul.length ≤ k ∧ Hid (∀ s ∈ ul, plainP s = true) ∧ Hid ul.Nodup ∧ Hid (OwnS wr wm.heap.size v ul) ∧ Hid (wr.heap[X]? = some (.cells #[.slice A6 tn c6, .slice A1 j c1, v] 25)) ∧ Hid (Stays (fun b => X < b ∧ b < wm.heap.size) wm wr) ∧ Hid (Below X wm wr)) (fun x12 _ => nu - (RowKit.intOf x12).toNat)
          case atStart => exact ⟨0, [], .slice none 0 0, rfl, Nat.zero_le _, by decide, Nat.le_refl _, Lib.hid (by simp), Lib.hid (by simp), Lib.hid (OwnS.nil _ _), hxm, Lib.hid (Stays.refl _ _), Lib.hid (Below.refl _ _)⟩
          case round =>
            obtain ⟨k, ul, v, rfl, hk, hk4, hul, hup, hund, hown, hxr, hst, hBr⟩ := hrel
            have hB : Hid (Below X w3 wr) := Lib.hid (hBm.out.trans hBr.out)
            have hXw2 := hXw.out
            have hBw : Hid (Below w.heap.size w wr) := Lib.hid (hB3.out.trans (hB.out.mono (by omega)))
            have hb1 : Hid (wr.heap[w.heap.size]? = some (.cells #[.slice At nt ct, .slice Ae n ce, .slice Au nu cu] 25)) := Lib.hid (blk_below hb3.out hB.out (by omega))
            have d2 : wr.cell? ⟨w.heap.size, 2, none⟩ = some (.slice Au nu cu) := blk_cell hb1.out 2
            obtain ⟨Av, cv, hv, -⟩ := own_form hown.out
            subst hv
            have hMr : wm.heap.size ≤ wr.heap.size := hBr.out.size
            clear hXw2
            obtain ⟨go, hgo⟩ : ∃ go, (decide (k < nu) && decide (k < 4)) = go := ⟨_, rfl⟩
            replace hgo := Lib.hid hgo
            go_upto_region 20 with fail
            go_cut [103] (fun x wx => x = .bool go ∧ wx = wr)
            case first =>
              by_cases h1 : k < nu
              · have i1 : (k : Int) < (nu : Int) := by omega
                by_cases h2 : k < 4
                · have i2 : (k : Int) < 4 := by omega
                  obtain rfl : true = go := by rw [← hgo.out]; simp [h1, h2]
                  go_wp2
                  go_meet
                  exact ⟨rfl, rfl⟩
                · have i2 : ¬ (k : Int) < 4 := by omega
                  obtain rfl : false = go := by rw [← hgo.out]; simp [h2]
                  go_wp2
                  go_meet
                  exact ⟨rfl, rfl⟩
              · have i1 : ¬ (k : Int) < (nu : Int) := by omega
                obtain rfl : false = go := by rw [← hgo.out]; simp [h1]
                go_wp2
                go_meet
                exact ⟨rfl, rfl⟩
            case rest =>
            obtain ⟨rfl, e6⟩ := hcut
            obtain rfl := e6.symm
            clear e6
            cases go with
            | true =>
              obtain ⟨hl1, hl2⟩ : k < nu ∧ k < 4 := by have := hgo.out; simpa using this
              have hkl : k < p.unwrap.length := by have := hnu.out; omega
              obtain ⟨b, o, rfl, hPb, hc⟩ := hau.out (by omega)
              have c0 := (hBw.out.cell (p := ⟨b, o + k, none⟩) (hP.out b hPb)).trans (hc k hkl)
              have hss := hin.out.unwrap.2 _ (List.getElem_mem hkl)
              obtain ⟨s, hs⟩ : ∃ s, p.unwrap[k] = s := ⟨_, rfl⟩
              rw [hs] at c0 hss
              have hi0 : (0 : Int) ≤ (k : Int) := by omega
              have hi1 : (k : Int) < (nu : Int) := by omega
              have hpl := plain13_any s (by unfold maxLen; omega) wr
              obtain ⟨ok, hok⟩ : ∃ ok, plainP s = ok := ⟨_, rfl⟩
              rw [hok] at hpl
              have hXr := blk_lt hxr.out
              have hbl : b < wr.heap.size := Nat.lt_of_lt_of_le (hP.out b hPb) hBw.out.size
              have hwl : w.heap.size < wr.heap.size := blk_lt hb1.out
              have x2 : wr.cell? ⟨X, 2, none⟩ = some (.slice Av ul.length cv) := blk_cell hxr.out 2
              have hha := fun wx (hb : Below wr.heap.size wr wx) => has_any (.slice Av ul.length cv) ul s (fun b => (Value.slice Av ul.length cv).ownBlock = some b) wx (OwnS.strs (own_below hown.out hb (Nat.le_refl _))) (by omega)
              obtain ⟨had, hhad⟩ : ∃ had, Lib.containsS ul s = had := ⟨_, rfl⟩
              rw [hhad] at hha
              replace hok := Lib.hid hok
              replace hhad := Lib.hid hhad
              clear hc hs
              go_upto_region 23 with (go_at_call 29; refine hpl.mono ?_; rintro e7 w7 ⟨rfl, e6⟩; obtain rfl := e6.symm)
              go_region_held3 (fun W => W.cell? ⟨X, 2, none⟩ = some (.slice Av ul.length cv) ∧ W.cell? ⟨w.heap.size, 2, none⟩ = some (.slice (some ⟨b, o, none⟩) nu cu) ∧ W.cell? ⟨b, o + k, none⟩ = some (.string s))
                (exact ⟨x2, d2, c0⟩)
                (first | (go_at_call 33; refine (hha _ (Below.refl _ _).drew).mono ?_; rintro e7 w7 ⟨rfl, e6⟩; obtain rfl := e6.symm))
              clear hpl hha
              obtain ⟨wq, hwq⟩ : ∃ wq, wr.drew = wq := ⟨_, rfl⟩
              have hxq : Hid (wq.heap[X]? = some (.cells #[.slice A6 tn c6, .slice A1 j c1, .slice Av ul.length cv] 25)) := Lib.hid (by rw [← hwq]; exact hxr.out)
              have hownq : Hid (OwnS wq wm.heap.size (.slice Av ul.length cv) ul) := Lib.hid (by rw [← hwq]; exact hown.out)
              have hstq : Hid (Stays (fun b => X < b ∧ b < wm.heap.size) wm wq) := Lib.hid (by rw [← hwq]; exact hst.out)
              have hBq : Hid (Below X wm wq) := Lib.hid (by rw [← hwq]; exact hBr.out.drew)
              have hMq : wm.heap.size ≤ wq.heap.size := hBq.out.size
              rw [← hwq] at hxq
              have d2q : wq.cell? ⟨w.heap.size, 2, none⟩ = some (.slice (some ⟨b, o, none⟩) nu cu) := by rw [← hwq]; exact d2
              have c0q : wq.cell? ⟨b, o + k, none⟩ = some (.string s) := by rw [← hwq]; exact c0
              have x2q : wq.cell? ⟨X, 2, none⟩ = some (.slice Av ul.length cv) := by rw [← hwq]; exact x2
              have hszq : wq.heap.size = wr.heap.size := by rw [← hwq]; rfl
              rw [hwq] at hxq
              rw [hwq]
              have hXq : Hid (X < wq.heap.size ∧ b < wq.heap.size ∧ w.heap.size < wq.heap.size) := Lib.hid (by rw [hszq]; exact ⟨hXr, hbl, hwl⟩)
              clear hwq x2 d2 c0 hxr hown hst hBr hB hBw hb1 hMr hXr hbl hwl hszq
              obtain ⟨add, hadd⟩ : ∃ add, (ok && !had) = add := ⟨_, rfl⟩
              have haddH := Lib.hid hadd
              clear hadd
              cases add with
              | false =>
                have hcase : ok = false ∨ (ok = true ∧ had = true) := by have := haddH.out; cases ok <;> cases had <;> simp_all
                clear haddH
                rcases hcase with rfl | ⟨rfl, rfl⟩
                all_goals go_wp2
                all_goals exact ⟨⟨k + 1, ul, .slice Av ul.length cv, by simp, by omega, by omega, by omega, hup, hund, hownq, hxq, hstq, hBq⟩, by simp [RowKit.intOf]; omega⟩
              | true =>
                obtain ⟨hok1, hhad1⟩ : ok = true ∧ had = false := by have := haddH.out; simpa using this
                subst hok1 hhad1
                have hz3 : ∀ oo, (wq.alloc oo).cell? ⟨X, 2, none⟩ = some (.slice Av ul.length cv) := fun oo => (World.cell?_alloc_lt (a := ⟨X, 2, none⟩) wq oo hXq.out.1).trans x2q
                have hz2 : ∀ oo, (wq.drew.alloc oo).cell? ⟨X, 2, none⟩ = some (.slice Av ul.length cv) := fun oo => (World.cell?_alloc_lt (a := ⟨X, 2, none⟩) wq.drew oo hXq.out.1).trans x2q
                obtain ⟨i9, hi9, h9z0, h9z1, h9z2⟩ := info_parts info9
                have hX0 := hXq.out.1
                have hul9 : ul.length ≤ 4 := by omega
                clear hMq
                have hMq : Hid (wm.heap.size ≤ wq.heap.size) := Lib.hid hBq.out.size
                clear hX0
                go_upto_region 25 with fail
                go_region_law (first
                  | (refine step_append_lies (wq.drew.alloc (.cells #[.string s] 9)) rfl (.tmp 126) (.tmp 132) 22 rfl wm.heap.size 9 i9 _ 1 16 Tryz.underlying22 hi9 h9z0 h9z1 h9z2 rfl (by decide) (.slice Av ul.length cv) ul.length (strV ul) rfl (World.ownsRow.alloc hownq.out.drew _) ⟨_, 0, none⟩ 1 1 [.string s] rfl rfl (cells_new _ _ _) (by intro u hu; simp at hu; subst hu; rfl) (by omega) (by unfold maxLen; omega) (by omega) (Nat.le_trans hMq.out (by simp)) _ rfl ?_
                     intro ga ca w7 hown7 hg7 hat7 hlt7
                     have hx7 : Hid (w7.heap[X]? = some (.cells #[.slice A6 tn c6, .slice A1 j c1, .slice Av ul.length cv] 25)) := Lib.hid (blk_grown (blk_drew hxq.out) (grown_alloc hg7) (own_ne hownq.out hxq.out (by decide)))
                     have y7 : w7.cell? ⟨X, 2, none⟩ = some (.slice Av ul.length cv) := blk_cell hx7.out 2
                     have f7 : w7.frozen? ⟨X, 2, none⟩ = false := blk_frozen hx7.out 2
                     have hg8 : Hid (wq.drew.grownBy w7 (Value.slice Av ul.length cv).ownBlock) := Lib.hid (grown_alloc hg7)
                     replace hown7 := Lib.hid hown7
                     replace hg7 := Lib.hid hg7
                     replace hat7 := Lib.hid hat7)
                  | (refine step_append_lies ((wq.alloc (.cells #[.string s] 9)).drew) rfl (.tmp 126) (.tmp 132) 22 rfl wm.heap.size 9 i9 _ 1 16 Tryz.underlying22 hi9 h9z0 h9z1 h9z2 rfl (by decide) (.slice Av ul.length cv) ul.length (strV ul) rfl (World.ownsRow.drew (World.ownsRow.alloc hownq.out _)) ⟨_, 0, none⟩ 1 1 [.string s] rfl rfl (fun j u h => cells_new wq [.string s] 9 j u h) (by intro u hu; simp at hu; subst hu; rfl) (by omega) (by unfold maxLen; omega) (by omega) (Nat.le_trans hMq.out (by simp)) _ rfl ?_
                     intro ga ca w7 hown7 hg7 hat7 hlt7
                     have hx7 : Hid (w7.heap[X]? = some (.cells #[.slice A6 tn c6, .slice A1 j c1, .slice Av ul.length cv] 25)) := Lib.hid (blk_grown (blk_drew hxq.out) (grown_alloc2 hg7) (own_ne hownq.out hxq.out (by decide)))
                     have y7 : w7.cell? ⟨X, 2, none⟩ = some (.slice Av ul.length cv) := blk_cell hx7.out 2
                     have f7 : w7.frozen? ⟨X, 2, none⟩ = false := blk_frozen hx7.out 2
                     have hg8 : Hid (wq.drew.grownBy w7 (Value.slice Av ul.length cv).ownBlock) := Lib.hid (grown_alloc2 hg7)
                     replace hown7 := Lib.hid hown7
                     replace hg7 := Lib.hid hg7
                     replace hat7 := Lib.hid hat7))
                all_goals go_wp2_with fail
                all_goals
                  have hge : ∀ j, (Value.slice Av ul.length cv).ownBlock = some j → wm.heap.size ≤ j := fun j hj => (World.ownsRow.lt hownq.out j hj).1
                  have hXM : X ≤ wm.heap.size := Nat.le_of_lt (blk_lt hxm.out)
                  have hXM2 := blk_lt hxm.out
                  refine ⟨⟨k + 1, ul ++ [s], .slice (some ⟨ga, 0, none⟩) (ul.length + 1) ca, by simp, by omega, by omega, by rw [List.length_append]; simp; omega, Lib.hid ?_, Lib.hid ?_, Lib.hid ?_, Lib.hid (blk_set_self hx7.out 2 _), Lib.hid ?_, Lib.hid ?_⟩, by simp [RowKit.intOf]; omega⟩
                  · intro t ht
                    rcases List.mem_append.1 ht with ht | ht
                    · exact hup.out t ht
                    · rw [List.mem_singleton.1 ht]
                      exact hok.out
                  · exact List.nodup_append.2 ⟨hund.out, by simp, fun a ha c hc e => by
                      have e2 : a = s := e.trans (List.mem_singleton.1 hc)
                      have := (Lib.containsS_iff ul s).2 (by rw [← e2]; exact ha)
                      rw [hhad.out] at this
                      cases this⟩
                  · refine ownsRow_setCell_below ?_ (a := ⟨X, 2, none⟩) hXM2 _
                    rw [List.length_append, strV_snoc]
                    exact hown7.out
                  · exact (hstq.out.trans (Stays.grown (w := wq.drew) hg8.out (fun c hc => ⟨Nat.lt_of_lt_of_le hc.2 hMq.out, fun e => by have := hge c e; omega⟩))).trans (Stays.set (fun hc => by have := hc.1; simp at this) _)
                  · exact (hBq.out.drew.grown hg8.out (Nat.le_trans hXM hMq.out) (fun c hc => Nat.le_trans hXM (hge c hc))).setCell (p := ⟨X, 2, none⟩) (Nat.le_refl _) _
            | false =>
              have x0 : wr.cell? ⟨X, 0, none⟩ = some (.slice A6 tn c6) := blk_cell hxr.out 0
              have x1 : wr.cell? ⟨X, 1, none⟩ = some (.slice A1 j c1) := blk_cell hxr.out 1
              have x2 : wr.cell? ⟨X, 2, none⟩ = some (.slice Av ul.length cv) := blk_cell hxr.out 2
              have hrr : Hid (wr.heap[w.heap.size + 1]? = some (.cells #[.slice none 0 0, .slice none 0 0, .slice none 0 0] 25)) := Lib.hid (blk_below hr3.out hB.out (by have := hXw.out; omega))
              go_wp2_with ((with_reducible show wpList _ _ _ (⟨none, _, _, _, _, _⟩ :: _) _ _); refine wpList_store_mid rfl 25 _ _ rfl (w.heap.size + 1) 0 #[.slice A6 tn c6, .slice A1 j c1, .slice Av ul.length cv] rfl rfl (there_of (cs := [.slice none 0 0, .slice none 0 0, .slice none 0 0]) hrr.out) info25 (by simp [Value.oneCell']) ?_)
              try simp only [Exit.inBlock, Exit.then]
              have hBf : Below w.heap.size w (wr.setCells (w.heap.size + 1) 0 [.slice A6 tn c6, .slice A1 j c1, .slice Av ul.length cv]) := below_setCells (B := w.heap.size) (b := w.heap.size + 1) (by omega) _ _ 0 hBw.out
              have hXw2 := hXw.out
              have hXM2 := blk_lt hxm.out
              refine bodyPost_ret (results_cell_row rfl _ _ (w.heap.size + 1) 25 _ _ _ rfl (blk_stored hrr.out [.slice A6 tn c6, .slice A1 j c1, .slice Av ul.length cv] rfl) Tryz.underlying25 rfl info25) rfl ⟨.slice A6 tn c6, .slice A1 j c1, .slice Av ul.length cv, ⟨tl, cs.map EltC.elt, ul⟩, rfl, ?_, ?_, hBf⟩
              · have hmv : Stays (fun b => X < b ∧ b < wm.heap.size) wm (wr.setCells (w.heap.size + 1) 0 [.slice A6 tn c6, .slice A1 j c1, .slice Av ul.length cv]) := hst.out.trans (fun x hx => heap_setCells_other (by omega) _ _ _)
                have hsz : (wr.setCells (w.heap.size + 1) 0 [.slice A6 tn c6, .slice A1 j c1, .slice Av ul.length cv]).heap.size = wr.heap.size := setCells_size _ _ _ _
                have hQ : ∀ b, X < b ∧ b < wm.heap.size → w.heap.size ≤ b ∧ b < (wr.setCells (w.heap.size + 1) 0 [.slice A6 tn c6, .slice A1 j c1, .slice Av ul.length cv]).heap.size := fun b hb => by rw [hsz]; omega
                exact ⟨htm.out.move hmv hQ, hem.out.move hmv hQ, (OwnS.fresh hown.out).move (fun x hx => heap_setCells_other (by omega) _ _ _) (fun x hx => by rw [hsz]; omega)⟩
              · refine ⟨?_, ?_, htl.out.symm, ?_, (show ul.length ≤ 4 by omega), hup.out, hund.out⟩
                · show (cs.map EltC.elt).map Elt.name = _
                  rw [List.map_map]
                  exact hN.out
                · intro i hi
                  have hi2 : i < cs.length := by simpa using hi
                  obtain ⟨hp, he⟩ := hkids.out i hi2 (by have := hNl.out; omega)
                  refine ⟨hp, ?_⟩
                  show ((cs.map EltC.elt)[i]'hi).kids = fittingP _ ((cs.map EltC.elt)[i]'hi).name _
                  rw [List.getElem_map]
                  exact he
                · intro e he
                  obtain ⟨c, hc, rfl⟩ := List.mem_map.1 he
                  exact hru.out c hc
end Go.Proofs.YtghlodpbbghcoaaGreatDoor
