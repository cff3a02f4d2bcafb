/- A policy's text parsed: walked, where it may be. -/
import Derived.Test.YtghlodpbbghcoaaGreatDoorZJ
import Derived.Test.YtghlodpbbghcoaaGreatDoorZ56
import Derived.Test.YtghlodpbbghcoaaGreatDoorZC
import Derived.Test.YtghlodpbbghcoaaGreatDoorZB
namespace Go.Proofs.YtghlodpbbghcoaaGreatDoor
open Go.Lib Go.RowKit Go.Shelf
attribute [local go_sem] Oper.semAt_some
theorem itemsL_length : ∀ (f : Nat) (l : List UInt8) (D : List (List UInt8 × Bool)), itemsL f l = some D → D ≠ [] ∧ D.length ≤ l.length
  | 0, l, D, h => by cases h
  | f + 1, l, D, h => by
    rw [itemsL] at h
    cases hi : itemL l with
    | none => rw [hi] at h; cases h
    | some p =>
      obtain ⟨t, q, n⟩ := p
      rw [hi] at h
      have hle := itemL_le hi
      simp only at h
      split at h
      · simp only [Option.some.injEq] at h
        subst h
        exact ⟨by simp, by simp; omega⟩
      · split at h
        · cases hr : itemsL f (l.drop (n + 1)) with
          | none => rw [hr] at h; cases h
          | some r =>
            rw [hr] at h
            simp only [Option.map_some, Option.some.injEq] at h
            subst h
            have := (itemsL_length f _ r hr).2
            rw [List.length_drop] at this
            exact ⟨by simp, by simp; omega⟩
        · cases h
theorem itemsG_length {l : List UInt8} {D : List (List UInt8 × Bool)} (h : itemsG l = some D) : D ≠ [] ∧ D.length ≤ l.length := itemsL_length _ _ _ h
theorem linesP_append : ∀ (st : Rd) (a b : List (List UInt8)), linesP st (a ++ b) = (linesP st a).bind fun s => linesP s b
  | st, [], b => rfl
  | st, l :: a, b => by
    rw [List.cons_append, linesP, linesP]
    cases stepP st l with
    | none => rfl
    | some s1 => exact linesP_append s1 a b
/-- What the reader keeps to. -/
def Rd.Ok (st : Rd) : Prop := st.stage ≤ 5 ∧ (4 ≤ st.stage → st.pol.elts ≠ [])
theorem turnLast_ne {l : List Elt} (f : Elt → Elt) (h : l ≠ []) : turnLast l f ≠ [] := by
  obtain ⟨ini, e, rfl⟩ : ∃ ini e, l = ini ++ [e] := ⟨l.dropLast, l.getLast h, (List.dropLast_concat_getLast h).symm⟩
  rw [turnLast_snoc]
  simp
theorem lineP_ok {st st' : Rd} {texts : List ByteArray} {qs : List Bool} (hok : st.Ok) (h : lineP st texts qs = (st', true)) : st'.Ok := by
  obtain ⟨stg, pol⟩ := st
  obtain ⟨word, rest, q2, rfl, rfl, hway⟩ := lineP_true h hok.1
  rcases hway with ⟨rfl, _, _, _, rfl⟩ | ⟨rfl, _, _, rfl⟩ | ⟨rfl, _, _, rfl⟩ | ⟨rfl, _, _, rfl⟩ | ⟨hst, _, _, nm, _, rfl⟩ | ⟨rfl, _, r, _, rfl⟩
  · exact ⟨(by decide : (1:Nat) ≤ 5), fun h => absurd h (by decide : ¬ 4 ≤ (1:Nat))⟩
  · exact ⟨(by decide : (2:Nat) ≤ 5), fun h => absurd h (by decide : ¬ 4 ≤ (2:Nat))⟩
  · exact ⟨(by decide : (3:Nat) ≤ 5), fun h => absurd h (by decide : ¬ 4 ≤ (3:Nat))⟩
  · exact ⟨(by decide : (5:Nat) ≤ 5), fun _ => turnLast_ne _ (hok.2 (by decide : 4 ≤ (4:Nat)))⟩
  · exact ⟨(by decide : (4:Nat) ≤ 5), fun _ h => by simp at h⟩
  · exact ⟨(by decide : (5:Nat) ≤ 5), fun _ => turnLast_ne _ (hok.2 (by decide : 4 ≤ (5:Nat)))⟩
/-- The texts and flags of items, as they lie. -/
theorem ItemsIn.strs {B : Nat} {w : World} {vt vq : Value} {D : List (List UInt8 × Bool)} (h : ItemsIn B w vt vq D) : StrsAt w (fun k => k < w.heap.size) vt (D.map fun p => tx p.1) := by
  have ho : OwnS w B vt (D.map fun p => tx p.1) := by
    have := h.t
    unfold OwnS strV
    rw [List.length_map, List.map_map]
    exact this
  exact ho.fresh.move (Stays.refl _ _) (fun _ hk => hk.2)
theorem ItemsIn.flags {B : Nat} {w : World} {vt vq : Value} {D : List (List UInt8 × Bool)} (h : ItemsIn B w vt vq D) : ∃ A c, vq = .slice A (D.map Prod.snd).length c ∧ (D.map Prod.snd).length ≤ c ∧ FlagsAt w A (D.map Prod.snd) := by
  obtain ⟨A, c, rfl, ho⟩ := own_form h.q
  have hcl := CellsAt.of_own ho
  refine ⟨A, c, by rw [List.length_map], ?_, fun hp => ?_⟩
  · rcases ho.2 with ⟨h0, hn⟩ | ⟨g, cap, cur, h0, _, _, hnc, _⟩
    · rw [List.length_map, hn]; exact Nat.zero_le _
    · simp only [Value.slice.injEq] at h0
      rw [List.length_map]
      omega
  · rw [List.length_map] at hp
    have hq : (qCells D).length = D.length := List.length_map _
    obtain ⟨b, o, e, hb, _⟩ := hcl 0 (by rw [hq]; exact hp)
    refine ⟨b, o, e, hb, fun j hj => ?_⟩
    rw [List.length_map] at hj
    obtain ⟨b', o', e', _, hc⟩ := hcl j (by rw [hq]; exact hj)
    rw [e] at e'
    simp only [Option.some.injEq, Addr.mk.injEq, and_true] at e'
    obtain ⟨rfl, rfl⟩ := e'
    rw [hc]
    simp [qCells]
/-- line, at any items. -/
def LinePost (X : Nat) (r : Rd × Bool) (n : Nat) (w : World) (e : Ending) (w' : World) : Prop := e = .returned (.bool r.2) ∧ (r.2 = true → Reads w' X r.1 n) ∧ KeepR X w w'
theorem line_items (X : Nat) (st : Rd) (n : Nat) (B : Nat) (vt vq : Value) (D : List (List UInt8 × Bool)) (w : World) (hrd : Reads w X st n) (hok : st.Ok) (hn : n ≤ 2000000) (hin : ItemsIn B w vt vq D) (hD : D ≠ []) (hl : D.length ≤ 2000000) :
    Calls Tryz.prog 48 #[.pointer (some ⟨X, 0, none⟩), vt, vq] w (LinePost X (lineP st (D.map fun p => tx p.1) (D.map Prod.snd)) (n + 1) w) := by
  have hst := hin.strs
  obtain ⟨A, c, rfl, hc, hfl⟩ := hin.flags
  obtain ⟨p, D', rfl⟩ : ∃ p D', D = p :: D' := by
    cases D with
    | nil => exact absurd rfl hD
    | cons p D' => exact ⟨p, D', rfl⟩
  obtain ⟨t, q⟩ := p
  have hl1 : (List.map (fun p => tx p.1) ((t, q) :: D')).length ≤ 2000000 := by rw [List.length_map]; exact hl
  have hl2 : (List.map Prod.snd ((t, q) :: D')).length ≤ 2000000 := by rw [List.length_map]; exact hl
  cases hr : lineP st (List.map (fun p => tx p.1) ((t, q) :: D')) (List.map Prod.snd ((t, q) :: D')) with
  | mk st' b =>
    cases b with
    | true => exact (line_any X st n vt _ _ A c _ st' w hrd hok.2 hok.1 hn hst (fun _ h => h) hl1 hfl hc hl2 hr).mono (by rintro e w' ⟨rfl, h1, h2⟩; exact ⟨rfl, fun _ => h1, h2⟩)
    | false =>
      cases q with
      | true => exact (line_quoted X vt _ _ A c _ w hst (fun _ h => h) hl1 hfl hc (tx t) _ _ rfl rfl).mono (by rintro e w' ⟨rfl, h1⟩; exact ⟨rfl, (fun h => by cases h), h1⟩)
      | false => exact (line_bad X st n vt _ _ A c _ st' w hrd hok.2 hok.1 hn hst (fun _ h => h) hl1 hfl hc hl2 (tx t) _ _ rfl rfl (by simp) hr).mono (by rintro e w' ⟨rfl, h1⟩; exact ⟨rfl, (fun h => by cases h), h1⟩)
end Go.Proofs.YtghlodpbbghcoaaGreatDoor

/- A policy's text parsed: walked, where it may be. -/
namespace Go.Proofs.YtghlodpbbghcoaaGreatDoor
open Go.Lib Go.RowKit Go.Shelf
attribute [local go_sem] Oper.semAt_some
theorem ko_below' {W W' : World} (h : Below W.heap.size W W') : KeepsOthers W W' := ⟨h.size, fun k _ hk _ => (h.block k (Array.getElem?_eq_some_iff.1 hk).1).trans hk⟩
/-- A store ahead of the reader's box. -/
theorem RdAt.lower {w : World} {X : Nat} {st : Rd} {vt ve vu : Value} {cs : List EltC} {rc : List RulC} {P : Nat → Prop} (h : RdAt w X st vt ve vu cs rc P) {b : Nat} (i : Nat) (hb : b < X) (u : Value) : RdAt (w.setCell ⟨b, i, none⟩ u) X st vt ve vu cs rc P := by
  have hs : Stays (fun k => X ≤ k) w (w.setCell ⟨b, i, none⟩ u) := Stays.set (fun hk => by simp at hk; omega) u
  exact {
    box := (hs X (Nat.le_refl _)).trans h.box
    own := ownsRow_setCell_other h.own (a := ⟨b, i, none⟩) (fun e => by have := h.mine b e; omega) u
    mine := h.mine
    elts := h.elts
    top := h.top.move (hs.mono (fun k hk => Nat.le_of_lt (h.lists k hk).1)) (fun _ h => h)
    unwrap := h.unwrap.move (hs.mono (fun k hk => Nat.le_of_lt (h.lists k hk).1)) (fun _ h => h)
    init := fun c hc => (h.init c hc).move (hs.mono (fun k hk => Nat.le_of_lt (h.lists k hk).1)) (fun _ h => h)
    last := fun c hc => by
      obtain ⟨h1, h2, h3⟩ := h.last c hc
      exact ⟨h1.move (hs.mono (fun k hk => Nat.le_of_lt (h.lists k hk).1)) (fun _ h => h), h2.other (p := ⟨b, i, none⟩) (fun hk => by have := hk.1; simp at this; omega) _, h3⟩
    lists := fun k hk => by rw [szSet]; exact h.lists k hk }
def rd0 : Rd := ⟨0, ⟨[], [], []⟩⟩
def parsePre (m : Nat) (xs : List (LineX m)) : Option Rd := linesP rd0 (xs.map fun x => x.line.data.toList)
theorem parsePre_snoc {m : Nat} (xs : List (LineX m)) (x : LineX m) {st : Rd} (h : parsePre m xs = some st) : parsePre m (xs ++ [x]) = stepP st x.line.data.toList := by
  unfold parsePre at h ⊢
  rw [List.map_append, linesP_append, h]
  show linesP st [x.line.data.toList] = _
  rw [linesP]
  cases stepP st x.line.data.toList with
  | none => rfl
  | some s1 => rfl
/-- What Parse hands back of a text that may be. -/
def ParsePost (p : Pol) (w : World) (e : Ending) (w' : World) : Prop := ∃ vt ve vu, e = .returned (.tuple #[.agg #[vt, ve, vu], .int .i64 0, .int .i64 0]) ∧ PolAt w' (fun k => k < w'.heap.size) vt ve vu p ∧ Below w.heap.size w w'
/-- The rounds: what has been read, the results' rooms untouched. -/
def RdInv (m X Bx : Nat) (s : ByteArray) (w5 : World) (pre : List (LineX m)) (W : World) : Prop := ((∃ st, parsePre m pre = some st ∧ st.Ok ∧ Reads W X st pre.length) ∧ W.heap[Bx]? = some (.cells #[.string s] 9)) ∧ Below X w5 W
theorem rdInv_own {m X Bx B : Nat} {s : ByteArray} {w5 : World} (hX : X ≤ w5.heap.size) (hB : X ≤ B) : OwnFrom B (RdInv m X Bx s w5) := by
  intro xs W W' row hs hg hr
  obtain ⟨⟨⟨st, h1, h2, h3⟩, h5⟩, h4⟩ := hs
  exact ⟨⟨⟨st, h1, h2, h3.others hg (fun r e => (hr r e).2)⟩, (Stays.others (P := fun _ => True) hg (fun r e => (hr r e).2) Bx ⟨trivial, _, h5, rfl⟩).trans h5⟩, h4.grown hg (Nat.le_trans hX h4.size) (fun k e => Nat.le_trans hB (hr k e).1)⟩
set_option maxRecDepth 8192 in
set_option maxHeartbeats 6400000 in
theorem parse_any (s : ByteArray) (hs : s.size ≤ 2000000) (st : Rd) (hlines : linesP rd0 (linesL s.data.toList) = some st) (hstage : st.stage = 5 ∨ st.stage = 3) (mt : ByteArray → Bool) (hmay : mayP mt st.pol = true) (hfit : st.pol.Fit)
    (w : World) (hmt : ∀ W', Below w.heap.size w W' → ∀ e ∈ st.pol.elts, ∀ r ∈ e.rules, r.kind = 4 → Calls Tryz.prog 109 #[.string r.regex] W' (IsB (mt r.regex) W')) :
    Calls Tryz.prog 26 #[.string s] w (ParsePost st.pol w) := by
  obtain ⟨w4, hw4⟩ : ∃ w4, (((w.alloc (.cells #[.slice none 0 0, .slice none 0 0, .slice none 0 0] 25)).alloc (.cells #[.int .i64 0] 3)).alloc (.cells #[.int .i64 0] 55)).alloc (.cells #[.slice none 0 0, .slice none 0 0, .slice none 0 0, .int .i64 0] 78) = w4 := ⟨_, rfl⟩
  have hz4 : w4.heap.size = w.heap.size + 4 := by rw [← hw4]; simp
  have hB4 : Hid (Below w.heap.size w w4) := Lib.hid (by rw [← hw4]; exact ((((Below.refl _ _).alloc (Nat.le_refl _) _).alloc (by simp) _).alloc (by simp; omega) _).alloc (by simp; omega) _)
  have r0 : Hid (w4.heap[w.heap.size]? = some (.cells #[.slice none 0 0, .slice none 0 0, .slice none 0 0] 25)) := Lib.hid (by rw [← hw4]; exact blk_alloc (blk_alloc (blk_alloc (blk_new _ _) _) _) _)
  have r1 : Hid (w4.heap[w.heap.size + 1]? = some (.cells #[.int .i64 0] 3)) := Lib.hid (by rw [← hw4]; exact blk_alloc (blk_alloc (blk_new' (by simp)) _) _)
  have r2 : Hid (w4.heap[w.heap.size + 2]? = some (.cells #[.int .i64 0] 55)) := Lib.hid (by rw [← hw4]; exact blk_alloc (blk_new' (by simp)) _)
  have r3 : Hid (w4.heap[w.heap.size + 3]? = some (.cells #[.slice none 0 0, .slice none 0 0, .slice none 0 0, .int .i64 0] 78)) := Lib.hid (by rw [← hw4]; exact blk_new' (by simp))
  refine (callsIn_wide (n := 4)).1 ?_
  refine callsIn_of_wp_marks Tryz.func26 rfl trivial ?_ rfl
  simp only [Tryz.ntmps26, List.size_toArray, List.length_cons, List.length_nil, Nat.reduceAdd, Nat.reduceSub, Array.replicate_succ, Array.replicate_zero, List.push_toArray, List.append_toArray, List.nil_append, List.cons_append]
  gi_wp2_with (refine ⟨trivial, ?_⟩; gi_at_call 46; refine (callsIn_wide.2 (lines_any _ _)).mono ?_; rintro e w' ⟨rfl, rfl⟩)
  obtain ⟨w5, hw5⟩ : ∃ w5, w4.alloc (.cells #[.string s] 9) = w5 := ⟨_, rfl⟩
  have hb5 : w5.heap[w.heap.size + 4]? = some (.cells #[.string s] 9) := by rw [← hw5]; exact blk_new' (by rw [hz4])
  have hz5 : w5.heap.size = w.heap.size + 5 := by rw [← hw5]; simp [hz4]
  have hB5 : Hid (Below w.heap.size w w5) := Lib.hid (by rw [← hw5]; exact hB4.out.alloc hB4.out.size _)
  replace r0 : Hid (w5.heap[w.heap.size]? = some (.cells #[.slice none 0 0, .slice none 0 0, .slice none 0 0] 25)) := Lib.hid (by rw [← hw5]; exact blk_alloc r0.out _)
  replace r1 : Hid (w5.heap[w.heap.size + 1]? = some (.cells #[.int .i64 0] 3)) := Lib.hid (by rw [← hw5]; exact blk_alloc r1.out _)
  replace r2 : Hid (w5.heap[w.heap.size + 1 + 1]? = some (.cells #[.int .i64 0] 55)) := Lib.hid (by rw [← hw5]; exact blk_alloc r2.out _)
  replace r3 : w5.heap[w.heap.size + 1 + 1 + 1]? = some (.cells #[.slice none 0 0, .slice none 0 0, .slice none 0 0, .int .i64 0] 78) := by rw [← hw5]; exact blk_alloc r3.out _
  have hstart : RdInv s.size (w.heap.size + 1 + 1 + 1) (w.heap.size + 4) s w5 [] w5 := ⟨⟨⟨rd0, rfl, ⟨Nat.zero_le _, fun h => absurd h (by decide)⟩, ⟨_, _, _, [], [], _, RdAt.start r3, Nat.zero_le _, Nat.zero_le _⟩⟩, hb5⟩, Below.refl _ _⟩
  have hseq := lines_stops s hs (w.heap.size + 4) w5 hb5
  rw [hw5]
  clear hw5 hw4 hB4 r3 hz4
  clear w4
  refine wpIn_rangeFunc_ownF rfl (by decide) (gf := 75) (lb := #[.pointer (some ⟨w.heap.size + 4, 0, none⟩)]) rfl trivial (enters_of Tryz.func75 (by kernel_rfl) rfl)
    hseq (fun h k => Eq.trans k h) (fun W l o o' hl _ _ _ => World.putObj_heap_other (by omega)) (Below.refl _ _) (fun _ => rfl)
    (RdInv s.size (w.heap.size + 1 + 1 + 1) (w.heap.size + 4) s w5)
    (fun c pre _ => c = .ret ∧ parsePre s.size pre = none)
    (rdInv_own (by omega) (by omega)) (fun _ _ _ _ _ h _ _ => h) hstart
    (fun x => { tmps := #[.string s, undef, .pointer (some ⟨w.heap.size, 0, none⟩), .pointer (some ⟨w.heap.size + 1, 0, none⟩), .pointer (some ⟨w.heap.size + 1 + 1, 0, none⟩), .pointer (some ⟨w.heap.size + 1 + 1 + 1, 0, none⟩), .int .i64 x.pos, .string x.line, undef, undef, undef, undef, undef, .string s, .func (.func 75) #[] #[.pointer (some ⟨w.heap.size + 4, 0, none⟩)], .int .i64 x.pos, .string x.line, undef, undef, undef, undef, undef, undef, undef, undef, undef, undef, undef, undef, undef, undef, undef, undef, undef, undef, undef, undef, undef, undef, undef, undef, undef, undef, undef, undef, undef, undef, undef, undef, undef, undef, undef, undef, undef, undef, undef, undef, undef, undef, undef, undef, undef], defers := [] }) ?assign ?body ?done ?stop
  case assign =>
    intro l x W K hK
    simp only [lineEnc]
    gi_wp2
    exact hK
  case body =>
    rintro l pre x W ⟨⟨⟨st1, hp, hok, hrd⟩, hbx⟩, hB⟩ hlen
    have hx := x.le
    have hn : pre.length ≤ 2000000 := by omega
    have hnext := parsePre_snoc pre x hp
    obtain ⟨line, hline⟩ : ∃ line, x.line = line := ⟨_, rfl⟩
    obtain ⟨pos, hpos⟩ : ∃ pos, x.pos = pos := ⟨_, rfl⟩
    rw [hline] at hx hnext
    rw [hline, hpos]
    clear hpos
    have hcut : ∀ wx, Calls Tryz.prog 47 #[.string line, .string ⟨#[10]⟩] wx fun e w' => e = .returned (.tuple #[.string (tx (Lib.trimSuffix line.data.toList (⟨#[10]⟩ : ByteArray).data.toList)), .bool (decide (line.data.toList.getLast? = some 10))]) ∧ w' = wx := fun wx => by
      have h := Tryz.strings_CutSuffix line ⟨#[10]⟩ wx (by omega)
      rw [suffix_nl] at h
      exact h
    obtain ⟨has, hhas⟩ : ∃ has, decide (line.data.toList.getLast? = some 10) = has := ⟨_, rfl⟩
    obtain ⟨cut, hcutd⟩ : ∃ cut, tx (Lib.trimSuffix line.data.toList (⟨#[10]⟩ : ByteArray).data.toList) = cut := ⟨_, rfl⟩
    have hcs : cut.size ≤ 2000000 := by
      rw [← hcutd, tx_size]
      have : (Lib.trimSuffix line.data.toList (⟨#[10]⟩ : ByteArray).data.toList).length ≤ line.data.toList.length := by
        unfold Lib.trimSuffix
        split
        · rw [List.length_take]; omega
        · exact Nat.le_refl _
      have h2 : line.data.toList.length = line.size := by simp
      omega
    rw [hhas, hcutd] at hcut
    have hitems := items_any cut hcs W
    have hXW : w.heap.size + 1 + 1 + 1 ≤ W.heap.size := Nat.le_trans (by omega) hB.size
    have hfail : Hid (∀ W', Below (w.heap.size + 1 + 1 + 1) W W' → W'.heap[w.heap.size]? = some (.cells #[.slice none 0 0, .slice none 0 0, .slice none 0 0] 25) ∧ W'.heap[w.heap.size + 1]? = some (.cells #[.int .i64 0] 3) ∧ W'.heap[w.heap.size + 1 + 1]? = some (.cells #[.int .i64 0] 55)) := Lib.hid (fun W' h =>
      ⟨blk_below (blk_below r0.out hB (by omega)) h (by omega), blk_below (blk_below r1.out hB (by omega)) h (by omega), blk_below (blk_below r2.out hB (by omega)) h (by omega)⟩)
    cases hitm : itemsG cut.data.toList with
    | none =>
      rw [hitm] at hitems
      have hnone : parsePre s.size (pre ++ [x]) = none := by
        rw [hnext, stepP]
        split
        · rename_i hl
          have : cut.data.toList = line.data.toList.dropLast := by rw [← hcutd, trim_nl hl]; rfl
          rw [← this, hitm]
        · rfl
      replace hnone := Lib.hid hnone
      replace hitems := Lib.hid hitems
      clear hnext hitm hseq hrd hp hcutd
      cases has with
      | false =>
        gi_wp2_with (first
          | (refine ⟨trivial, ?_⟩; (try refine ⟨fun h => (by cases h), ?_⟩); gi_at_call 47; refine (CallsIn.inRound l (callsIn_wide.2 (hcut _))).mono ?_; rintro e W3 ⟨rfl, e6⟩; obtain rfl := e6.symm)
          | (refine ⟨trivial, ?_⟩; (try refine ⟨fun h => (by cases h), ?_⟩); gi_at_call 20; refine (CallsIn.inRound l (callsIn_wide.2 (hitems.out))).mono ?_; rintro e W3 ⟨he, hBk⟩; simp only at he; subst he; have hk0 := (hfail.out _ (hBk.mono hXW)).1; have hk1 := (hfail.out _ (hBk.mono hXW)).2.1; have hk2 := (hfail.out _ (hBk.mono hXW)).2.2; have d0 := blk_cell hk0 0; have d1 := blk_cell hk0 1; have d2 := blk_cell hk0 2; have d3 := blk_cell hk1 0; have d4 := blk_cell hk2 0; have f0 := blk_frozen hk0 0; have f1 := blk_frozen hk0 1; have f2 := blk_frozen hk0 2; have f3 := blk_frozen hk1 0; have f4 := blk_frozen hk2 0)
          | (refine ⟨trivial, ?_⟩))
        have hko := ko_below' hBk
        exact ⟨((((hko.trans (KeepsOthers.setCell _ _ _)).trans (KeepsOthers.setCell _ _ _)).trans (KeepsOthers.setCell _ _ _)).trans (KeepsOthers.setCell _ _ _)).trans (KeepsOthers.setCell _ _ _), rfl, hnone.out⟩
      | true =>
        gi_wp2_with (first
          | (refine ⟨trivial, ?_⟩; (try refine ⟨fun h => (by cases h), ?_⟩); gi_at_call 47; refine (CallsIn.inRound l (callsIn_wide.2 (hcut _))).mono ?_; rintro e W3 ⟨rfl, e6⟩; obtain rfl := e6.symm)
          | (refine ⟨trivial, ?_⟩; (try refine ⟨fun h => (by cases h), ?_⟩); gi_at_call 20; refine (CallsIn.inRound l (callsIn_wide.2 (hitems.out))).mono ?_; rintro e W3 ⟨he, hBk⟩; simp only at he; subst he; have hk0 := (hfail.out _ (hBk.mono hXW)).1; have hk1 := (hfail.out _ (hBk.mono hXW)).2.1; have hk2 := (hfail.out _ (hBk.mono hXW)).2.2; have d0 := blk_cell hk0 0; have d1 := blk_cell hk0 1; have d2 := blk_cell hk0 2; have d3 := blk_cell hk1 0; have d4 := blk_cell hk2 0; have f0 := blk_frozen hk0 0; have f1 := blk_frozen hk0 1; have f2 := blk_frozen hk0 2; have f3 := blk_frozen hk1 0; have f4 := blk_frozen hk2 0)
          | (refine ⟨trivial, ?_⟩))
        have hko := ko_below' hBk
        exact ⟨((((hko.trans (KeepsOthers.setCell _ _ _)).trans (KeepsOthers.setCell _ _ _)).trans (KeepsOthers.setCell _ _ _)).trans (KeepsOthers.setCell _ _ _)).trans (KeepsOthers.setCell _ _ _), rfl, hnone.out⟩
    | some D =>
      rw [hitm] at hitems
      obtain ⟨hD1, hD3⟩ := itemsG_length hitm
      have hD2 : D.length ≤ 2000000 := by
        have : cut.data.toList.length = cut.size := by simp
        omega
      cases has with
      | false =>
        have hnone : Hid (parsePre s.size (pre ++ [x]) = none) := Lib.hid (by rw [hnext, stepP, if_neg (of_decide_eq_false hhas)])
        replace hitems := Lib.hid hitems
        clear hnext hitm hseq hrd hp hcutd
        gi_wp2_with (first
          | (refine ⟨trivial, ?_⟩; (try refine ⟨fun h => (by cases h), ?_⟩); gi_at_call 47; refine (CallsIn.inRound l (callsIn_wide.2 (hcut _))).mono ?_; rintro e W3 ⟨rfl, e6⟩; obtain rfl := e6.symm)
          | (refine ⟨trivial, ?_⟩; (try refine ⟨fun h => (by cases h), ?_⟩); gi_at_call 20; refine (CallsIn.inRound l (callsIn_wide.2 (hitems.out))).mono ?_; rintro e W3 ⟨he, hBk⟩; simp only at he; obtain ⟨vt, vq, he, hin⟩ := he; subst he; have hk0 := (hfail.out _ (hBk.mono hXW)).1; have hk1 := (hfail.out _ (hBk.mono hXW)).2.1; have hk2 := (hfail.out _ (hBk.mono hXW)).2.2; have d0 := blk_cell hk0 0; have d1 := blk_cell hk0 1; have d2 := blk_cell hk0 2; have d3 := blk_cell hk1 0; have d4 := blk_cell hk2 0; have f0 := blk_frozen hk0 0; have f1 := blk_frozen hk0 1; have f2 := blk_frozen hk0 2; have f3 := blk_frozen hk1 0; have f4 := blk_frozen hk2 0)
          | (refine ⟨trivial, ?_⟩))
        have hko := ko_below' hBk
        exact ⟨((((hko.trans (KeepsOthers.setCell _ _ _)).trans (KeepsOthers.setCell _ _ _)).trans (KeepsOthers.setCell _ _ _)).trans (KeepsOthers.setCell _ _ _)).trans (KeepsOthers.setCell _ _ _), rfl, hnone.out⟩
      | true =>
        have hl := of_decide_eq_true hhas
        have hcd : cut.data.toList = line.data.toList.dropLast := by rw [← hcutd, trim_nl hl]; rfl
        rw [stepP, if_pos hl, ← hcd, hitm] at hnext
        obtain ⟨q, hq⟩ : ∃ q, lineP st1 (D.map fun p => tx p.1) (D.map Prod.snd) = q := ⟨_, rfl⟩
        simp only [hq] at hnext
        obtain ⟨st2, b⟩ := q
        replace hitems := Lib.hid hitems
        cases b with
        | false =>
          have hnone : Hid (parsePre s.size (pre ++ [x]) = none) := Lib.hid hnext
          replace hq := Lib.hid hq
          clear hnext hitm hseq hp hcutd hcd hl
          gi_wp2_with (first
          | (refine ⟨trivial, ?_⟩; (try refine ⟨fun h => (by cases h), ?_⟩); gi_at_call 47; refine (CallsIn.inRound l (callsIn_wide.2 (hcut _))).mono ?_; rintro e W3 ⟨rfl, e6⟩; obtain rfl := e6.symm)
          | (refine ⟨trivial, ?_⟩; (try refine ⟨fun h => (by cases h), ?_⟩); gi_at_call 20; refine (CallsIn.inRound l (callsIn_wide.2 (hitems.out))).mono ?_; rintro e W3 ⟨he, hBk⟩; simp only at he; obtain ⟨vt, vq, he, hin⟩ := he; subst he; have hli : Hid (Calls Tryz.prog 48 #[.pointer (some ⟨w.heap.size + 1 + 1 + 1, 0, none⟩), vt, vq] W3 (LinePost (w.heap.size + 1 + 1 + 1) (st2, false) (pre.length + 1) W3)) := Lib.hid (by have h := line_items (w.heap.size + 1 + 1 + 1) st1 pre.length _ vt vq D W3 (hrd.carry hBk) hok hn hin hD1 hD2; rw [hq.out] at h; exact h))
          | (refine ⟨trivial, ?_⟩; (try refine ⟨fun h => (by cases h), ?_⟩); gi_at_call 48; refine (CallsIn.inRound l (callsIn_wide.2 (hli.out))).mono ?_; rintro e W4 ⟨rfl, hrd4, hK4⟩; have hk0 := (hfail.out _ ((hBk.mono hXW).trans (hK4.below (Nat.le_trans hXW hBk.size)))).1; have hk1 := (hfail.out _ ((hBk.mono hXW).trans (hK4.below (Nat.le_trans hXW hBk.size)))).2.1; have hk2 := (hfail.out _ ((hBk.mono hXW).trans (hK4.below (Nat.le_trans hXW hBk.size)))).2.2; have d0 := blk_cell hk0 0; have d1 := blk_cell hk0 1; have d2 := blk_cell hk0 2; have d3 := blk_cell hk1 0; have d4 := blk_cell hk2 0; have f0 := blk_frozen hk0 0; have f1 := blk_frozen hk0 1; have f2 := blk_frozen hk0 2; have f3 := blk_frozen hk1 0; have f4 := blk_frozen hk2 0))
          have hko := (ko_below' hBk).trans hK4.others
          exact ⟨((((hko.trans (KeepsOthers.setCell _ _ _)).trans (KeepsOthers.setCell _ _ _)).trans (KeepsOthers.setCell _ _ _)).trans (KeepsOthers.setCell _ _ _)).trans (KeepsOthers.setCell _ _ _), rfl, hnone.out⟩
        | true =>
          have hok2 : Hid st2.Ok := Lib.hid (lineP_ok hok hq)
          have hsome : Hid (parsePre s.size (pre ++ [x]) = some st2) := Lib.hid hnext
          replace hq := Lib.hid hq
          clear hnext hitm hseq hp hcutd hcd hl
          gi_wp2_with (first
          | (refine ⟨trivial, ?_⟩; (try refine ⟨fun h => (by cases h), ?_⟩); gi_at_call 47; refine (CallsIn.inRound l (callsIn_wide.2 (hcut _))).mono ?_; rintro e W3 ⟨rfl, e6⟩; obtain rfl := e6.symm)
          | (refine ⟨trivial, ?_⟩; (try refine ⟨fun h => (by cases h), ?_⟩); gi_at_call 20; refine (CallsIn.inRound l (callsIn_wide.2 (hitems.out))).mono ?_; rintro e W3 ⟨he, hBk⟩; simp only at he; obtain ⟨vt, vq, he, hin⟩ := he; subst he; have hli : Hid (Calls Tryz.prog 48 #[.pointer (some ⟨w.heap.size + 1 + 1 + 1, 0, none⟩), vt, vq] W3 (LinePost (w.heap.size + 1 + 1 + 1) (st2, true) (pre.length + 1) W3)) := Lib.hid (by have h := line_items (w.heap.size + 1 + 1 + 1) st1 pre.length _ vt vq D W3 (hrd.carry hBk) hok hn hin hD1 hD2; rw [hq.out] at h; exact h))
          | (refine ⟨trivial, ?_⟩; (try refine ⟨fun h => (by cases h), ?_⟩); gi_at_call 48; refine (CallsIn.inRound l (callsIn_wide.2 (hli.out))).mono ?_; rintro e W4 ⟨rfl, hrd4, hK4⟩))
          have hbx3 : W3.heap[w.heap.size + 4]? = some (.cells #[.string s] 9) := blk_below hbx hBk (blk_lt hbx)
          have hbx4 : W4.heap[w.heap.size + 4]? = some (.cells #[.string s] 9) := hK4.stay hbx3 (by decide)
          refine ⟨(ko_below' hBk).trans hK4.others, hbx4.trans hbx.symm, ⟨⟨st2, hsome.out, hok2.out, ?_⟩, hbx4⟩, (hB.trans (hBk.mono hXW)).trans (hK4.below (Nat.le_trans hXW hBk.size))⟩
          rw [List.length_append, List.length_singleton]
          exact hrd4 trivial
  case done =>
    rintro D ys W hD hS ⟨⟨⟨st1, hp, hok, hrd⟩, hbx⟩, hB⟩ hK
    obtain rfl : st1 = st := by
      unfold parsePre at hp
      rw [hS, hlines] at hp
      exact (Option.some.inj hp).symm
    clear hlines hseq hstart hS hp hbx
    obtain ⟨vt, ve, vu, cs, rc, P, hR, hcs, hrc⟩ := hrd
    have hXW : w.heap.size + 1 + 1 + 1 < W.heap.size := hR.lt
    have hmayc := polMay_any mt vt ve vu st1.pol (fun k => k < W.heap.size) W (fun _ h => h) hR.pol hfit (fun e he r hr hk W' hb' => hmt W' ((hB5.out.trans (hB.mono (by omega))).trans (hb'.mono (by omega))) e he r hr hk)
    rw [hmay] at hmayc
    obtain ⟨At, nt, ct, rfl, -, -, -⟩ := hR.top.form
    obtain ⟨Au, nu, cu, rfl, -, -, -⟩ := hR.unwrap.form
    obtain ⟨Ae, ce, rfl, -⟩ := own_form hR.own
    have b0 := blk_cell hR.box 0
    have b1 := blk_cell hR.box 1
    have b2 := blk_cell hR.box 2
    have b3 := blk_cell hR.box 3
    have hr0 := blk_below r0.out hB (by omega)
    have hr1 := blk_below r1.out hB (by omega)
    have hr2 := blk_below r2.out hB (by omega)
    replace hR := Lib.hid hR
    replace hmayc := Lib.hid hmayc
    clear hmt hmay hfit
    obtain ⟨stg, pol⟩ := st1
    have hBw : Hid (Below w.heap.size w W) := Lib.hid (hB5.out.trans (hB.mono (by omega)))
    simp only at hstage
    rcases hstage with rfl | rfl
    · gi_wp2_with (refine ⟨trivial, ?_⟩; (try refine ⟨fun h => (by cases h), ?_⟩); gi_at_call 36; refine (callsIn_wide.2 hmayc.out).mono ?_; rintro e W3 ⟨ev, rfl, hev, hBk⟩; obtain rfl : ev = 0 := of_decide_eq_true hev; have hk0 := blk_below hr0 hBk (blk_lt hr0); have hk1 := blk_below hr1 hBk (blk_lt hr1); have hk2 := blk_below hr2 hBk (blk_lt hr2); have hk3 := blk_below hR.out.box hBk (blk_lt hR.out.box); have d0 := blk_cell hk0 0; have d1 := blk_cell hk0 1; have d2 := blk_cell hk0 2; have d3 := blk_cell hk1 0; have d4 := blk_cell hk2 0; have f0 := blk_frozen hk0 0; have f1 := blk_frozen hk0 1; have f2 := blk_frozen hk0 2; have f3 := blk_frozen hk1 0; have f4 := blk_frozen hk2 0; have g0 := blk_cell hk3 0; have g1 := blk_cell hk3 1; have g2 := blk_cell hk3 2)
      have hD3 : W3.heap[D]? = some (.deferred (some [])) := blk_below hK hBk (blk_lt hK)
      obtain ⟨W4, hW4⟩ : ∃ W4, ((((W3.setCell ⟨w.heap.size, 0, none⟩ (.slice At nt ct)).setCell ⟨w.heap.size, 1, none⟩ (.slice Ae cs.length ce)).setCell ⟨w.heap.size, 2, none⟩ (.slice Au nu cu)).setCell ⟨w.heap.size + 1, 0, none⟩ (.int .i64 0)).setCell ⟨w.heap.size + 1 + 1, 0, none⟩ (.int .i64 0) = W4 := ⟨_, rfl⟩
      have m0 : W4.heap[w.heap.size]? = some (.cells #[.slice At nt ct, .slice Ae cs.length ce, .slice Au nu cu] 25) := by
        rw [← hW4]
        exact blk_set (blk_set (blk_set_self (blk_set_self (blk_set_self hk0 0 _) 1 _) 2 _) (by simp) _) (by simp; omega) _
      have m1 : W4.heap[w.heap.size + 1]? = some (.cells #[.int .i64 0] 3) := by
        rw [← hW4]
        exact blk_set (blk_set_self (blk_set (blk_set (blk_set hk1 (by simp) _) (by simp) _) (by simp) _) 0 _) (by simp) _
      have m2 : W4.heap[w.heap.size + 1 + 1]? = some (.cells #[.int .i64 0] 55) := by
        rw [← hW4]
        exact blk_set_self (blk_set (blk_set (blk_set (blk_set hk2 (by simp; omega) _) (by simp; omega) _) (by simp; omega) _) (by simp) _) 0 _
      have hD4 : W4.heap[D]? = some (.deferred (some [])) := by
        rw [← hW4]
        exact blk_set (blk_set (blk_set (blk_set (blk_set hD3 (by simp; omega) _) (by simp; omega) _) (by simp; omega) _) (by simp; omega) _) (by simp; omega) _
      have hR4 : RdAt W4 (w.heap.size + 1 + 1 + 1) ⟨5, pol⟩ (.slice At nt ct) (.slice Ae cs.length ce) (.slice Au nu cu) cs rc P := by
        rw [← hW4]
        exact ((((((hR.out.carry hBk).lower 0 (by omega) _).lower 1 (by omega) _).lower 2 (by omega) _)).lower 0 (by omega) _).lower 0 (by omega) _
      have hB4 : Below w.heap.size w W4 := by
        rw [← hW4]
        exact (((((hBw.out.trans (hBk.mono hBw.out.size)).setCell (p := ⟨w.heap.size, 0, none⟩) (Nat.le_refl _) _).setCell (p := ⟨w.heap.size, 1, none⟩) (Nat.le_refl _) _).setCell (p := ⟨w.heap.size, 2, none⟩) (Nat.le_refl _) _).setCell (p := ⟨w.heap.size + 1, 0, none⟩) (by simp) _).setCell (p := ⟨w.heap.size + 1 + 1, 0, none⟩) (by simp; omega) _
      rw [hW4]
      refine ⟨by simp, .inl ⟨_, _, rfl, run_takeDeferred hD4, ?_⟩⟩
      have hg := grownBy_putObj' W4 D (.deferred none)
      have hnc : ∀ r, some D = some r → ∃ o : Obj, W4.heap[r]? = some o ∧ o.isCells = false := fun r e => by cases e; exact ⟨_, hD4, rfl⟩
      have c0 := cell_kept (blk_cell m0 0) hg hnc
      have c1 := cell_kept (blk_cell m0 1) hg hnc
      have c2 := cell_kept (blk_cell m0 2) hg hnc
      have c3 := cell_kept (blk_cell m1 0) hg hnc
      have c4 := cell_kept (blk_cell m2 0) hg hnc
      refine ⟨.tuple #[.agg #[.slice At nt ct, .slice Ae cs.length ce, .slice Au nu cu], .int .i64 0, .int .i64 0], ?_, _, _, _, rfl, (hR4.others hg hnc).pol, hB4.grown hg hB4.size (fun k e => by cases e; omega)⟩
      simp [results, Tryz.f26, go_sem, c0, c1, c2, c3, c4]
    · gi_wp2_with (refine ⟨trivial, ?_⟩; (try refine ⟨fun h => (by cases h), ?_⟩); gi_at_call 36; refine (callsIn_wide.2 hmayc.out).mono ?_; rintro e W3 ⟨ev, rfl, hev, hBk⟩; obtain rfl : ev = 0 := of_decide_eq_true hev; have hk0 := blk_below hr0 hBk (blk_lt hr0); have hk1 := blk_below hr1 hBk (blk_lt hr1); have hk2 := blk_below hr2 hBk (blk_lt hr2); have hk3 := blk_below hR.out.box hBk (blk_lt hR.out.box); have d0 := blk_cell hk0 0; have d1 := blk_cell hk0 1; have d2 := blk_cell hk0 2; have d3 := blk_cell hk1 0; have d4 := blk_cell hk2 0; have f0 := blk_frozen hk0 0; have f1 := blk_frozen hk0 1; have f2 := blk_frozen hk0 2; have f3 := blk_frozen hk1 0; have f4 := blk_frozen hk2 0; have g0 := blk_cell hk3 0; have g1 := blk_cell hk3 1; have g2 := blk_cell hk3 2)
      have hD3 : W3.heap[D]? = some (.deferred (some [])) := blk_below hK hBk (blk_lt hK)
      obtain ⟨W4, hW4⟩ : ∃ W4, ((((W3.setCell ⟨w.heap.size, 0, none⟩ (.slice At nt ct)).setCell ⟨w.heap.size, 1, none⟩ (.slice Ae cs.length ce)).setCell ⟨w.heap.size, 2, none⟩ (.slice Au nu cu)).setCell ⟨w.heap.size + 1, 0, none⟩ (.int .i64 0)).setCell ⟨w.heap.size + 1 + 1, 0, none⟩ (.int .i64 0) = W4 := ⟨_, rfl⟩
      have m0 : W4.heap[w.heap.size]? = some (.cells #[.slice At nt ct, .slice Ae cs.length ce, .slice Au nu cu] 25) := by
        rw [← hW4]
        exact blk_set (blk_set (blk_set_self (blk_set_self (blk_set_self hk0 0 _) 1 _) 2 _) (by simp) _) (by simp; omega) _
      have m1 : W4.heap[w.heap.size + 1]? = some (.cells #[.int .i64 0] 3) := by
        rw [← hW4]
        exact blk_set (blk_set_self (blk_set (blk_set (blk_set hk1 (by simp) _) (by simp) _) (by simp) _) 0 _) (by simp) _
      have m2 : W4.heap[w.heap.size + 1 + 1]? = some (.cells #[.int .i64 0] 55) := by
        rw [← hW4]
        exact blk_set_self (blk_set (blk_set (blk_set (blk_set hk2 (by simp; omega) _) (by simp; omega) _) (by simp; omega) _) (by simp) _) 0 _
      have hD4 : W4.heap[D]? = some (.deferred (some [])) := by
        rw [← hW4]
        exact blk_set (blk_set (blk_set (blk_set (blk_set hD3 (by simp; omega) _) (by simp; omega) _) (by simp; omega) _) (by simp; omega) _) (by simp; omega) _
      have hR4 : RdAt W4 (w.heap.size + 1 + 1 + 1) ⟨3, pol⟩ (.slice At nt ct) (.slice Ae cs.length ce) (.slice Au nu cu) cs rc P := by
        rw [← hW4]
        exact ((((((hR.out.carry hBk).lower 0 (by omega) _).lower 1 (by omega) _).lower 2 (by omega) _)).lower 0 (by omega) _).lower 0 (by omega) _
      have hB4 : Below w.heap.size w W4 := by
        rw [← hW4]
        exact (((((hBw.out.trans (hBk.mono hBw.out.size)).setCell (p := ⟨w.heap.size, 0, none⟩) (Nat.le_refl _) _).setCell (p := ⟨w.heap.size, 1, none⟩) (Nat.le_refl _) _).setCell (p := ⟨w.heap.size, 2, none⟩) (Nat.le_refl _) _).setCell (p := ⟨w.heap.size + 1, 0, none⟩) (by simp) _).setCell (p := ⟨w.heap.size + 1 + 1, 0, none⟩) (by simp; omega) _
      rw [hW4]
      refine ⟨by simp, .inl ⟨_, _, rfl, run_takeDeferred hD4, ?_⟩⟩
      have hg := grownBy_putObj' W4 D (.deferred none)
      have hnc : ∀ r, some D = some r → ∃ o : Obj, W4.heap[r]? = some o ∧ o.isCells = false := fun r e => by cases e; exact ⟨_, hD4, rfl⟩
      have c0 := cell_kept (blk_cell m0 0) hg hnc
      have c1 := cell_kept (blk_cell m0 1) hg hnc
      have c2 := cell_kept (blk_cell m0 2) hg hnc
      have c3 := cell_kept (blk_cell m1 0) hg hnc
      have c4 := cell_kept (blk_cell m2 0) hg hnc
      refine ⟨.tuple #[.agg #[.slice At nt ct, .slice Ae cs.length ce, .slice Au nu cu], .int .i64 0, .int .i64 0], ?_, _, _, _, rfl, (hR4.others hg hnc).pol, hB4.grown hg hB4.size (fun k e => by cases e; omega)⟩
      simp [results, Tryz.f26, go_sem, c0, c1, c2, c3, c4]
  case stop =>
    rintro D c pre W hD ⟨t, ht⟩ ⟨rfl, hbad⟩ hK
    exfalso
    unfold parsePre at hbad
    rw [← ht, linesP_append, hbad] at hlines
    cases hlines
end Go.Proofs.YtghlodpbbghcoaaGreatDoor

/- The document's example of layer 14: walked. -/
namespace Go.Proofs.YtghlodpbbghcoaaGreatDoor
open Go.Lib Go.RowKit Go.Maps
def text14 : ByteArray := ⟨#[115, 116, 114, 97, 105, 110, 101, 114, 32, 49, 10, 116, 111, 112, 32, 97, 10, 117, 110, 119, 114, 97, 112, 10, 101, 108, 101, 109, 101, 110, 116, 32, 97, 10, 107, 105, 100, 115, 10, 110, 101, 101, 100, 32, 104, 114, 101, 102, 32, 115, 99, 104, 101, 109, 101, 32, 34, 104, 116, 116, 112, 115, 34, 10]⟩
def rul14 : Rul := ⟨⟨#[104, 114, 101, 102]⟩, 3, [⟨#[104, 116, 116, 112, 115]⟩], ⟨#[]⟩, true⟩
def pol14 : Pol := ⟨[⟨#[97]⟩], [⟨⟨#[97]⟩, [], [rul14]⟩], []⟩
theorem lines14 : linesP rd0 (linesL text14.data.toList) = some ⟨5, pol14⟩ := by kernel_rfl
theorem may14 : mayP (fun _ => false) pol14 = true := by kernel_rfl
theorem fit14 : pol14.Fit := by
  refine ⟨⟨by decide, ?_⟩, ⟨by decide, ?_⟩, ⟨by decide, ?_⟩⟩
  · intro s hs
    obtain rfl : s = ⟨#[97]⟩ := by simpa [pol14] using hs
    decide
  · intro s hs
    simp [pol14] at hs
  · intro e he
    obtain rfl : e = ⟨⟨#[97]⟩, [], [rul14]⟩ := by simpa [pol14] using he
    refine ⟨by decide, by decide, by simp, by decide, ?_⟩
    intro r hr
    obtain rfl : r = rul14 := by simpa using hr
    refine ⟨by decide, by decide, ?_⟩
    intro s hs
    obtain rfl : s = ⟨#[104, 116, 116, 112, 115]⟩ := by simpa [rul14] using hs
    decide
theorem parse14 (w : World) : Calls Tryz.prog 26 #[.string text14] w (ParsePost pol14 w) :=
  parse_any text14 (by decide) ⟨5, pol14⟩ lines14 (.inl rfl) (fun _ => false) may14 fit14 w (fun W' _ e he r hr hk => by
    obtain rfl : e = ⟨⟨#[97]⟩, [], [rul14]⟩ := by simpa [pol14] using he
    obtain rfl : r = rul14 := by simpa using hr
    exact absurd hk (by decide))
set_option maxRecDepth 8192 in
set_option maxHeartbeats 3200000 in
theorem lives14_any (w : World) : Calls Tryz.prog 24 #[] w fun e w' => e = .returned (.bool true) ∧ Below w.heap.size w w' := by
  have hp := parse14 w
  have hq := fun wx => quote_any ⟨#[97, 34]⟩ (by decide) wx
  rw [show quoteL (⟨#[97, 34]⟩ : ByteArray).data.toList = [34, 97, 92, 34, 34] from rfl] at hq
  have ht : (tx [34, 97, 92, 34, 34]).toList = [34, 97, 92, 34, 34] := by rw [ByteArray.toList_eq]; rfl
  go_enter Tryz.func24, Tryz.ntmps24
  go_upto_region 2 with (go_at_call 26; refine hp.mono ?_; rintro e1 w1 ⟨vt, ve, vu, rfl, hpol, hB1⟩; obtain ⟨At, nt, ct, rfl, -, -, -⟩ := hpol.top.form; obtain ⟨Au, nu, cu, rfl, -, -, -⟩ := hpol.unwrap.form; obtain ⟨Ae, ne, ce, rfl, hne, hce, hatE⟩ := hpol.elts.form; obtain rfl : ne = 1 := hne)
  obtain ⟨b, o, rfl, hb, hcell⟩ := hatE (by decide)
  obtain ⟨vk, vr, h0, h1, h2, hk, hr⟩ := hcell 0 (by decide)
  obtain ⟨Ar, nr, cr, rfl, hnr, hcr, hatR⟩ := hr.form
  obtain rfl : nr = 1 := hnr
  obtain ⟨b2, o2, rfl, hb2, hcell2⟩ := hatR (by decide)
  obtain ⟨vw, k0, k1, k2, k3, k4, kw⟩ := hcell2 0 (by decide)
  obtain ⟨w2, hw2⟩ : ∃ w2, w1.alloc (.cells #[.slice At nt ct, .slice (some ⟨b, o, none⟩) 1 ce, .slice Au nu cu] 25) = w2 := ⟨_, rfl⟩
  have hB2 : Hid (Below w1.heap.size w1 w2) := Lib.hid (by rw [← hw2]; exact (Below.refl _ _).alloc (Nat.le_refl _) _)
  have p1 : w2.cell? ⟨w1.heap.size, 1, none⟩ = some (.slice (some ⟨b, o, none⟩) 1 ce) := by rw [← hw2]; exact blk_cell (blk_new _ _) 1
  have e2 : w2.cell? ⟨b, o + 2, none⟩ = some (.slice (some ⟨b2, o2, none⟩) 1 cr) := by
    have := (hB2.out.cell (p := ⟨b, o + 0 * 3 + 2, none⟩) hb).trans h2
    simpa using this
  have r0 : w2.cell? ⟨b2, o2, none⟩ = some (.string ⟨#[104, 114, 101, 102]⟩) := by
    have := (hB2.out.cell (p := ⟨b2, o2 + 0 * 5, none⟩) hb2).trans k0
    rw [show o2 + 0 * 5 = o2 by omega] at this
    exact this
  have r4 : w2.cell? ⟨b2, o2 + 4, none⟩ = some (.bool true) := by
    have := (hB2.out.cell (p := ⟨b2, o2 + 0 * 5 + 4, none⟩) hb2).trans k4
    rw [show o2 + 0 * 5 + 4 = o2 + 4 by omega] at this
    exact this
  rw [hw2]
  clear hw2 h0 h1 h2 k0 k1 k2 k3 k4 hcell hcell2 hk hr kw hatE hatR hp
  go_wp2_with (go_at_call 22; refine (hq _).mono ?_; rintro e5 w5 ⟨rfl, hB5⟩)
  go_ret
  exact ⟨rfl, (hB1.trans (hB2.out.mono hB1.size)).trans (hB5.mono (hB1.trans (hB2.out.mono hB1.size)).size)⟩
end Go.Proofs.YtghlodpbbghcoaaGreatDoor
