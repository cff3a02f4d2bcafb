/- Nodes in memory; an element's name and attributes, walked. -/
import Derived.Test.YtghlodpbbghcoaaDoorD2
import Derived.Maps.OwnSet
import Derived.Maps.OwnOps
import Derived.Lib.Hide
import Derived.Deep.CutBlock
namespace Go.Proofs.YtghlodpbbghcoaaDoor
open Go.Lib Go.RowKit Go.Maps

/-- Nodes side by side: a node, its kids, what stands behind it. -/
inductive Fo where
  | nil
  | node (kind : Int) (name : ByteArray) (attrs : List (ByteArray × ByteArray)) (text : ByteArray) (kids rest : Fo)
def Fo.len : Fo → Nat
  | .nil => 0
  | .node _ _ _ _ _ r => r.len + 1

/-- Attributes in memory. -/
def AttrsAt (w : World) (B : Nat) (v : Value) (al : List (ByteArray × ByteArray)) : Prop :=
  ∃ A cap, v = .slice A al.length cap ∧ al.length ≤ cap ∧ ∀ j (h : j < al.length), ∃ b o, A = some ⟨b, o, none⟩ ∧ b < B ∧ w.cell? ⟨b, o + j * 2, none⟩ = some (.string al[j].1) ∧ w.cell? ⟨b, o + j * 2 + 1, none⟩ = some (.string al[j].2)
theorem AttrsAt.below {w w' : World} {B : Nat} {v : Value} {al : List (ByteArray × ByteArray)} (h : AttrsAt w B v al) (hb : Below B w w') : AttrsAt w' B v al := by
  obtain ⟨A, cap, e, hc, h⟩ := h
  refine ⟨A, cap, e, hc, fun j hj => ?_⟩
  obtain ⟨b, o, e, hB, h1, h2⟩ := h j hj
  exact ⟨b, o, e, hB, (hb.cell (p := ⟨b, o + j * 2, none⟩) hB).trans h1, (hb.cell (p := ⟨b, o + j * 2 + 1, none⟩) hB).trans h2⟩
/-- Nodes side by side in memory, from a place on. -/
def RowAt (w : World) (B : Nat) : Nat → Nat → Fo → Prop
  | _, _, .nil => True
  | b, o, .node k nm al tx kids rest => b < B ∧ w.cell? ⟨b, o, none⟩ = some (.int .i64 k) ∧ w.cell? ⟨b, o + 1, none⟩ = some (.string nm) ∧ (∃ va, w.cell? ⟨b, o + 2, none⟩ = some va ∧ AttrsAt w B va al) ∧
      w.cell? ⟨b, o + 3, none⟩ = some (.string tx) ∧ (∃ A cap, w.cell? ⟨b, o + 4, none⟩ = some (.slice A kids.len cap) ∧ kids.len ≤ cap ∧ (0 < kids.len → ∃ b' o', A = some ⟨b', o', none⟩ ∧ RowAt w B b' o' kids)) ∧
      RowAt w B b (o + 5) rest
theorem RowAt.below {w w' : World} {B : Nat} (hb : Below B w w') : ∀ {f : Fo} {b o : Nat}, RowAt w B b o f → RowAt w' B b o f
  | .nil, _, _, _ => trivial
  | .node k nm al tx kids rest, b, o, ⟨hB, h0, h1, ⟨va, h2, h2'⟩, h3, ⟨A, cap, h4, hc, h4'⟩, h5⟩ =>
    ⟨hB, (hb.cell (p := ⟨b, o, none⟩) hB).trans h0, (hb.cell (p := ⟨b, o + 1, none⟩) hB).trans h1, ⟨va, (hb.cell (p := ⟨b, o + 2, none⟩) hB).trans h2, h2'.below hb⟩, (hb.cell (p := ⟨b, o + 3, none⟩) hB).trans h3,
      ⟨A, cap, (hb.cell (p := ⟨b, o + 4, none⟩) hB).trans h4, hc, fun hp => by obtain ⟨b', o', e, h⟩ := h4' hp; exact ⟨b', o', e, RowAt.below hb h⟩⟩, RowAt.below hb h5⟩

/-- The names of attributes: each may be one, none twice; their values are right. -/
def attrsNames (al : List (ByteArray × ByteArray)) : Bool := al.all (fun a => attrL a.1.data.toList) && decide (al.map (·.1)).Nodup
def attrsB (al : List (ByteArray × ByteArray)) : Bool := attrsNames al && al.all (fun a => isL a.2.data.toList)
def elemB (nm : ByteArray) (al : List (ByteArray × ByteArray)) : Bool := namedL nm.data.toList && attrsB al
def AttrsOk (al : List (ByteArray × ByteArray)) : Prop := ∀ a ∈ al, a.1.size ≤ maxLen ∧ a.2.size ≤ maxLen

theorem names_prefix {l l' : List (ByteArray × ByteArray)} (h : attrsNames (l ++ l') = true) : attrsNames l = true := by
  unfold attrsNames at h ⊢
  rw [Bool.and_eq_true, List.all_append, Bool.and_eq_true, decide_eq_true_eq, List.map_append] at h
  rw [Bool.and_eq_true, decide_eq_true_eq]
  exact ⟨h.1.1, (List.nodup_append.1 h.2).1⟩
theorem bytes_ext {a b : ByteArray} (h : a.data.toList = b.data.toList) : a = b := by
  cases a; cases b
  simp only at h
  rw [Array.toList_inj.1 h]
def hadB (l : List (ByteArray × ByteArray)) (x : List UInt8) : Bool := l.any fun p => p.1.data.toList == x
theorem hadB_iff (l : List (ByteArray × ByteArray)) (x : List UInt8) : hadB l x = true ↔ ∃ q ∈ l, q.1.data.toList = x := by simp [hadB]
theorem hadB_snoc (l : List (ByteArray × ByteArray)) (p : ByteArray × ByteArray) (x : List UInt8) : hadB (l ++ [p]) x = (hadB l x || p.1.data.toList == x) := by simp [hadB]
theorem names_snoc (l : List (ByteArray × ByteArray)) (p : ByteArray × ByteArray) : attrsNames (l ++ [p]) = (attrsNames l && attrL p.1.data.toList && !hadB l p.1.data.toList) := by
  unfold attrsNames
  rw [Bool.eq_iff_iff, Bool.and_eq_true _ (!hadB _ _), Bool.not_eq_true', ← Bool.not_eq_true, hadB_iff]
  simp only [List.all_append, List.all_cons, List.all_nil, Bool.and_true, Bool.and_eq_true, decide_eq_true_eq, List.map_append, List.map_cons, List.map_nil, List.nodup_append]
  constructor
  · rintro ⟨⟨h1, h2⟩, h3, _, h4⟩
    refine ⟨⟨⟨h1, h3⟩, h2⟩, ?_⟩
    rintro ⟨q, hq, e⟩
    exact h4 q.1 (List.mem_map_of_mem hq) p.1 (by simp) (bytes_ext e)
  · rintro ⟨⟨⟨h1, h3⟩, h2⟩, h4⟩
    refine ⟨⟨h1, h2⟩, h3, by simp, ?_⟩
    intro a ha b hb e
    obtain ⟨q, hq, rfl⟩ := List.mem_map.1 ha
    simp at hb
    exact h4 ⟨q, hq, by rw [e, hb]⟩
theorem ownsMap_same {H : Type} {P : Program} {k : TypeId} {R : Value → Option (DataW H × List MemPlace)} {w w' : World} {b n : Nat} {D : DataW H} (h : w.ownsMap P k R b n D) (e : w'.heap[b]? = w.heap[b]?) : w'.ownsMap P k R b n D := by
  obtain ⟨es, clock, h1, h2⟩ := h
  exact ⟨es, clock, e.trans h1, h2⟩
theorem Tryd.zero3 (w : World) : (zeroValue 3).run Tryd.prog w = .ok (.int .i64 0) w := by kernel_rfl

set_option maxRecDepth 8192 in
set_option maxHeartbeats 6400000 in
theorem element_any (b o : Nat) (nm : ByteArray) (va : Value) (al : List (ByteArray × ByteArray)) (B : Nat) (w : World) (hT : ∀ w', Below w.heap.size w w' → Tabs w') (hnm : nm.size ≤ maxLen) (has : AttrsOk al) (hlen : al.length ≤ 1000000) (hB : B ≤ w.heap.size) (hbB : b < B)
    (h1 : w.cell? ⟨b, o + 1, none⟩ = some (.string nm)) (h2 : w.cell? ⟨b, o + 2, none⟩ = some va) (h2' : AttrsAt w B va al) :
    Calls Tryd.prog 46 #[.pointer (some ⟨b, o, none⟩)] w fun e w' => ∃ x : Int, e = .returned (.int .i64 x) ∧ decide (x = 0) = elemB nm al ∧ Below w.heap.size w w' := by
  obtain ⟨A, cap, rfl, hcap, hat⟩ := h2'
  obtain ⟨N, hN⟩ : ∃ N, al.length = N := ⟨_, rfl⟩
  rw [hN] at hcap hlen h2
  replace hN := Lib.hid hN
  replace hat := Lib.hid hat
  obtain ⟨r, hr⟩ : ∃ r, elemB nm al = r := ⟨_, rfl⟩
  rw [hr]
  obtain ⟨nd, hnd⟩ : ∃ nd, namedL nm.data.toList = nd := ⟨_, rfl⟩
  have hnamed := named_any nm hnm w
  rw [hnd] at hnamed
  have hr2 : Hid (r = (nd && attrsB al)) := Lib.hid (by rw [← hr, elemB, hnd])
  clear hr hnd
  have hmm := @run_makeMap Tryd.prog
  have hbw : b < w.heap.size := Nat.lt_of_lt_of_le hbB hB
  go_enter Tryd.func46, Tryd.ntmps46
  cases nd with
  | false =>
    have e : r = false := by rw [hr2.out]; rfl
    subst e
    go_wp2_with (go_at_call 67; refine hnamed.mono ?_; rintro e w' ⟨rfl, rfl⟩)
    go_ret
    exact ⟨4, rfl, rfl, Below.refl _ _⟩
  | true =>
    go_wp2_with (go_at_call 67; refine hnamed.mono ?_; rintro e w' ⟨rfl, rfl⟩)
    have hMB : Hid (Below w'.heap.size w' (w'.alloc (.map #[] 0))) := Lib.hid ((Below.refl _ _).alloc (Nat.le_refl _) _)
    have hown0 := World.ownsMap_made w' Tryd.prog 9 (plainElem Tryd.prog 3 : Value → Option (DataW Unit × List MemPlace))
    go_loopw [22] (fun x22 wr => ∃ (k : Nat) (D : DataW Unit), k ≤ N ∧ x22 = .int .i64 k ∧ wr.ownsMap Tryd.prog 9 (plainElem Tryd.prog 3) w'.heap.size k D ∧ Hid (∀ x : List UInt8, Maps.has D (.string x) = hadB (al.take k) x) ∧
        Hid (attrsNames (al.take k) = true) ∧ Hid (Below w'.heap.size w' wr)) (fun x22 _ => N - (Lib.intOf x22).toNat)
    case atStart => exact ⟨0, _, Nat.zero_le _, rfl, hown0, Lib.hid (fun x => by simp [Maps.has, hadB]), Lib.hid (by simp [attrsNames]), hMB⟩
    case round =>
      obtain ⟨k, D, hk, rfl, hown, hhas, hok, hBr⟩ := hrel
      by_cases hlt : k < N
      · have hkl : k < al.length := by rw [hN.out]; exact hlt
        obtain ⟨b2, o2, rfl, hb2, hc1, hc2⟩ := hat.out k hkl
        obtain ⟨⟨an, av⟩, hp⟩ : ∃ q, al[k] = q := ⟨_, rfl⟩
        simp only [hp] at hc1 hc2
        have hmem : (an, av) ∈ al := by rw [← hp]; exact List.getElem_mem hkl
        have han := (has _ hmem).1
        have hbw2 : b2 < w'.heap.size := Nat.lt_of_lt_of_le hb2 hB
        have hszr := hBr.out.size
        have c1 : wr.cell? ⟨b2, o2 + k * 2, none⟩ = some (.string an) := (hBr.out.cell (p := ⟨b2, _, none⟩) hbw2).trans hc1
        have c2 : wr.cell? ⟨b2, o2 + k * 2 + 1, none⟩ = some (.string av) := (hBr.out.cell (p := ⟨b2, _, none⟩) hbw2).trans hc2
        have htake : Hid (al.take (k + 1) = al.take k ++ [(an, av)]) := Lib.hid (by rw [List.take_add_one, List.getElem?_eq_getElem hkl, hp]; rfl)
        have hi0 : (0 : Int) ≤ (k : Int) := by omega
        have hi1 : (k : Int) < (N : Int) := by omega
        clear hc1 hc2
        go_upto_region 7 with fail
        obtain ⟨W0, hW0⟩ : ∃ W0, wr.alloc (.cells #[.string an, .string av] 56) = W0 := ⟨_, rfl⟩
        have hsz0 : W0.heap.size = wr.heap.size + 1 := by rw [← hW0]; simp
        have hbox : W0.cell? ⟨wr.heap.size, 0, none⟩ = some (.string an) := by rw [← hW0]; simp
        have hB0 : Below w'.heap.size w' W0 := by rw [← hW0]; exact hBr.out.alloc hszr _
        have hown1 : W0.ownsMap Tryd.prog 9 (plainElem Tryd.prog 3) w'.heap.size k D := by rw [← hW0]; exact hown.alloc _
        have hattr := attributed_any an han W0 (hT _ hB0)
        rw [hW0]
        replace hsz0 := Lib.hid hsz0
        replace hB0 := Lib.hid hB0
        clear hW0 hown hown0 hMB
        obtain ⟨al1, hal1⟩ : ∃ x, attrL an.data.toList = x := ⟨_, rfl⟩
        obtain ⟨dup, hdup⟩ : ∃ dup, Maps.has D (.string an.data.toList) = dup := ⟨_, rfl⟩
        have hnext : Hid (attrsNames (al.take (k + 1)) = (al1 && !dup)) := Lib.hid (by
          rw [htake.out, names_snoc, hok.out, Bool.true_and, hal1, ← hdup, hhas.out])
        have hbad : Hid ((al1 && !dup) = false → r = false) := Lib.hid (fun e => by
          rw [hr2.out]
          have : attrsNames al = false := Bool.eq_false_iff.2 (fun h => by
            have e2 := names_prefix (l := al.take (k + 1)) (l' := al.drop (k + 1)) (by rw [List.take_append_drop]; exact h)
            rw [hnext.out, e] at e2
            cases e2)
          rw [attrsB, this]
          rfl)
        have hhas2 : Hid (∀ x : List UInt8, Maps.has (D.put (.string an.data.toList) (.lit (.int .i64 k))) (.string x) = hadB (al.take (k + 1)) x) := Lib.hid (fun x => by
          rw [htake.out, hadB_snoc]
          by_cases hx : x = an.data.toList
          · rw [hx, has_put_same hown1.isMap (by exact ⟨⟩)]; simp
          · rw [has_put_other (fun e => hx (Lit.string.inj e)), hhas.out, beq_eq_false_iff_ne.2 (fun e => hx e.symm), Bool.or_false])
        rw [hal1] at hattr
        clear hal1 htake hhas hok
        have hwf : (Lit.int .i64 (k : Int)).wf = true := by simp [Lit.wf, IntKind.min, IntKind.max, IntKind.signed, IntKind.bits]; omega
        cases al1 with
        | false =>
          have e := hbad.out rfl
          subst e
          go_wp2_with (go_at_call 68; refine hattr.mono ?_; rintro e w1 ⟨rfl, hB1⟩)
          go_ret
          exact ⟨4, rfl, rfl, hB0.out.trans (hB1.mono hB0.out.size)⟩
        | true =>
          cases dup with
          | true =>
            have e := hbad.out rfl
            subst e
            go_wp2_with (first
              | (go_at_call 68; refine hattr.mono ?_; rintro e w1 ⟨rfl, hB1⟩
                 have hown2 := ownsMap_same hown1 (hB1.block _ hown1.lt)
                 have hbox2 := (hB1.cell (p := ⟨wr.heap.size, 0, none⟩) (by rw [hsz0.out]; simp)).trans hbox)
              | (at_lookup; refine wpList_lookup_own_ok_int _ rfl _ _ 92 rfl 9 3 .i64 (string_keyed Tryd.underlying9) Tryd.underlying92 Tryd.underlying3 (Tryd.zero3 _) w'.heap.size k D rfl hown2 _ _ rfl (WideMaps.keyOf_string_mk Tryd.underlying9 han) ?_; intro c hat hwc; rw [hdup]))
            go_ret
            exact ⟨5, rfl, rfl, hB0.out.trans (hB1.mono hB0.out.size)⟩
          | false =>
            go_wp2_with (first
              | (go_at_call 68; refine hattr.mono ?_; rintro e w1 ⟨rfl, hB1⟩
                 have hown2 := ownsMap_same hown1 (hB1.block _ hown1.lt)
                 have hbox2 := (hB1.cell (p := ⟨wr.heap.size, 0, none⟩) (by rw [hsz0.out]; simp)).trans hbox)
              | (at_lookup; refine wpList_lookup_own_ok_int _ rfl _ _ 92 rfl 9 3 .i64 (string_keyed Tryd.underlying9) Tryd.underlying92 Tryd.underlying3 (Tryd.zero3 _) w'.heap.size k D rfl hown2 _ _ rfl (WideMaps.keyOf_string_mk Tryd.underlying9 han) ?_; intro c hat hwc; rw [hdup])
              | (at_mapUpdate; refine wpList_mapUpdate_own _ rfl _ _ _ 92 rfl 9 3 (string_keyed Tryd.underlying9) Tryd.underlying92 (plainElem Tryd.prog 3) w'.heap.size k D rfl hown2 (by unfold maxLen; omega) _ _ _ rfl rfl (WideMaps.keyOf_string_mk Tryd.underlying9 han) _ [] (plainElem_int Tryd.underlying3 hwf) ?_; intro w2 hown3 hg2))
            have hB2 : Below w'.heap.size w' w1 := hB0.out.trans (hB1.mono hB0.out.size)
            exact ⟨⟨k + 1, _, by omega, by simp, hown3, hhas2, hnext, Lib.hid (hB2.grown hg2 hB2.size (fun j hj => by cases hj; exact Nat.le_refl _))⟩, by simp [Lib.intOf]; omega⟩
      · have hkn : k = N := by omega
        obtain ⟨vs, hvs⟩ : ∃ vs, al.all (fun a => isL a.2.data.toList) = vs := ⟨_, rfl⟩
        have hr3 : r = vs := by
          have h := hok.out
          rw [hkn, ← hN.out, List.take_length] at h
          rw [hr2.out, attrsB, h, hvs]
          rfl
        subst hr3
        have hvfalse : Hid (∀ j (h : j < al.length), isL al[j].2.data.toList = false → r = false) := Lib.hid (fun j h e => by
          rw [← hvs, List.all_eq_false]
          exact ⟨_, List.getElem_mem h, by rw [e]; simp⟩)
        have hvtrue : Hid ((∀ j (h : j < al.length), isL al[j].2.data.toList = true) → r = true) := Lib.hid (fun h => by
          rw [← hvs]
          refine List.all_eq_true.2 (fun x hx => ?_)
          obtain ⟨j, hj, rfl⟩ := List.getElem_of_mem hx
          exact h j hj)
        have h2r : wr.cell? ⟨b, o + 2, none⟩ = some (.slice A N cap) := (hBr.out.cell (p := ⟨b, _, none⟩) hbw).trans h2
        have hszr := Lib.hid hBr.out.size
        subst hkn
        clear hr2 hvs hok hhas hown hown0 hMB h1 h2
        obtain ⟨w1, rfl⟩ : ∃ w1 : World, w1 = wr := ⟨_, rfl⟩
        go_wp2
        go_loopw [49] (fun x49 wr => ∃ j : Nat, j ≤ k ∧ x49 = .int .i64 j ∧ Hid (∀ i (h : i < al.length), i < j → isL al[i].2.data.toList = true) ∧ Hid (Below w'.heap.size w' wr)) (fun x49 _ => k - (Lib.intOf x49).toNat)
        case atStart => exact ⟨0, Nat.zero_le _, rfl, Lib.hid (fun i _ h => absurd h (Nat.not_lt_zero _)), hBr⟩
        case round =>
          clear hBr hszr
          obtain ⟨j, hj, rfl, hfine, hBr⟩ := hrel
          by_cases hlt : j < k
          · have hkl : j < al.length := by rw [hN.out]; exact hlt
            obtain ⟨b2, o2, rfl, hb2, hc1, hc2⟩ := hat.out j hkl
            obtain ⟨⟨an, av⟩, hp⟩ : ∃ q, al[j] = q := ⟨_, rfl⟩
            simp only [hp] at hc1 hc2
            have hmem : (an, av) ∈ al := by rw [← hp]; exact List.getElem_mem hkl
            have hav := (has _ hmem).2
            have hbw2 : b2 < w'.heap.size := Nat.lt_of_lt_of_le hb2 hB
            have hszr := hBr.out.size
            have c1 : wr.cell? ⟨b2, o2 + j * 2, none⟩ = some (.string an) := (hBr.out.cell (p := ⟨b2, _, none⟩) hbw2).trans hc1
            have c2 : wr.cell? ⟨b2, o2 + j * 2 + 1, none⟩ = some (.string av) := (hBr.out.cell (p := ⟨b2, _, none⟩) hbw2).trans hc2
            have hi0 : (0 : Int) ≤ (j : Int) := by omega
            have hi1 : (j : Int) < (k : Int) := by omega
            clear hc1 hc2
            go_upto_region 17 with fail
            obtain ⟨W0, hW0⟩ : ∃ W0, wr.alloc (.cells #[.string an, .string av] 56) = W0 := ⟨_, rfl⟩
            have hbox : W0.cell? ⟨wr.heap.size, 1, none⟩ = some (.string av) := by rw [← hW0]; simp
            have hB0 : Below w'.heap.size w' W0 := by rw [← hW0]; exact hBr.out.alloc hszr _
            have his := is_any av hav W0 (hT _ hB0)
            rw [hW0]
            replace hB0 := Lib.hid hB0
            clear hW0
            obtain ⟨is, hisv⟩ : ∃ x, isL av.data.toList = x := ⟨_, rfl⟩
            rw [hisv] at his
            cases is with
            | false =>
              have e := hvfalse.out j hkl (by rw [hp]; exact hisv)
              subst e
              go_wp2_with (go_at_call 47; refine his.mono ?_; rintro e w2 ⟨rfl, hB1⟩)
              go_ret
              exact ⟨2, rfl, rfl, hB0.out.trans (hB1.mono hB0.out.size)⟩
            | true =>
              have hfine2 : Hid (∀ i (h : i < al.length), i < j + 1 → isL al[i].2.data.toList = true) := Lib.hid (fun i h hi => by
                by_cases e : i = j
                · subst e; rw [hp]; exact hisv
                · exact hfine.out i h (by omega))
              clear hisv
              go_wp2_with (go_at_call 47; refine his.mono ?_; rintro e w2 ⟨rfl, hB1⟩)
              exact ⟨⟨j + 1, by omega, by simp, hfine2, Lib.hid (hB0.out.trans (hB1.mono hB0.out.size))⟩, by simp [Lib.intOf]; omega⟩
          · have e := hvtrue.out (fun i h => hfine.out i h (by rw [hN.out] at h; omega))
            subst e
            go_wp2
            go_ret
            exact ⟨0, rfl, rfl, hBr.out⟩
end Go.Proofs.YtghlodpbbghcoaaDoor
