/- Names of elements and attributes, walked: the program's and the document's. -/
import Derived.Test.YtghlodpbbghcoaaDoorU7
import Derived.Deep.DeepCutAuto
import Derived.Lib.Strings
import Derived.Maps.OwnSet
import Derived.Maps.OwnOps
import Derived.Lib.Hide
import Derived.Deep.CutBlock
namespace Go.Proofs.YtghlodpbbghcoaaDoor
open Go.Lib Go.RowKit

def letterB (c : UInt8) : Bool := decide (97 ≤ c.toNat ∧ c.toNat ≤ 122)
def nameB (c : UInt8) : Bool := letterB c || decide (48 ≤ c.toNat ∧ c.toNat ≤ 57) || decide (c.toNat = 45)
def nameAt (k : Nat) (c : UInt8) : Bool := letterB c || (decide (k ≠ 0) && nameB c)
/-- Is it an element's name? -/
def namedL : List UInt8 → Bool
  | [] => false
  | c :: t => letterB c && t.all nameB
theorem namedL_iff (l : List UInt8) : namedL l = true ↔ l ≠ [] ∧ ∀ j (h : j < l.length), nameAt j l[j] = true := by
  cases l with
  | nil => simp [namedL]
  | cons c t =>
    unfold namedL
    rw [Bool.and_eq_true]
    constructor
    · rintro ⟨h1, h2⟩
      refine ⟨by simp, fun j h => ?_⟩
      cases j with
      | zero => simp [nameAt, h1]
      | succ j =>
        have := List.all_eq_true.1 h2 (t[j]'(by simpa using h)) (List.getElem_mem _)
        simp [nameAt, this]
    · rintro ⟨_, h⟩
      refine ⟨by have := h 0 (by simp); simpa [nameAt] using this, List.all_eq_true.2 (fun x hx => ?_)⟩
      obtain ⟨j, hj, rfl⟩ := List.getElem_of_mem hx
      have := h (j + 1) (by simpa using hj)
      simp [nameAt] at this
      rcases this with h | h
      · simp [nameB, h]
      · exact h
theorem data_get (s : ByteArray) (k : Nat) (h : k < s.size) : s.data.toList[k]'(by simpa using h) = s[k] := rfl

set_option maxRecDepth 8192 in
set_option maxHeartbeats 3200000 in
theorem named_any (s : ByteArray) (hs : s.size ≤ maxLen) (w : World) :
    Calls Tryd.prog 67 #[.string s] w fun e w' => e = .returned (.bool (namedL s.data.toList)) ∧ w' = w := by
  obtain ⟨r, hr⟩ : ∃ r, namedL s.data.toList = r := ⟨_, rfl⟩
  have hiff := namedL_iff s.data.toList
  rw [hr] at hiff ⊢
  replace hiff := Lib.hid hiff
  clear hr
  have hz : s.data.toList.length = s.size := by simp
  replace hz := Lib.hid hz
  have hmax : s.size ≤ 9223372036854775807 := hs
  go_enter Tryd.func67, Tryd.ntmps67
  go_wp2
  go_loop [8] (fun i => ∃ k : Nat, k ≤ s.size ∧ i = .int .i64 k ∧ Hid (∀ j (h : j < s.size), j < k → nameAt j s[j] = true)) (fun i => s.size - (Lib.intOf i).toNat)
  case atStart => exact ⟨0, Nat.zero_le _, rfl, Lib.hid (fun j _ h => absurd h (Nat.not_lt_zero _))⟩
  case round =>
    obtain ⟨k, hk, rfl, hok⟩ := hrel
    by_cases hlt : k < s.size
    · obtain ⟨cb, hcb⟩ : ∃ cb : UInt8, s[k] = cb := ⟨_, rfl⟩
      have hi0 : (0 : Int) ≤ (k : Int) := by omega
      have hi1 : (k : Int) < (s.size : Int) := by omega
      have hc256 := cb.toNat_lt
      obtain ⟨ok, hbad⟩ : ∃ ok, nameAt k cb = ok := ⟨_, rfl⟩
      have hbad2 : Hid (ok = (decide (97 ≤ cb.toNat ∧ cb.toNat ≤ 122) || (decide (k ≠ 0) && (decide (97 ≤ cb.toNat ∧ cb.toNat ≤ 122) || decide (48 ≤ cb.toNat ∧ cb.toNat ≤ 57) || decide (cb.toNat = 45))))) := Lib.hid hbad.symm
      have hgood : Hid (ok = true → ∀ j (h : j < s.size), j < k + 1 → nameAt j s[j] = true) := Lib.hid (fun e j h hj => by
        by_cases e2 : j = k
        · subst e2; rw [hcb, hbad, e]
        · exact hok.out j h (by omega))
      have hno : Hid (ok = false → r = false) := Lib.hid (fun e => by
        refine Bool.eq_false_iff.2 (fun hr => ?_)
        have := (hiff.out.1 hr).2 k (by rw [hz.out]; exact hlt)
        rw [data_get s k hlt, hcb, hbad, e] at this
        cases this)
      clear hbad
      go_upto_region 5 with fail
      generalize cb.toNat = c at *
      go_wp2
      all_goals first
        | (have e : ok = true := by rw [hbad2.out]; clear hgood hno hbad2 hok hz hiff; simp at *; omega
           exact ⟨⟨k + 1, by omega, by simp <;> omega, Lib.hid (hgood.out e)⟩, by simp [Lib.intOf]; omega⟩)
        | (have e : ok = false := by rw [hbad2.out]; clear hgood hno hbad2 hok hz hiff; simp at *; omega
           have e2 := hno.out e
           subst e2
           go_ret
           exact ⟨rfl, rfl⟩)
    · have hkn : k = s.size := by omega
      have hr : Hid (r = true ↔ 0 < s.size) := Lib.hid (by
        rw [hiff.out]
        constructor
        · rintro ⟨h1, _⟩
          have := List.length_pos_iff.2 h1
          rw [hz.out] at this
          exact this
        · intro h
          exact ⟨List.length_pos_iff.1 (by rw [hz.out]; exact h), fun j hj => hok.out j (by rw [hz.out] at hj; exact hj) (by rw [hz.out] at hj; omega)⟩)
      subst hkn
      clear hiff hok
      go_wp2
      go_ret
      refine ⟨?_, rfl⟩
      have e : (!s.toList.isEmpty) = r := by
        rw [Bool.eq_iff_iff, hr.out, ByteArray.toList_eq, ← hz.out, Bool.not_eq_true', List.isEmpty_eq_false_iff, List.length_pos_iff]
      rw [← e]
      rfl
end Go.Proofs.YtghlodpbbghcoaaDoor

/- Names of attributes, walked. -/
namespace Go.Proofs.YtghlodpbbghcoaaDoor
open Go.Lib Go.RowKit

/-- May a byte stand in an attribute's name? -/
def attrB (c : UInt8) : Bool := !(decide (65 ≤ c.toNat ∧ c.toNat ≤ 90) || decide (c.toNat = 9) || decide (c.toNat = 10) || decide (c.toNat = 12) || decide (c.toNat = 32) || decide (c.toNat = 47) || decide (c.toNat = 62) || decide (c.toNat = 61))
def attrL (l : List UInt8) : Bool := l.all attrB && (!l.isEmpty && isL l)

set_option maxRecDepth 8192 in
set_option maxHeartbeats 3200000 in
theorem attributed_any (s : ByteArray) (hs : s.size ≤ maxLen) (w : World) (hT : Tabs w) :
    Calls Tryd.prog 68 #[.string s] w fun e w' => e = .returned (.bool (attrL s.data.toList)) ∧ Below w.heap.size w w' := by
  have his := is_any s hs w hT
  obtain ⟨I, hI⟩ : ∃ I, isL s.data.toList = I := ⟨_, rfl⟩
  obtain ⟨a, ha⟩ : ∃ a, s.data.toList.all attrB = a := ⟨_, rfl⟩
  obtain ⟨r, hr⟩ : ∃ r, attrL s.data.toList = r := ⟨_, rfl⟩
  have hr2 : Hid (r = (a && (!s.toList.isEmpty && I))) := Lib.hid (by rw [← hr, attrL, ha, hI, ByteArray.toList_eq])
  rw [hI] at his
  rw [hr]
  have hz : s.data.toList.length = s.size := by simp
  have hafalse : Hid (∀ j (h : j < s.size), attrB s[j] = false → r = false) := Lib.hid (fun j h e => by
    have : a = false := by
      rw [← ha, List.all_eq_false]
      exact ⟨_, List.getElem_mem (show j < s.data.toList.length by rw [hz]; exact h), by rw [data_get s j h, e]; simp⟩
    rw [hr2.out, this]; rfl)
  have hatrue : Hid ((∀ j (h : j < s.size), attrB s[j] = true) → a = true) := Lib.hid (fun h => by
    rw [← ha]
    refine List.all_eq_true.2 (fun x hx => ?_)
    obtain ⟨j, hj, rfl⟩ := List.getElem_of_mem hx
    exact h j (by rw [hz] at hj; exact hj))
  have hmax : s.size ≤ 9223372036854775807 := hs
  clear ha hr hI hT hz
  go_enter Tryd.func68, Tryd.ntmps68
  go_wp2
  go_loop [7] (fun i => ∃ k : Nat, k ≤ s.size ∧ i = .int .i64 k ∧ Hid (∀ j (h : j < s.size), j < k → attrB s[j] = true)) (fun i => s.size - (Lib.intOf i).toNat)
  case atStart => exact ⟨0, Nat.zero_le _, rfl, Lib.hid (fun j _ h => absurd h (Nat.not_lt_zero _))⟩
  case round =>
    obtain ⟨k, hk, rfl, hok⟩ := hrel
    by_cases hlt : k < s.size
    · obtain ⟨cb, hcb⟩ : ∃ cb : UInt8, s[k] = cb := ⟨_, rfl⟩
      have hi0 : (0 : Int) ≤ (k : Int) := by omega
      have hi1 : (k : Int) < (s.size : Int) := by omega
      have hc256 := cb.toNat_lt
      obtain ⟨ok, hbad⟩ : ∃ ok, attrB cb = ok := ⟨_, rfl⟩
      have hbad2 : Hid (ok = !(decide (65 ≤ cb.toNat ∧ cb.toNat ≤ 90) || decide (cb.toNat = 9) || decide (cb.toNat = 10) || decide (cb.toNat = 12) || decide (cb.toNat = 32) || decide (cb.toNat = 47) || decide (cb.toNat = 62) || decide (cb.toNat = 61))) := Lib.hid hbad.symm
      have hgood : Hid (ok = true → ∀ j (h : j < s.size), j < k + 1 → attrB s[j] = true) := Lib.hid (fun e j h hj => by
        by_cases e2 : j = k
        · subst e2; rw [hcb, hbad, e]
        · exact hok.out j h (by omega))
      have hno : Hid (ok = false → r = false) := Lib.hid (fun e => hafalse.out k hlt (by rw [hcb, hbad, e]))
      clear hbad hafalse hatrue hr2 his
      go_upto_region 5 with fail
      generalize cb.toNat = c at *
      go_wp2
      all_goals first
        | (have e : ok = true := by rw [hbad2.out]; clear hgood hno hbad2 hok; simp at *; omega
           exact ⟨⟨k + 1, by omega, by simp <;> omega, Lib.hid (hgood.out e)⟩, by simp [Lib.intOf]; omega⟩)
        | (have e : ok = false := by rw [hbad2.out]; clear hgood hno hbad2 hok; simp at *; omega
           have e2 := hno.out e
           subst e2
           go_ret
           exact ⟨rfl, Below.refl _ _⟩)
    · have hkn : k = s.size := by omega
      have e : a = true := hatrue.out (fun j h => hok.out j h (by omega))
      have hr3 := hr2.out
      rw [e, Bool.true_and] at hr3
      subst hkn
      clear hok hatrue hafalse hr2
      cases hem : s.toList.isEmpty with
      | true =>
        rw [hem] at hr3
        have e2 : r = false := hr3
        clear hr3
        subst e2
        clear e his
        go_wp2
        go_ret
        exact ⟨rfl, Below.refl _ _⟩
      | false =>
        rw [hem] at hr3
        have e2 : r = I := hr3
        clear hr3
        subst e2
        clear e
        go_wp2_with (go_at_call 47; refine his.mono ?_; rintro e w1 ⟨rfl, hB⟩)
        go_ret
        exact ⟨rfl, hB⟩
end Go.Proofs.YtghlodpbbghcoaaDoor

/- Nodes in memory; an element's name and attributes, walked. -/
namespace Go.Proofs.YtghlodpbbghcoaaDoor
open Go.Lib Go.RowKit Go.Maps

/-- Nodes side by side: a node, its kids, what stands behind it. -/
inductive Fo where
  | nil
  | node (kind : Int) (name : ByteArray) (attrs : List (ByteArray × ByteArray)) (text : ByteArray) (kids rest : Fo)
def Fo.len : Fo → Nat
  | .nil => 0
  | .node _ _ _ _ _ r => r.len + 1

/-- Attributes in memory. -/
def AttrsAt (w : World) (B : Nat) (v : Value) (al : List (ByteArray × ByteArray)) : Prop :=
  ∃ A cap, v = .slice A al.length cap ∧ al.length ≤ cap ∧ ∀ j (h : j < al.length), ∃ b o, A = some ⟨b, o, none⟩ ∧ b < B ∧ w.cell? ⟨b, o + j * 2, none⟩ = some (.string al[j].1) ∧ w.cell? ⟨b, o + j * 2 + 1, none⟩ = some (.string al[j].2)
theorem AttrsAt.below {w w' : World} {B : Nat} {v : Value} {al : List (ByteArray × ByteArray)} (h : AttrsAt w B v al) (hb : Below B w w') : AttrsAt w' B v al := by
  obtain ⟨A, cap, e, hc, h⟩ := h
  refine ⟨A, cap, e, hc, fun j hj => ?_⟩
  obtain ⟨b, o, e, hB, h1, h2⟩ := h j hj
  exact ⟨b, o, e, hB, (hb.cell (p := ⟨b, o + j * 2, none⟩) hB).trans h1, (hb.cell (p := ⟨b, o + j * 2 + 1, none⟩) hB).trans h2⟩
/-- Nodes side by side in memory, from a place on. -/
def RowAt (w : World) (B : Nat) : Nat → Nat → Fo → Prop
  | _, _, .nil => True
  | b, o, .node k nm al tx kids rest => b < B ∧ w.cell? ⟨b, o, none⟩ = some (.int .i64 k) ∧ w.cell? ⟨b, o + 1, none⟩ = some (.string nm) ∧ (∃ va, w.cell? ⟨b, o + 2, none⟩ = some va ∧ AttrsAt w B va al) ∧
      w.cell? ⟨b, o + 3, none⟩ = some (.string tx) ∧ (∃ A cap, w.cell? ⟨b, o + 4, none⟩ = some (.slice A kids.len cap) ∧ kids.len ≤ cap ∧ (0 < kids.len → ∃ b' o', A = some ⟨b', o', none⟩ ∧ RowAt w B b' o' kids)) ∧
      RowAt w B b (o + 5) rest
theorem RowAt.below {w w' : World} {B : Nat} (hb : Below B w w') : ∀ {f : Fo} {b o : Nat}, RowAt w B b o f → RowAt w' B b o f
  | .nil, _, _, _ => trivial
  | .node k nm al tx kids rest, b, o, ⟨hB, h0, h1, ⟨va, h2, h2'⟩, h3, ⟨A, cap, h4, hc, h4'⟩, h5⟩ =>
    ⟨hB, (hb.cell (p := ⟨b, o, none⟩) hB).trans h0, (hb.cell (p := ⟨b, o + 1, none⟩) hB).trans h1, ⟨va, (hb.cell (p := ⟨b, o + 2, none⟩) hB).trans h2, h2'.below hb⟩, (hb.cell (p := ⟨b, o + 3, none⟩) hB).trans h3,
      ⟨A, cap, (hb.cell (p := ⟨b, o + 4, none⟩) hB).trans h4, hc, fun hp => by obtain ⟨b', o', e, h⟩ := h4' hp; exact ⟨b', o', e, RowAt.below hb h⟩⟩, RowAt.below hb h5⟩

/-- The names of attributes: each may be one, none twice; their values are right. -/
def attrsNames (al : List (ByteArray × ByteArray)) : Bool := al.all (fun a => attrL a.1.data.toList) && decide (al.map (·.1)).Nodup
def attrsB (al : List (ByteArray × ByteArray)) : Bool := attrsNames al && al.all (fun a => isL a.2.data.toList)
def elemB (nm : ByteArray) (al : List (ByteArray × ByteArray)) : Bool := namedL nm.data.toList && attrsB al
def AttrsOk (al : List (ByteArray × ByteArray)) : Prop := ∀ a ∈ al, a.1.size ≤ maxLen ∧ a.2.size ≤ maxLen

theorem names_prefix {l l' : List (ByteArray × ByteArray)} (h : attrsNames (l ++ l') = true) : attrsNames l = true := by
  unfold attrsNames at h ⊢
  rw [Bool.and_eq_true, List.all_append, Bool.and_eq_true, decide_eq_true_eq, List.map_append] at h
  rw [Bool.and_eq_true, decide_eq_true_eq]
  exact ⟨h.1.1, (List.nodup_append.1 h.2).1⟩
theorem bytes_ext {a b : ByteArray} (h : a.data.toList = b.data.toList) : a = b := by
  cases a; cases b
  simp only at h
  rw [Array.toList_inj.1 h]
def hadB (l : List (ByteArray × ByteArray)) (x : List UInt8) : Bool := l.any fun p => p.1.data.toList == x
theorem hadB_iff (l : List (ByteArray × ByteArray)) (x : List UInt8) : hadB l x = true ↔ ∃ q ∈ l, q.1.data.toList = x := by simp [hadB]
theorem hadB_snoc (l : List (ByteArray × ByteArray)) (p : ByteArray × ByteArray) (x : List UInt8) : hadB (l ++ [p]) x = (hadB l x || p.1.data.toList == x) := by simp [hadB]
theorem names_snoc (l : List (ByteArray × ByteArray)) (p : ByteArray × ByteArray) : attrsNames (l ++ [p]) = (attrsNames l && attrL p.1.data.toList && !hadB l p.1.data.toList) := by
  unfold attrsNames
  rw [Bool.eq_iff_iff, Bool.and_eq_true _ (!hadB _ _), Bool.not_eq_true', ← Bool.not_eq_true, hadB_iff]
  simp only [List.all_append, List.all_cons, List.all_nil, Bool.and_true, Bool.and_eq_true, decide_eq_true_eq, List.map_append, List.map_cons, List.map_nil, List.nodup_append]
  constructor
  · rintro ⟨⟨h1, h2⟩, h3, _, h4⟩
    refine ⟨⟨⟨h1, h3⟩, h2⟩, ?_⟩
    rintro ⟨q, hq, e⟩
    exact h4 q.1 (List.mem_map_of_mem hq) p.1 (by simp) (bytes_ext e)
  · rintro ⟨⟨⟨h1, h3⟩, h2⟩, h4⟩
    refine ⟨⟨h1, h2⟩, h3, by simp, ?_⟩
    intro a ha b hb e
    obtain ⟨q, hq, rfl⟩ := List.mem_map.1 ha
    simp at hb
    exact h4 ⟨q, hq, by rw [e, hb]⟩
theorem ownsMap_same {H : Type} {P : Program} {k : TypeId} {R : Value → Option (DataW H × List MemPlace)} {w w' : World} {b n : Nat} {D : DataW H} (h : w.ownsMap P k R b n D) (e : w'.heap[b]? = w.heap[b]?) : w'.ownsMap P k R b n D := by
  obtain ⟨es, clock, h1, h2⟩ := h
  exact ⟨es, clock, e.trans h1, h2⟩
theorem Tryd.zero3 (w : World) : (zeroValue 3).run Tryd.prog w = .ok (.int .i64 0) w := by kernel_rfl

set_option maxRecDepth 8192 in
set_option maxHeartbeats 6400000 in
theorem element_any (b o : Nat) (nm : ByteArray) (va : Value) (al : List (ByteArray × ByteArray)) (B : Nat) (w : World) (hT : ∀ w', Below w.heap.size w w' → Tabs w') (hnm : nm.size ≤ maxLen) (has : AttrsOk al) (hlen : al.length ≤ 1000000) (hB : B ≤ w.heap.size) (hbB : b < B)
    (h1 : w.cell? ⟨b, o + 1, none⟩ = some (.string nm)) (h2 : w.cell? ⟨b, o + 2, none⟩ = some va) (h2' : AttrsAt w B va al) :
    Calls Tryd.prog 46 #[.pointer (some ⟨b, o, none⟩)] w fun e w' => ∃ x : Int, e = .returned (.int .i64 x) ∧ decide (x = 0) = elemB nm al ∧ Below w.heap.size w w' := by
  obtain ⟨A, cap, rfl, hcap, hat⟩ := h2'
  obtain ⟨N, hN⟩ : ∃ N, al.length = N := ⟨_, rfl⟩
  rw [hN] at hcap hlen h2
  replace hN := Lib.hid hN
  replace hat := Lib.hid hat
  obtain ⟨r, hr⟩ : ∃ r, elemB nm al = r := ⟨_, rfl⟩
  rw [hr]
  obtain ⟨nd, hnd⟩ : ∃ nd, namedL nm.data.toList = nd := ⟨_, rfl⟩
  have hnamed := named_any nm hnm w
  rw [hnd] at hnamed
  have hr2 : Hid (r = (nd && attrsB al)) := Lib.hid (by rw [← hr, elemB, hnd])
  clear hr hnd
  have hmm := @run_makeMap Tryd.prog
  have hbw : b < w.heap.size := Nat.lt_of_lt_of_le hbB hB
  go_enter Tryd.func46, Tryd.ntmps46
  cases nd with
  | false =>
    have e : r = false := by rw [hr2.out]; rfl
    subst e
    go_wp2_with (go_at_call 67; refine hnamed.mono ?_; rintro e w' ⟨rfl, rfl⟩)
    go_ret
    exact ⟨4, rfl, rfl, Below.refl _ _⟩
  | true =>
    go_wp2_with (go_at_call 67; refine hnamed.mono ?_; rintro e w' ⟨rfl, rfl⟩)
    have hMB : Hid (Below w'.heap.size w' (w'.alloc (.map #[] 0))) := Lib.hid ((Below.refl _ _).alloc (Nat.le_refl _) _)
    have hown0 := World.ownsMap_made w' Tryd.prog 9 (plainElem Tryd.prog 3 : Value → Option (DataW Unit × List MemPlace))
    go_loopw [22] (fun x22 wr => ∃ (k : Nat) (D : DataW Unit), k ≤ N ∧ x22 = .int .i64 k ∧ wr.ownsMap Tryd.prog 9 (plainElem Tryd.prog 3) w'.heap.size k D ∧ Hid (∀ x : List UInt8, Maps.has D (.string x) = hadB (al.take k) x) ∧
        Hid (attrsNames (al.take k) = true) ∧ Hid (Below w'.heap.size w' wr)) (fun x22 _ => N - (Lib.intOf x22).toNat)
    case atStart => exact ⟨0, _, Nat.zero_le _, rfl, hown0, Lib.hid (fun x => by simp [Maps.has, hadB]), Lib.hid (by simp [attrsNames]), hMB⟩
    case round =>
      obtain ⟨k, D, hk, rfl, hown, hhas, hok, hBr⟩ := hrel
      by_cases hlt : k < N
      · have hkl : k < al.length := by rw [hN.out]; exact hlt
        obtain ⟨b2, o2, rfl, hb2, hc1, hc2⟩ := hat.out k hkl
        obtain ⟨⟨an, av⟩, hp⟩ : ∃ q, al[k] = q := ⟨_, rfl⟩
        simp only [hp] at hc1 hc2
        have hmem : (an, av) ∈ al := by rw [← hp]; exact List.getElem_mem hkl
        have han := (has _ hmem).1
        have hbw2 : b2 < w'.heap.size := Nat.lt_of_lt_of_le hb2 hB
        have hszr := hBr.out.size
        have c1 : wr.cell? ⟨b2, o2 + k * 2, none⟩ = some (.string an) := (hBr.out.cell (p := ⟨b2, _, none⟩) hbw2).trans hc1
        have c2 : wr.cell? ⟨b2, o2 + k * 2 + 1, none⟩ = some (.string av) := (hBr.out.cell (p := ⟨b2, _, none⟩) hbw2).trans hc2
        have htake : Hid (al.take (k + 1) = al.take k ++ [(an, av)]) := Lib.hid (by rw [List.take_add_one, List.getElem?_eq_getElem hkl, hp]; rfl)
        have hi0 : (0 : Int) ≤ (k : Int) := by omega
        have hi1 : (k : Int) < (N : Int) := by omega
        clear hc1 hc2
        go_upto_region 7 with fail
        obtain ⟨W0, hW0⟩ : ∃ W0, wr.alloc (.cells #[.string an, .string av] 56) = W0 := ⟨_, rfl⟩
        have hsz0 : W0.heap.size = wr.heap.size + 1 := by rw [← hW0]; simp
        have hbox : W0.cell? ⟨wr.heap.size, 0, none⟩ = some (.string an) := by rw [← hW0]; simp
        have hB0 : Below w'.heap.size w' W0 := by rw [← hW0]; exact hBr.out.alloc hszr _
        have hown1 : W0.ownsMap Tryd.prog 9 (plainElem Tryd.prog 3) w'.heap.size k D := by rw [← hW0]; exact hown.alloc _
        have hattr := attributed_any an han W0 (hT _ hB0)
        rw [hW0]
        replace hsz0 := Lib.hid hsz0
        replace hB0 := Lib.hid hB0
        clear hW0 hown hown0 hMB
        obtain ⟨al1, hal1⟩ : ∃ x, attrL an.data.toList = x := ⟨_, rfl⟩
        obtain ⟨dup, hdup⟩ : ∃ dup, Maps.has D (.string an.data.toList) = dup := ⟨_, rfl⟩
        have hnext : Hid (attrsNames (al.take (k + 1)) = (al1 && !dup)) := Lib.hid (by
          rw [htake.out, names_snoc, hok.out, Bool.true_and, hal1, ← hdup, hhas.out])
        have hbad : Hid ((al1 && !dup) = false → r = false) := Lib.hid (fun e => by
          rw [hr2.out]
          have : attrsNames al = false := Bool.eq_false_iff.2 (fun h => by
            have e2 := names_prefix (l := al.take (k + 1)) (l' := al.drop (k + 1)) (by rw [List.take_append_drop]; exact h)
            rw [hnext.out, e] at e2
            cases e2)
          rw [attrsB, this]
          rfl)
        have hhas2 : Hid (∀ x : List UInt8, Maps.has (D.put (.string an.data.toList) (.lit (.int .i64 k))) (.string x) = hadB (al.take (k + 1)) x) := Lib.hid (fun x => by
          rw [htake.out, hadB_snoc]
          by_cases hx : x = an.data.toList
          · rw [hx, has_put_same hown1.isMap (by exact ⟨⟩)]; simp
          · rw [has_put_other (fun e => hx (Lit.string.inj e)), hhas.out, beq_eq_false_iff_ne.2 (fun e => hx e.symm), Bool.or_false])
        rw [hal1] at hattr
        clear hal1 htake hhas hok
        have hwf : (Lit.int .i64 (k : Int)).wf = true := by simp [Lit.wf, IntKind.min, IntKind.max, IntKind.signed, IntKind.bits]; omega
        cases al1 with
        | false =>
          have e := hbad.out rfl
          subst e
          go_wp2_with (go_at_call 68; refine hattr.mono ?_; rintro e w1 ⟨rfl, hB1⟩)
          go_ret
          exact ⟨4, rfl, rfl, hB0.out.trans (hB1.mono hB0.out.size)⟩
        | true =>
          cases dup with
          | true =>
            have e := hbad.out rfl
            subst e
            go_wp2_with (first
              | (go_at_call 68; refine hattr.mono ?_; rintro e w1 ⟨rfl, hB1⟩
                 have hown2 := ownsMap_same hown1 (hB1.block _ hown1.lt)
                 have hbox2 := (hB1.cell (p := ⟨wr.heap.size, 0, none⟩) (by rw [hsz0.out]; simp)).trans hbox)
              | (at_lookup; refine wpList_lookup_own_ok_int _ rfl _ _ 92 rfl 9 3 .i64 (string_keyed Tryd.underlying9) Tryd.underlying92 Tryd.underlying3 (Tryd.zero3 _) w'.heap.size k D rfl hown2 _ _ rfl (WideMaps.keyOf_string_mk Tryd.underlying9 han) ?_; intro c hat hwc; rw [hdup]))
            go_ret
            exact ⟨5, rfl, rfl, hB0.out.trans (hB1.mono hB0.out.size)⟩
          | false =>
            go_wp2_with (first
              | (go_at_call 68; refine hattr.mono ?_; rintro e w1 ⟨rfl, hB1⟩
                 have hown2 := ownsMap_same hown1 (hB1.block _ hown1.lt)
                 have hbox2 := (hB1.cell (p := ⟨wr.heap.size, 0, none⟩) (by rw [hsz0.out]; simp)).trans hbox)
              | (at_lookup; refine wpList_lookup_own_ok_int _ rfl _ _ 92 rfl 9 3 .i64 (string_keyed Tryd.underlying9) Tryd.underlying92 Tryd.underlying3 (Tryd.zero3 _) w'.heap.size k D rfl hown2 _ _ rfl (WideMaps.keyOf_string_mk Tryd.underlying9 han) ?_; intro c hat hwc; rw [hdup])
              | (at_mapUpdate; refine wpList_mapUpdate_own _ rfl _ _ _ 92 rfl 9 3 (string_keyed Tryd.underlying9) Tryd.underlying92 (plainElem Tryd.prog 3) w'.heap.size k D rfl hown2 (by unfold maxLen; omega) _ _ _ rfl rfl (WideMaps.keyOf_string_mk Tryd.underlying9 han) _ [] (plainElem_int Tryd.underlying3 hwf) ?_; intro w2 hown3 hg2))
            have hB2 : Below w'.heap.size w' w1 := hB0.out.trans (hB1.mono hB0.out.size)
            exact ⟨⟨k + 1, _, by omega, by simp, hown3, hhas2, hnext, Lib.hid (hB2.grown hg2 hB2.size (fun j hj => by cases hj; exact Nat.le_refl _))⟩, by simp [Lib.intOf]; omega⟩
      · have hkn : k = N := by omega
        obtain ⟨vs, hvs⟩ : ∃ vs, al.all (fun a => isL a.2.data.toList) = vs := ⟨_, rfl⟩
        have hr3 : r = vs := by
          have h := hok.out
          rw [hkn, ← hN.out, List.take_length] at h
          rw [hr2.out, attrsB, h, hvs]
          rfl
        subst hr3
        have hvfalse : Hid (∀ j (h : j < al.length), isL al[j].2.data.toList = false → r = false) := Lib.hid (fun j h e => by
          rw [← hvs, List.all_eq_false]
          exact ⟨_, List.getElem_mem h, by rw [e]; simp⟩)
        have hvtrue : Hid ((∀ j (h : j < al.length), isL al[j].2.data.toList = true) → r = true) := Lib.hid (fun h => by
          rw [← hvs]
          refine List.all_eq_true.2 (fun x hx => ?_)
          obtain ⟨j, hj, rfl⟩ := List.getElem_of_mem hx
          exact h j hj)
        have h2r : wr.cell? ⟨b, o + 2, none⟩ = some (.slice A N cap) := (hBr.out.cell (p := ⟨b, _, none⟩) hbw).trans h2
        have hszr := Lib.hid hBr.out.size
        subst hkn
        clear hr2 hvs hok hhas hown hown0 hMB h1 h2
        obtain ⟨w1, rfl⟩ : ∃ w1 : World, w1 = wr := ⟨_, rfl⟩
        go_wp2
        go_loopw [49] (fun x49 wr => ∃ j : Nat, j ≤ k ∧ x49 = .int .i64 j ∧ Hid (∀ i (h : i < al.length), i < j → isL al[i].2.data.toList = true) ∧ Hid (Below w'.heap.size w' wr)) (fun x49 _ => k - (Lib.intOf x49).toNat)
        case atStart => exact ⟨0, Nat.zero_le _, rfl, Lib.hid (fun i _ h => absurd h (Nat.not_lt_zero _)), hBr⟩
        case round =>
          clear hBr hszr
          obtain ⟨j, hj, rfl, hfine, hBr⟩ := hrel
          by_cases hlt : j < k
          · have hkl : j < al.length := by rw [hN.out]; exact hlt
            obtain ⟨b2, o2, rfl, hb2, hc1, hc2⟩ := hat.out j hkl
            obtain ⟨⟨an, av⟩, hp⟩ : ∃ q, al[j] = q := ⟨_, rfl⟩
            simp only [hp] at hc1 hc2
            have hmem : (an, av) ∈ al := by rw [← hp]; exact List.getElem_mem hkl
            have hav := (has _ hmem).2
            have hbw2 : b2 < w'.heap.size := Nat.lt_of_lt_of_le hb2 hB
            have hszr := hBr.out.size
            have c1 : wr.cell? ⟨b2, o2 + j * 2, none⟩ = some (.string an) := (hBr.out.cell (p := ⟨b2, _, none⟩) hbw2).trans hc1
            have c2 : wr.cell? ⟨b2, o2 + j * 2 + 1, none⟩ = some (.string av) := (hBr.out.cell (p := ⟨b2, _, none⟩) hbw2).trans hc2
            have hi0 : (0 : Int) ≤ (j : Int) := by omega
            have hi1 : (j : Int) < (k : Int) := by omega
            clear hc1 hc2
            go_upto_region 17 with fail
            obtain ⟨W0, hW0⟩ : ∃ W0, wr.alloc (.cells #[.string an, .string av] 56) = W0 := ⟨_, rfl⟩
            have hbox : W0.cell? ⟨wr.heap.size, 1, none⟩ = some (.string av) := by rw [← hW0]; simp
            have hB0 : Below w'.heap.size w' W0 := by rw [← hW0]; exact hBr.out.alloc hszr _
            have his := is_any av hav W0 (hT _ hB0)
            rw [hW0]
            replace hB0 := Lib.hid hB0
            clear hW0
            obtain ⟨is, hisv⟩ : ∃ x, isL av.data.toList = x := ⟨_, rfl⟩
            rw [hisv] at his
            cases is with
            | false =>
              have e := hvfalse.out j hkl (by rw [hp]; exact hisv)
              subst e
              go_wp2_with (go_at_call 47; refine his.mono ?_; rintro e w2 ⟨rfl, hB1⟩)
              go_ret
              exact ⟨2, rfl, rfl, hB0.out.trans (hB1.mono hB0.out.size)⟩
            | true =>
              have hfine2 : Hid (∀ i (h : i < al.length), i < j + 1 → isL al[i].2.data.toList = true) := Lib.hid (fun i h hi => by
                by_cases e : i = j
                · subst e; rw [hp]; exact hisv
                · exact hfine.out i h (by omega))
              clear hisv
              go_wp2_with (go_at_call 47; refine his.mono ?_; rintro e w2 ⟨rfl, hB1⟩)
              exact ⟨⟨j + 1, by omega, by simp, hfine2, Lib.hid (hB0.out.trans (hB1.mono hB0.out.size))⟩, by simp [Lib.intOf]; omega⟩
          · have e := hvtrue.out (fun i h => hfine.out i h (by rw [hN.out] at h; omega))
            subst e
            go_wp2
            go_ret
            exact ⟨0, rfl, rfl, hBr.out⟩
end Go.Proofs.YtghlodpbbghcoaaDoor

/- A node's own error, walked. -/
namespace Go.Proofs.YtghlodpbbghcoaaDoor
open Go.Lib Go.RowKit

/-- May a node be (but for its kids)? -/
def checkB (k : Int) (nm : ByteArray) (al : List (ByteArray × ByteArray)) (tx : ByteArray) (kids : Nat) (behind : Bool) : Bool :=
  if k = 1 then tx.toList.isEmpty && elemB nm al
  else if k = 2 ∨ k = 3 then (nm.toList.isEmpty && decide (al.length = 0) && decide (kids = 0)) && (isL tx.data.toList && !(decide (k = 2) && (tx.toList.isEmpty || behind)))
  else false

/-- An error's number: none just if all is well. -/
def ErrPost (r : Bool) (w : World) (e : Ending) (w' : World) : Prop := ∃ x : Int, e = .returned (.int .i64 x) ∧ decide (x = 0) = r ∧ Below w.heap.size w w'

set_option maxRecDepth 8192 in
set_option maxHeartbeats 6400000 in
theorem check_any (b o : Nat) (k : Int) (nm : ByteArray) (va : Value) (al : List (ByteArray × ByteArray)) (tx : ByteArray) (A : Option Addr) (kn cap : Nat) (behind : Bool) (B : Nat) (w : World) (hT : ∀ w', Below w.heap.size w w' → Tabs w') (hnm : nm.size ≤ maxLen) (has : AttrsOk al) (hlen : al.length ≤ 1000000) (htx : tx.size ≤ maxLen) (hB : B ≤ w.heap.size) (hbB : b < B)
    (h0 : w.cell? ⟨b, o, none⟩ = some (.int .i64 k)) (h1 : w.cell? ⟨b, o + 1, none⟩ = some (.string nm)) (h2 : w.cell? ⟨b, o + 2, none⟩ = some va) (h2' : AttrsAt w B va al) (h3 : w.cell? ⟨b, o + 3, none⟩ = some (.string tx)) (h4 : w.cell? ⟨b, o + 4, none⟩ = some (.slice A kn cap)) :
    Calls Tryd.prog 25 #[.pointer (some ⟨b, o, none⟩), .bool behind] w (ErrPost (checkB k nm al tx kn behind) w) := by
  have helem := element_any b o nm va al B w hT hnm has hlen hB hbB h1 h2 h2'
  have his := is_any tx htx w (hT w (Below.refl _ _))
  obtain ⟨A2, cap2, rfl, _, _⟩ := h2'
  obtain ⟨el, hel⟩ : ∃ x, elemB nm al = x := ⟨_, rfl⟩
  obtain ⟨it, hit⟩ : ∃ x, isL tx.data.toList = x := ⟨_, rfl⟩
  obtain ⟨te, hte⟩ : ∃ x, tx.toList.isEmpty = x := ⟨_, rfl⟩
  obtain ⟨ne, hne⟩ : ∃ x, nm.toList.isEmpty = x := ⟨_, rfl⟩
  obtain ⟨an, han⟩ : ∃ n, al.length = n := ⟨_, rfl⟩
  obtain ⟨r, hr⟩ : ∃ x, checkB k nm al tx kn behind = x := ⟨_, rfl⟩
  rw [hr]
  rw [hel] at helem
  rw [hit] at his
  rw [han] at h2
  unfold checkB at hr
  rw [hel, hit, hte, hne, han] at hr
  replace hr := Lib.hid hr
  clear hel hit han has hT hlen
  by_cases hk1 : k = 1
  · subst hk1
    have hr := hr.out
    rw [if_pos rfl] at hr
    subst hr
    cases te with
    | true =>
      go_enter Tryd.func25, Tryd.ntmps25
      go_wp2_with (go_at_call 46; refine helem.mono ?_; rintro e w1 ⟨x, rfl, hx, hB1⟩)
      go_ret
      exact ⟨x, rfl, by rw [hx]; rfl, hB1⟩
    | false =>
      go_enter Tryd.func25, Tryd.ntmps25
      go_wp2
      go_ret
      exact ⟨7, rfl, rfl, Below.refl _ _⟩
  · have z1 : (k == 1) = false := beq_eq_false_iff_ne.2 hk1
    by_cases hk2 : k = 2 ∨ k = 3
    · have hr := hr.out
      rw [if_neg hk1, if_pos hk2] at hr
      cases ne with
      | false =>
        have e : r = false := by rw [← hr]; rfl
        subst e
        clear hr
        rcases hk2 with rfl | rfl
        · go_enter Tryd.func25, Tryd.ntmps25
          go_wp2
          go_ret
          exact ⟨7, rfl, rfl, Below.refl _ _⟩
        · go_enter Tryd.func25, Tryd.ntmps25
          go_wp2
          go_ret
          exact ⟨7, rfl, rfl, Below.refl _ _⟩
      | true =>
        by_cases ha0 : an = 0
        · by_cases hk0 : kn = 0
          · subst ha0 hk0
            have hr : r = (it && !(decide (k = 2) && (te || behind))) := by rw [← hr]; simp
            cases it with
            | false =>
              have e : r = false := by rw [hr]; rfl
              subst e
              clear hr
              rcases hk2 with rfl | rfl
              · go_enter Tryd.func25, Tryd.ntmps25
                go_wp2_with (go_at_call 47; refine his.mono ?_; rintro e w1 ⟨rfl, hB1⟩)
                go_ret
                exact ⟨2, rfl, rfl, hB1⟩
              · go_enter Tryd.func25, Tryd.ntmps25
                go_wp2_with (go_at_call 47; refine his.mono ?_; rintro e w1 ⟨rfl, hB1⟩)
                go_ret
                exact ⟨2, rfl, rfl, hB1⟩
            | true =>
              have hbw : b < w.heap.size := Nat.lt_of_lt_of_le hbB hB
              rcases hk2 with rfl | rfl
              · cases te with
                | true =>
                  have e : r = false := by rw [hr]; rfl
                  subst e
                  clear hr
                  go_enter Tryd.func25, Tryd.ntmps25
                  go_wp2_with (go_at_call 47; refine his.mono ?_; rintro e w1 ⟨rfl, hB1⟩; have g0 := (hB1.cell (p := ⟨b, o, none⟩) hbw).trans h0; have g3 := (hB1.cell (p := ⟨b, o + 3, none⟩) hbw).trans h3)
                  go_ret
                  exact ⟨2, rfl, rfl, hB1⟩
                | false =>
                  cases behind with
                  | true =>
                    have e : r = false := by rw [hr]; rfl
                    subst e
                    clear hr
                    go_enter Tryd.func25, Tryd.ntmps25
                    go_wp2_with (go_at_call 47; refine his.mono ?_; rintro e w1 ⟨rfl, hB1⟩; have g0 := (hB1.cell (p := ⟨b, o, none⟩) hbw).trans h0; have g3 := (hB1.cell (p := ⟨b, o + 3, none⟩) hbw).trans h3)
                    go_ret
                    exact ⟨2, rfl, rfl, hB1⟩
                  | false =>
                    have e : r = true := by rw [hr]; rfl
                    subst e
                    clear hr
                    go_enter Tryd.func25, Tryd.ntmps25
                    go_wp2_with (go_at_call 47; refine his.mono ?_; rintro e w1 ⟨rfl, hB1⟩; have g0 := (hB1.cell (p := ⟨b, o, none⟩) hbw).trans h0; have g3 := (hB1.cell (p := ⟨b, o + 3, none⟩) hbw).trans h3)
                    go_ret
                    exact ⟨0, rfl, rfl, hB1⟩
              · have e : r = true := by rw [hr]; rfl
                subst e
                clear hr
                go_enter Tryd.func25, Tryd.ntmps25
                go_wp2_with (go_at_call 47; refine his.mono ?_; rintro e w1 ⟨rfl, hB1⟩; have g0 := (hB1.cell (p := ⟨b, o, none⟩) hbw).trans h0; have g3 := (hB1.cell (p := ⟨b, o + 3, none⟩) hbw).trans h3)
                go_ret
                exact ⟨0, rfl, rfl, hB1⟩
          · have e : r = false := by rw [← hr, decide_eq_false hk0]; simp
            have hp : (0 : Int) < (kn : Int) := by omega
            subst e ha0
            clear hr
            rcases hk2 with rfl | rfl
            · go_enter Tryd.func25, Tryd.ntmps25
              go_wp2
              go_ret
              exact ⟨7, rfl, rfl, Below.refl _ _⟩
            · go_enter Tryd.func25, Tryd.ntmps25
              go_wp2
              go_ret
              exact ⟨7, rfl, rfl, Below.refl _ _⟩
        · have e : r = false := by rw [← hr, decide_eq_false ha0]; simp
          have hp : (0 : Int) < (an : Int) := by omega
          subst e
          clear hr
          rcases hk2 with rfl | rfl
          · go_enter Tryd.func25, Tryd.ntmps25
            go_wp2
            go_ret
            exact ⟨7, rfl, rfl, Below.refl _ _⟩
          · go_enter Tryd.func25, Tryd.ntmps25
            go_wp2
            go_ret
            exact ⟨7, rfl, rfl, Below.refl _ _⟩
    · have hr := hr.out
      rw [if_neg hk1, if_neg hk2] at hr
      subst hr
      have z2 : (k == 2) = false := beq_eq_false_iff_ne.2 (fun e => hk2 (Or.inl e))
      have z3 : (k == 3) = false := beq_eq_false_iff_ne.2 (fun e => hk2 (Or.inr e))
      go_enter Tryd.func25, Tryd.ntmps25
      go_wp2
      go_ret
      exact ⟨7, rfl, rfl, Below.refl _ _⟩
end Go.Proofs.YtghlodpbbghcoaaDoor
